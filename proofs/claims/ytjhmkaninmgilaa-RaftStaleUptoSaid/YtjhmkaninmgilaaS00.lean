/- Part 0 of the proof of RaftStale; no condition. -/
import Derived.Orders
import Derived.Below
import Derived.Laws.AppendOwn
import Derived.Laws.Rows
import Derived.Laws.Slices
import Derived.Laws.StructEq
import Derived.Laws.Cells
import Derived.Maps.OwnSet
import Derived.Carry
import Derived.DeepKeys4
import Derived.Laws.Closers25b
set_option linter.unusedVariables false
set_option linter.unusedSimpArgs false
set_option maxHeartbeats 4000000
namespace Go.bZ
open Go Go.RowKit
theorem av{α:Type _}{l:List α}{i:Nat}(h:i<l.length):l[i]? =some l[i] :=List.getElem?_eq_getElem h
theorem ai{α:Type _}{i:Nat}{a:α}{l:List α}:l[i]? =some a↔∃h:i<l.length,l[i]=a:=List.getElem?_eq_some_iff
theorem aS{α:Type _}{l:List α}{i:Nat}{a:α}:l[i]? =some a→a∈l:=List.mem_of_getElem?
theorem br{α β:Type _}{x:Option α}{f:α→β}{b:β}:Option.map f x=some b↔∃a,x=some a∧f a=b:=Option.map_eq_some_iff
theorem aV{α:Type _}{p:α→Bool}{l:List α}:l.all p=true↔∀x∈l,p x=true:=List.all_eq_true
theorem aw(a b:Bool):((a&&b)=true)=(a=true∧b=true):=Bool.and_eq_true a b
theorem aN{p:Prop}[Decidable p]:(decide p=true)=p:=decide_eq_true_eq
inductive D where
 |int (k:IntKind) (n:Int)
 |bool (b:Bool)
 |str (s:ByteArray)
 |list (l:List D)
 |agg (l:List D)
 |cW (l:List D)
 |eW
 |ptr (l:List D)
 |fn (f:Nat) (l:List D)
 |top
 deriving Inhabited
def D.cells:D→List D
 | .agg l=>l
 |d=> [d]
def D.ab:D→Int
 | .int _ n=>n
 |_=>0
def D.eh:D→Bool
 | .bool b=>b
 |_=>false
def D.ak:D→List D
 | .list l=>l
 | .agg l=>l
 | .cW l=>l
 | .ptr l=>l
 | .fn _ l=>l
 |_=> []
def D.keq(x y:D):Bool:=decide (x.cells.map D.ab=y.cells.map D.ab)
def D.dT:D→Bool
 | .eW=>true
 |_=>false
inductive Ty where
 |int (k:IntKind)
 |bool
 |str
 |list (t:Ty)
 |agg (fs:Ty)
 |cW (fs:Ty)
 |box (fs:Ty)
 |ptr (fs:Ty)
 |fn (f:Nat) (fs:Ty)
 |nil
 |cons (h t:Ty)
 deriving DecidableEq
def Ty.ak:Ty→List Ty
 | .cons h t=>h::t.ak
 |_=> []
def Ty.bQ:List Ty→Ty
 | [] => .nil
 |h::t=> .cons h (Ty.bQ t)
theorem Ty.cC(l:List Ty):(Ty.bQ l).ak=l:=by
 induction l with
 |nil=>rfl
 |cons h t ih=>simp[Ty.bQ,Ty.ak,ih]
def Ty.cells:Ty→List Ty
 | .agg fs=>fs.ak
 |t=> [t]
def Ty.sc:Ty→Nat
 | .int k=>k.bits/8
 | .bool=>1
 | .str=>16
 | .list _=>24
 |_=>8
def Ty.al:Ty→Nat
 | .int k=>k.bits/8
 | .bool=>1
 |_=>8
def Ty.bytes:Ty→Nat
 | .agg fs=>
  let r:=fs.ak.foldl (fun x c=>((x.1+c.al-1)/c.al*c.al+c.sc,max x.2 c.al)) (0,1)
  (r.1+r.2-1)/r.2*r.2
 |t=>t.sc
theorem Ty.NY(fs:Ty):(Ty.agg (.bQ fs.ak)).bytes=(Ty.agg fs).bytes:=by
 simp only[Ty.bytes,Ty.cC]
def EA(K:Nat)(t:Ty)(n:Nat):Prop:=n≤maxLen∧n*t.bytes≤K
def lP(t:Ty)(n:Nat):Prop:=n≤maxLen∧n*t.bytes≤140737488355328
theorem db(t:Ty):lP t 0:=⟨Nat.zero_le _,by omega⟩
theorem yn(K:Nat)(t:Ty):EA K t 0:=⟨Nat.zero_le _,by omega⟩
theorem lP.mono{t:Ty}{n m:Nat}(h:lP t n)(hm:m≤n):lP t m:=⟨Nat.le_trans hm h.1,Nat.le_trans (Nat.mul_le_mul_right _ hm) h.2⟩
def kr(k:IntKind)(n:Int):Prop:=k.min≤n∧n≤k.max
instance (k:IntKind) (n:Int):Decidable (kr k n):=inferInstanceAs (Decidable (_∧_))
def y8(K:Nat):Ty→(D→Prop)×(List D→Prop)
 | .int k=>(fun d=> ∃n,d= .int k n∧kr k n,fun _=>False)
 | .bool=>(fun d=> ∃b,d= .bool b,fun _=>False)
 | .str=>(fun d=> ∃s,d= .str s,fun _=>False)
 | .list t=>(fun d=> ∃l,d= .list l∧EA K t l.length∧ ∀x∈l,(y8 K t).1 x,fun _=>False)
 | .agg fs=>(fun d=> ∃l,d= .agg l∧(y8 K fs).2 l,fun _=>False)
 | .cW fs=>(fun d=> ∃l,d= .cW l∧(y8 K fs).2 l,fun _=>False)
 | .box fs=>(fun d=> ∃l,d= .ptr l∧(y8 K fs).2 l,fun _=>False)
 | .ptr fs=>(fun d=>d= .eW∨ ∃l,d= .ptr l∧(y8 K fs).2 l,fun _=>False)
 | .fn f fs=>(fun d=> ∃l,d= .fn f l∧(y8 K fs).2 l,fun _=>False)
 | .nil=>(fun _=>False,fun l=>l=[])
 | .cons h t=>(fun _=>False,fun l=> ∃a r,l=a::r∧(y8 K h).1 a∧(y8 K t).2 r)
def pn(K:Nat)(t:Ty)(d:D):Prop:=(y8 K t).1 d
def p9(K:Nat)(t:Ty)(l:List D):Prop:=(y8 K t).2 l
def Has(t:Ty)(d:D):Prop:=(y8 140737488355328 t).1 d
def bV(t:Ty)(l:List D):Prop:=(y8 140737488355328 t).2 l
theorem my{K K':Nat}(h:K≤K'): ∀(t:Ty),(∀d,pn K t d→pn K' t d)∧ ∀l,p9 K t l→p9 K' t l
 | .int _| .bool| .str=>⟨fun _ h=>h,fun _ h=>h⟩
 | .nil=>⟨fun _ h=>h,fun _ h=>h⟩
 | .list t=>⟨fun _ ⟨l,h1,h2,h3⟩=>⟨l,h1,⟨h2.1,Nat.le_trans h2.2 h⟩,fun x hx=>(my h t).1 x (h3 x hx)⟩,fun _ h=>h⟩
 | .agg t| .cW t| .box t| .fn _ t=>⟨fun _ ⟨l,h1,h2⟩=>⟨l,h1,(my h t).2 l h2⟩,fun _ h=>h⟩
 | .ptr t=>⟨fun _ h'=>h'.elim .inl fun⟨l,h1,h2⟩=> .inr ⟨l,h1,(my h t).2 l h2⟩,fun _ h=>h⟩
 | .cons a t=>⟨fun _ h=>h,fun _ ⟨x,r,h1,h2,h3⟩=>⟨x,r,h1,(my h a).1 x h2,(my h t).2 r h3⟩⟩
section
variable{d:D}{l:List D}{k:IntKind}{t h:Ty}{f:Nat}
theorem bF:Has (.int k) d↔ ∃n,d= .int k n∧kr k n:=Iff.rfl
theorem bA:Has .bool d↔ ∃b,d= .bool b:=Iff.rfl
theorem kP:Has .str d↔ ∃s,d= .str s:=Iff.rfl
theorem aD:Has (.list t) d↔ ∃l,d= .list l∧lP t l.length∧ ∀x∈l,Has t x:=Iff.rfl
theorem cu:Has (.agg t) d↔ ∃l,d= .agg l∧bV t l:=Iff.rfl
theorem Vu:Has (.cW t) d↔ ∃l,d= .cW l∧bV t l:=Iff.rfl
theorem fA:Has (.box t) d↔ ∃l,d= .ptr l∧bV t l:=Iff.rfl
theorem jV:Has (.ptr t) d↔d= .eW∨ ∃l,d= .ptr l∧bV t l:=Iff.rfl
theorem jl:Has (.fn f t) d↔ ∃l,d= .fn f l∧bV t l:=Iff.rfl
theorem bE:bV .nil l↔l=[] :=Iff.rfl
theorem aa:bV (.cons h t) l↔ ∃a r,l=a::r∧Has h a∧bV t r:=Iff.rfl
end
theorem dZ: ∀{t:Ty} {l:List D},bV t l→l.length=t.ak.length
 | .nil,l,h=>by rw[bE.1 h];rfl
 | .cons a b,l,h=>by
  obtain⟨x,r,rfl,_,hr⟩:=aa.1 h
  simp[Ty.ak,dZ hr]
 | .int _,_,h| .bool,_,h| .str,_,h| .list _,_,h| .agg _,_,h| .cW _,_,h| .box _,_,h| .ptr _,_,h| .fn _ _,_,h=>h.elim
theorem bX: ∀{t:Ty} {l:List D},bV t l→ ∀(j:Nat) u,t.ak[j]? =some u→ ∃x,l[j]? =some x∧Has u x
 | .nil,l,h,j,u,hj=>by simp[Ty.ak]at hj
 | .cons a b,l,h,j,u,hj=>by
  obtain⟨x,r,rfl,hx,hr⟩:=aa.1 h
  cases j with
  |zero=>simp[Ty.ak]at hj;subst hj;exact⟨x,rfl,hx⟩
  |succ j=>exact bX hr j u (by simpa [Ty.ak]using hj)
 | .int _,_,h,_,_,_| .bool,_,h,_,_,_| .str,_,h,_,_,_| .list _,_,h,_,_,_| .agg _,_,h,_,_,_| .cW _,_,h,_,_,_| .box _,_,h,_,_,_| .ptr _,_,h,_,_,_| .fn _ _,_,h,_,_,_=>h.elim
theorem fK: ∀{ts:List Ty} {l:List D},l.length=ts.length→(∀(j:Nat) u x,ts[j]? =some u→l[j]? =some x→Has u x)→bV (Ty.bQ ts) l
 | [],l,hl,_=>bE.2 (List.eq_nil_of_length_eq_zero (by simpa using hl))
 |t::ts,[],hl,_=>by simp at hl
 |t::ts,x::l,hl,h=>aa.2 ⟨x,l,rfl,h 0 t x rfl rfl,fK (by simpa using hl) fun j u y h1 h2=>h (j+1) u y (by simpa using h1) (by simpa using h2)⟩
theorem bp{t:Ty}{d:D}(h:Has t d):d.cells.length=t.cells.length∧ ∀(j:Nat) u,t.cells[j]? =some u→ ∃x,d.cells[j]? =some x∧Has u x:=by
 by_cases ha: ∃fs,t= .agg fs
 ·obtain⟨fs,rfl⟩:=ha
  obtain⟨l,rfl,hl⟩:=cu.1 h
  exact⟨dZ hl,bX hl⟩
 ·have ht:t.cells=[t] :=by cases t<;>first|rfl|exact absurd ⟨_,rfl⟩ ha
  have hd:d.cells=[d] :=by
   cases t with
   |agg fs=>exact absurd ⟨_,rfl⟩ ha
   |int k=>obtain⟨n,rfl,_⟩:=bF.1 h;rfl
   |bool=>obtain⟨n,rfl⟩:=bA.1 h;rfl
   |str=>obtain⟨n,rfl⟩:=kP.1 h;rfl
   |list t=>obtain⟨n,rfl,_⟩:=aD.1 h;rfl
   |cW t=>obtain⟨n,rfl,_⟩:=Vu.1 h;rfl
   |box t=>obtain⟨n,rfl,_⟩:=fA.1 h;rfl
   |ptr t=>rcases jV.1 h with rfl|⟨n,rfl,_⟩<;>rfl
   |fn f t=>obtain⟨n,rfl,_⟩:=jl.1 h;rfl
   |nil=>exact h.elim
   |cons a b=>exact h.elim
  rw[ht,hd]
  refine⟨rfl,fun j u hj=> ?_⟩
  cases j with
  |zero=>simp at hj;subst hj;exact⟨d,rfl,h⟩
  |succ j=>simp at hj
abbrev aO:=Nat→Nat→Prop
inductive bj (w:World) (S:aO):Value→D→Prop
 |int (k:IntKind) (n:Int):bj w S (.int k n) (.int k n)
 |bool (b:Bool):bj w S (.bool b) (.bool b)
 |str (s:ByteArray):bj w S (.string s) (.str s)
 |agg (cs:List Value) (ds:List D) (hl:cs.length=ds.length) (h: ∀(i:Nat) v d,cs[i]? =some v→ds[i]? =some d→bj w S v d):bj w S (.agg cs.toArray) (.agg ds)
 |cW (cs:List Value) (ds:List D) (hl:cs.length=ds.length) (h: ∀(i:Nat) v d,cs[i]? =some v→ds[i]? =some d→bj w S v d):bj w S (.tuple cs.toArray) (.cW ds)
 |eW:bj w S (.pointer none) .eW
 |ptr (b:Nat) (cs:List Value) (ds:List D) (hl:cs.length=ds.length) (hS: ∀i,i<ds.length→S b i) (hc: ∀(i:Nat) v,cs[i]? =some v→w.cell? ⟨b,i,none⟩=some v)
   (h: ∀(i:Nat) v d,cs[i]? =some v→ds[i]? =some d→bj w S v d):bj w S (.pointer (some ⟨b,0,none⟩)) (.ptr ds)
 |nil (a:Option Addr) (cap:Nat):bj w S (.slice a 0 cap) (.list [])
 |list (b off cap sz:Nat) (xs:List Value) (ds:List D) (fo:0<sz) (dH:ds≠ []) (gN:ds.length≤cap) (hl:xs.length=ds.length*sz)
   (hS: ∀i,i<xs.length→S b (off+i)) (hc: ∀(i:Nat) v,xs[i]? =some v→w.cell? ⟨b,off+i,none⟩=some v)
   (hw: ∀(i:Nat) d,ds[i]? =some d→d.cells.length=sz)
   (h: ∀(i:Nat) d (j:Nat) v c,ds[i]? =some d→d.cells[j]? =some c→xs[i*sz+j]? =some v→bj w S v c):bj w S (.slice (some ⟨b,off,none⟩) ds.length cap) (.list ds)
 |fn (f:Nat) (cs:List Value) (ds:List D) (hl:cs.length=ds.length) (h: ∀(i:Nat) v d,cs[i]? =some v→ds[i]? =some d→bj w S v d):bj w S (.func (.func f) #[] cs.toArray) (.fn f ds)
theorem bj.keep{w w':World}{S S':aO}{v:Value}{d:D}(hS: ∀b o,S b o→S' b o)(hk: ∀b o,S b o→w'.cell? ⟨b,o,none⟩=w.cell? ⟨b,o,none⟩)(h:bj w S v d):bj w' S' v d:=by
 induction h with
 |int k n=>exact .int k n
 |bool b=>exact .bool b
 |str s=>exact .str s
 |agg cs ds hl _ ih=>exact .agg cs ds hl ih
 |cW cs ds hl _ ih=>exact .cW cs ds hl ih
 |eW=>exact .eW
 |ptr b cs ds hl hs hc _ ih=>
  refine .ptr b cs ds hl (fun i hi=>hS _ _ (hs i hi)) (fun i v hv=> ?_) ih
  have hi:i<cs.length:=(ai.1 hv).1
  rw[hk _ _ (hs i (by omega))]
  exact hc i v hv
 |nil a cap=>exact .nil a cap
 |list b off cap sz xs ds fo dH gN hl hs hc hw _ ih=>
  refine .list b off cap sz xs ds fo dH gN hl (fun i hi=>hS _ _ (hs i hi)) (fun i v hv=> ?_) hw ih
  have hi:i<xs.length:=(ai.1 hv).1
  rw[hk _ _ (hs i hi)]
  exact hc i v hv
 |fn f cs ds hl _ ih=>exact .fn f cs ds hl ih
section
variable{w:World}{S:aO}{v:Value}{l:List D}{k:IntKind}{n:Int}
theorem bj.bD(h:bj w S v (.int k n)):v= .int k n:=by cases h;rfl
theorem bj.eH{b:Bool}(h:bj w S v (.bool b)):v= .bool b:=by cases h;rfl
theorem bj.EW{b:ByteArray}(h:bj w S v (.str b)):v= .string b:=by cases h;rfl
theorem bj.vq(h:bj w S v (.agg l)): ∃cs:List Value,v= .agg cs.toArray∧cs.length=l.length∧ ∀(i:Nat) u d,cs[i]? =some u→l[i]? =some d→bj w S u d:=by
 cases h with|agg cs _ hl h=>exact⟨cs,rfl,hl,h⟩
theorem bj.tW{f:Nat}(h:bj w S v (.fn f l)): ∃cs:List Value,v= .func (.func f) #[] cs.toArray∧cs.length=l.length∧ ∀(i:Nat) u d,cs[i]? =some u→l[i]? =some d→bj w S u d:=by
 cases h with|fn _ cs _ hl h=>exact⟨cs,rfl,hl,h⟩
theorem bj.vp(h:bj w S v (.ptr l)): ∃(b:Nat) (cs:List Value),v= .pointer (some ⟨b,0,none⟩)∧cs.length=l.length∧(∀i,i<l.length→S b i)∧(∀(i:Nat) u,cs[i]? =some u→w.cell? ⟨b,i,none⟩=some u)∧
  ∀(i:Nat) u d,cs[i]? =some u→l[i]? =some d→bj w S u d:=by
 cases h with|ptr b cs _ hl hs hc h=>exact⟨b,cs,rfl,hl,hs,hc,h⟩
theorem bj.oU(h:bj w S v .eW):v= .pointer none:=by cases h;rfl
theorem bj.oV(h:bj w S v (.list l)): ∃a cap,v= .slice a l.length cap:=by
 cases h with
 |nil a cap=>exact⟨a,cap,rfl⟩
 |list b off cap=>exact⟨_,cap,rfl⟩
theorem bj.Hf(h:bj w S v (.list l)){i:Nat}{d:D}(hi:l[i]? =some d): ∃(b off cap:Nat) (u:Nat→Value),v= .slice (some ⟨b,off,none⟩) l.length cap∧
  ∀(j:Nat) c,d.cells[j]? =some c→S b (off+i*d.cells.length+j)∧w.cell? ⟨b,off+i*d.cells.length+j,none⟩=some (u j)∧bj w S (u j) c:=by
 cases h with
 |nil a cap=>simp at hi
 |list b off cap sz xs _ fo dH gN hl hs hc hw h=>
  have Cl:=hw i d hi
  have eX:i<l.length:=(ai.1 hi).1
  refine⟨b,off,cap,fun j=>xs.getD (i*sz+j) undef,rfl,fun j c hj=> ?_⟩
  have jh:j<d.cells.length:=(ai.1 hj).1
  have aL:i*sz+j<xs.length:=by
   have:(i+1)*sz≤l.length*sz:=Nat.mul_le_mul_right _ eX
   rw[Nat.add_mul]at this
   omega
  have hx:xs[i*sz+j]? =some (xs.getD (i*sz+j) undef):=by simp[List.getD,aL]
  rw[Cl,Nat.add_assoc]
  exact⟨hs _ aL,hc _ _ hx,h i d j _ c hi hj hx⟩
end
inductive U where
 |not|neg (k:IntKind)|len|cell (j:Nat)|part (off n:Nat)|agg|cW|pj|fnc (f:Nat)|Aa|Wu (k:IntKind)
 deriving DecidableEq
inductive B where
 |add (k:IntKind)|sub (k:IntKind)|mul (k:IntKind)|rem (k:IntKind)|quo (k:IntKind)
 |lt|le|gt|ge|eq|ne|and|or|beq|idx|cat|take|drop|min (k:IntKind)|max (k:IntKind)|xor (k:IntKind)|has
 deriving DecidableEq
inductive E where
 |var (i:Nat)|ao (k:IntKind) (n:Int)|cF (b:Bool)|Ci (s:ByteArray)|eW
 |nil|cons (h t:E)
 |un (o:U) (e:E)|bin (o:B) (a b:E)|ite (c a b:E)
 deriving DecidableEq,Inhabited
def U.den:U→D→D
 | .not,d=> .bool (!d.eh)
 | .neg k,d=> .int k (k.wrap (0-d.ab))
 | .len,d=> .int .i64 d.ak.length
 | .cell j,d=>d.ak.getD j .top
 | .part off n,d=> .agg ((d.ak.drop off).take n)
 | .agg,d=> .agg d.ak
 | .cW,d=> .cW d.ak
 | .pj,d=> .ptr d.ak
 | .fnc f,d=> .fn f d.ak
 | .Aa,d=> .bool d.dT
 | .Wu k,d=> .int k (k.wrap d.ab)
def JF(k:IntKind)(x y:Int):Int:=k.wrap ((BitVec.ofInt k.bits x ^^^ BitVec.ofInt k.bits y).toNat)
def B.den:B→D→D→D
 | .add k,x,y=> .int k (k.wrap (x.ab+y.ab))
 | .sub k,x,y=> .int k (k.wrap (x.ab-y.ab))
 | .mul k,x,y=> .int k (k.wrap (x.ab*y.ab))
 | .rem k,x,y=> .int k (x.ab.tmod y.ab)
 | .quo k,x,y=> .int k (k.wrap (x.ab.tdiv y.ab))
 | .lt,x,y=> .bool (decide (x.ab<y.ab))
 | .le,x,y=> .bool (decide (x.ab≤y.ab))
 | .gt,x,y=> .bool (decide (x.ab>y.ab))
 | .ge,x,y=> .bool (decide (x.ab≥y.ab))
 | .eq,x,y=> .bool (x.ab==y.ab)
 | .ne,x,y=> .bool (x.ab !=y.ab)
 | .and,x,y=> .bool (x.eh&&y.eh)
 | .or,x,y=> .bool (x.eh||y.eh)
 | .beq,x,y=> .bool (x.eh==y.eh)
 | .idx,x,y=>x.ak.getD y.ab.toNat .top
 | .cat,x,y=> .list (x.ak++y.ak)
 | .take,x,y=> .list (x.ak.take y.ab.toNat)
 | .drop,x,y=> .list (x.ak.drop y.ab.toNat)
 | .min k,x,y=> .int k (if y.ab<x.ab then y.ab else x.ab)
 | .max k,x,y=> .int k (if y.ab>x.ab then y.ab else x.ab)
 | .xor k,x,y=> .int k (JF k x.ab y.ab)
 | .has,x,y=> .bool (x.ak.any fun z=>z.keq y)
def den(ρ:Nat→D):E→D
 | .var i=>ρ i
 | .ao k n=> .int k n
 | .cF b=> .bool b
 | .Ci s=> .str s
 | .eW=> .eW
 | .nil=> .list []
 | .cons h t=> .list (den ρ h::(den ρ t).ak)
 | .un o e=>o.den (den ρ e)
 | .bin o a b=>o.den (den ρ a) (den ρ b)
 | .ite c a b=>if(den ρ c).eh then den ρ a else den ρ b
def E.lt(n:Nat):E→Bool
 | .var i=>i<n
 | .ao .. | .cF _| .Ci _| .eW| .nil=>true
 | .cons h t=>h.lt n&&t.lt n
 | .un _ e=>e.lt n
 | .bin _ a b=>a.lt n&&b.lt n
 | .ite c a b=>c.lt n&&a.lt n&&b.lt n
def dp{α:Type}(ρ:Nat→α)(i:Nat)(d:α):Nat→α:=fun j=>if j=i then d else ρ j
theorem ca{α:Type}(ρ:Nat→α)(i:Nat)(d:α):dp ρ i d i=d:=by simp[dp]
theorem cS{α:Type}(ρ:Nat→α){i j:Nat}(d:α)(h:j≠i):dp ρ i d j=ρ j:=by simp[dp,h]
theorem bR{ρ dK:Nat→D}{n:Nat}(h: ∀i,i<n→dK i=ρ i): ∀{e:E},e.lt n=true→den dK e=den ρ e:=by
 intro e
 induction e with
 |var i=>intro he;exact h i (by simpa [E.lt]using he)
 |ao|cF|Ci|eW|nil=>intro _;rfl
 |cons a b oh og=>intro he;simp only[E.lt,aw]at he;simp only[den,oh he.1,og he.2]
 |un o e ih=>intro he;simp only[E.lt]at he;simp only[den,ih he]
 |bin o a b oh og=>intro he;simp only[E.lt,aw]at he;simp only[den,oh he.1,og he.2]
 |ite c a b L5 oh og=>intro he;simp only[E.lt,aw]at he;simp only[den,L5 he.1.1,oh he.1.2,og he.2]
def E.bQ:List E→E
 | [] => .nil
 |h::t=> .cons h (E.bQ t)
theorem dG(ρ:Nat→D)(l:List E):den ρ (E.bQ l)= .list (l.map (den ρ)):=by
 induction l with
 |nil=>rfl
 |cons h t ih=>simp[E.bQ,den,ih,D.ak]
structure YO(P:Program)(T:TypeId)(kt:Ty):Prop where
 ex: ∃k e,P.underlying T=some (.map k e)∧P.underlying e=some .bool∧(∀w,(zeroValue e).run P w= .ok (.bool false) w)∧Maps.Keyed P k∧
  ∀(w:World) (S:aO) v d,bj w S v d→Has kt d→ ∃kl,keyOf P k v=some kl
 inj: ∀(w w':World) (S S':aO) v v' d d',bj w S v d→bj w' S' v' d'→Has kt d→Has kt d'→D.keq d d'=true→v=v'
 awz: ∀(w w':World) (S S':aO) v d d',bj w S v d→bj w' S' v d'→Has kt d→Has kt d'→D.keq d d'=true
structure vh(P:Program)(w:World)(b:Nat)(T:TypeId)(kt:Ty)(l:List D):Prop where
 key:YO P T kt
 own: ∃k e n,∃D0:DataW Unit,P.underlying T=some (.map k e)∧w.ownsMap P k (plainElem P e) b n D0∧n≤l.length∧(∀x∈l,Has kt x)∧
  ∀(w':World) (S:aO) v d kl,bj w' S v d→Has kt d→keyOf P k v=some kl→D0.atKey kl (.lit (.bool false))= .lit (.bool (l.any fun z=>z.keq d))
theorem vh.lt{P:Program}{w:World}{b:Nat}{T:TypeId}{kt:Ty}{l:List D}(h:vh P w b T kt l):b<w.heap.size:=by
 obtain⟨_,_,_,_,_,h1,_⟩:=h.own
 exact h1.lt
theorem vh.congr{P:Program}{w w':World}{b:Nat}{T:TypeId}{kt:Ty}{l:List D}(h:vh P w b T kt l)(hb:w'.heap[b]? =w.heap[b]?):vh P w' b T kt l:=by
 obtain⟨k,e,n,D0,h0,⟨es,clock,h1,h2⟩,h3⟩:=h.own
 exact⟨h.key,k,e,n,D0,h0,⟨es,clock,hb.trans h1,h2⟩,h3⟩
theorem um{P:Program}{e:TypeId}(he:P.underlying e=some .bool){v:Value}{z:DataW Unit×List MemPlace}(h:plainElem P e v=some z): ∃x,v= .bool x∧z=(.lit (.bool x),[]):=by
 unfold plainElem at h
 rw[he]at h
 cases v<;>simp at h
 exact⟨_,rfl,h.symm⟩
theorem vh.lookup{P:Program}{w:World}{b:Nat}{T:TypeId}{kt:Ty}{l:List D}(h:vh P w b T kt l){w':World}{S:aO}{v:Value}{d:D}(hr:bj w' S v d)(hd:Has kt d):
  (Instr.lookup T (.map (some b)) v false).run P w= .ok (.bool (l.any fun z=>z.keq d)) w:=by
 obtain⟨k,e,n,D0,h0,h1,h2,h3,h4⟩:=h.own
 obtain⟨k',e',g1,g2,g3,g4,g5⟩:=h.key.ex
 rw[h0]at g1
 injection g1 with g1;injection g1 with g1 g1';subst g1;subst g1'
 obtain⟨kl,Zf⟩:=g5 w' S v d hr hd
 obtain⟨u,ps,cM,hu⟩:=h1.lookup g4 h0 (g3 w) (plainElem_bool g2 false) Zf
 obtain⟨x,rfl,hx⟩:=um g2 hu
 rw[h4 w' S v d kl hr hd Zf]at hx
 simp only[Prod.mk.injEq,DataW.lit.injEq,Lit.bool.injEq]at hx
 rw[cM,hx.1]
abbrev Tag:=Nat×Nat
def Ca(j:Nat):Bool:=decide (1000≤j)
def Tag.ex(g:Tag):Bool:=Ca g.2
inductive SC where
 |eV (e:E) (t:Ty)
 |lU (t:Ty)
 |own (g:Tag) (e:E) (t:Ty)
 |clip (e:E) (t:Ty)
 |pa (id off:Nat)
 |z6 (l i:E) (t:Ty) (off:Nat)
 |zT (e:E) (fs:Ty) (off:Nat)
 |xo (g:Tag) (t:Ty)
 |tJ (g:Tag) (i:E) (t:Ty) (off:Nat)
 |D1 (id:Nat)
 |IH
 |tM (e:E) (kt:Ty) (T:TypeId)
 deriving DecidableEq
def mapOf:List SC→Option (E×Ty×TypeId)
 | [.tM e kt T] =>some (e,kt,T)
 |_=>none
inductive SV where
 |one (c:SC)
 |agg (l:List SC)
 |cW (l:List (Bool×List SC))
 deriving DecidableEq
abbrev bI:=List (E×Bool)
def aq(ρ:Nat→D)(c:bI):Bool:=c.all fun x=>(den ρ x.1).eh==x.2
structure St where
 tm:Nat→Option (bI×SV)
 hp:Nat→Option (Bool×List SC)
 live:Tag→Option (E×TypeId×Ty)
structure Gh where
 S:aO
 β:Nat→Nat
 τ:Tag→Value
def Ty.scalar:Ty→Bool
 | .int _| .bool| .str| .list _| .box _| .ptr _| .fn _ _=>true
 |_=>false
def SC.scalar:SC→Bool
 | .eV _ t=>t.scalar
 |_=>true
def SC.lt(n:Nat):SC→Bool
 | .eV e _| .own _ e _| .zT e _ _| .clip e _=>e.lt n
 | .z6 l i _ _=>l.lt n&&i.lt n
 | .tJ _ i _ _=>i.lt n
 | .tM e _ _=>e.lt n
 | .lU _| .pa .. | .xo .. | .D1 _| .IH=>true
def SV.lt(n:Nat):SV→Bool
 | .one c=>c.lt n
 | .agg l=>l.all (SC.lt n)
 | .cW l=>l.all fun x=>x.2.all (SC.lt n)
structure Cx where
 ρ:Nat→D
 N:Nat
 M:Nat→Prop
def pX(C:Cx)(w:World)(G:Gh):SC→Value→Prop
 | .eV e t,v=>e.lt C.N=true∧bj w G.S v (den C.ρ e)∧Has t (den C.ρ e)
 | .lU _,v=>v= .slice none 0 0
 | .own g e t,v=>C.M g.1∧e.lt C.N=true∧bj w G.S v (den C.ρ e)∧Has (.list t) (den C.ρ e)∧v=G.τ g
 | .clip e t,v=>e.lt C.N=true∧bj w G.S v (den C.ρ e)∧Has (.list t) (den C.ρ e)∧ ∃a,v= .slice a (den C.ρ e).ak.length (den C.ρ e).ak.length
 | .pa id off,v=>C.M id∧v= .pointer (some ⟨G.β id,off,none⟩)
 | .z6 l i t off,v=>l.lt C.N=true∧i.lt C.N=true∧ ∃(b o:Nat) (u:Nat→Value),v= .pointer (some ⟨b,o+off,none⟩)∧Has t (den C.ρ (.bin .idx l i))∧
   ∀(j:Nat) c,(den C.ρ (.bin .idx l i)).cells[j]? =some c→G.S b (o+j)∧w.cell? ⟨b,o+j,none⟩=some (u j)∧bj w G.S (u j) c
 | .zT e fs off,v=>e.lt C.N=true∧ ∃(b:Nat) (l:List D) (u:Nat→Value),den C.ρ e= .ptr l∧bV fs l∧v= .pointer (some ⟨b,off,none⟩)∧
   ∀(j:Nat) c,l[j]? =some c→G.S b j∧w.cell? ⟨b,j,none⟩=some (u j)∧bj w G.S (u j) c
 | .xo g _,v=>C.M g.1∧v=G.τ g∧ ∃a n cap,v= .slice a n cap
 | .tJ g i t off,v=>C.M g.1∧i.lt C.N=true∧ ∃b cap n,G.τ g= .slice (some ⟨b,0,none⟩) n cap∧0≤(den C.ρ i).ab∧(den C.ρ i).ab.toNat<n∧
   v= .pointer (some ⟨b,(den C.ρ i).ab.toNat*t.cells.length+off,none⟩)
 | .D1 id,v=>C.M id∧v= .map (some (G.β id))
 | .IH,v=>v= .map none∨v= .nilFunc
 | .tM ..,_=>False
def iD(C:Cx)(w:World)(G:Gh)(l:List SC)(vs:List Value):Prop:=
 vs.length=l.length∧ ∀(i:Nat) c v,l[i]? =some c→vs[i]? =some v→pX C w G c v
def ko(C:Cx)(w:World)(G:Gh)(x:Bool×List SC)(v:Value):Prop:=
 if x.1 then∃vs:List Value,v= .agg vs.toArray∧iD C w G x.2 vs else∃c,x.2=[c] ∧pX C w G c v
def wQ(C:Cx)(w:World)(G:Gh):SV→Value→Prop
 | .one c,v=>pX C w G c v
 | .agg l,v=> ∃vs:List Value,v= .agg vs.toArray∧iD C w G l vs
 | .cW l,v=> ∃vs:List Value,v= .tuple vs.toArray∧vs.length=l.length∧ ∀(i:Nat) x u,l[i]? =some x→vs[i]? =some u→ko C w G x u
structure bO(C:Cx)(w:World)(G:Gh)(C':Cx)(w':World)(G':Gh):Prop where
 den: ∀e:E,e.lt C.N=true→bZ.den C'.ρ e=bZ.den C.ρ e∧e.lt C'.N=true
 M: ∀i,C.M i→C'.M i
 S: ∀b o,G.S b o→G'.S b o
 cell: ∀b o,G.S b o→w'.cell? ⟨b,o,none⟩=w.cell? ⟨b,o,none⟩
 β: ∀i,C.M i→G'.β i=G.β i
 τ: ∀g:Tag,C.M g.1→G'.τ g=G.τ g
section
variable{C C':Cx}{w w':World}{G G':Gh}{v:Value}
theorem pX.later(h:bO C w G C' w' G'): ∀{c:SC},pX C w G c v→pX C' w' G' c v
 | .eV e t,⟨h1,h2,h3⟩=>by
  obtain⟨h4,h5⟩:=h.den e h1
  exact⟨h5,h4▸h2.keep h.S h.cell,h4▸h3⟩
 | .lU _,hv=>hv
 | .own g e t,⟨hm,h1,h2,h3,h6⟩=>by
  obtain⟨h4,h5⟩:=h.den e h1
  exact⟨h.M _ hm,h5,h4▸h2.keep h.S h.cell,h4▸h3,by rw[h.τ g hm];exact h6⟩
 | .clip e t,⟨h1,h2,h3,a,h6⟩=>by
  obtain⟨h4,h5⟩:=h.den e h1
  exact⟨h5,h4▸h2.keep h.S h.cell,h4▸h3,a,by rw[h4];exact h6⟩
 | .pa id off,⟨hm,hv⟩=>⟨h.M _ hm,by rw[h.β id hm];exact hv⟩
 | .z6 l i t off,⟨hl,hi,b,o,u,hv,ht,hc⟩=>by
  have h4:bZ.den C'.ρ (.bin .idx l i)=bZ.den C.ρ (.bin .idx l i):=(h.den (.bin .idx l i) (by simp[E.lt,hl,hi])).1
  refine⟨(h.den l hl).2,(h.den i hi).2,b,o,u,hv,h4▸ht,fun j c hj=> ?_⟩
  rw[h4]at hj
  obtain⟨h5,h6,h7⟩:=hc j c hj
  exact⟨h.S _ _ h5,by rw[h.cell _ _ h5];exact h6,h7.keep h.S h.cell⟩
 | .zT e fs off,⟨he,b,l,u,h1,h2,hv,hc⟩=>by
  refine⟨(h.den e he).2,b,l,u,by rw[(h.den e he).1];exact h1,h2,hv,fun j c hj=> ?_⟩
  obtain⟨h5,h6,h7⟩:=hc j c hj
  exact⟨h.S _ _ h5,by rw[h.cell _ _ h5];exact h6,h7.keep h.S h.cell⟩
 | .xo g t,⟨hm,hv,F1⟩=>⟨h.M _ hm,by rw[h.τ g hm];exact hv,F1⟩
 | .tJ g i t off,⟨hm,hi,b,cap,n,h1,h2,h3,h4⟩=>⟨h.M _ hm,(h.den i hi).2,b,cap,n,by rw[h.τ g hm];exact h1,by rw[(h.den i hi).1];exact h2,by rw[(h.den i hi).1];exact h3,by rw[(h.den i hi).1];exact h4⟩
 | .D1 id,⟨hm,hv⟩=>⟨h.M _ hm,by rw[h.β id hm];exact hv⟩
 | .IH,hv=>hv
 | .tM ..,hv=>hv.elim
theorem iD.later(h:bO C w G C' w' G'){l:List SC}{vs:List Value}(hr:iD C w G l vs):iD C' w' G' l vs:=
 ⟨hr.1,fun i c v h1 h2=>(hr.2 i c v h1 h2).later h⟩
theorem ko.later(h:bO C w G C' w' G'){x:Bool×List SC}(hr:ko C w G x v):ko C' w' G' x v:=by
 unfold ko at*
 split
 ·rename_i hx;rw[if_pos hx]at hr;obtain⟨vs,h1,h2⟩:=hr;exact⟨vs,h1,h2.later h⟩
 ·rename_i hx;rw[if_neg hx]at hr;obtain⟨c,h1,h2⟩:=hr;exact⟨c,h1,h2.later h⟩
theorem wQ.later(h:bO C w G C' w' G'): ∀{s:SV},wQ C w G s v→wQ C' w' G' s v
 | .one _,hr=>pX.later h hr
 | .agg _,⟨vs,h1,h2⟩=>⟨vs,h1,h2.later h⟩
 | .cW _,⟨vs,h1,h2,h3⟩=>⟨vs,h1,h2,fun i x u hx hu=>(h3 i x u hx hu).later h⟩
theorem bO.refl(C:Cx)(w:World)(G:Gh):bO C w G C w G:=⟨fun _ h=>⟨rfl,h⟩,fun _ h=>h,fun _ _ h=>h,fun _ _ _=>rfl,fun _ _=>rfl,fun _ _=>rfl⟩
theorem bO.trans{C'':Cx}{yG:World}{Ws:Gh}(h:bO C w G C' w' G')(k:bO C' w' G' C'' yG Ws):bO C w G C'' yG Ws where
 den e he:=by obtain⟨h1,h2⟩:=h.den e he;obtain⟨h3,h4⟩:=k.den e h2;exact⟨h3.trans h1,h4⟩
 M i hi:=k.M i (h.M i hi)
 S b o hs:=k.S b o (h.S b o hs)
 cell b o hs:=(k.cell b o (h.S b o hs)).trans (h.cell b o hs)
 β i hi:=(k.β i (h.M i hi)).trans (h.β i hi)
 τ g hg:=(k.τ g (h.M _ hg)).trans (h.τ g hg)
theorem bj.gq{w:World}{S:aO}{d:D}{t:Ty}(h:bj w S v d)(ht:Has t d)(hs:t.scalar=true):v.oneCell'=true:=by
 cases h<;>first
  |rfl
  |(cases t<;>simp[Ty.scalar]at hs<;>simp[bF,bA,kP,aD,fA,jV,jl]at ht)
theorem pX.gq{c:SC}(h:pX C w G c v)(hs:c.scalar=true):v.oneCell'=true:=by
 cases c with
 |eV e t=>exact h.2.1.gq h.2.2 hs
 |lU t=>simp only[pX]at h;subst h;rfl
 |own g e t=>exact h.2.2.1.gq h.2.2.2.1 rfl
 |clip e t=>exact h.2.1.gq h.2.2.1 rfl
 |pa id off=>obtain⟨_,rfl⟩:=h;rfl
 |z6 l i t off=>obtain⟨_,_,b,o,u,rfl,_⟩:=h;rfl
 |zT e fs off=>obtain⟨_,b,l,u,_,_,rfl,_⟩:=h;rfl
 |xo g t=>obtain⟨_,_,a,n,cap,rfl⟩:=h;rfl
 |tJ g i t off=>obtain⟨_,_,b,cap,n,_,_,_,rfl⟩:=h;rfl
 |D1 id=>obtain⟨_,rfl⟩:=h;rfl
 |IH=>simp only[pX]at h;rcases h with rfl|rfl<;>rfl
 |tM e kt T=>exact h.elim
theorem bj.QH{w:World}{S:aO}{d:D}{fs:Ty}(h:bj w S v d)(ht:Has (.agg fs) d): ∃l:List D,d= .agg l∧bV fs l∧ ∃cs:List Value,v= .agg cs.toArray∧cs.length=l.length∧
  ∀(i:Nat) u c,cs[i]? =some u→l[i]? =some c→bj w S u c:=by
 obtain⟨l,rfl,hl⟩:=cu.1 ht
 obtain⟨cs,h1,h2,h3⟩:=h.vq
 exact⟨l,rfl,hl,cs,h1,h2,h3⟩
end
def ij(P:Program)(C:Cx)(w:World)(G:Gh)(b:Nat)(cs:List SC):Prop:=
 match mapOf cs with
 |some (e,kt,T)=>e.lt C.N=true∧Has (.list kt) (den C.ρ e)∧vh P w b T kt (den C.ρ e).ak
 |none=> ∃(vs:List Value) (T:TypeId),w.heap[b]? =some (.cells vs.toArray T (0,0))∧iD C w G cs vs
theorem ij.cells{P:Program}{C:Cx}{w:World}{G:Gh}{b:Nat}{cs:List SC}(h:ij P C w G b cs)(hm:mapOf cs=none): ∃(vs:List Value) (T:TypeId),w.heap[b]? =some (.cells vs.toArray T (0,0))∧iD C w G cs vs:=by
 unfold ij at h;rw[hm]at h;exact h
theorem ij.mk{P:Program}{C:Cx}{w:World}{G:Gh}{b:Nat}{cs:List SC}{vs:List Value}{T:TypeId}(h:w.heap[b]? =some (.cells vs.toArray T (0,0)))(hr:iD C w G cs vs):ij P C w G b cs:=by
 unfold ij
 split
 ·rename_i e kt T' hm
  unfold mapOf at hm
  split at hm
  ·cases hl:vs with
   |nil=>have:=hr.1;rw[hl]at this;simp at this
   |cons v DH=>exact(hr.2 0 _ v rfl (by rw[hl];rfl)).elim
  ·cases hm
 ·exact⟨vs,T,h,hr⟩
theorem ij.later{P:Program}{C C':Cx}{w w':World}{G G':Gh}{b:Nat}{cs:List SC}(aU:bO C w G C' w' G')(h:ij P C w G b cs)(hb:w'.heap[b]? =w.heap[b]?):ij P C' w' G' b cs:=by
 unfold ij at*
 split
 ·rename_i e kt T hm
  rw[hm]at h
  obtain⟨h1,h2,h3⟩:=h
  obtain⟨d1,d2⟩:=aU.den e h1
  exact⟨d2,by rw[d1];exact h2,by rw[d1];exact h3.congr hb⟩
 ·rename_i hm
  rw[hm]at h
  obtain⟨vs,T,h1,h2⟩:=h
  exact⟨vs,T,by rw[hb];exact h1,h2.later aU⟩
theorem ij.lt{P:Program}{C:Cx}{w:World}{G:Gh}{b:Nat}{cs:List SC}(h:ij P C w G b cs):b<w.heap.size:=by
 unfold ij at h
 split at h
 ·exact h.2.2.lt
 ·obtain⟨vs,T,h1,_⟩:=h
  exact(Array.getElem?_eq_some_iff.1 h1).1
structure gh(C:Cx)(w:World)(base:Nat)(G:Gh)(g:Tag)(e:E)(T:TypeId)(t:Ty):Prop where
 m:C.M g.1
 lt:e.lt C.N=true
 has:Has (.list t) (den C.ρ e)
 own: ∃xs l,den C.ρ e= .list l∧w.ownsRow base T t.cells.length (G.τ g) l.length xs∧(∀b,(G.τ g).ownBlock=some b→ ∀o,G.S b o↔g.ex=false∧o<xs.length)∧
  ∀(i:Nat) d (j:Nat) v c,l[i]? =some d→d.cells[j]? =some c→xs[i*t.cells.length+j]? =some v→bj w G.S v c
structure ew where
 gV:aO
 mu:Nat→Prop
 pd:Nat→Option Nat
 fr:Prop
 wz:Prop
 prog:Program:=default
 dfs:List Deferred:=[]
structure dU(mu:Nat→Prop)(w w':World):Prop where
 os:w'.os=w.os
 tape:w'.tape=w.tape
 output:w'.output=w.output
 size:w.heap.size≤w'.heap.size
 block: ∀k,k<w.heap.size→ ¬mu k→w'.heap[k]? =w.heap[k]?
theorem dU.refl(mu:Nat→Prop)(w:World):dU mu w w:=⟨rfl,rfl,rfl,Nat.le_refl _,fun _ _ _=>rfl⟩
theorem dU.trans{mu:Nat→Prop}{a b c:World}(h:dU mu a b)(k:dU mu b c):dU mu a c:=
 ⟨k.os.trans h.os,k.tape.trans h.tape,k.output.trans h.output,Nat.le_trans h.size k.size,fun i hi hm=>(k.block i (Nat.lt_of_lt_of_le hi h.size) hm).trans (h.block i hi hm)⟩
theorem dU.of{mu:Nat→Prop}{w w':World}(h:Below w.heap.size w w'):dU mu w w':=⟨h.os,h.tape,h.output,h.size,fun k hk _=>h.block k hk⟩
theorem dU.to{mu:Nat→Prop}{w w':World}(h:dU mu w w')(hm: ∀b,¬mu b):Below w.heap.size w w':=⟨h.os,h.tape,h.output,h.size,fun k hk=>h.block k hk (hm k)⟩
theorem dU.alloc{mu:Nat→Prop}{a w:World}(h:dU mu a w)(o:Obj):dU mu a (w.alloc o):=
 h.trans ⟨rfl,rfl,rfl,by simp,fun k hk _=>Below.heap_alloc _ _ _ hk⟩
theorem dU.drew{mu:Nat→Prop}{a w:World}(h:dU mu a w):dU mu a {w with drawn:=w.drawn+1}:=⟨h.os,h.tape,h.output,h.size,h.block⟩
def gH(w0:World)(S0:ew)(b:Nat):Prop:=w0.heap.size≤b∨S0.mu b
def I0(w0:World)(S0:ew)(b:Nat):Prop:=w0.heap.size≤b∨S0.mu b∧ ∃i,S0.pd i=some b
def k9(X:Nat→Prop):Value→Prop
 | .int _ _=>True
 | .bool _=>True
 | .string _=>True
 | .slice a n _=>n=0∨ ∃b o,a=some ⟨b,o,none⟩∧X b
 |_=>False
theorem k9.mono{X Y:Nat→Prop}(h: ∀b,X b→Y b){v:Value}(hv:k9 X v):k9 Y v:=by
 cases v<;>first
  |exact hv
  |(rcases hv with hv|⟨b,o,h1,h2⟩
    ·exact .inl hv
    ·exact .inr ⟨b,o,h1,h b h2⟩)
def QI(z:Nat→Prop)(w:World)(S:aO)(X:Nat→Prop):Prop:= ∀b,X b→z b∧(∃o,S b o)∧(∃cur T,w.heap[b]? =some (.cells cur T (0,0)))∧ ∀o v,S b o→w.cell? ⟨b,o,none⟩=some v→k9 X v
def zn(z:Nat→Prop)(w:World)(S:aO)(b:Nat):Prop:= ∃X,QI z w S X∧X b
def zm(z:Nat→Prop)(w:World)(S:aO)(v:Value):Prop:= ∀a n cap,v= .slice a n cap→k9 (zn z w S) v
theorem zn.set(z:Nat→Prop)(w:World)(S:aO):QI z w S (zn z w S):=by
 rintro b ⟨X,hX,hb⟩
 obtain⟨h1,h2,h4,h3⟩:=hX b hb
 exact⟨h1,h2,h4,fun o v hs hc=>(h3 o v hs hc).mono fun b hb=>⟨X,hX,hb⟩⟩
theorem zn.mono{z:Nat→Prop}{w w':World}{S S':aO}(hh: ∀b o,S b o→w'.heap[b]? =w.heap[b]?)(hS: ∀b o,S b o→S' b o)(fM: ∀b o,S' b o→(∃o',S b o')→S b o){b:Nat}(h:zn z w S b):zn z w' S' b:=by
 obtain⟨X,hX,hb⟩:=h
 refine⟨X,fun b' fu=> ?_,hb⟩
 obtain⟨h1,⟨o1,h2⟩,h4,h3⟩:=hX b' fu
 refine⟨h1,⟨o1,hS _ _ h2⟩,by rw[hh _ _ h2];exact h4,fun o v hs DT=> ?_⟩
 have sY:=fM b' o hs ⟨o1,h2⟩
 exact h3 o v sY (by rw[←DT];simp only[World.cell?,hh _ _ sY])
theorem zm.mono{z:Nat→Prop}{w w':World}{S S':aO}(hh: ∀b o,S b o→w'.heap[b]? =w.heap[b]?)(hS: ∀b o,S b o→S' b o)(fM: ∀b o,S' b o→(∃o',S b o')→S b o){v:Value}(h:zm z w S v):zm z w' S' v:=
 fun a n cap hv=>(h a n cap hv).mono fun _ hb=>hb.mono hh hS fM
theorem zm.aeM{z z':Nat→Prop}{w:World}{S:aO}{v:Value}(h:zm z w S v)(hz: ∀b,z b→z' b):zm z' w S v:=fun a n cap hv=>(h a n cap hv).mono fun b hb=>by
 obtain⟨X,hX,hb⟩:=hb
 exact⟨X,fun b' fu=>by obtain⟨h1,h2,h3,h4⟩:=hX b' fu;exact⟨hz b' h1,h2,h3,h4⟩,hb⟩
theorem zm.nilIface{z:Nat→Prop}{w:World}{S:aO}:zm z w S .nilIface:=fun _ _ _ h=>by cases h
structure cJ(w0:World)(S0:ew)(C:Cx)(G:Gh)(σ:St)(w:World):Prop where
 below:dU S0.mu w0 w
 ic: ∀b o,S0.gV b o→G.S b o
 keep: ∀b o,S0.gV b o→w.cell? ⟨b,o,none⟩=w0.cell? ⟨b,o,none⟩
 pd: ∀i b,S0.pd i=some b→C.M i∧G.β i=b
 jK: ∀i b,S0.pd i=some b→True
 bL: ∀b o,G.S b o→b<w.heap.size
 eP: ∀b o,G.S b o→S0.gV b o∨gH w0 S0 b
 lG: ∀id x,σ.hp id=some x→C.M id
 box: ∀id ro cs,σ.hp id=some (ro,cs)→I0 w0 S0 (G.β id)∧(cs.all SC.scalar=true)∧ij S0.prog C w G (G.β id) cs∧
  (if ro then∀o,o<cs.length→G.S (G.β id) o else∀o,¬G.S (G.β id) o)
 inj: ∀i j x y,σ.hp i=some x→σ.hp j=some y→G.β i=G.β j→i=j
 own: ∀g e T t,σ.live g=some (e,T,t)→gh C w 0 G g e T t
 dM: ∀g x b,σ.live g=some x→(G.τ g).ownBlock=some b→gH w0 S0 b
 gP: ∀g g' x y b,σ.live g=some x→σ.live g'=some y→(G.τ g).ownBlock=some b→(G.τ g').ownBlock=some b→g=g'
 cz: ∀g id x y b,σ.live g=some x→σ.hp id=some y→(G.τ g).ownBlock=some b→b≠G.β id
 fresh:S0.fr→ ∀g,zm (gH w0 S0) w G.S (G.τ g)
 wz:S0.wz→ ∀b o,G.S b o→ ∃cur T,w.heap[b]? =some (.cells cur T (0,0))
theorem cJ.aaj{w0:World}{S0:ew}{C:Cx}{G:Gh}{σ:St}{w:World}(h:cJ w0 S0 C G σ w){b:Nat}(hb:I0 w0 S0 b):gH w0 S0 b:=by
 rcases hb with hb|⟨hm,_⟩
 ·exact .inl hb
 ·exact .inr hm
def fI(C:Cx)(w:World)(G:Gh)(tm:Nat→Option (bI×SV))(a:Act):Prop:=
 ∀t c s,tm t=some (c,s)→ ∃v,a.tmps[t]? =some v∧(∀x∈c,x.1.lt C.N=true)∧s.lt C.N=true∧(if aq C.ρ c then wQ C w G s v else v=undef)
structure er(n:Nat)(w0:World)(S0:ew)(C:Cx)(G:Gh)(σ:St)(a:Act)(w:World):Prop where
 m:cJ w0 S0 C G σ w
 t:fI C w G σ.tm a
 sz:a.tmps.size=n
 defers:a.defers=S0.dfs
theorem HS{C C':Cx}{w w':World}{G G':Gh}(h:bO C w G C' w' G'){c:bI}(hc: ∀x∈c,x.1.lt C.N=true):aq C'.ρ c=aq C.ρ c:=by
 unfold aq
 rw[Bool.eq_iff_iff,aV,aV]
 constructor
 ·intro H x hx
  rw[←(h.den x.1 (hc x hx)).1];exact H x hx
 ·intro H x hx
  rw[(h.den x.1 (hc x hx)).1];exact H x hx
theorem SC.re{C C':Cx}{w w':World}{G G':Gh}(h:bO C w G C' w' G'){c:SC}(hc:c.lt C.N=true):c.lt C'.N=true:=by
 cases c<;>simp only[SC.lt,aw]at hc⊢
 all_goals first|trivial|exact(h.den _ hc).2|exact⟨(h.den _ hc.1).2,(h.den _ hc.2).2⟩
theorem SV.re{C C':Cx}{w w':World}{G G':Gh}(h:bO C w G C' w' G'){s:SV}(hs:s.lt C.N=true):s.lt C'.N=true:=by
 cases s<;>simp only[SV.lt,aV]at hs⊢
 ·exact SC.re h hs
 ·exact fun c hc=>SC.re h (hs c hc)
 ·exact fun x hx c hc=>SC.re h (hs x hx c hc)
theorem fI.later{C C':Cx}{w w':World}{G G':Gh}{tm:Nat→Option (bI×SV)}{a:Act}(h:bO C w G C' w' G')(ht:fI C w G tm a):fI C' w' G' tm a:=by
 intro t c s hs
 obtain⟨v,h1,h2,h0,h3⟩:=ht t c s hs
 refine⟨v,h1,fun x hx=>(h.den _ (h2 x hx)).2,SV.re h h0,?_⟩
 rw[HS h h2]
 split
 ·rename_i hc;rw[if_pos hc]at h3;exact h3.later h
 ·rename_i hc;rw[if_neg hc]at h3;exact h3
theorem fI.put{C:Cx}{w:World}{G:Gh}{tm:Nat→Option (bI×SV)}{a:Act}(ht:fI C w G tm a)(d:Option Nat)(v:Value)(c:bI)(s:SV)
  (hc: ∀x∈c,x.1.lt C.N=true) (hs0:s.lt C.N=true) (hv:if aq C.ρ c then wQ C w G s v else v=undef) (fo: ∀i,d=some i→i<a.tmps.size):
  fI C w G (match d with|some i=>dp tm i (some (c,s))|none=>tm) (a.put d v):=by
 cases d with
 |none=>exact ht
 |some i=>
  intro t c' s' hs
  by_cases Tr:t=i
  ·subst Tr
   simp only[ca,Option.some.injEq,Prod.mk.injEq]at hs
   obtain⟨rfl,rfl⟩:=hs
   exact⟨v,by simp[Act.put,fo t rfl],hc,hs0,hv⟩
  ·simp only[cS _ _ Tr]at hs
   obtain⟨u,h1,h2⟩:=ht t c' s' hs
   exact⟨u,by simp only[Act.put];rw[Array.getElem?_setIfInBounds_ne (Ne.symm Tr)];exact h1,h2⟩
def Cx.add(C:Cx)(p:Nat):Cx:={C with M:=fun i=>C.M i∨i=p}
section
variable{C:Cx}{w w0:World}{G:Gh}{S0:ew}{σ:St}{p:Nat}
theorem bO.mF(C:Cx)(w:World)(G:Gh)(p:Nat):bO C w G (C.add p) w G:=
 ⟨fun _ h=>⟨rfl,h⟩,fun _ h=> .inl h,fun _ _ h=>h,fun _ _ _=>rfl,fun _ _=>rfl,fun _ _=>rfl⟩
theorem gh.rep{base:Nat}{g:Tag}{e:E}{T:TypeId}{t:Ty}(h:gh C w base G g e T t)(fo:0<t.cells.length)(hex:g.ex=false:=by rfl):bj w G.S (G.τ g) (den C.ρ e):=by
 obtain⟨xs,l,hd,bw,hS,hr⟩:=h.own
 rw[hd]
 obtain⟨hl,hh⟩:=bw
 rcases hh with⟨hv,hn⟩|⟨b,cap,cur,hv,hb,hg,yL,H9,gS,tp⟩
 ·have:l=[] :=List.eq_nil_of_length_eq_zero hn
  subst this
  rw[hv];exact .nil none 0
 ·have eS:=h.has
  rw[hd]at eS
  obtain⟨l',ks,_,hx⟩:=aD.1 eS
  injection ks with ks;subst ks
  by_cases dH:l=[]
  ·subst dH;rw[hv];exact .nil _ cap
  ·rw[hv]
   refine .list b 0 cap t.cells.length xs l fo dH yL hl (fun i hi=> ?_) (fun i v hi=> ?_) (fun i d gZ=> ?_) hr
   ·rw[Nat.zero_add];exact(hS b (by rw[hv];rfl) i).2 ⟨hex,hi⟩
   ·rw[Nat.zero_add,cell_of_row w b i cur T (0,0) hg]
    rw[←tp,List.getElem?_take]at hi
    split at hi
    ·simpa using hi
    ·cases hi
   ·exact(bp (hx d (aS gZ))).1
theorem gh.later{C':Cx}{w':World}{G':Gh}{base:Nat}{g:Tag}{e:E}{T:TypeId}{t:Ty}(aU:bO C w G C' w' G')(h:gh C w base G g e T t)
  (dq: ∀b,(G.τ g).ownBlock=some b→w'.heap[b]? =w.heap[b]?) (hS: ∀b,(G.τ g).ownBlock=some b→ ∀o,G'.S b o→G.S b o):gh C' w' base G' g e T t:=by
 obtain⟨hd,aL⟩:=aU.den e h.lt
 have eJ:=aU.τ g h.m
 refine⟨aU.M _ h.m,aL,hd▸h.has,?_⟩
 obtain⟨xs,l,hl,bw,jN,hr⟩:=h.own
 refine⟨xs,l,hd.trans hl,?_,?_,fun i d j v c h1 h2 h3=>(hr i d j v c h1 h2 h3).keep aU.S aU.cell⟩
 ·rw[eJ]
  refine⟨bw.1,?_⟩
  rcases bw.2 with hn|⟨b,cap,cur,hv,hb,hg,rest⟩
  ·exact .inl hn
  ·exact .inr ⟨b,cap,cur,hv,hb,by rw[dq b (by rw[hv];rfl)];exact hg,rest⟩
 ·intro b hb o
  rw[eJ]at hb
  rw[←jN b hb o]
  exact⟨hS b hb o,aU.S b o⟩
theorem gh.dW{base:Nat}{g:Tag}{e:E}{T:TypeId}{t:Ty}(h:gh C w base G g e T t): ∀b,(G.τ g).ownBlock=some b→base≤b∧b<w.heap.size:=by
 obtain⟨xs,l,_,bw,_⟩:=h.own
 exact bw.lt
theorem cJ.mF(h:cJ w0 S0 C G σ w)(p:Nat):cJ w0 S0 (C.add p) G σ w where
 below:=h.below
 ic:=h.ic
 keep:=h.keep
 pd i b hi:=⟨.inl (h.pd i b hi).1,(h.pd i b hi).2⟩
 jK:=h.jK
 bL:=h.bL
 eP:=h.eP
 lG id x hx:= .inl (h.lG id x hx)
 box id ro cs hx:=by
  obtain⟨h1,h2,h3,h5⟩:=h.box id ro cs hx
  exact⟨h1,h2,h3.later (bO.mF C w G p) rfl,h5⟩
 inj:=h.inj
 own g e T t hx:=(h.own g e T t hx).later (bO.mF C w G p) (fun _ _=>rfl) (fun _ _ _ h=>h)
 dM:=h.dM
 gP:=h.gP
 cz:=h.cz
 fresh:=h.fresh
 wz:=h.wz
theorem cJ.kG{C':Cx}{w':World}{G':Gh}(h:cJ w0 S0 C G σ w)(aU:bO C w G C' w' G'): ∀b o,S0.gV b o→w'.cell? ⟨b,o,none⟩=w0.cell? ⟨b,o,none⟩:=
 fun b o hs=>(aU.cell b o (h.ic b o hs)).trans (h.keep b o hs)
theorem cJ.mo{C':Cx}{w':World}{G':Gh}(h:cJ w0 S0 C G σ w)(aU:bO C w G C' w' G'): ∀i b,S0.pd i=some b→C'.M i∧G'.β i=b:=
 fun i b hi=>⟨aU.M i (h.pd i b hi).1,(aU.β i (h.pd i b hi).1).trans (h.pd i b hi).2⟩
theorem cJ.lz{C':Cx}{w':World}{G':Gh}(h:cJ w0 S0 C G σ w)(aU:bO C w G C' w' G')(eJ:G'.τ=G.τ)(hh: ∀b o,G.S b o→w'.heap[b]? =w.heap[b]?)(fM: ∀b o,G'.S b o→(∃o',G.S b o')→G.S b o):
  S0.fr→ ∀g,zm (gH w0 S0) w' G'.S (G'.τ g):=by
 intro hf g
 rw[eJ]
 exact(h.fresh hf g).mono hh aU.S fM
theorem cJ.rS(h:cJ w0 S0 C G σ w):w0.heap.size≤w.heap.size:=h.below.size
theorem cJ.jR(h:cJ w0 S0 C G σ w){id:Nat}{x:Bool×List SC}(hx:σ.hp id=some x):G.β id<w.heap.size:=by
 obtain⟨_,_,h3,_⟩:=h.box id x.1 x.2 hx
 exact h3.lt
theorem cJ.alloc(h:cJ w0 S0 C G σ w)(hp: ¬C.M p){cs:List SC}{vs:List Value}(hr:iD C w G cs vs)(jC:cs.all SC.scalar=true)(T:TypeId):
  bO C w G (C.add p) (w.alloc (.cells vs.toArray T)) {G with β:=dp G.β p w.heap.size}∧
  cJ w0 S0 (C.add p) {G with β:=dp G.β p w.heap.size} {σ with hp:=dp σ.hp p (some (false,cs))} (w.alloc (.cells vs.toArray T)):=by
 have aU:bO C w G (C.add p) (w.alloc (.cells vs.toArray T)) {G with β:=dp G.β p w.heap.size}:=
  ⟨fun _ h=>⟨rfl,h⟩,fun _ h=> .inl h,fun _ _ h=>h,fun b o hs=>World.cell?_alloc_lt w _ _ (h.bL b o hs),
   fun i hi=>cS _ _ (fun e=>hp (e▸hi)),fun _ _=>rfl⟩
 refine⟨aU,?_⟩
 have hb:=h.rS
 refine⟨h.below.alloc _,h.ic,h.kG aU,h.mo aU,h.jK,fun b o hs=>by simpa using Nat.lt_succ_of_lt (h.bL b o hs),h.eP,?_,?_,?_,?_,h.dM,?_,?_,h.lz aU rfl (fun b o hs=>Below.heap_alloc w _ _ (h.bL b o hs)) (fun _ _ h _=>h),fun hz b o hs=>by
  obtain⟨cur,T,iS⟩:=h.wz hz b o hs
  exact⟨cur,T,(Below.heap_alloc w _ _ (h.bL b o hs)).trans iS⟩⟩
 ·intro id x hx
  by_cases cU:id=p
  ·exact .inr cU
  ·simp only[cS _ _ cU]at hx;exact .inl (h.lG id x hx)
 ·intro id ro pW hx
  by_cases cU:id=p
  ·subst cU
   simp only[ca,Option.some.injEq,Prod.mk.injEq]at hx
   obtain⟨rfl,rfl⟩:=hx
   refine⟨by simp only[ca];exact .inl hb,jC,ij.mk (vs:=vs) (T:=T) ?_ (hr.later aU),?_⟩
   ·simp only[ca];exact heap_alloc_new w _
   ·simp only[ca,Bool.false_eq_true,if_false]
    intro o ho
    exact absurd (h.bL _ _ ho) (by omega)
  ·simp only[cS _ _ cU]at hx
   obtain⟨h1,h2,h3,h5⟩:=h.box id ro pW hx
   simp only[cS _ _ cU]
   exact⟨h1,h2,h3.later aU (Below.heap_alloc w _ _ (h.jR hx)),h5⟩
 ·intro i j x y hi hj he
  by_cases hip:i=p
  ·by_cases hjp:j=p
   ·rw[hip,hjp]
   ·subst hip
    simp only[ca,cS _ _ hjp]at he hj
    have:=h.jR hj
    omega
  ·by_cases hjp:j=p
   ·subst hjp
    simp only[ca,cS _ _ hip]at he hi
    have:=h.jR hi
    omega
   ·simp only[cS _ _ hip,cS _ _ hjp]at he hi hj
    exact h.inj i j x y hi hj he
 ·intro g e T' t hx
  have ho:=h.own g e T' t hx
  exact ho.later aU (fun b fu=>Below.heap_alloc w _ _ (ho.dW b fu).2) (fun _ _ _ h=>h)
 ·exact h.gP
 ·intro g id x y b hx hy fu
  by_cases cU:id=p
  ·subst cU
   simp only[ca]
   have:=((h.own g x.1 x.2.1 x.2.2 hx).dW b fu).2
   omega
  ·simp only[cS _ _ cU]at hy⊢
   exact h.cz g id x y b hx hy fu
theorem cJ.abi(h:cJ w0 S0 C G σ w){id:Nat}{cs0 cs:List SC}(cU:σ.hp id=some (false,cs0))(Oe:mapOf cs0=none){vs:List Value}(hr:iD C w G cs vs)(jC:cs.all SC.scalar=true):
  bO C w G C (w.setRow (G.β id) vs.toArray) G∧cJ w0 S0 C G {σ with hp:=dp σ.hp id (some (false,cs))} (w.setRow (G.β id) vs.toArray):=by
 obtain⟨hb,_,dq,DQ⟩:=h.box id false cs0 cU
 obtain⟨vs0,T,hg,_⟩:=dq.cells Oe
 simp only[Bool.false_eq_true,if_false]at DQ
 have kz: ∀k,k≠G.β id→(w.setRow (G.β id) vs.toArray).heap[k]? =w.heap[k]? :=fun k hk=>setRow_other w _ k _ hk
 have aU:bO C w G C (w.setRow (G.β id) vs.toArray) G:=
  ⟨fun _ h=>⟨rfl,h⟩,fun _ h=>h,fun _ _ h=>h,fun b o hs=>World.cell?_of_block (kz b (fun e=>DQ o (e▸hs))),fun _ _=>rfl,fun _ _=>rfl⟩
 refine⟨aU,?_⟩
 refine⟨?_,h.ic,h.kG aU,h.mo aU,h.jK,fun b o hs=>by simpa using h.bL b o hs,h.eP,?_,?_,?_,?_,h.dM,h.gP,?_,h.lz aU rfl (fun b o hs=>kz b (fun e=>DQ o (e▸hs))) (fun _ _ h _=>h),fun hz b o hs=>by
  obtain⟨cur,T,iS⟩:=h.wz hz b o hs
  exact⟨cur,T,(kz b (fun e=>DQ o (e▸hs))).trans iS⟩⟩
 ·refine⟨h.below.os,h.below.tape,h.below.output,by simpa using h.below.size,fun k hk hm=>(kz k ?_).trans (h.below.block k hk hm)⟩
  rintro rfl
  rcases h.aaj hb with hb|hb
  ·omega
  ·exact hm hb
 ·intro i x hx
  by_cases hi:i=id
  ·subst hi;exact h.lG _ _ cU
  ·simp only[cS _ _ hi]at hx;exact h.lG i x hx
 ·intro i ro pW hx
  by_cases hi:i=id
  ·subst hi
   simp only[ca,Option.some.injEq,Prod.mk.injEq]at hx
   obtain⟨rfl,rfl⟩:=hx
   refine⟨hb,jC,ij.mk (vs:=vs) (T:=T) (setRow_heap w _ _ _ T _ hg) (hr.later aU),?_⟩
   simp only[Bool.false_eq_true,if_false];exact DQ
  ·simp only[cS _ _ hi]at hx
   obtain⟨h1,h2,h3,h5⟩:=h.box i ro pW hx
   exact⟨h1,h2,h3.later aU (kz _ (fun e=>hi (h.inj _ _ _ _ hx cU e))),h5⟩
 ·intro i j x y hi hj he
  have Cg: ∀i x,(dp σ.hp id (some (false,cs))) i=some x→ ∃x',σ.hp i=some x':=by
   intro i x hx
   by_cases KI:i=id
   ·exact⟨_,KI▸cU⟩
   ·exact⟨x,by rw[cS _ _ KI]at hx;exact hx⟩
  obtain⟨x',iA⟩:=Cg i x hi
  obtain⟨y',kU⟩:=Cg j y hj
  exact h.inj i j x' y' iA kU he
 ·intro g e T' t hx
  have ho:=h.own g e T' t hx
  exact ho.later aU (fun b fu=>kz b (h.cz g id _ _ b hx cU fu)) (fun _ _ _ h=>h)
 ·intro g i x y b hx hy fu
  by_cases KI:i=id
  ·subst KI;exact h.cz g i x _ b hx cU fu
  ·simp only[cS _ _ KI]at hy;exact h.cz g i x y b hx hy fu
theorem cJ.freeze(h:cJ w0 S0 C G σ w){id:Nat}{ro:Bool}{cs:List SC}(cU:σ.hp id=some (ro,cs))(Oe:mapOf cs=none):
  ∃G',bO C w G C w G'∧cJ w0 S0 C G' {σ with hp:=dp σ.hp id (some (true,cs))} w∧(∀o,o<cs.length→G'.S (G.β id) o)∧G'.β=G.β∧G'.τ=G.τ:=by
 obtain⟨hb,jC,dq,DQ⟩:=h.box id ro cs cU
 obtain⟨vs0,T,hg,SW⟩:=dq.cells Oe
 have aL:=h.jR cU
 refine⟨{G with S:=fun b o=>G.S b o∨(b=G.β id∧o<cs.length)},?_,?_,fun o ho=> .inr ⟨rfl,ho⟩,rfl,rfl⟩
 all_goals have aU:bO C w G C w {G with S:=fun b o=>G.S b o∨(b=G.β id∧o<cs.length)}:=
  ⟨fun _ h=>⟨rfl,h⟩,fun _ h=>h,fun _ _ h=> .inl h,fun _ _ _=>rfl,fun _ _=>rfl,fun _ _=>rfl⟩
 ·exact aU
 refine⟨h.below,fun b o hs=> .inl (h.ic b o hs),h.keep,h.pd,h.jK,?_,?_,?_,?_,?_,?_,h.dM,h.gP,?_,h.lz aU rfl (fun _ _ _=>rfl) ?_,fun hz b o hs=>by
  rcases hs with hs|⟨rfl,_⟩
  ·exact h.wz hz b o hs
  ·exact⟨_,_,hg⟩⟩
 rotate_right
 ·rintro b o (hs|⟨rfl,ho⟩) ⟨o',B4⟩
  ·exact hs
  ·cases ro with
   |true=>simp only[if_true]at DQ;exact DQ o ho
   |false=>simp only[Bool.false_eq_true,if_false]at DQ;exact absurd B4 (DQ o')
 ·rintro b o (hs|⟨rfl,_⟩)
  ·exact h.bL b o hs
  ·exact aL
 ·rintro b o (hs|⟨rfl,_⟩)
  ·exact h.eP b o hs
  ·exact .inr (h.aaj hb)
 ·intro i x hx
  by_cases hi:i=id
  ·subst hi;exact h.lG _ _ cU
  ·simp only[cS _ _ hi]at hx;exact h.lG i x hx
 ·intro i FR pW hx
  by_cases hi:i=id
  ·subst hi
   simp only[ca,Option.some.injEq,Prod.mk.injEq]at hx
   obtain⟨rfl,rfl⟩:=hx
   exact⟨hb,jC,dq.later aU rfl,by simp only[if_true];exact fun o ho=> .inr ⟨trivial,ho⟩⟩
  ·simp only[cS _ _ hi]at hx
   obtain⟨h1,h2,h3,h5⟩:=h.box i FR pW hx
   refine⟨h1,h2,h3.later aU rfl,?_⟩
   cases FR with
   |true=>simp only[if_true]at h5⊢;exact fun o ho=> .inl (h5 o ho)
   |false=>
    simp only[Bool.false_eq_true,if_false]at h5⊢
    rintro o (ho|⟨he,_⟩)
    ·exact h5 o ho
    ·exact hi (h.inj _ _ _ _ hx cU he)
 ·intro i j x y hi hj he
  have Cg: ∀i x,(dp σ.hp id (some (true,cs))) i=some x→ ∃x',σ.hp i=some x':=by
   intro i x hx
   by_cases KI:i=id
   ·exact⟨_,KI▸cU⟩
   ·exact⟨x,by rw[cS _ _ KI]at hx;exact hx⟩
  obtain⟨x',iA⟩:=Cg i x hi
  obtain⟨y',kU⟩:=Cg j y hj
  exact h.inj i j x' y' iA kU he
 ·intro g e T' t hx
  have ho:=h.own g e T' t hx
  refine ho.later aU (fun _ _=>rfl) (fun b fu o hs=> ?_)
  rcases hs with hs|⟨rfl,_⟩
  ·exact hs
  ·exact absurd rfl (h.cz g id _ _ _ hx cU fu)
 ·intro g i x y b hx hy fu
  by_cases KI:i=id
  ·subst KI;exact h.cz g i x _ b hx cU fu
  ·simp only[cS _ _ KI]at hy;exact h.cz g i x y b hx hy fu
theorem cJ.apI(h:cJ w0 S0 C G σ w){g:Tag}{e e':E}{T:TypeId}{t:Ty}(hg:σ.live g=some (e,T,t))(hex:g.ex=true){live':Tag→Option (E×TypeId×Ty)}
  (bf: ∀g' x,live' g'=some x→(g'≠g∧σ.live g'=some x)∨(g'=g∧x=(e',T,t))) {b n cap:Nat} {cur row:Array Value} {l':List D}
  (eJ:G.τ g= .slice (some ⟨b,0,none⟩) n cap) (iS:w.heap[b]? =some (.cells cur T (0,0))) (fo:row.size=cur.size)
  (F4:e'.lt C.N=true) (akx:den C.ρ e'= .list l') (hlen:l'.length=n) (eS:Has (.list t) (den C.ρ e'))
  (FO: ∀(i:Nat) d (j:Nat) v c,l'[i]? =some d→d.cells[j]? =some c→row[i*t.cells.length+j]? =some v→bj w G.S v c):
  bO C w G C (w.setRow b row) G∧cJ w0 S0 C G {σ with live:=live'} (w.setRow b row):=by
 have bM:=h.own g e T t hg
 obtain⟨xs,l0,Wm,bw,hS,hr⟩:=bM.own
 have dw:(G.τ g).ownBlock=some b:=by rw[eJ];rfl
 have Wd: ∀o,¬G.S b o:=fun o hs=>by
  have:=(hS b dw o).1 hs
  rw[hex]at this;exact Bool.noConfusion this.1
 have kz: ∀k,k≠b→(w.setRow b row).heap[k]? =w.heap[k]? :=fun k hk=>setRow_other w _ k _ hk
 have aU:bO C w G C (w.setRow b row) G:=
  ⟨fun _ h=>⟨rfl,h⟩,fun _ h=>h,fun _ _ h=>h,fun b' o hs=>World.cell?_of_block (kz b' (fun e=>Wd o (e▸hs))),fun _ _=>rfl,fun _ _=>rfl⟩
 have hb:gH w0 S0 b:=h.dM g _ b hg dw
 have Cg: ∀g' x,live' g'=some x→ ∃y,σ.live g'=some y:=by
  intro g' x hx
  rcases bf g' x hx with⟨_,h2⟩|⟨rfl,_⟩
  ·exact⟨_,h2⟩
  ·exact⟨_,hg⟩
 refine⟨aU,?_⟩
 refine⟨?_,h.ic,h.kG aU,h.mo aU,h.jK,fun b o hs=>by simpa using h.bL b o hs,h.eP,h.lG,?_,h.inj,?_,?_,?_,?_,h.lz aU rfl (fun b' o hs=>kz b' (fun e=>Wd o (e▸hs))) (fun _ _ h _=>h),fun hz b' o hs=>by
  obtain⟨aie,T',aky⟩:=h.wz hz b' o hs
  exact⟨aie,T',(kz b' (fun e=>Wd o (e▸hs))).trans aky⟩⟩
 ·refine⟨h.below.os,h.below.tape,h.below.output,by simpa using h.below.size,fun k hk hm=>(kz k ?_).trans (h.below.block k hk hm)⟩
  rintro rfl
  rcases hb with hb|hb
  ·omega
  ·exact hm hb
 ·intro i ro pW hx
  obtain⟨h1,h2,h3,h5⟩:=h.box i ro pW hx
  exact⟨h1,h2,h3.later aU (kz _ (Ne.symm (h.cz g i _ _ b hg hx dw))),h5⟩
 ·intro g' e1 T1 t1 hx
  rcases bf g' _ hx with⟨dH,hl⟩|⟨rfl,hl⟩
  ·have ho:=h.own g' e1 T1 t1 hl
   exact ho.later aU (fun b' fu=>kz b' (fun e=>dH (h.gP g' g _ _ b' hl hg fu (e▸dw)))) (fun _ _ _ h=>h)
  ·simp only[Prod.mk.injEq]at hl
   obtain⟨rfl,rfl,rfl⟩:=hl
   obtain⟨mZ,hh⟩:=bw
   rcases hh with⟨hv,_⟩|⟨b',Ec,aie,hv,fu,TH,yL,H9,gS,tp⟩
   ·rw[eJ]at hv;cases hv
   ·rw[eJ]at hv
    injection hv with FN Oa hv3
    injection FN with FN
    injection FN with FN
    subst FN;subst hv3
    rw[iS]at TH
    injection TH with TH
    injection TH with TH
    subst TH
    have OD:n≤cap:=by omega
    have hle:n*t1.cells.length≤row.toList.length:=by
     simp only[Array.length_toList];rw[fo,gS];exact Nat.mul_le_mul_right _ OD
    have xO:(row.toList.take (n*t1.cells.length)).length=n*t1.cells.length:=by rw[List.length_take];omega
    refine⟨bM.m,F4,eS,row.toList.take (n*t1.cells.length),l',akx,⟨by rw[xO,hlen], .inr ⟨b,cap,row,by rw[eJ,hlen],fu,?_,by omega,H9,by rw[fo];exact gS,by rw[hlen]⟩⟩,?_,?_⟩
    ·exact setRow_heap w _ _ _ _ _ iS
    ·intro b1 tH o
     have:b1=b:=by rw[dw]at tH;injection tH with tH;exact tH.symm
     subst this
     rw[hex]
     exact⟨fun hs=>(Wd o hs).elim,fun hs=>Bool.noConfusion hs.1⟩
    ·intro i d j v c h1 h2 h3
     refine(FO i d j v c h1 h2 ?_).keep aU.S aU.cell
     rw[List.getElem?_take]at h3
     split at h3
     ·simpa using h3
     ·cases h3
 ·intro g' x b' hx fu
  obtain⟨y,hy⟩:=Cg g' x hx
  exact h.dM g' y b' hy fu
 ·intro g1 g2 x y b' hx hy tH tG
  obtain⟨x',iA⟩:=Cg g1 x hx
  obtain⟨y',kU⟩:=Cg g2 y hy
  exact h.gP g1 g2 x' y' b' iA kU tH tG
 ·intro g' id x y b' hx hy fu
  obtain⟨x',iA⟩:=Cg g' x hx
  exact h.cz g' id x' y b' iA hy fu
end
theorem dD(b o j:Nat):(⟨b,o,none⟩:Addr).add j=⟨b,o+j,none⟩:=by unfold Addr.add;split<;>simp_all
section
variable{P:Program}(w:World)
theorem fT(base:Nat)(t ty e:TypeId)(i:TypeInfo)(z:Value)(size:Nat)(ht:P.underlying t=some (.slice e))(hi:P.info? e=some i)(hz:i.zero=some z)
  (K4:i.size=size) (sX:z.cells.size=size)
  (v:Value) (n:Nat) (xs:List Value) (bw:w.ownsRow base e size v n xs)
  (A:Option Addr) (m c:Nat) (news:List Value) (hA:A=none→m=0) (hl:news.length=m*size)
  (qJ: ∀a,A=some a→ ∀(j:Nat) u,news[j]? =some u→w.cell? (a.add j)=some u) (h1: ∀u∈news,u.oneCell'=true)
  (h63:n+m≤maxLen) (EF:(n+m)*i.bytes≤140737488355328) (Le:base≤w.heap.size):
  ∃v' w',(Builtin.append_ #[t,t] ty #[v, .slice A m c]).run P w= .ok v' w'∧w'.ownsRow base e size v' (n+m) (xs++news)∧
   ((v'.ownBlock=v.ownBlock∧w.grownBy w' v.ownBlock)∨(v'.ownBlock=some w.heap.size∧w.grownBy w' none)):=by
 subst K4
 have Ax:n+m≤9223372036854775807:=by simp only[maxLen]at h63;omega
 have hlen:(xs++news).length=(n+m)*i.size:=by rw[List.length_append,bw.1,hl,Nat.add_mul]
 by_cases hm:m=0
 ·subst hm
  have hn:news=[] :=List.eq_nil_of_length_eq_zero (by simpa using hl)
  subst hn
  refine⟨v,w,?_,by simpa using bw, .inl ⟨rfl,⟨rfl,rfl,rfl,Nat.le_refl _,fun _ _ _=>rfl⟩⟩⟩
  rcases bw.2 with⟨rfl,rfl⟩|⟨g,cap,cur,rfl,_,_,yL,_⟩
  ·cases A<;>simp[Builtin.append_,run_underlying ht,sizeOf,typeInfo,hi,Builtin.lenOf,Builtin.firstCells,loadCells,loadCellsFrom]
  ·cases A<;>simp[Builtin.append_,run_underlying ht,sizeOf,typeInfo,hi,Builtin.lenOf,Builtin.firstCells,yL,storeCells,loadCells,loadCellsFrom]
 ·obtain⟨a,rfl⟩: ∃a,A=some a:=by
   cases A with
   |none=>exact absurd (hA rfl) hm
   |some a=>exact⟨a,rfl⟩
  have qJ:=qJ a rfl
  have grown: ∀(zg:Nat),zg<n+m→
    (w.drew.alloc (.cells (xs.toArray++news.toArray++Builtin.zeroCells z.cells (grownCap w (n+m) zg e-(n+m))) e)).ownsRow base e i.size
     (.slice (some ⟨w.heap.size,0,none⟩) (n+m) (grownCap w (n+m) zg e)) (n+m) (xs++news)∧
    w.grownBy (w.drew.alloc (.cells (xs.toArray++news.toArray++Builtin.zeroCells z.cells (grownCap w (n+m) zg e-(n+m))) e)) none:=by
   intro zg ho
   have lR:=grownCap_ge w (n+m) zg e
   have H9:grownCap w (n+m) zg e≤maxLen:=grownCap_le_maxLen w (n+m) zg e h63
   refine⟨⟨hlen, .inr ⟨w.heap.size,_,_,rfl,Le,heap_alloc_new w.drew _,lR,H9,?_,?_⟩⟩,⟨rfl,rfl,rfl,by simp,fun k hk _=>heap_alloc_old w.drew _ k hk⟩⟩
   ·simp only[Array.size_append,List.size_toArray,size_zeroCells,sX,bw.1,hl,←Nat.add_mul]
    congr 1
    omega
   ·simp only[Array.toList_append,List.append_assoc]
    rw[←List.append_assoc,←hlen]
    exact List.take_left
  rcases bw.2 with⟨rfl,rfl⟩|⟨g,cap,cur,rfl,hbg,hg,yL,H9,gS,tp⟩
  ·have hx:xs=[] :=List.eq_nil_of_length_eq_zero (by simpa using bw.1)
   subst hx
   have hr:=run_append_nil (P:=P) w t ty e i z ht hi hz a m c news hl qJ (by omega) (by omega) (by have hb:=EF;simp only[Nat.zero_add]at hb;omega)
   have Wj:=grown 0 (by omega)
   simp only[Nat.zero_add,List.nil_append,Array.empty_append]at Wj⊢
   exact⟨_,_,hr,Wj.1, .inr ⟨rfl,Wj.2⟩⟩
  ·by_cases nj:n+m≤cap
   ·have iC:n*i.size+news.length≤cur.size:=by rw[hl,gS,←Nat.add_mul];exact Nat.mul_le_mul_right _ nj
    have hr:=run_append_room (P:=P) w t ty e i ht hi g n cap cur hg a m c news hl qJ h1 nj iC
    refine⟨_,_,hr,⟨hlen, .inr ⟨g,cap,_,rfl,hbg,setRow_heap w g cur _ e _ hg,nj,H9,?_,?_⟩⟩, .inl ⟨rfl,⟨rfl,rfl,rfl,by simp,fun k _ hk=>setRow_other w g k _ (fun e=>hk (by simp[Value.ownBlock,e]))⟩⟩⟩
    ·simp only[List.size_toArray,List.length_append,List.length_take,List.length_drop,Array.length_toList]
     omega
    ·rw[tp,←hlen]
     exact List.take_left
   ·have holds: ∀(j:Nat) u,xs[j]? =some u→w.cell? ((⟨g,0,none⟩:Addr).add j)=some u:=bw.cells (g:=g) rfl
    have hr:=run_append_grow (P:=P) w t ty e i z ht hi hz ⟨g,0,none⟩ n cap xs bw.1 holds a m c news hl qJ (by omega) (by omega) (growslice_fits (by omega) EF)
    have Wj:=grown cap (by omega)
    exact⟨_,_,hr,Wj.1, .inr ⟨rfl,Wj.2⟩⟩
end
section
variable{C:Cx}{w w' w0:World}{G:Gh}{S0:ew}{σ:St}{p:Nat}
theorem gh.mono{base GK:Nat}{g:Tag}{e:E}{T:TypeId}{t:Ty}(h:gh C w base G g e T t)(hb:GK≤base):gh C w GK G g e T t:=by
 obtain⟨xs,l,hd,bw,Qi⟩:=h.own
 refine⟨h.m,h.lt,h.has,xs,l,hd,⟨bw.1,?_⟩,Qi⟩
 rcases bw.2 with hn|⟨b,cap,cur,hv,OO,hg⟩
 ·exact .inl hn
 ·exact .inr ⟨b,cap,cur,hv,by omega,hg⟩
theorem cJ.called(h:cJ w0 S0 C G σ w)(hp: ¬C.M p){S':aO}{τ':Nat→Value}(iM:Below w.heap.size w w')(hS: ∀b o,G.S b o→S' b o)(aL: ∀b o,S' b o→b<w'.heap.size)
  (fM: ∀b o,S' b o→G.S b o∨w.heap.size≤b) (live':Tag→Option (E×TypeId×Ty)) (G':Gh)
  (hG:G'={S:=S',β:=G.β,τ:=fun g=>if g.1=p then τ' g.2 else G.τ g})
  (bf: ∀g x,live' g=some x→(g.1≠p∧σ.live g=some x)∨(g.1=p∧gh (C.add p) w' w.heap.size G' g x.1 x.2.1 x.2.2))
  (Cp: ∀j k x y b,live' (p,j)=some x→live' (p,k)=some y→(τ' j).ownBlock=some b→(τ' k).ownBlock=some b→j=k)
  (j6:S0.fr→ ∀j,zm (gH w0 S0) w' S' (τ' j)) (jg: ¬S0.wz):
  bO C w G (C.add p) w' G'∧cJ w0 S0 (C.add p) G' {σ with live:=live'} w':=by
 subst hG
 have dq: ∀k,k<w.heap.size→w'.heap[k]? =w.heap[k]? :=iM.block
 have aU:bO C w G (C.add p) w' {S:=S',β:=G.β,τ:=fun g=>if g.1=p then τ' g.2 else G.τ g}:=
  ⟨fun _ h=>⟨rfl,h⟩,fun _ h=> .inl h,hS,fun b o hs=>World.cell?_of_block (dq b (h.bL b o hs)),fun _ _=>rfl,fun g hg=>if_neg (fun e=>hp (by rw[←e];exact hg))⟩
 refine⟨aU,?_⟩
 have hb:=h.rS
 refine⟨h.below.trans (.of iM),fun b o hs=>hS b o (h.ic b o hs),h.kG aU,h.mo aU,h.jK,aL,?_,fun id x hx=> .inl (h.lG id x hx),?_,h.inj,?_,?_,?_,?_,fun hf g=> ?_,fun h=>absurd h jg⟩
 rotate_right
 ·show zm (gH w0 S0) w' S' (if g.1=p then τ' g.2 else G.τ g)
  split
  ·exact j6 hf g.2
  ·exact(h.fresh hf g).mono (fun b o hs=>dq b (h.bL b o hs)) hS (fun b o hs ⟨o',B4⟩=>by
    rcases fM b o hs with h6|h6
    ·exact h6
    ·have:=h.bL _ _ B4;omega)
 ·intro b o hs
  rcases fM b o hs with h1|h1
  ·exact h.eP b o h1
  ·exact .inr (.inl (by omega))
 ·intro id ro cs hx
  obtain⟨h1,h2,h3,h5⟩:=h.box id ro cs hx
  have aL:=h.jR hx
  refine⟨h1,h2,h3.later aU (dq _ aL),?_⟩
  cases ro with
  |true=>simp only[if_true]at h5⊢;exact fun o ho=>hS _ _ (h5 o ho)
  |false=>
   simp only[Bool.false_eq_true,if_false]at h5⊢
   intro o ho
   rcases fM _ _ ho with h6|h6
   ·exact h5 o h6
   ·omega
 ·intro g e T t hx
  rcases bf g _ hx with⟨h1,h2⟩|⟨h1,h2⟩
  ·have ho:=h.own g e T t h2
   refine ho.later aU (fun b fu=>dq b (ho.dW b fu).2) (fun b fu o hs=> ?_)
   rcases fM b o hs with h6|h6
   ·exact h6
   ·have:=(ho.dW b fu).2;omega
  ·exact h2.mono (Nat.zero_le _)
 ·intro g x b hx fq
  rcases bf g _ hx with⟨h1,h2⟩|⟨h1,h2⟩
  ·simp only[if_neg h1]at fq
   exact h.dM g x b h2 fq
  ·exact .inl (by have:=(h2.dW b fq).1;omega)
 ·intro g g' x y b hx hy fq kX
  rcases bf g _ hx with⟨h1,h2⟩|⟨h1,h2⟩<;>rcases bf g' _ hy with⟨h3,h4⟩|⟨h3,h4⟩
  ·simp only[if_neg h1]at fq;simp only[if_neg h3]at kX
   exact h.gP g g' x y b h2 h4 fq kX
  ·simp only[if_neg h1]at fq
   have h5:=((h.own g x.1 x.2.1 x.2.2 h2).dW b fq).2
   have h6:=(h4.dW b kX).1
   omega
  ·simp only[if_neg h3]at kX
   have h5:=((h.own g' y.1 y.2.1 y.2.2 h4).dW b kX).2
   have h6:=(h2.dW b fq).1
   omega
  ·obtain⟨g1,j⟩:=g
   obtain⟨g2,k⟩:=g'
   simp only at h1 h3
   subst h1;subst h3
   simp only[if_true]at fq kX
   rw[Cp j k x y b hx hy fq kX]
 ·intro g id x y b hx hy fq
  rcases bf g _ hx with⟨h1,h2⟩|⟨h1,h2⟩
  ·simp only[if_neg h1]at fq
   exact h.cz g id x y b h2 hy fq
  ·have h6:=(h2.dW b fq).1
   have h7:=h.jR hy
   intro he
   have h8:b=G.β id:=he
   omega
theorem cJ.appended(h:cJ w0 S0 C G σ w)(hp: ¬C.M p)(q:Nat){v v':Value}{T:TypeId}{t:Ty}{n m:Nat}{xs news:List Value}{l l2:List D}{e2:E}
  (fo:0<t.cells.length) (OH:l.length=n) (F2:l2.length=m)
  (V8: ∀(i:Nat) d (j:Nat) u c,l[i]? =some d→d.cells[j]? =some c→xs[i*t.cells.length+j]? =some u→bj w G.S u c)
  (B5: ∀(i:Nat) d (j:Nat) u c,l2[i]? =some d→d.cells[j]? =some c→news[i*t.cells.length+j]? =some u→bj w G.S u c)
  (hxw: ∀d∈l,d.cells.length=t.cells.length)
  (hx:xs.length=n*t.cells.length) (bw:w'.ownsRow 0 T t.cells.length v' (n+m) (xs++news))
  (dR:(v'.ownBlock=v.ownBlock∧w.grownBy w' v.ownBlock)∨(v'.ownBlock=some w.heap.size∧w.grownBy w' none))
  (live':Tag→Option (E×TypeId×Ty))
  (hold:v= .slice none 0 0∨ ∃g x,σ.live g=some x∧G.τ g=v∧live' g=none∧ ∀b,v.ownBlock=some b→(∀o,G.S b o↔Tag.ex (p,q)=false∧o<xs.length)∧ ∀o u,xs[o]? =some u→w.cell? ⟨b,o,none⟩=some u)
  (he:e2.lt C.N=true) (dC:den C.ρ e2= .list (l++l2)) (eS:Has (.list t) (den C.ρ e2))
  (bf: ∀g x,live' g=some x→(g≠(p,q)∧σ.live g=some x)∨(g=(p,q)∧x=(e2,T,t)))
  (aaW:S0.fr→Tag.ex (p,q)=false∧(v= .slice none 0 0→ ∀u∈xs,k9 (zn (gH w0 S0) w G.S) u)∧ ∀u∈news,k9 (zn (gH w0 S0) w G.S) u) (jg: ¬S0.wz):
  ∃G',bO C w G (C.add p) w' G'∧cJ w0 S0 (C.add p) G' {σ with live:=live'} w'∧G'.τ (p,q)=v':=by
 have hle:=h.rS
 have akk:(xs++news).length=(n+m)*t.cells.length:=bw.1
 have cB: ∀b o,G.S b o→w'.cell? ⟨b,o,none⟩=w.cell? ⟨b,o,none⟩:=by
  intro b o hs
  have OM:=h.bL b o hs
  rcases dR with⟨h1,h2⟩|⟨h1,h2⟩
  ·by_cases Mh:some b=v.ownBlock
   ·rcases hold with hv|⟨g,x,hg,Il,_,jN⟩
    ·rw[hv]at Mh;cases Mh
    ·obtain⟨hf,hc⟩:=jN b Mh.symm
     have ho:=((hf o).1 hs).2
     have N9:xs[o]? =some xs[o] :=av ho
     have h3:=bw.cells (g:=b) (h1.trans Mh.symm) o xs[o] (by rw[List.getElem?_append_left ho];exact N9)
     rw[dD,Nat.zero_add]at h3
     rw[h3,hc o _ N9]
   ·exact World.cell?_of_block (h2.block b OM Mh)
  ·exact World.cell?_of_block (h2.block b OM (by simp))
 have dq: ∀b,b<w.heap.size→v.ownBlock≠some b→w'.heap[b]? =w.heap[b]? :=by
  intro b hb dH
  rcases dR with⟨_,h2⟩|⟨_,h2⟩
  ·exact h2.block b hb (fun e=>dH e.symm)
  ·exact h2.block b hb (by simp)
 have hvb: ∀b,v.ownBlock=some b→gH w0 S0 b∧b<w.heap.size:=by
  intro b hb
  rcases hold with hv|⟨g,x,hg,Il,_,_⟩
  ·rw[hv]at hb;cases hb
  ·rw[←Il]at hb;exact⟨h.dM g x b hg hb,((h.own g x.1 x.2.1 x.2.2 hg).dW b hb).2⟩
 have aat: ∀b,v'.ownBlock=some b→gH w0 S0 b:=by
  intro b hb
  rcases dR with⟨h1,_⟩|⟨h1,_⟩
  ·exact(hvb b (h1▸hb)).1
  ·rw[h1]at hb;injection hb with hb;exact .inl (by omega)
 have Mu: ∀b,v'.ownBlock=some b→(v.ownBlock=some b∨b=w.heap.size):=by
  intro b hb
  rcases dR with⟨h1,_⟩|⟨h1,_⟩
  ·exact .inl (h1▸hb)
  ·rw[h1]at hb;injection hb with hb;exact .inr hb.symm
 have K4:w.heap.size≤w'.heap.size:=by rcases dR with⟨_,h2⟩|⟨_,h2⟩<;>exact h2.size
 let G':Gh:={S:=fun b o=>G.S b o∨(Tag.ex (p,q)=false∧v'.ownBlock=some b∧o<(xs++news).length),β:=G.β,τ:=fun g=>if g.1=p then v' else G.τ g}
 have eJ: ∀g:Tag,C.M g.1→(if g.1=p then v' else G.τ g)=G.τ g:=fun g hg=>if_neg (fun e=>hp (by rw[←e];exact hg))
 have aU:bO C w G (C.add p) w' G':=⟨fun _ h=>⟨rfl,h⟩,fun _ h=> .inl h,fun _ _ h=> .inl h,cB,fun _ _=>rfl,eJ⟩
 refine⟨G',aU,?_,if_pos rfl⟩
 refine⟨?_,fun b o hs=> .inl (h.ic b o hs),h.kG aU,h.mo aU,h.jK,?_,?_,fun id x hx=> .inl (h.lG id x hx),?_,h.inj,?_,?_,?_,?_,fun hf g=> ?_,fun h=>absurd h jg⟩
 rotate_right
 ·obtain⟨hq,D6,qJ⟩:=aaW hf
  ·have aqk: ∀(o:Nat) u,xs[o]? =some u→k9 (zn (gH w0 S0) w G.S) u:=by
    intro o u hu
    have lQ:o<xs.length:=(ai.1 hu).1
    rcases hold with hv|⟨g1,x1,hg1,Il,_,jN⟩
    ·exact D6 hv u (aS hu)
    ·have yT:=h.own g1 x1.1 x1.2.1 x1.2.2 hg1
     obtain⟨xs0,l0,_,K7,hS0,_⟩:=yT.own
     rcases K7.2 with⟨hn,_⟩|⟨b1,awD,awA,FN,OO,_⟩
     ·exact D6 (Il▸hn) u (aS hu)
     ·have uK:v.ownBlock=some b1:=by rw[←Il,FN];rfl
      obtain⟨Im,qf⟩:=jN b1 uK
      have hS1:G.S b1 o:=(Im o).2 ⟨hq,lQ⟩
      have h3:=(hS0 b1 (by rw[FN];rfl) o).1 hS1
      have h4:=h.fresh hf g1 _ _ _ FN
      rw[FN]at h4
      rcases h4 with h4|⟨b2,o2,h5,h6⟩
      ·have h7:xs0.length=l0.length*_:=K7.1
       rw[h4,Nat.zero_mul]at h7
       omega
      ·simp only[Option.some.injEq,Addr.mk.injEq]at h5
       obtain⟨rfl,_⟩:=h5
       exact(zn.set _ _ _ b1 h6).2.2.2 o u hS1 (qf o u hu)
   have hX:QI (gH w0 S0) w' G'.S (fun b=>zn (gH w0 S0) w G.S b∨(v'.ownBlock=some b∧0<(xs++news).length)):=by
    intro b hb
    by_cases qC:v'.ownBlock=some b
    ·have ev:0<(xs++news).length∨zn (gH w0 S0) w G.S b:=hb.elim .inr (fun h=> .inl h.2)
     have ake: ∃o,G'.S b o:=by
      rcases ev with h1|h1
      ·exact⟨0, .inr ⟨hq,qC,h1⟩⟩
      ·obtain⟨o,ho⟩:=(zn.set _ _ _ b h1).2.1
       exact⟨o, .inl ho⟩
     have hcz: ∃cur T,w'.heap[b]? =some (.cells cur T (0,0)):=by
      rcases bw.2 with⟨hv,_⟩|⟨b2,cap,cur,hv,_,BX,_⟩
      ·rw[hv]at qC;cases qC
      ·rw[hv]at qC
       simp only[Value.ownBlock,Option.some.injEq]at qC
       subst qC
       exact⟨_,_,BX⟩
     refine⟨aat b qC,ake,hcz,fun o u hs hu=> ?_⟩
     have main:o<(xs++news).length→k9 (fun b=>zn (gH w0 S0) w G.S b∨(v'.ownBlock=some b∧0<(xs++news).length)) u:=by
      intro ho
      have h3:=bw.cells (g:=b) qC o (xs++news)[o] (av ho)
      rw[dD,Nat.zero_add,hu]at h3
      injection h3 with h3
      have h4:(xs++news)[o]? =some u:=by rw[h3];exact av ho
      by_cases hox:o<xs.length
      ·rw[List.getElem?_append_left hox]at h4
       exact(aqk o u h4).mono fun b hb=> .inl hb
      ·rw[List.getElem?_append_right (by omega)]at h4
       exact(qJ u (aS h4)).mono fun b hb=> .inl hb
     rcases hs with hs|⟨_,_,hs⟩
     ·rcases Mu b qC with h6|h6
      ·rcases hold with hv|⟨g',x',wO,Il,GA,jN⟩
       ·rw[hv]at h6;cases h6
       ·have:=((jN b h6).1 o).1 hs
        exact main (by rw[List.length_append];omega)
      ·have:=h.bL b o hs;omega
     ·exact main hs
    ·rcases hb with hb|⟨hb,_⟩
     ·obtain⟨h1,⟨o1,h2⟩,⟨UE,T0,h4⟩,h3⟩:=zn.set _ _ _ b hb
      have CX:w'.heap[b]? =w.heap[b]? :=by
       rcases dR with⟨h5,h6⟩|⟨_,h6⟩
       ·exact h6.block b (h.bL b o1 h2) (fun e=>qC (h5.trans e.symm))
       ·exact h6.block b (h.bL b o1 h2) (by simp)
      refine⟨h1,⟨o1, .inl h2⟩,⟨UE,T0,CX.trans h4⟩,fun o u hs hu=> ?_⟩
      rcases hs with hs|⟨_,hs,_⟩
      ·exact(h3 o u hs (by rw[←cB b o hs];exact hu)).mono fun b hb=> .inl hb
      ·exact absurd hs qC
     ·exact absurd hb qC
   show zm (gH w0 S0) w' G'.S (if g.1=p then v' else G.τ g)
   split
   ·intro a0 n0 Py CO
    rcases bw.2 with⟨hv,_⟩|⟨b,cap,cur,hv,_⟩
    ·rw[hv];exact .inl rfl
    ·rw[hv]
     by_cases h0:n+m=0
     ·exact .inl h0
     ·refine .inr ⟨b,0,rfl,_,hX, .inr ⟨by rw[hv];rfl,?_⟩⟩
      rw[akk]
      exact Nat.mul_pos (by omega) fo
   ·exact fun a0 n0 Py CO=>(h.fresh hf g a0 n0 Py CO).mono fun b hb=>⟨_,hX, .inl hb⟩
 ·rcases dR with⟨_,h2⟩|⟨_,h2⟩
  ·refine⟨h2.os.trans h.below.os,h2.tape.trans h.below.tape,h2.output.trans h.below.output,Nat.le_trans h.below.size h2.size,fun k hk hm=>(h2.block k (by omega) (fun e=> ?_)).trans (h.below.block k hk hm)⟩
   rcases (hvb k e.symm).1 with h3|h3
   ·omega
   ·exact hm h3
  ·exact h.below.trans ⟨h2.os,h2.tape,h2.output,h2.size,fun k hk _=>h2.block k hk (by simp)⟩
 ·rintro b o (hs|⟨_,hb,_⟩)
  ·have:=h.bL b o hs;omega
  ·exact(bw.lt b hb).2
 ·rintro b o (hs|⟨_,hb,_⟩)
  ·exact h.eP b o hs
  ·exact .inr (aat b hb)
 ·intro id ro cs iA
  obtain⟨h1,h2,h3,h5⟩:=h.box id ro cs iA
  have aL:=h.jR iA
  have dH: ∀b,v.ownBlock=some b→b≠G.β id:=by
   intro b hb
   rcases hold with hv|⟨g,x,hg,Il,_,_⟩
   ·rw[hv]at hb;cases hb
   ·rw[←Il]at hb;exact h.cz g id x _ b hg iA hb
  refine⟨h1,h2,h3.later aU (dq _ aL (fun e=>dH _ e rfl)),?_⟩
  cases ro with
  |true=>simp only[if_true]at h5⊢;exact fun o ho=> .inl (h5 o ho)
  |false=>
   simp only[Bool.false_eq_true,if_false]at h5⊢
   rintro o (ho|⟨_,hb,_⟩)
   ·exact h5 o ho
   ·rcases Mu _ hb with h6|h6
    ·exact dH _ h6 rfl
    ·have h7:G.β id=w.heap.size:=h6
     omega
 ·intro g e T' t' iA
  rcases bf g _ iA with⟨h1,h2⟩|⟨h1,h2⟩
  ·have ho:=h.own g e T' t' h2
   have ahV: ∀b,(G.τ g).ownBlock=some b→v.ownBlock≠some b:=by
    intro b hb qC
    rcases hold with hv|⟨g',x,wO,Il,GA,_⟩
    ·rw[hv]at qC;cases qC
    ·rw[←Il]at qC
     have:=h.gP g g' _ x b h2 wO hb qC
     have B3:live' g=some (e,T',t'):=iA
     rw[this,GA]at B3;cases B3
   refine ho.later aU (fun b hb=>dq b (ho.dW b hb).2 (ahV b hb)) (fun b hb o hs=> ?_)
   rcases hs with hs|⟨_,hs,_⟩
   ·exact hs
   ·rcases Mu b hs with h6|h6
    ·exact absurd h6 (ahV b hb)
    ·have:=(ho.dW b hb).2;omega
  ·subst h1
   simp only[Prod.mk.injEq]at h2
   obtain⟨rfl,rfl,rfl⟩:=h2
   refine⟨.inr rfl,he,eS,xs++news,l++l2,dC,?_,?_,?_⟩
   ·show w'.ownsRow 0 T' t'.cells.length (if p=p then v' else _) _ _
    rw[if_pos rfl,List.length_append,OH,F2];exact bw
   ·intro b hb o
    have fu:v'.ownBlock=some b:=by simpa [G']using hb
    constructor
    ·rintro(hs|⟨hq,_,hs⟩)
     ·rcases Mu b fu with h6|h6
      ·rcases hold with hv|⟨g',x,wO,Il,GA,jN⟩
       ·rw[hv]at h6;cases h6
       ·have:=((jN b h6).1 o).1 hs
        rw[List.length_append];exact⟨this.1,by omega⟩
      ·have:=h.bL b o hs;omega
     ·exact⟨hq,hs⟩
    ·intro ho;exact .inr ⟨ho.1,fu,ho.2⟩
   ·intro i d j u c h1 h2 h3
    by_cases hi:i<l.length
    ·rw[List.getElem?_append_left hi]at h1
     have hj:j<d.cells.length:=(ai.1 h2).1
     have hw:=hxw d (aS h1)
     have aL:i*t'.cells.length+j<xs.length:=by
      rw[hx,←OH]
      have:(i+1)*t'.cells.length≤l.length*t'.cells.length:=Nat.mul_le_mul_right _ hi
      rw[Nat.add_mul]at this
      omega
     rw[List.getElem?_append_left aL]at h3
     exact(V8 i d j u c h1 h2 h3).keep aU.S aU.cell
    ·rw[List.getElem?_append_right (by omega)]at h1
     have lR:xs.length≤i*t'.cells.length+j:=by
      rw[hx,←OH]
      exact Nat.le_trans (Nat.mul_le_mul_right _ (by omega)) (Nat.le_add_right _ _)
     rw[List.getElem?_append_right lR]at h3
     refine(B5 (i-l.length) d j u c h1 h2 ?_).keep aU.S aU.cell
     rw[←h3,hx,←OH,Nat.sub_mul]
     congr 1
     have:l.length*t'.cells.length≤i*t'.cells.length:=Nat.mul_le_mul_right _ (by omega)
     omega
 ·intro g x b iA fq
  rcases bf g _ iA with⟨h1,h2⟩|⟨h1,h2⟩
  ·have h3:g.1≠p:=fun TG=>hp (TG▸(h.own g x.1 x.2.1 x.2.2 h2).m)
   simp only[G',if_neg h3]at fq
   exact h.dM g x b h2 fq
  ·subst h1
   simp only[G',if_true]at fq
   exact aat b fq
 ·intro g g' x y b iA kU fq kX
  have key: ∀g x,g.1≠p∨g≠(p,q)→live' g=some x→σ.live g=some x:=by
   intro g x dH hl
   rcases bf g _ hl with⟨_,h2⟩|⟨h1,_⟩
   ·exact h2
   ·subst h1;rcases dH with dH|dH<;>exact absurd rfl dH
  have Ug: ∀g x,g≠(p,q)→σ.live g=some x→live' g=some x→g.1≠p:=by
   intro g x _ hs _ TG
   exact hp (TG▸(h.own g x.1 x.2.1 x.2.2 hs).m)
  have XQ: ∀g x,g≠(p,q)→live' g=some x→(G.τ g).ownBlock=some b→v'.ownBlock=some b→False:=by
   intro g x dH hl hb fu
   have hs:=key g x (.inr dH) hl
   have ho:=h.own g x.1 x.2.1 x.2.2 hs
   rcases Mu b fu with h6|h6
   ·rcases hold with hv|⟨g',x',wO,Il,GA,_⟩
    ·rw[hv]at h6;cases h6
    ·rw[←Il]at h6
     have:=h.gP g g' _ x' b hs wO hb h6
     rw[this,GA]at hl;cases hl
   ·have:=(ho.dW b hb).2;omega
  by_cases h1:g=(p,q)<;>by_cases h2:g'=(p,q)
  ·rw[h1,h2]
  ·subst h1
   have h3:=Ug g' y h2 (key g' y (.inr h2) kU) kU
   simp only[G',if_true,if_neg h3]at fq kX
   exact(XQ g' y h2 kU kX fq).elim
  ·subst h2
   have h3:=Ug g x h1 (key g x (.inr h1) iA) iA
   simp only[G',if_true,if_neg h3]at fq kX
   exact(XQ g x h1 iA fq kX).elim
  ·have h3:=Ug g x h1 (key g x (.inr h1) iA) iA
   have h4:=Ug g' y h2 (key g' y (.inr h2) kU) kU
   simp only[G',if_neg h3,if_neg h4]at fq kX
   exact h.gP g g' x y b (key g x (.inr h1) iA) (key g' y (.inr h2) kU) fq kX
 ·intro g id x y b iA kU fq
  rcases bf g _ iA with⟨h1,h2⟩|⟨h1,h2⟩
  ·have h3:g.1≠p:=fun TG=>hp (TG▸(h.own g x.1 x.2.1 x.2.2 h2).m)
   simp only[G',if_neg h3]at fq
   exact h.cz g id x y b h2 kU fq
  ·subst h1
   simp only[G',if_true]at fq
   rcases Mu b fq with h6|h6
   ·rcases hold with hv|⟨g',x',wO,Il,_,_⟩
    ·rw[hv]at h6;cases h6
    ·rw[←Il]at h6;exact h.cz g' id x' _ b wO kU h6
   ·have h7:=h.jR kU
    intro he
    have h8:b=G.β id:=he
    omega
end
abbrev aA:=Ty×Option (Nat×TypeId)
structure Ob where
 shape:List Bool
 ba:List (List aA)
 outs:List (List aA)
 fresh:Bool
def Ob.wV(ob:Ob):Bool:=ob.shape.isEmpty&&ob.ba.isEmpty&&(ob.outs.length==2)
def Ob.mv(ob:Ob):Bool:=ob.fresh&&(ob.outs.length==ob.ba.length)
def Ob.new(ob:Ob):Bool:=ob.fresh&& !(ob.outs.length==ob.ba.length)
theorem Ob.Ez{ob:Ob}(h:ob.mv=true):ob.new=false:=by
 unfold Ob.mv at h;unfold Ob.new
 simp only[aw]at h
 rw[h.1,h.2];rfl
structure bS where
 params:List Ty
 res:List (Bool×List aA)
 ob:Option Ob
structure AH where
 ps:List Ty
 t:Ty
 T:TypeId
 kt:Ty
 TM:TypeId
 nn:Option (bS×Ty):=none
structure lD where
 l:List (Nat×bS)
 ex:List Nat
 fr:Nat
 mp:List (TypeId×Ty):=[]
 et:List (Nat×AH):=[]
inductive Item where
 |KP (pc:bI) (b:Bool)
 |iP (pc:bI) (e:E)
 |call (p f:Nat) (args:E) (pc:bI)
 |room (pc:bI) (e:E) (bytes:Nat)
def flat(P:Program):Nat→TypeId→Option (List Ty)
 |0,_=>none
 |n+1,t=>
  match P.underlying t with
  |some (.int k)=>some [.int k]
  |some .bool=>some [.bool]
  |some .string=>some [.str]
  |some (.slice e)=>
   match P.underlying e,flat P n e with
   |some (.struct _),some l=>some [.list (.agg (.bQ l))]
   |_,some [x] =>some [.list x]
   |_,_=>none
  |some (.pointer e)=>(flat P n e).map fun l=> [.ptr (.bQ l)]
  |some (.struct fs)=>fs.toList.foldr (fun f acc=>match flat P n f.type,acc with|some a,some b=>some (a++b)|_,_=>none) (some [])
  |_=>none
def GF:Nat:=8
def GG:Nat:=12
def tyV(P:Program)(t:TypeId):Option Ty:=
 match P.underlying t,flat P GG t with
 |some (.struct _),some l=>some (.agg (.bQ l))
 |some _,some [x] =>some x
 |_,_=>none
def pB:Ty→Value→Option SC
 | .int k, .int k' n=>if k'=k∧kr k n then some (.eV (.ao k n) (.int k)) else none
 | .bool, .bool b=>some (.eV (.cF b) .bool)
 | .str, .string s=>some (.eV (.Ci s) .str)
 | .list t, .slice none 0 0=>some (.lU t)
 | .ptr fs, .pointer none=>some (.eV .eW (.ptr fs))
 |_,_=>none
def Ch(P:Program)(σ:St)(hint:TypeId):Operand→Option (bI×SV)
 | .tmp t=>σ.tm t
 | .const (.int k n)=>(pB (.int k) (.int k n)).map fun c=>([], .one c)
 | .const .nilFunc=>some ([], .one .IH)
 | .const v=>match tyV P hint with
  |some t=>(pB t v).map fun c=>([], .one c)
  |none=>none
 | .func f=>some ([], .one (.eV (.un (.fnc f) .nil) (.fn f .nil)))
 | .global _=>none
def EX(c pc:bI):Bool:=c.all pc.contains
def dz(P:Program)(σ:St)(pc:bI)(x:Operand)(hint:TypeId):Option SV:=
 match Ch P σ hint x with
 |some (c,s)=>if EX c pc then some s else none
 |none=>none
def asData:SC→Option (E×Ty)
 | .eV e t=>some (e,t)
 | .lU t=>some (.nil, .list t)
 | .own _ e t=>some (e, .list t)
 | .clip e t=>some (e, .list t)
 |_=>none
def eQ:List SC→Option (List E×List Ty)
 | [] =>some ([],[])
 |c::r=>match asData c,eQ r with
  |some (e,t),some (es,ts)=>some (e::es,t::ts)
  |_,_=>none
theorem fS{cs:List SC}{x:List E×List Ty}(h:eQ cs=some x):mapOf cs=none:=by
 unfold mapOf
 split
 ·simp[eQ,asData]at h
 ·rfl
def nB:SV→Option (E×Ty)
 | .one c=>asData c
 | .agg l=>match eQ l with
  |some (es,ts)=>some (.un .agg (.bQ es), .agg (.bQ ts))
  |none=>none
 | .cW _=>none
def cV(P:Program)(σ:St)(pc:bI)(x:Operand)(hint:TypeId):Option (E×Ty):=(dz P σ pc x hint).bind nB
def jY(e:E):Nat→List Ty→List SC
 |_,[] => []
 |j,t::r=> .eV (.un (.cell j) e) t::jY e (j+1) r
def kR:SV→Option (List SC)
 | .one (.eV e (.agg fs))=>some (jY e 0 fs.ak)
 | .one c=>some [c]
 | .agg l=>some l
 | .cW _=>none
def fY(P:Program)(t:TypeId):Bool:=match P.underlying t with|some (.struct _)=>true|some (.array ..)=>true|_=>false
def fG(P:Program)(t:TypeId):Option Nat:=(P.info? t).map (·.size)
def Au(t:Ty)(c a b:E):E:=
 match t,a,b with
 | .bool,a, .cF false=> .bin .and c a
 | .bool, .cF true,b=> .bin .or c b
 |_,a,b=> .ite c a b
section
variable{P:Program}{C:Cx}{w:World}{G:Gh}{σ:St}{a:Act}
theorem DA{t:Ty}{v:Value}{c:SC}(h:pB t v=some c):pX C w G c v∧c.scalar=true:=by
 unfold pB at h
 split at h
 ·split at h
  ·rename_i hk
   injection h with h;subst h
   obtain⟨rfl,hi⟩:=hk
   exact⟨⟨rfl, .int _ _,bF.2 ⟨_,rfl,hi⟩⟩,rfl⟩
  ·cases h
 ·injection h with h;subst h;exact⟨⟨rfl, .bool _,bA.2 ⟨_,rfl⟩⟩,rfl⟩
 ·injection h with h;subst h;exact⟨⟨rfl, .str _,kP.2 ⟨_,rfl⟩⟩,rfl⟩
 ·injection h with h;subst h;exact⟨rfl,rfl⟩
 ·injection h with h;subst h;exact⟨⟨rfl, .eW,jV.2 (.inl rfl)⟩,rfl⟩
 ·cases h
theorem CI{ρ:Nat→D}{c pc:bI}(h:EX c pc=true)(bY:aq ρ pc=true):aq ρ c=true:=by
 unfold aq EX at*
 rw[aV]at*
 intro x hx
 exact bY x (by simpa using h x hx)
theorem UT(ht:fI C w G σ.tm a){hint:TypeId}{x:Operand}{c:bI}{s:SV}(h:Ch P σ hint x=some (c,s))(hc:aq C.ρ c=true):wQ C w G s (a.eval x):=by
 cases x with
 |tmp t=>
  obtain⟨v,h1,_,_,h2⟩:=ht t c s h
  rw[if_pos hc]at h2
  simpa [Act.eval,h1]using h2
 |const v=>
  have key: ∀(t:Ty),(pB t v).map (fun c=>(([] :bI),SV.one c))=some (c,s)→wQ C w G s v:=by
   intro t h
   simp only[br,Prod.mk.injEq]at h
   obtain⟨c',h1,_,rfl⟩:=h
   exact(DA h1).1
  cases v<;>simp only[Ch]at h<;>first
   |exact key _ h
   |(injection h with h;injection h with h1 h2;subst h2;exact .inr rfl)
   |(split at h
     ·exact key _ h
     ·cases h)
 |func f=>
  simp only[Ch,Option.some.injEq,Prod.mk.injEq]at h
  obtain⟨_,rfl⟩:=h
  refine⟨rfl,?_,jl.2 ⟨[],rfl,bE.2 rfl⟩⟩
  exact bj.fn f [] [] rfl (by intro i v d hi;simp at hi)
 |global g=>cases h
theorem bg(ht:fI C w G σ.tm a){pc:bI}(bY:aq C.ρ pc=true){hint:TypeId}{x:Operand}{s:SV}(h:dz P σ pc x hint=some s):wQ C w G s (a.eval x):=by
 unfold dz at h
 split at h
 ·rename_i c s' ho
  split at h
  ·rename_i hi
   injection h with h;subst h
   exact UT ht ho (CI hi bY)
  ·cases h
 ·cases h
theorem NR{t:Ty}{v:Value}{c:SC}{n:Nat}(h:pB t v=some c):c.lt n=true:=by
 unfold pB at h
 split at h
 ·split at h
  ·injection h with h;subst h;rfl
  ·cases h
 all_goals first|(injection h with h;subst h;rfl)|cases h
theorem Vw(ht:fI C w G σ.tm a){pc:bI}{hint:TypeId}{x:Operand}{s:SV}(h:dz P σ pc x hint=some s):s.lt C.N=true:=by
 unfold dz at h
 split at h
 ·rename_i c s' ho
  split at h
  ·injection h with h;subst h
   cases x with
   |tmp t=>exact(ht t c s' ho).choose_spec.2.2.1
   |const v=>
    have key: ∀(t:Ty),(pB t v).map (fun c=>(([] :bI),SV.one c))=some (c,s')→s'.lt C.N=true:=by
     intro t h
     simp only[br,Prod.mk.injEq]at h
     obtain⟨c',h1,_,rfl⟩:=h
     exact NR h1
    cases v<;>simp only[Ch]at ho<;>first
     |exact key _ ho
     |(injection ho with ho;injection ho with h1 h2;subst h2;rfl)
     |(split at ho
       ·exact key _ ho
       ·cases ho)
   |func f=>
    simp only[Ch,Option.some.injEq,Prod.mk.injEq]at ho
    obtain⟨_,rfl⟩:=ho
    rfl
   |global g=>cases ho
  ·cases h
 ·cases h
theorem DE{c:SC}{e:E}{t:Ty}{n:Nat}(h:asData c=some (e,t))(hc:c.lt n=true):e.lt n=true:=by
 cases c<;>simp only[asData]at h
 all_goals first|cases h;done|(injection h with h;simp only[Prod.mk.injEq]at h;obtain⟨rfl,rfl⟩:=h;first|rfl|exact hc)
theorem BC{n:Nat}: ∀{l:List SC} {es:List E} {ts:List Ty},eQ l=some (es,ts)→l.all (SC.lt n)=true→(E.bQ es).lt n=true
 | [],es,ts,h,_=>by
  simp only[eQ,Option.some.injEq,Prod.mk.injEq]at h
  obtain⟨rfl,rfl⟩:=h;rfl
 |c::l,es,ts,h,hl=>by
  simp only[eQ]at h
  simp only[List.all_cons,aw]at hl
  split at h
  ·rename_i e t tg Tj h1 h2
   injection h with h;simp only[Prod.mk.injEq]at h;obtain⟨rfl,rfl⟩:=h
   simp[E.bQ,E.lt,DE h1 hl.1,BC h2 hl.2]
  ·cases h
theorem LF(ht:fI C w G σ.tm a){pc:bI}{hint:TypeId}{x:Operand}{e:E}{t:Ty}(h:cV P σ pc x hint=some (e,t)):e.lt C.N=true:=by
 unfold cV at h
 cases hs:dz P σ pc x hint with
 |none=>simp[hs]at h
 |some s=>
  simp only[hs,Option.bind_some]at h
  have h0:=Vw ht hs
  cases s with
  |one c=>exact DE h h0
  |agg l=>
   simp only[nB]at h
   split at h
   ·rename_i es ts h1
    injection h with h;simp only[Prod.mk.injEq]at h;obtain⟨rfl,rfl⟩:=h
    exact BC h1 h0
   ·cases h
  |cW l=>cases h
theorem jw{c:SC}{e:E}{t:Ty}{v:Value}(h:asData c=some (e,t))(hr:pX C w G c v):e.lt C.N=true∧bj w G.S v (den C.ρ e)∧Has t (den C.ρ e):=by
 cases c<;>simp only[asData]at h
 ·injection h with h;simp only[Prod.mk.injEq]at h;obtain⟨rfl,rfl⟩:=h;exact hr
 ·injection h with h;simp only[Prod.mk.injEq]at h;obtain⟨rfl,rfl⟩:=h
  simp only[pX]at hr;subst hr
  exact⟨rfl, .nil none 0,aD.2 ⟨[],rfl,db _,by simp⟩⟩
 ·injection h with h;simp only[Prod.mk.injEq]at h;obtain⟨rfl,rfl⟩:=h;exact⟨hr.2.1,hr.2.2.1,hr.2.2.2.1⟩
 ·injection h with h;simp only[Prod.mk.injEq]at h;obtain⟨rfl,rfl⟩:=h;exact⟨hr.1,hr.2.1,hr.2.2.1⟩
 all_goals cases h
theorem kJ: ∀{l:List SC} {es:List E} {ts:List Ty} {vs:List Value},eQ l=some (es,ts)→iD C w G l vs→
  (E.bQ es).lt C.N=true∧es.length=vs.length∧ts.length=vs.length∧(∀(i:Nat) v e,vs[i]? =some v→es[i]? =some e→bj w G.S v (den C.ρ e))∧bV (.bQ ts) (es.map (den C.ρ))
 | [],es,ts,vs,h,hr=>by
  simp only[eQ,Option.some.injEq,Prod.mk.injEq]at h
  obtain⟨rfl,rfl⟩:=h
  have hv:vs=[] :=List.eq_nil_of_length_eq_zero hr.1
  subst hv
  exact⟨rfl,rfl,rfl,by intro i v e hi;simp at hi,bE.2 rfl⟩
 |c::l,es,ts,vs,h,hr=>by
  simp only[eQ]at h
  split at h
  ·rename_i e t tg Tj h1 h2
   injection h with h;simp only[Prod.mk.injEq]at h;obtain⟨rfl,rfl⟩:=h
   cases vs with
   |nil=>have:=hr.1;simp at this
   |cons v vs=>
    have FO:iD C w G l vs:=⟨by simpa using hr.1,fun i c v hi hv=>hr.2 (i+1) c v (by simpa using hi) (by simpa using hv)⟩
    obtain⟨k1,k2,k3,k4,k5⟩:=kJ h2 FO
    obtain⟨m1,m2,m3⟩:=jw h1 (hr.2 0 c v rfl rfl)
    refine⟨by simp[E.bQ,E.lt,m1,k1],by simp[k2],by simp[k3],?_,aa.2 ⟨_,_,rfl,m3,k5⟩⟩
    intro i u e' hi he
    cases i with
    |zero=>simp at hi he;subst hi;subst he;exact m2
    |succ i=>exact k4 i u e' (by simpa using hi) (by simpa using he)
  ·cases h
theorem Kz{s:SV}{e:E}{t:Ty}{v:Value}(h:nB s=some (e,t))(hr:wQ C w G s v):e.lt C.N=true∧bj w G.S v (den C.ρ e)∧Has t (den C.ρ e):=by
 cases s with
 |one c=>exact jw h hr
 |agg l=>
  simp only[nB]at h
  split at h
  ·rename_i es ts h1
   injection h with h;simp only[Prod.mk.injEq]at h;obtain⟨rfl,rfl⟩:=h
   obtain⟨vs,rfl,hs⟩:=hr
   obtain⟨k1,k2,k3,k4,k5⟩:=kJ h1 hs
   refine⟨by simpa [E.lt]using k1,?_,?_⟩
   ·simp only[den,dG,U.den,D.ak]
    refine .agg vs _ (by simp[k2]) fun i v d hi hd=> ?_
    simp only[List.getElem?_map,br]at hd
    obtain⟨e,he,rfl⟩:=hd
    exact k4 i v e hi he
   ·simp only[den,dG,U.den,D.ak]
    exact cu.2 ⟨_,rfl,k5⟩
  ·cases h
 |cW l=>cases h
theorem bT(ht:fI C w G σ.tm a){pc:bI}(bY:aq C.ρ pc=true){hint:TypeId}{x:Operand}{e:E}{t:Ty}(h:cV P σ pc x hint=some (e,t)):
  e.lt C.N=true∧bj w G.S (a.eval x) (den C.ρ e)∧Has t (den C.ρ e):=by
 unfold cV at h
 cases hs:dz P σ pc x hint with
 |none=>simp[hs]at h
 |some s=>simp only[hs,Option.bind_some]at h;exact Kz h (bg ht bY hs)
theorem pS(e:E): ∀(ts:List Ty) (j i:Nat),(jY e j ts)[i]? =(ts[i]?).map fun t=>SC.eV (.un (.cell (j+i)) e) t
 | [],j,i=>by simp[jY]
 |t::ts,j,0=>by simp[jY]
 |t::ts,j,i+1=>by simp only[jY,List.getElem?_cons_succ,pS e ts (j+1) i];congr 2;funext t;congr 3;omega
theorem pR(e:E): ∀(ts:List Ty) (j:Nat),(jY e j ts).length=ts.length
 | [],_=>rfl
 |_::ts,j=>by simp[jY,pR e ts]
theorem dX{l:List D}{i:Nat}{d:D}(h:l[i]? =some d):l.getD i .top=d:=by simp[List.getD,h]
theorem pK{s:SV}{l:List SC}{v:Value}(h:kR s=some l)(hr:wQ C w G s v)(jC:l.all SC.scalar=true): ∃vs:List Value,v.cells=vs.toArray∧iD C w G l vs:=by
 cases s with
 |one c=>
  by_cases hc: ∃e fs,c= .eV e (.agg fs)
  ·obtain⟨e,fs,rfl⟩:=hc
   simp only[kR,Option.some.injEq]at h
   subst h
   obtain⟨h1,h2,h3⟩:=hr
   obtain⟨l,hl,hh,cs,rfl,hlen,hc⟩:=h2.QH h3
   refine⟨cs,rfl,by rw[pR,hlen,dZ hh],fun i c v hi hv=> ?_⟩
   rw[pS]at hi
   simp only[br]at hi
   obtain⟨t,ht,rfl⟩:=hi
   obtain⟨x,hx,Ik⟩:=bX hh i t ht
   have hd:den C.ρ (.un (.cell (0+i)) e)=x:=by simp only[den,U.den,hl,D.ak,Nat.zero_add];exact dX hx
   exact⟨by simpa [E.lt]using h1,by rw[hd];exact hc i v x hv hx,by rw[hd];exact Ik⟩
  ·have h':l=[c] :=by
    cases c with
    |eV e t=>cases t<;>simp only[kR,Option.some.injEq]at h<;>first|exact h.symm|exact absurd ⟨_,_,rfl⟩ hc
    |_=>simp only[kR,Option.some.injEq]at h;exact h.symm
   subst h'
   simp only[List.all_cons,List.all_nil,Bool.and_true]at jC
   have ho:=pX.gq hr jC
   refine⟨[v],by cases v<;>simp[Value.cells,Value.oneCell']at ho⊢,rfl,fun i c' u hi hu=> ?_⟩
   cases i with
   |zero=>simp at hi hu;subst hi;subst hu;exact hr
   |succ i=>simp at hi
 |agg l'=>
  simp only[kR,Option.some.injEq]at h;subst h
  obtain⟨vs,rfl,hs⟩:=hr
  exact⟨vs,rfl,hs⟩
 |cW l'=>cases h
theorem Kg(ρ:Nat→D)(t:Ty)(c x y:E)(hx:(den ρ c).eh=true→Has t (den ρ x))(hy:(den ρ c).eh=false→Has t (den ρ y)):
  den ρ (Au t c x y)=if(den ρ c).eh then den ρ x else den ρ y:=by
 unfold Au
 split
 ·simp only[den,B.den]
  cases Io:(den ρ c).eh with
  |false=>simp
  |true=>obtain⟨b,hb⟩:=bA.1 (hx Io);simp[hb,D.eh]
 ·simp only[den,B.den]
  cases Io:(den ρ c).eh with
  |false=>obtain⟨b,hb⟩:=bA.1 (hy Io);simp[hb,D.eh]
  |true=>simp
 ·rfl
theorem Nw{N:Nat}{t:Ty}{c x y:E}(hc:c.lt N=true)(hx:x.lt N=true)(hy:y.lt N=true):(Au t c x y).lt N=true:=by
 unfold Au
 split<;>simp_all [E.lt]
end
abbrev Pl:=SV×List Item
def ct(C:Cx)(Φ:Nat→List D→D)(Pre:Nat→List D→Prop):Item→Prop
 | .KP pc b=>aq C.ρ pc=b
 | .iP pc e=>e.lt C.N=true∧(aq C.ρ pc=true→(den C.ρ e).eh=true)
 | .call p f args pc=>args.lt C.N=true∧p<C.N∧C.ρ p=Φ f (den C.ρ args).ak∧(aq C.ρ pc=true→Pre f (den C.ρ args).ak)
 | .room pc e bytes=>e.lt C.N=true∧(aq C.ρ pc=true→(den C.ρ e).ak.length≤maxLen∧(den C.ρ e).ak.length*bytes≤140737488355328)
def ig(P:Program)(C:Cx)(w:World)(G:Gh)(a:Act)(o:Oper)(s:SV):Prop:=
 ∃v,(execOp a.eval o).run P w= .ok (.value v) w∧wQ C w G s v
def Am(P:Program)(σ:St)(pc:bI)(o:Oper):Option Pl:=
 match o.op with
 | .move x| .assign x=>(dz P σ pc x o.type).map fun s=>(s,[])
 |_=>none
def Ei(P:Program)(σ:St)(pc:bI)(o:Oper):Option Pl:=
 match o.op with
 | .pick c x y=>
  match cV P σ pc c o.type with
  |some (ec, .bool)=>
   match cV P σ ((ec,true)::pc) x o.type,cV P σ ((ec,false)::pc) y o.type with
   |some (ex,tx),some (ey,ty)=>if tx=ty then some (.one (.eV (Au tx ec ex ey) tx),[]) else none
   |_,_=>none
  |_=>none
 |_=>none
def aa9:BinOp→IntKind→Option (B×Bool×Bool)
 | .add,k=>some (.add k,false,false)
 | .sub,k=>some (.sub k,false,false)
 | .mul,k=>some (.mul k,false,false)
 | .rem,k=>some (.rem k,false,true)
 | .quo,k=>some (.quo k,false,true)
 | .xor,k=>some (.xor k,false,false)
 | .lss,_=>some (.lt,true,false)
 | .leq,_=>some (.le,true,false)
 | .gtr,_=>some (.gt,true,false)
 | .geq,_=>some (.ge,true,false)
 | .eql,_=>some (.eq,true,false)
 | .neq,_=>some (.ne,true,false)
 |_,_=>none
def Wq(P:Program):Nat→TypeId→List (E×Ty)→List (E×Ty)→Option E
 |0,_,_,_=>none
 |n+1,t,xs,ys=>
  match P.underlying t with
  |some (.int _)=>match xs,ys with
   | [(x, .int k)],[(y, .int k')] =>if k=k' then some (.bin .eq x y) else none
   |_,_=>none
  |some .bool=>match xs,ys with
   | [(x, .bool)],[(y, .bool)] =>some (.bin .beq x y)
   |_,_=>none
  |some (.struct fs)=>
   if P.stoodInHeld t then none else
   fs.toList.foldr (fun f acc=>match acc,fG P f.type with
    |some r,some sz=>
     if f.name≠ "_" ∧f.offset+sz≤xs.length∧f.offset+sz≤ys.length then
      match Wq P n f.type ((xs.drop f.offset).take sz) ((ys.drop f.offset).take sz) with
      |some e=>some (.bin .and e r)
      |none=>none
     else none
    |_,_=>none) (some (.cF true))
  |_=>none
def gO(e:E):Nat→List Ty→List (E×Ty)
 |_,[] => []
 |j,t::r=>(.un (.cell j) e,t)::gO e (j+1) r
def vK(P:Program)(σ:St)(pc:bI)(o:Oper):Option Pl:=
 match o.op with
 | .binOp op xt x y _=>
  match dz P σ pc x xt,cV P σ pc y xt,P.underlying xt with
  |some (.one (.pa _ _)),some (.eW, .ptr _),some (.pointer _)=>
   match op with
   | .eql=>some (.one (.eV (.cF false) .bool),[])
   | .neq=>some (.one (.eV (.cF true) .bool),[])
   |_=>none
  |_,_,_=>none
 |_=>none
def KY(P:Program)(σ:St)(pc:bI)(o:Oper):Option Pl:=
 match o.op with
 | .binOp op xt x y _=>
  match cV P σ pc x xt,cV P σ pc y xt with
  |some (ex, .int k),some (ey, .int k')=>
   if k=k' then
    match aa9 op k with
    |some (b,isB,nz)=>some (.one (.eV (.bin b ex ey) (if isB then .bool else .int k)),if nz then [.iP pc (.bin .ne ey (.ao k 0))] else [])
    |none=>none
   else none
  |some (ex, .bool),some (ey, .bool)=>
   match op,P.underlying xt with
   | .eql,some .bool=>some (.one (.eV (.bin .beq ex ey) .bool),[])
   | .neq,some .bool=>some (.one (.eV (.un .not (.bin .beq ex ey)) .bool),[])
   |_,_=>none
  |some (ex, .agg fs),some (ey, .agg gs)=>
   match fY P xt,P.eqGuardType P.depth xt,Wq P GF xt (gO ex 0 fs.ak) (gO ey 0 gs.ak),op with
   |true,false,some e, .eql=>some (.one (.eV e .bool),[])
   |true,false,some e, .neq=>some (.one (.eV (.un .not e) .bool),[])
   |_,_,_,_=>none
  |some (ex, .ptr _),some (.eW, .ptr _)=>
   match op,P.underlying xt with
   | .eql,some (.pointer _)=>some (.one (.eV (.un .Aa ex) .bool),[])
   | .neq,some (.pointer _)=>some (.one (.eV (.un .not (.un .Aa ex)) .bool),[])
   |_,_=>none
  |_,_=>none
 |_=>none
def El(P:Program)(σ:St)(pc:bI)(o:Oper):Option Pl:=
 match vK P σ pc o with
 |some r=>some r
 |none=>KY P σ pc o
def O2(P:Program)(σ:St)(pc:bI)(o:Oper):Option Pl:=
 match o.op with
 | .unOp .not t x=>match cV P σ pc x t with
  |some (e, .bool)=>some (.one (.eV (.un .not e) .bool),[])
  |_=>none
 | .unOp .neg t x=>match cV P σ pc x t with
  |some (e, .int k)=>some (.one (.eV (.un (.neg k) e) (.int k)),[])
  |_=>none
 | .convert s d x=>match cV P σ pc x s,P.underlying s,P.underlying d with
  |some (e, .int _),some (.int _),some (.int k)=>some (.one (.eV (.un (.Wu k) e) (.int k)),[])
  |_,_,_=>none
 |_=>none
def r8(P:Program)(σ:St)(pc:bI)(o:Oper):Option Pl:=
 match o.op with
 | .extract x j=>match dz P σ pc x o.type with
  |some (.cW l)=>match l[j]? with
   |some (true,cs)=>some (.agg cs,[])
   |some (false,[c])=>some (.one c,[])
   |_=>none
  |_=>none
 |_=>none
def kQ(P:Program)(t:TypeId)(f:Nat):Option (Field×Nat):=
 match P.underlying t with
 |some (.struct fs)=>match fs[f]? with
  |some fl=>(fG P fl.type).map fun n=>(fl,n)
  |none=>none
 |_=>none
def nG(P:Program)(σ:St)(pc:bI)(o:Oper):Option Pl:=
 match o.op with
 | .fieldAddr t x f=>
  match kQ P t f,dz P σ pc x t with
  |some (fl,_+1),some (.one (.pa id off))=>some (.one (.pa id (off+fl.offset)),[])
  |some (fl,_+1),some (.one (.z6 l i u off))=>some (.one (.z6 l i u (off+fl.offset)),[])
  |some (fl,_+1),some (.one (.zT e fs off))=>some (.one (.zT e fs (off+fl.offset)),[])
  |some (fl,_+1),some (.one (.eV e (.box fs)))=>some (.one (.zT e fs fl.offset),[])
  |some (fl,_+1),some (.one (.tJ g i u off))=>some (.one (.tJ g i u (off+fl.offset)),[])
  |_,_=>none
 |_=>none
def Bh:SV→Option (List SC)
 | .agg l=>some l
 | .one (.eV e (.agg fs))=>some (jY e 0 fs.ak)
 |_=>none
def zu(P:Program)(σ:St)(pc:bI)(o:Oper):Option Pl:=
 match o.op with
 | .field t x f=>
  match kQ P t f,(dz P σ pc x t).bind Bh with
  |some (fl,n),some cs=>
   if(P.underlying fl.type).isSome=true∧fl.offset+n≤cs.length then
    if fY P fl.type then some (.agg ((cs.drop fl.offset).take n),[])
    else if 0<n then match cs[fl.offset]? with
     |some c=>some (.one c,[])
     |none=>none
    else none
   else none
  |_,_=>none
 |_=>none
def kF(P:Program)(σ:St)(pc:bI)(o:Oper):Option Pl:=
 match o.op with
 | .indexAddr t x (.const (.int _ n))=>
  match P.underlying t,dz P σ pc x t with
  |some (.array len el),some (.one (.pa id off))=>
   match fG P el with
   |some sz=>if 0≤n∧n<len then some (.one (.pa id (off+n.toNat*sz)),[]) else none
   |none=>none
  |_,_=>none
 |_=>none
def mq(P:Program)(σ:St)(pc:bI)(o:Oper):Option Pl:=
 match o.op with
 | .indexAddr t x i=>
  match P.underlying t,cV P σ pc x t,cV P σ pc i t with
  |some (.slice el),some (e, .list u),some (ie, .int k)=>
   if fG P el=some u.cells.length∧0<u.cells.length then
    some (.one (.z6 e ie u 0),[.iP pc (.bin .and (.bin .le (.ao k 0) ie) (.bin .lt ie (.un .len e)))])
   else none
  |_,_,_=>none
 |_=>none
def JE(e:E):Option Int:=if e.lt 0 then(match den (fun _=> .top) e with
 | .int _ n=>some n
 |_=>none) else none
def jA(P:Program)(σ:St)(pc:bI)(o:Oper):Option Pl:=
 match o.op with
 | .indexAddr t x i=>
  match P.underlying t,dz P σ pc x t,cV P σ pc i t with
  |some (.array len el),some (.one (.pa id off)),some (ie, .int _)=>
   match fG P el,JE ie with
   |some sz,some n=>if 0≤n∧n<len then some (.one (.pa id (off+n.toNat*sz)),[]) else none
   |_,_=>none
  |_,_,_=>none
 |_=>none
def nF(P:Program)(σ:St)(pc:bI)(o:Oper):Option Pl:=
 match kF P σ pc o with
 |some x=>some x
 |none=>match jA P σ pc o with
  |some x=>some x
  |none=>mq P σ pc o
def KX(P:Program)(σ:St)(pc:bI)(o:Oper):Option Pl:=
 match o.op with
 | .nilCheck x=>
  match dz P σ pc x o.type with
  |some (.one (.pa id off))=>some (.one (.pa id off),[])
  |some (.one (.zT e fs off))=>some (.one (.zT e fs off),[])
  |some (.one (.z6 l i u off))=>some (.one (.z6 l i u off),[])
  |some (.one (.tJ g i u off))=>some (.one (.tJ g i u off),[])
  |some (.one (.eV e (.box fs)))=>some (.one (.eV e (.box fs)),[])
  |some (.one (.eV e (.ptr fs)))=>some (.one (.eV e (.box fs)),[.iP pc (.un .not (.un .Aa e))])
  |_=>none
 |_=>none
def oY(P:Program)(T:TypeId)(e:E)(u:Ty)(off:Nat):Option Pl:=
 match u,fG P T with
 | .agg fs,some n=>
  if fY P T then
   if off=0∧n=fs.ak.length then some (.one (.eV e (.agg fs)),[])
   else if off+n≤fs.ak.length then some (.one (.eV (.un (.part off n) e) (.agg (.bQ ((fs.ak.drop off).take n)))),[]) else none
  else match fs.ak[off]? with
   |some t=>if t.scalar then some (.one (.eV (.un (.cell off) e) t),[]) else none
   |none=>none
 |u,_=>if fY P T=false∧off=0∧u.scalar=true then some (.one (.eV e u),[]) else none
def Ek(P:Program)(σ:St)(pc:bI)(o:Oper):Option (Pl×List Nat):=
 match o.op with
 | .load t x=>
  if(P.underlying t).isNone then none else
  match dz P σ pc x t with
  |some (.one (.pa id off))=>
   match σ.hp id with
   |some (_,cs)=>
    if(mapOf cs).isSome then none else
    if fY P t then
     match fG P t with
     |some n=>if off+n≤cs.length then some ((.agg ((cs.drop off).take n),[]),[id]) else none
     |none=>none
    else match cs[off]? with
     |some c=>some ((.one c,[]),[id])
     |none=>none
   |none=>none
  |some (.one (.z6 l i u off))=>(oY P t (.bin .idx l i) u off).map fun s=>(s,[])
  |some (.one (.zT e fs off))=>(oY P t (.un .agg e) (.agg fs) off).map fun s=>(s,[])
  |some (.one (.eV e (.box fs)))=>(oY P t (.un .agg e) (.agg fs) 0).map fun s=>(s,[])
  |_=>none
 |_=>none
def CT(P:Program)(σ:St)(pc:bI)(o:Oper):Option Pl:=
 match o.op with
 | .call {callee:= .builtin .len,args,argTypes}=>
  match args.toList,argTypes[0]? with
  | [x],some t=>match P.underlying t,cV P σ pc x t with
   |some (.slice _),some (e, .list _)=>some (.one (.eV (.un .len e) (.int .i64)),[])
   |_,_=>none
  |_,_=>none
 | .call {callee:= .builtin .min,args, .. }=>
  match args.toList with
  | [x,y] =>match cV P σ pc x o.type,cV P σ pc y o.type with
   |some (ex, .int k),some (ey, .int k')=>if k=k' then some (.one (.eV (.bin (.min k) ex ey) (.int k)),[]) else none
   |_,_=>none
  |_=>none
 | .call {callee:= .builtin .max,args, .. }=>
  match args.toList with
  | [x,y] =>match cV P σ pc x o.type,cV P σ pc y o.type with
   |some (ex, .int k),some (ey, .int k')=>if k=k' then some (.one (.eV (.bin (.max k) ex ey) (.int k)),[]) else none
   |_,_=>none
  |_=>none
 |_=>none
def zr(P:Program)(σ:St)(pc:bI)(o:Oper):Option Pl:=
 match o.op with
 | .slice t x lo hi none=>
  match P.underlying t,cV P σ pc x t with
  |some (.slice el),some (e, .list u)=>
   let lo':=match lo with
    |some i=>match cV P σ pc i t with|some (ie, .int k)=>some (ie,k)|_=>none
    |none=>some (.ao .i64 0, .i64)
   let FP:=match hi with
    |some i=>match cV P σ pc i t with|some (ie, .int k)=>some (ie,k)|_=>none
    |none=>some (.un .len e, .i64)
   match lo',FP with
   |some (l,k),some (h,_)=>
    if fG P el=some u.cells.length∧0<u.cells.length then
     some (.one (.eV (.bin .drop (.bin .take e h) l) (.list u)),[.iP pc (.bin .and (.bin .le (.ao k 0) l) (.bin .and (.bin .le l h) (.bin .le h (.un .len e))))])
    else none
   |_,_=>none
  |_,_=>none
 |_=>none
def vJ(P:Program)(σ:St)(pc:bI)(o:Oper):Option Pl:=
 match o.op with
 | .slice t x none (some hi) (some mx)=>
  match P.underlying t,cV P σ pc x t,cV P σ pc hi t,cV P σ pc mx t with
  |some (.slice el),some (e, .list u),some (h, .int k),some (m, .int _)=>
   if fG P el=some u.cells.length∧0<u.cells.length∧h=m then
    some (.one (.clip (.bin .take e h) u),[.iP pc (.bin .and (.bin .le (.ao k 0) h) (.bin .le h (.un .len e)))])
   else none
  |_,_,_,_=>none
 |_=>none
section
variable{P:Program}{C:Cx}{w:World}{G:Gh}{σ:St}{a:Act}{o:Oper}{pc:bI}{s:SV}{is:List Item}{Φ:Nat→List D→D}{Pre:Nat→List D→Prop}
theorem Dg(ht:fI C w G σ.tm a)(bY:aq C.ρ pc=true)(h:Am P σ pc o=some (s,is)):ig P C w G a o s:=by
 unfold Am at h
 split at h
 all_goals first
  |cases h;done
  |(rename_i x ho
    simp only[br,Prod.mk.injEq]at h
    obtain⟨s',h1,rfl,_⟩:=h
    exact⟨a.eval x,by unfold execOp;simp only[ho];rfl,bg ht bY h1⟩)
theorem By{ρ:Nat→D}{e:E}{b:Bool}{pc:bI}:aq ρ ((e,b)::pc)=true↔(den ρ e).eh=b∧aq ρ pc=true:=by
 simp[aq]
theorem No(ht:fI C w G σ.tm a)(bY:aq C.ρ pc=true)
  (h:Ei P σ pc o=some (s,is)):ig P C w G a o s:=by
 unfold Ei at h
 split at h
 ·rename_i c x y ho
  split at h
  ·rename_i ec hc
   split at h
   ·rename_i ex tx ey ty hx hy
    split at h
    ·rename_i FY
     subst FY
     injection h with h;simp only[Prod.mk.injEq]at h;obtain⟨rfl,_⟩:=h
     obtain⟨c1,c2,c3⟩:=bT ht bY hc
     obtain⟨b,hb⟩:=bA.1 c3
     have hv:a.eval c= .bool b:=(hb▸c2).eH
     have Io:(den C.ρ ec).eh=b:=by rw[hb];rfl
     have kx:b=true→_:=fun yN=>bT ht (By.2 ⟨Io.trans yN,bY⟩) hx
     have ky:b=false→_:=fun hbf=>bT ht (By.2 ⟨Io.trans hbf,bY⟩) hy
     refine⟨if b then a.eval x else a.eval y,?_,?_⟩
     ·unfold execOp;simp only[ho,hv,asBool];rfl
     ·have dC:=Kg C.ρ tx ec ex ey (fun h1=>(kx (Io▸h1)).2.2) (fun h1=>(ky (Io▸h1)).2.2)
      refine⟨Nw c1 (LF ht hx) (LF ht hy),?_⟩
      rw[dC,Io]
      cases b with
      |true=>exact(kx rfl).2
      |false=>exact(ky rfl).2
    ·cases h
   ·cases h
  ·cases h
 ·cases h
theorem mR(k:IntKind)(n:Int):kr k (k.wrap n):=wrap_within k n
theorem R5{k:IntKind}{x y:Int}(hx:kr k x):kr k (x.tmod y):=by
 obtain⟨h1,h2⟩:=hx
 have Oe:k.min≤0:=by cases k<;>decide
 have hM0:0≤k.max:=by cases k<;>decide
 have hn:(x.tmod y).natAbs≤x.natAbs:=by rw[Int.natAbs_tmod];exact Nat.mod_le _ _
 rcases Int.le_total 0 x with h|h
 ·have h3:=Int.tmod_nonneg y h
  exact⟨by omega,by omega⟩
 ·have e:x.tmod y= -((-x).tmod y):=by rw[Int.neg_tmod];omega
  have h3:=Int.tmod_nonneg y (show 0≤ -x by omega)
  exact⟨by omega,by omega⟩
end
section
variable{P:Program}{C:Cx}{w:World}{G:Gh}{σ:St}{a:Act}{o:Oper}{pc:bI}{s:SV}{is:List Item}{Φ:Nat→List D→D}{Pre:Nat→List D→Prop}
theorem HA{op:BinOp}{k:IntKind}{b:B}{isB nz:Bool}(h:aa9 op k=some (b,isB,nz)){x y:Int}(hx:kr k x)(hnz:nz=true→y≠0)(t:TypeId)(p q:Operand):
  ∃v,(do eqGuard op t p q (.int k x) (.int k y);binOp op t (.int k x) (.int k y):Sem Value).run P w= .ok v w∧ ∀S,bj w S v (b.den (.int k x) (.int k y))∧Has (if isB then .bool else .int k) (b.den (.int k x) (.int k y)):=by
 have hI: ∀n:Int,kr k n→Has (.int k) (.int k n):=fun n hn=>bF.2 ⟨n,rfl,hn⟩
 have hB: ∀n:Bool,Has .bool (.bool n):=fun n=>bA.2 ⟨n,rfl⟩
 cases op<;>simp only[aa9,Option.some.injEq,Prod.mk.injEq]at h<;>(try (cases h;done))<;>obtain⟨rfl,rfl,rfl⟩:=h
 case rem=>
  have hy0:=hnz rfl
  refine⟨.int k (x.tmod y),by simp[eqGuard,binOp,Op.intDiv,hy0],fun S=>⟨.int _ _,hI _ (R5 hx)⟩⟩
 case quo=>
  have hy0:=hnz rfl
  refine⟨.int k (k.wrap (x.tdiv y)),by simp[eqGuard,binOp,Op.intDiv,hy0],fun S=>⟨.int _ _,hI _ (mR _ _)⟩⟩
 all_goals first
  |exact⟨.int k (k.wrap (x+y)),by simp[eqGuard,binOp,Op.intArith],fun S=>⟨.int _ _,hI _ (mR _ _)⟩⟩
  |exact⟨.int k (k.wrap (x-y)),by simp[eqGuard,binOp,Op.intArith],fun S=>⟨.int _ _,hI _ (mR _ _)⟩⟩
  |exact⟨.int k (k.wrap (x*y)),by simp[eqGuard,binOp,Op.intArith],fun S=>⟨.int _ _,hI _ (mR _ _)⟩⟩
  |exact⟨.int k (JF k x y),by simp[eqGuard,binOp,Op.intBits,JF],fun S=>⟨.int _ _,hI _ (mR _ _)⟩⟩
  |exact⟨.bool (decide (x<y)),by simp[eqGuard,binOp,Op.intCmp],fun S=>⟨.bool _,hB _⟩⟩
  |exact⟨.bool (decide (x≤y)),by simp[eqGuard,binOp,Op.intCmp],fun S=>⟨.bool _,hB _⟩⟩
  |exact⟨.bool (decide (x>y)),by simp[eqGuard,binOp,Op.intCmp],fun S=>⟨.bool _,hB _⟩⟩
  |exact⟨.bool (decide (x≥y)),by simp[eqGuard,binOp,Op.intCmp],fun S=>⟨.bool _,hB _⟩⟩
  |exact⟨.bool (x==y),by simp[eqGuard,binOp,Op.intCmp],fun S=>⟨.bool _,hB _⟩⟩
  |exact⟨.bool (x !=y),by simp[eqGuard,binOp,Op.intCmp],fun S=>⟨.bool _,hB _⟩⟩
theorem mY{t el:TypeId}(hu:P.underlying t=some (.pointer el))(p:Option Addr)(d:Nat):(Op.equalIn (d+1) t (.pointer p) (.pointer none)).run P w= .ok p.isNone w:=by
 cases p<;>simp[Op.equalIn,run_underlying hu]
theorem nV{t el:TypeId}(hu:P.underlying t=some (.pointer el))(p:Option Addr)(x y:Operand):
  (do eqGuard .eql t x y (.pointer p) (.pointer none);binOp .eql t (.pointer p) (.pointer none):Sem Value).run P w= .ok (.bool p.isNone) w:=by
 have h1:binOp .eql t (.pointer p) (.pointer none)=(do pure (.bool (←Op.equalIn (9999+1) t (.pointer p) (.pointer none)))):=rfl
 have h2:eqGuard .eql t x y (.pointer p) (.pointer none)=pure ():=rfl
 rw[h1,h2,Sem.run_bind,Sem.run_pure,Result.andThen_ok,Sem.run_bind,mY hu];rfl
theorem nU{t el:TypeId}(hu:P.underlying t=some (.pointer el))(p:Option Addr)(x y:Operand):
  (do eqGuard .neq t x y (.pointer p) (.pointer none);binOp .neq t (.pointer p) (.pointer none):Sem Value).run P w= .ok (.bool (!p.isNone)) w:=by
 have h1:binOp .neq t (.pointer p) (.pointer none)=(do pure (.bool (!(←Op.equalIn (9999+1) t (.pointer p) (.pointer none))))):=rfl
 have h2:eqGuard .neq t x y (.pointer p) (.pointer none)=pure ():=rfl
 rw[h1,h2,Sem.run_bind,Sem.run_pure,Result.andThen_ok,Sem.run_bind,mY hu];rfl
def valOf(P:Program)(t:TypeId)(vs:List Value):Value:=if fY P t then .agg vs.toArray else vs.getD 0 undef
theorem xp{t:TypeId}{d:TypeDesc}(hu:P.underlying t=some d):(isAgg t).run P w= .ok (fY P t) w:=by
 unfold isAgg fY
 rw[Sem.run_bind,run_underlying hu w]
 simp only[Result.andThen_ok,hu]
 cases d<;>rfl
theorem fc{t:TypeId}{n:Nat}(h:fG P t=some n):(sizeOf t).run P w= .ok n w:=by
 unfold fG at h
 cases hi:P.info? t with
 |none=>simp[hi]at h
 |some i=>simp[hi]at h;simp[sizeOf,typeInfo,hi,h]
theorem qY{t:TypeId}{d:TypeDesc}(hu:P.underlying t=some d){n off:Nat}(hs:fG P t=some n)(vs:List Value)(hn:off+n≤vs.length)(h0:fY P t=false→0<n):
  (part t vs.toArray off).run P w= .ok (valOf P t ((vs.drop off).take n)) w:=by
 unfold part valOf
 rw[Sem.run_bind,xp hu]
 simp only[Result.andThen_ok]
 cases ha:fY P t with
 |true=>
  simp only[if_true,Sem.run_bind,fc hs,Result.andThen_ok,Sem.run_pure]
  congr 2
  apply Array.ext'
  simp[List.extract_eq_take_drop]
 |false=>
  have h1:=h0 ha
  have aL:off<vs.length:=by omega
  simp only[Bool.false_eq_true,if_false]
  have e1:(vs.toArray)[off]? =some vs[off] :=by simp[aL]
  have e2:((vs.drop off).take n).getD 0 undef=vs[off] :=by
   simp[List.getD,List.getElem?_drop,show 0<n from h1,aL]
  rw[e1,e2]
  rfl
def MS(ρ:Nat→D)(w:World)(S:aO)(vs:List Value)(xs:List (E×Ty)):Prop:=
 vs.length=xs.length∧ ∀(i:Nat) v x,vs[i]? =some v→xs[i]? =some x→bj w S v (den ρ x.1)∧Has x.2 (den ρ x.1)
theorem MS.cut{ρ:Nat→D}{S:aO}{vs:List Value}{xs:List (E×Ty)}(h:MS ρ w S vs xs)(off n:Nat):MS ρ w S ((vs.drop off).take n) ((xs.drop off).take n):=by
 refine⟨by simp[h.1],fun i v x hv hx=> ?_⟩
 simp only[List.getElem?_take,List.getElem?_drop]at hv hx
 split at hv
 ·rename_i hi;rw[if_pos hi]at hx;exact h.2 _ v x hv hx
 ·cases hv
theorem JD(ρ:Nat→D)(S:aO): ∀(n:Nat) (t:TypeId) (xs ys:List (E×Ty)) (e:E),Wq P n t xs ys=some e→ ∀(vx vy:List Value) (d:Nat),MS ρ w S vx xs→MS ρ w S vy ys→
  (Op.equalIn (d+n) t (valOf P t vx) (valOf P t vy)).run P w= .ok (den ρ e).eh w∧(∃b,den ρ e= .bool b)∧(fY P t=false→0<vx.length)
 |0,_,_,_,_,h=>by cases h
 |n+1,t,xs,ys,e,h=>by
  intro vx vy d hx hy
  unfold Wq at h
  split at h
  ·rename_i k0 hu
   have ha:fY P t=false:=by unfold fY;rw[hu]
   split at h
   ·rename_i x k y k'
    split at h
    ·rename_i hk
     subst hk
     injection h with h;subst h
     obtain⟨v,rfl⟩: ∃v,vx=[v] :=List.length_eq_one_iff.1 hx.1
     obtain⟨u,rfl⟩: ∃v,vy=[v] :=List.length_eq_one_iff.1 hy.1
     obtain⟨h1,h2⟩:=hx.2 0 v _ rfl rfl
     obtain⟨h3,h4⟩:=hy.2 0 u _ rfl rfl
     obtain⟨i,hi,_⟩:=bF.1 h2
     obtain⟨j,hj,_⟩:=bF.1 h4
     simp only at h1 h3 hi hj
     have e1:=(hi▸h1).bD
     have e2:=(hj▸h3).bD
     refine⟨?_,⟨_,rfl⟩,fun _=>by simp⟩
     simp only[valOf,ha,Bool.false_eq_true,if_false,List.getD_cons_zero,e1,e2,den,B.den,hi,hj,D.ab,D.eh]
     exact run_equalIn_int w (d+n) t k k0 i j hu
    ·cases h
   ·cases h
  ·rename_i hu
   have ha:fY P t=false:=by unfold fY;rw[hu]
   split at h
   ·rename_i x y
    injection h with h;subst h
    obtain⟨v,rfl⟩: ∃v,vx=[v] :=List.length_eq_one_iff.1 hx.1
    obtain⟨u,rfl⟩: ∃v,vy=[v] :=List.length_eq_one_iff.1 hy.1
    obtain⟨h1,h2⟩:=hx.2 0 v _ rfl rfl
    obtain⟨h3,h4⟩:=hy.2 0 u _ rfl rfl
    obtain⟨i,hi⟩:=bA.1 h2
    obtain⟨j,hj⟩:=bA.1 h4
    simp only at h1 h3 hi hj
    have e1:=(hi▸h1).eH
    have e2:=(hj▸h3).eH
    refine⟨?_,⟨_,rfl⟩,fun _=>by simp⟩
    simp only[valOf,ha,Bool.false_eq_true,if_false,List.getD_cons_zero,e1,e2,den,B.den,hi,hj,D.eh]
    exact run_equalIn_bool' w (d+n) t i j hu
   ·cases h
  ·rename_i fs hu
   have ha:fY P t=true:=by unfold fY;rw[hu]
   split at h
   ·cases h
   ·rename_i mj
    have hfo:P.fieldsOf t=fs:=by unfold Program.fieldsOf;rw[hu]
    have aqt:P.stoodInHeld t=false:=by simpa using mj
    have key: ∀(l:List Field) (e:E),l.foldr (fun f acc=>match acc,fG P f.type with
      |some r,some sz=>
       if f.name≠ "_" ∧f.offset+sz≤xs.length∧f.offset+sz≤ys.length then
        match Wq P n f.type ((xs.drop f.offset).take sz) ((ys.drop f.offset).take sz) with
        |some e=>some (.bin .and e r)
        |none=>none
       else none
      |_,_=>none) (some (.cF true))=some e→
      (Op.eqFields (d+n) vx.toArray vy.toArray l).run P w= .ok (den ρ e).eh w∧ ∃b,den ρ e= .bool b:=by
     intro l
     induction l with
     |nil=>
      intro e he
      simp only[List.foldr_nil,Option.some.injEq]at he
      subst he
      exact⟨rfl,_,rfl⟩
     |cons f l ih=>
      intro e he
      simp only[List.foldr_cons]at he
      split at he
      ·rename_i r sz hr fo
       split at he
       ·rename_i hc
        split at he
        ·rename_i e0 Oh
         injection he with he;subst he
         obtain⟨yJ,b,hb⟩:=ih r hr
         have cx:=hx.cut f.offset sz
         have cy:=hy.cut f.offset sz
         obtain⟨k1,⟨b0,Wn⟩,k3⟩:=JD ρ S n f.type _ _ e0 Oh _ _ d cx cy
         obtain⟨dsc,hud⟩: ∃dsc,P.underlying f.type=some dsc:=by
          cases n with
          |zero=>cases Oh
          |succ n=>
           unfold Wq at Oh
           cases hq:P.underlying f.type with
           |none=>rw[hq]at Oh;cases Oh
           |some q=>exact⟨q,rfl⟩
         have pos:fY P f.type=false→0<sz:=by
          intro h;have:=k3 h;simp only[List.length_take,List.length_drop]at this;omega
         have p1:=qY (w:=w) hud fo vx (by rw[hx.1];exact hc.2.1) pos
         have p2:=qY (w:=w) hud fo vy (by rw[hy.1];exact hc.2.2) pos
         refine⟨?_,_,rfl⟩
         simp only[Op.eqFields,if_pos hc.1,Sem.run_bind,p1,p2,Result.andThen_ok,k1]
         rw[Wn]
         cases b0 with
         |false=>simp[D.eh,den,B.den,Wn]
         |true=>simpa [D.eh,den,B.den,Wn]using yJ
        ·cases he
       ·cases he
      ·cases he
    obtain⟨k1,k2⟩:=key fs.toList e h
    refine⟨?_,k2,fun hf=>by rw[ha]at hf;cases hf⟩
    simp only[valOf,ha,if_true]
    have:=run_equalIn_struct (P:=P) w (d+n) t vx.toArray vy.toArray (by rw[hfo];exact hu) aqt
    rw[hfo]at this
    rw[show d+(n+1)=d+n+1 from rfl,this]
    exact k1
  ·cases h
theorem kI(e:E): ∀(ts:List Ty) (j i:Nat),(gO e j ts)[i]? =(ts[i]?).map fun t=>(E.un (.cell (j+i)) e,t)
 | [],j,i=>by simp[gO]
 |t::ts,j,0=>by simp[gO]
 |t::ts,j,i+1=>by simp only[gO,List.getElem?_cons_succ,kI e ts (j+1) i];congr 2;funext t;congr 3;omega
theorem Bz(e:E): ∀(ts:List Ty) (j:Nat),(gO e j ts).length=ts.length
 | [],_=>rfl
 |_::ts,j=>by simp[gO,Bz e ts]
theorem Br{ρ:Nat→D}{S:aO}{v:Value}{e:E}{fs:Ty}(hr:bj w S v (den ρ e))(hh:Has (.agg fs) (den ρ e)): ∃vs:List Value,v= .agg vs.toArray∧MS ρ w S vs (gO e 0 fs.ak):=by
 obtain⟨l,hl,hh',cs,rfl,hlen,hc⟩:=hr.QH hh
 refine⟨cs,rfl,by rw[Bz,hlen,dZ hh'],fun i v x hv hx=> ?_⟩
 rw[kI]at hx
 simp only[br]at hx
 obtain⟨t,ht,rfl⟩:=hx
 obtain⟨x,hx,Ik⟩:=bX hh' i t ht
 have hd:den ρ (.un (.cell (0+i)) e)=x:=by simp only[den,U.den,hl,D.ak,Nat.zero_add];exact dX hx
 rw[hd]
 exact⟨hc i v x hv hx,Ik⟩
theorem RV(ht:fI C w G σ.tm a)(bY:aq C.ρ pc=true)(h:KY P σ pc o=some (s,is))(eC: ∀it∈is,ct C Φ Pre it):ig P C w G a o s:=by
 unfold KY at h
 split at h
 ·rename_i op xt x y yt ho
  have mJ:(execOp a.eval o)=(do let v←(do eqGuard op xt x y (a.eval x) (a.eval y);binOp op xt (a.eval x) (a.eval y):Sem Value);pure (.value v)):=by unfold execOp;simp only[ho]
  have fin: ∀{v:Value},(do eqGuard op xt x y (a.eval x) (a.eval y);binOp op xt (a.eval x) (a.eval y):Sem Value).run P w= .ok v w→(execOp a.eval o).run P w= .ok (.value v) w:=by
   intro v hv
   rw[mJ,Sem.run_bind,hv];rfl
  split at h
  ·rename_i ex k ey k' hx hy
   obtain⟨x1,x2,x3⟩:=bT ht bY hx
   obtain⟨y1,y2,y3⟩:=bT ht bY hy
   split at h
   ·rename_i hk
    subst hk
    split at h
    ·rename_i b isB nz hb
     injection h with h;simp only[Prod.mk.injEq]at h;obtain⟨rfl,rfl⟩:=h
     obtain⟨i,hi,FP⟩:=bF.1 x3
     obtain⟨j,hj,_⟩:=bF.1 y3
     have e1:=(hi▸x2).bD
     have e2:=(hj▸y2).bD
     have hnz:nz=true→j≠0:=by
      rintro rfl
      have h7:ct C Φ Pre (.iP pc (.bin .ne ey (.ao k 0))):=eC _ (by simp)
      have:=h7.2 bY
      simpa [den,B.den,hj,D.ab,D.eh]using this
     obtain⟨v,hv,hr⟩:=HA (P:=P) (w:=w) hb FP hnz xt x y
     rw[←e1,←e2]at hv
     refine⟨v,fin hv,by simp[E.lt,x1,y1],?_⟩
     simp only[den,hi,hj]
     exact hr G.S
    ·cases h
   ·cases h
  ·rename_i ex ey hx hy
   obtain⟨x1,x2,x3⟩:=bT ht bY hx
   obtain⟨y1,y2,y3⟩:=bT ht bY hy
   obtain⟨i,hi⟩:=bA.1 x3
   obtain⟨j,hj⟩:=bA.1 y3
   have e1:=(hi▸x2).eH
   have e2:=(hj▸y2).eH
   split at h
   ·rename_i hu
    injection h with h;simp only[Prod.mk.injEq]at h;obtain⟨rfl,rfl⟩:=h
    refine⟨.bool (i==j),fin ?_,by simp[E.lt,x1,y1],?_,bA.2 ⟨_,rfl⟩⟩
    ·rw[e1,e2]
     have:=run_equalIn_bool' (P:=P) w 9999 xt i j hu
     simp[eqGuard,binOp,Op.equal,Op.maxDepth,this]
    ·simp only[den,B.den,hi,hj,D.eh];exact .bool _
   ·rename_i hu
    injection h with h;simp only[Prod.mk.injEq]at h;obtain⟨rfl,rfl⟩:=h
    refine⟨.bool (!(i==j)),fin ?_,by simp[E.lt,x1,y1],?_,bA.2 ⟨_,rfl⟩⟩
    ·rw[e1,e2]
     have:=run_equalIn_bool' (P:=P) w 9999 xt i j hu
     simp[eqGuard,binOp,Op.equal,Op.maxDepth,this]
    ·simp only[den,B.den,U.den,hi,hj,D.eh];exact .bool _
   ·cases h
  ·rename_i ex fs ey gs hx hy
   obtain⟨x1,x2,x3⟩:=bT ht bY hx
   obtain⟨y1,y2,y3⟩:=bT ht bY hy
   obtain⟨vx,ex',rx⟩:=Br x2 x3
   obtain⟨vy,ey',ry⟩:=Br y2 y3
   have ltc: ∀{N:Nat} {e:E} (he:e.lt N=true) (j:Nat) (ts:List Ty),∀z∈gO e j ts,z.1.lt N=true:=by
    intro N e he j ts z hz
    obtain⟨i,hi⟩:=List.getElem?_of_mem hz
    rw[kI]at hi
    simp only[br]at hi
    obtain⟨t,_,rfl⟩:=hi
    simpa [E.lt]using he
   have lte: ∀(N n:Nat) (t:TypeId) (xs ys:List (E×Ty)) (e:E),Wq P n t xs ys=some e→(∀z∈xs,z.1.lt N=true)→(∀z∈ys,z.1.lt N=true)→e.lt N=true:=by
    intro N n
    induction n with
    |zero=>intro t xs ys e h;cases h
    |succ n ih=>
     intro t xs ys e h pT Ov
     unfold Wq at h
     split at h
     ·split at h
      ·split at h
       ·injection h with h;subst h
        have:=pT _ (List.mem_singleton.2 rfl);have:=Ov _ (List.mem_singleton.2 rfl);simp_all [E.lt]
       ·cases h
      ·cases h
     ·split at h
      ·injection h with h;subst h
       have:=pT _ (List.mem_singleton.2 rfl);have:=Ov _ (List.mem_singleton.2 rfl);simp_all [E.lt]
      ·cases h
     ·split at h
      ·cases h
      ·rename_i fs _ _
       revert h
       generalize fs.toList=l
       intro h
       induction l generalizing e with
       |nil=>simp only[List.foldr_nil,Option.some.injEq]at h;subst h;rfl
       |cons f l ihl=>
        simp only[List.foldr_cons]at h
        split at h
        ·rename_i r sz hr fo
         split at h
         ·split at h
          ·rename_i e0 Oh
           injection h with h;subst h
           have h1:=ih f.type _ _ e0 Oh (fun z hz=>pT z (List.mem_of_mem_drop (List.mem_of_mem_take hz))) (fun z hz=>Ov z (List.mem_of_mem_drop (List.mem_of_mem_take hz)))
           simp[E.lt,h1,ihl r hr]
          ·cases h
         ·cases h
        ·cases h
     ·cases h
   split at h
   ·rename_i e ha hg he
    injection h with h;simp only[Prod.mk.injEq]at h;obtain⟨rfl,rfl⟩:=h
    obtain⟨k1,⟨b,hb⟩,_⟩:=JD (P:=P) (w:=w) C.ρ G.S GF xt _ _ e he vx vy 9992 rx ry
    simp only[valOf,ha,if_true,GF]at k1
    refine⟨.bool b,fin ?_,lte _ _ _ _ _ _ he (ltc x1 0 _) (ltc y1 0 _),by rw[hb];exact .bool b,bA.2 ⟨b,hb⟩⟩
    rw[ex',ey']
    rw[Sem.run_bind,run_eqGuard_agg w .eql xt x y _ _ hg]
    simp only[Result.andThen_ok]
    rw[run_eql_struct,k1,hb];rfl
   ·rename_i e ha hg he
    injection h with h;simp only[Prod.mk.injEq]at h;obtain⟨rfl,rfl⟩:=h
    obtain⟨k1,⟨b,hb⟩,_⟩:=JD (P:=P) (w:=w) C.ρ G.S GF xt _ _ e he vx vy 9992 rx ry
    simp only[valOf,ha,if_true,GF]at k1
    refine⟨.bool (!b),fin ?_,by simpa [E.lt]using lte _ _ _ _ _ _ he (ltc x1 0 _) (ltc y1 0 _),by simp only[den,U.den,hb,D.eh];exact .bool _,bA.2 ⟨!b,by simp only[den,U.den,hb,D.eh]⟩⟩
    rw[ex',ey']
    rw[Sem.run_bind,run_eqGuard_agg w .neq xt x y _ _ hg]
    simp only[Result.andThen_ok]
    rw[run_neq_struct,k1,hb];rfl
   ·cases h
  ·rename_i ex fs gs hx hy
   obtain⟨x1,x2,x3⟩:=bT ht bY hx
   obtain⟨y1,y2,y3⟩:=bT ht bY hy
   have e2:a.eval y= .pointer none:=by simp only[den]at y2;exact y2.oU
   have e1: ∃p,a.eval x= .pointer p∧p.isNone=(den C.ρ ex).dT:=by
    rcases jV.1 x3 with hn|⟨l,hl,_⟩
    ·exact⟨none,(hn▸x2).oU,by rw[hn];rfl⟩
    ·obtain⟨b,cs,hv,_⟩:=(hl▸x2).vp
     exact⟨_,hv,by rw[hl];rfl⟩
   obtain⟨p,hp,hpn⟩:=e1
   split at h
   ·rename_i el hu
    injection h with h;simp only[Prod.mk.injEq]at h;obtain⟨rfl,rfl⟩:=h
    refine⟨.bool p.isNone,fin ?_,by simpa [E.lt]using x1,by simp only[den,U.den,←hpn];exact .bool _,bA.2 ⟨_,rfl⟩⟩
    rw[hp,e2]
    exact nV hu p x y
   ·rename_i el hu
    injection h with h;simp only[Prod.mk.injEq]at h;obtain⟨rfl,rfl⟩:=h
    refine⟨.bool (!p.isNone),fin ?_,by simpa [E.lt]using x1,by simp only[den,U.den,D.eh,←hpn];exact .bool _,bA.2 ⟨_,rfl⟩⟩
    rw[hp,e2]
    exact nU hu p x y
   ·cases h
  ·cases h
 ·cases h
theorem HE(ht:fI C w G σ.tm a)(bY:aq C.ρ pc=true)(h:vK P σ pc o=some (s,is)):ig P C w G a o s:=by
 unfold vK at h
 split at h
 ·rename_i op xt x y yt ho
  have fin: ∀{v:Value},(do eqGuard op xt x y (a.eval x) (a.eval y);binOp op xt (a.eval x) (a.eval y):Sem Value).run P w= .ok v w→(execOp a.eval o).run P w= .ok (.value v) w:=by
   intro v hv
   have mJ:(execOp a.eval o)=(do let v←(do eqGuard op xt x y (a.eval x) (a.eval y);binOp op xt (a.eval x) (a.eval y):Sem Value);pure (.value v)):=by unfold execOp;simp only[ho]
   rw[mJ,Sem.run_bind,hv];rfl
  split at h
  ·rename_i id off ps el hx hy hu
   have e1:=(bg ht bY hx).2
   obtain⟨_,y2,_⟩:=bT ht bY hy
   have e2:a.eval y= .pointer none:=by simp only[den]at y2;exact y2.oU
   split at h
   ·injection h with h;simp only[Prod.mk.injEq]at h;obtain⟨rfl,rfl⟩:=h
    refine⟨.bool false,fin ?_,rfl, .bool _,bA.2 ⟨_,rfl⟩⟩
    rw[e1,e2]
    exact nV hu _ x y
   ·injection h with h;simp only[Prod.mk.injEq]at h;obtain⟨rfl,rfl⟩:=h
    refine⟨.bool true,fin ?_,rfl, .bool _,bA.2 ⟨_,rfl⟩⟩
    rw[e1,e2]
    exact nU hu _ x y
   ·cases h
  ·cases h
 ·cases h
theorem Nr(ht:fI C w G σ.tm a)(bY:aq C.ρ pc=true)(h:El P σ pc o=some (s,is))(eC: ∀it∈is,ct C Φ Pre it):ig P C w G a o s:=by
 unfold El at h
 split at h
 ·rename_i r hr
  injection h with h;subst h
  exact HE ht bY hr
 ·exact RV ht bY h eC
end
section
variable{P:Program}{C:Cx}{w w0:World}{S0:ew}{G:Gh}{σ:St}{a:Act}{o:Oper}{pc:bI}{s:SV}{is:List Item}{Φ:Nat→List D→D}{Pre:Nat→List D→Prop}
theorem Ly(ht:fI C w G σ.tm a)(bY:aq C.ρ pc=true)(h:O2 P σ pc o=some (s,is)):ig P C w G a o s:=by
 unfold O2 at h
 split at h
 ·rename_i t x ho
  split at h
  ·rename_i e he
   injection h with h;simp only[Prod.mk.injEq]at h;obtain⟨rfl,rfl⟩:=h
   obtain⟨x1,x2,x3⟩:=bT ht bY he
   obtain⟨b,hb⟩:=bA.1 x3
   have e1:=(hb▸x2).eH
   refine⟨.bool (!b),by unfold execOp;simp only[ho,e1];rfl,by simpa [E.lt]using x1,?_,bA.2 ⟨_,rfl⟩⟩
   simp only[den,U.den,hb,D.eh];exact .bool _
  ·cases h
 ·rename_i t x ho
  split at h
  ·rename_i e k he
   injection h with h;simp only[Prod.mk.injEq]at h;obtain⟨rfl,rfl⟩:=h
   obtain⟨x1,x2,x3⟩:=bT ht bY he
   obtain⟨b,hb,_⟩:=bF.1 x3
   have e1:=(hb▸x2).bD
   refine⟨.int k (k.wrap (0-b)),by unfold execOp;simp only[ho,e1];rfl,by simpa [E.lt]using x1,?_,bF.2 ⟨_,rfl,mR _ _⟩⟩
   simp only[den,U.den,hb,D.ab];exact .int _ _
  ·cases h
 ·rename_i s' d x ho
  split at h
  ·rename_i e k0 k1 k he hs hd
   injection h with h;simp only[Prod.mk.injEq]at h;obtain⟨rfl,rfl⟩:=h
   obtain⟨x1,x2,x3⟩:=bT ht bY he
   obtain⟨b,hb,_⟩:=bF.1 x3
   have e1:=(hb▸x2).bD
   refine⟨.int k (k.wrap b),?_,by simpa [E.lt]using x1,?_,bF.2 ⟨_,rfl,mR _ _⟩⟩
   ·unfold execOp;simp only[ho,e1,convert]
    simp[run_underlying hs,run_underlying hd,Conv.intToInt]
   ·simp only[den,U.den,hb,D.ab];exact .int _ _
  ·cases h
 ·cases h
theorem Fl(ht:fI C w G σ.tm a)(bY:aq C.ρ pc=true)(h:r8 P σ pc o=some (s,is)):ig P C w G a o s:=by
 unfold r8 at h
 split at h
 ·rename_i x j ho
  split at h
  ·rename_i l hl
   obtain⟨vs,hv,hlen,hc⟩:=bg ht bY hl
   split at h
   ·rename_i cs hj
    injection h with h;simp only[Prod.mk.injEq]at h;obtain⟨rfl,rfl⟩:=h
    have jh:j<vs.length:=by rw[hlen];exact(ai.1 hj).1
    have hvj:vs[j]? =some vs[j] :=av jh
    refine⟨vs[j],?_,?_⟩
    ·unfold execOp;simp only[ho,hv,Instr.extract]
     simp[jh]
    ·have:=hc j _ _ hj hvj
     simpa [ko,wQ]using this
   ·rename_i c hj
    injection h with h;simp only[Prod.mk.injEq]at h;obtain⟨rfl,rfl⟩:=h
    have jh:j<vs.length:=by rw[hlen];exact(ai.1 hj).1
    have hvj:vs[j]? =some vs[j] :=av jh
    refine⟨vs[j],?_,?_⟩
    ·unfold execOp;simp only[ho,hv,Instr.extract]
     simp[jh]
    ·have:=hc j _ _ hj hvj
     simpa [ko,wQ]using this
   ·cases h
  ·cases h
 ·cases h
theorem Bw{t:TypeId}{f:Nat}{fl:Field}{n:Nat}(h:kQ P t f=some (fl,n)): ∃fs,P.underlying t=some (.struct fs)∧fs[f]? =some fl∧fG P fl.type=some n:=by
 unfold kQ at h
 split at h
 ·rename_i fs hu
  split at h
  ·rename_i fl' hf
   simp only[br,Prod.mk.injEq]at h
   obtain⟨n',h1,rfl,rfl⟩:=h
   exact⟨fs,hu,hf,h1⟩
  ·cases h
 ·cases h
theorem jz{t:TypeId}{f:Nat}{fl:Field}{n:Nat}(h:kQ P t f=some (fl,n+1))(b o:Nat):
  (Instr.fieldAt t (.pointer (some ⟨b,o,none⟩)) f).run P w= .ok (.pointer (some ⟨b,o+fl.offset,none⟩)) w:=by
 obtain⟨fs,hu,hf,hs⟩:=Bw h
 have h1:=fc (P:=P) (w:=w) hs
 simp[Instr.fieldAt,run_underlying hu,hf,Instr.sureAddr,fieldPlace,h1,dD]
theorem BN(ht:fI C w G σ.tm a)(bY:aq C.ρ pc=true)(h:nG P σ pc o=some (s,is)):ig P C w G a o s:=by
 unfold nG at h
 split at h
 ·rename_i t x f ho
  have fin: ∀{v u:Value},a.eval x=v→(Instr.fieldAt t v f).run P w= .ok u w→(execOp a.eval o).run P w= .ok (.value u) w:=by
   intro v u hv hr
   unfold execOp;simp only[ho,hv]
   rw[Sem.run_bind,hr];rfl
  split at h
  ·rename_i fl n id off hf hx
   injection h with h;simp only[Prod.mk.injEq]at h;obtain⟨rfl,rfl⟩:=h
   obtain⟨h1,h2⟩:=bg ht bY hx
   exact⟨_,fin h2 (jz hf _ _),h1,rfl⟩
  ·rename_i fl n l i u off hf hx
   injection h with h;simp only[Prod.mk.injEq]at h;obtain⟨rfl,rfl⟩:=h
   obtain⟨h1,h2,b,o',u',hv,hh,hc⟩:=bg ht bY hx
   exact⟨_,fin hv (jz hf _ _),h1,h2,b,o',u',by rw[Nat.add_assoc],hh,hc⟩
  ·rename_i fl n e fs off hf hx
   injection h with h;simp only[Prod.mk.injEq]at h;obtain⟨rfl,rfl⟩:=h
   obtain⟨h1,b,l,u',hd,hl,hv,hc⟩:=bg ht bY hx
   exact⟨_,fin hv (jz hf _ _),h1,b,l,u',hd,hl,rfl,hc⟩
  ·rename_i fl n e fs hf hx
   injection h with h;simp only[Prod.mk.injEq]at h;obtain⟨rfl,rfl⟩:=h
   obtain⟨h1,h2,h3⟩:=bg ht bY hx
   obtain⟨l,hl,hh⟩:=fA.1 h3
   obtain⟨b,cs,hv,hlen,hS,hc,hr⟩:=(hl▸h2).vp
   refine⟨_,fin hv (jz hf _ _),h1,b,l,fun j=>cs.getD j undef,hl,hh,by rw[Nat.zero_add],fun j c hj=> ?_⟩
   have jh:j<cs.length:=by rw[hlen];exact(ai.1 hj).1
   have e1:cs[j]? =some (cs.getD j undef):=by simp[List.getD,jh]
   exact⟨hS j (by omega),hc j _ e1,hr j _ c e1 hj⟩
  ·rename_i fl n g i u off hf hx
   injection h with h;simp only[Prod.mk.injEq]at h;obtain⟨rfl,rfl⟩:=h
   obtain⟨h1,h2,b,cap,m,h3,h4,h5,hv⟩:=bg ht bY hx
   exact⟨_,fin hv (jz hf _ _),h1,h2,b,cap,m,h3,h4,h5,by rw[Nat.add_assoc]⟩
  ·cases h
 ·cases h
theorem iD.cut{l:List SC}{vs:List Value}(h:iD C w G l vs)(off n:Nat):iD C w G ((l.drop off).take n) ((vs.drop off).take n):=by
 refine⟨by simp[h.1],fun i c v hc hv=> ?_⟩
 simp only[List.getElem?_take,List.getElem?_drop]at hv hc
 split at hv
 ·rename_i hi;rw[if_pos hi]at hc;exact h.2 _ c v hc hv
 ·cases hv
theorem HV{s:SV}{l:List SC}{v:Value}(h:Bh s=some l)(hr:wQ C w G s v): ∃vs:List Value,v= .agg vs.toArray∧iD C w G l vs:=by
 unfold Bh at h
 split at h
 ·injection h with h;subst h;exact hr
 ·rename_i e fs
  injection h with h;subst h
  obtain⟨h1,h2,h3⟩:=hr
  obtain⟨l,hl,hh,cs,rfl,hlen,hc⟩:=h2.QH h3
  refine⟨cs,rfl,by rw[pR,hlen,dZ hh],fun i c v hi hv=> ?_⟩
  rw[pS]at hi
  simp only[br]at hi
  obtain⟨t,ht,rfl⟩:=hi
  obtain⟨x,hx,Ik⟩:=bX hh i t ht
  have hd:den C.ρ (.un (.cell (0+i)) e)=x:=by simp only[den,U.den,hl,D.ak,Nat.zero_add];exact dX hx
  exact⟨by simpa [E.lt]using h1,by rw[hd];exact hc i v x hv hx,by rw[hd];exact Ik⟩
 ·cases h
theorem J9(ht:fI C w G σ.tm a)(bY:aq C.ρ pc=true)(h:zu P σ pc o=some (s,is)):ig P C w G a o s:=by
 unfold zu at h
 split at h
 ·rename_i t x f ho
  split at h
  ·rename_i fl n cs hf hx
   cases hg:dz P σ pc x t with
   |none=>simp[hg]at hx
   |some sv=>
    simp only[hg,Option.bind_some]at hx
    split at h
    ·rename_i k7
     obtain⟨ib,hle⟩:=k7
     obtain⟨dsc,hq⟩:=Option.isSome_iff_exists.1 ib
     obtain⟨vs,ng,hr⟩:=HV hx (bg ht bY hg)
     obtain⟨fs,hu,iQ,hs⟩:=Bw hf
     have fin: ∀{u:Value},(part fl.type vs.toArray fl.offset).run P w= .ok u w→(execOp a.eval o).run P w= .ok (.value u) w:=by
      intro u hp
      unfold execOp;simp only[ho,ng,Instr.field,asAgg]
      simp[run_underlying hu,iQ,hp]
     have hlen:fl.offset+n≤vs.length:=by rw[hr.1];exact hle
     split at h
     ·rename_i ha
      injection h with h;simp only[Prod.mk.injEq]at h;obtain⟨rfl,rfl⟩:=h
      have hp:=qY (w:=w) hq hs vs hlen (fun h=>by rw[ha]at h;cases h)
      simp only[valOf,ha,if_true]at hp
      exact⟨_,fin hp,_,rfl,hr.cut _ _⟩
     ·rename_i ha
      split at h
      ·rename_i hn
       split at h
       ·rename_i c hc
        injection h with h;simp only[Prod.mk.injEq]at h;obtain⟨rfl,rfl⟩:=h
        have hp:=qY (w:=w) hq hs vs hlen (fun _=>hn)
        have aL:fl.offset<vs.length:=by omega
        have e2:((vs.drop fl.offset).take n).getD 0 undef=vs[fl.offset] :=by
         simp[List.getD,List.getElem?_drop,hn,aL]
        simp only[valOf,ha,Bool.false_eq_true,if_false,e2]at hp
        exact⟨_,fin hp,hr.2 _ c _ hc (av aL)⟩
       ·cases h
      ·cases h
    ·cases h
  ·cases h
 ·cases h
theorem Fk(ht:fI C w G σ.tm a)(bY:aq C.ρ pc=true)(h:mq P σ pc o=some (s,is))(eC: ∀it∈is,ct C Φ Pre it):ig P C w G a o s:=by
 unfold mq at h
 split at h
 ·rename_i t x i ho
  split at h
  ·rename_i el e u ie k hu hx hi
   split at h
   ·rename_i fo
    obtain⟨fo,ev⟩:=fo
    injection h with h;simp only[Prod.mk.injEq]at h;obtain⟨rfl,rfl⟩:=h
    obtain⟨x1,x2,x3⟩:=bT ht bY hx
    obtain⟨y1,y2,y3⟩:=bT ht bY hi
    obtain⟨l,hl,F2,eI⟩:=aD.1 x3
    obtain⟨n,hn,_⟩:=bF.1 y3
    have dw:ct C Φ Pre (.iP pc (.bin .and (.bin .le (.ao k 0) ie) (.bin .lt ie (.un .len e)))):=eC _ (by simp)
    have hb:=dw.2 bY
    simp only[den,B.den,U.den,hl,hn,D.ab,D.eh,D.ak,aw,aN]at hb
    obtain⟨Wn,tH⟩:=hb
    have aL:n.toNat<l.length:=by omega
    have We:l[n.toNat]? =some l[n.toNat] :=av aL
    have dC:den C.ρ (.bin .idx e ie)=l[n.toNat] :=by
     simp only[den,B.den,hl,hn,D.ab,D.ak];exact dX We
    have eS:=eI _ (aS We)
    have L6:=(bp eS).1
    obtain⟨b,off,cap,uu,hv,hc⟩:=(hl▸x2).Hf We
    have FX:a.eval i= .int k n:=(hn▸y2).bD
    refine⟨.pointer (some ⟨b,off+n.toNat*u.cells.length,none⟩),?_,x1,y1,b,off+n.toNat*u.cells.length,uu,by simp,by rw[dC];exact eS,?_⟩
    ·have h1:=fc (P:=P) (w:=w) fo
     unfold execOp;simp only[ho,hv,FX,Instr.indexAt,asIntOf]
     simp[run_underlying hu,Wn,tH,h1,dD]
    ·intro j c hj
     rw[dC]at hj
     rw[←L6]
     exact hc j c hj
   ·cases h
  ·cases h
 ·cases h
theorem CG(ht:fI C w G σ.tm a)(bY:aq C.ρ pc=true)(h:kF P σ pc o=some (s,is)):ig P C w G a o s:=by
 unfold kF at h
 split at h
 ·rename_i t x k n ho
  split at h
  ·rename_i len el id off hu hx
   split at h
   ·rename_i sz fo
    split at h
    ·rename_i hn
     obtain⟨Od,hn1⟩:=hn
     injection h with h;simp only[Prod.mk.injEq]at h;obtain⟨rfl,rfl⟩:=h
     obtain⟨h1,h2⟩:=bg ht bY hx
     refine⟨.pointer (some ⟨G.β id,off+n.toNat*sz,none⟩),?_,h1,rfl⟩
     have h3:=fc (P:=P) (w:=w) fo
     have hv:a.eval (.const (.int k n))= .int k n:=rfl
     unfold execOp;simp only[ho,h2,hv,Instr.indexAt,asIntOf]
     simp[run_underlying hu,Od,hn1,h3,dD,Instr.sureAddr]
    ·cases h
   ·cases h
  ·cases h
 ·cases h
theorem NS{e:E}{n:Int}{k:IntKind}{ρ:Nat→D}(h:JE e=some n)(hk:Has (.int k) (den ρ e)):den ρ e= .int k n:=by
 unfold JE at h
 split at h
 ·rename_i hl
  have he:den ρ e=den (fun _=> .top) e:=(bR (n:=0) (fun i hi=>by omega) hl)
  split at h
  ·rename_i k' m hd
   injection h with h;subst h
   obtain⟨m2,h2,_⟩:=bF.1 hk
   rw[he,hd]at h2
   injection h2 with h3 h4
   rw[he,hd,h3]
  ·cases h
 ·cases h
theorem BL(ht:fI C w G σ.tm a)(bY:aq C.ρ pc=true)(h:jA P σ pc o=some (s,is)):ig P C w G a o s:=by
 unfold jA at h
 split at h
 ·rename_i t x i ho
  split at h
  ·rename_i len el id off ie k hu hx hi
   split at h
   ·rename_i sz n fo hn
    split at h
    ·rename_i hn'
     obtain⟨Od,hn1⟩:=hn'
     injection h with h;simp only[Prod.mk.injEq]at h;obtain⟨rfl,rfl⟩:=h
     obtain⟨h1,h2⟩:=bg ht bY hx
     obtain⟨_,i2,i3⟩:=bT ht bY hi
     have hd:=NS hn i3
     rw[hd]at i2
     have hv:=i2.bD
     refine⟨.pointer (some ⟨G.β id,off+n.toNat*sz,none⟩),?_,h1,rfl⟩
     have h3:=fc (P:=P) (w:=w) fo
     unfold execOp;simp only[ho,h2,hv,Instr.indexAt,asIntOf]
     simp[run_underlying hu,Od,hn1,h3,dD,Instr.sureAddr]
    ·cases h
   ·cases h
  ·cases h
 ·cases h
theorem BM(ht:fI C w G σ.tm a)(bY:aq C.ρ pc=true)(h:nF P σ pc o=some (s,is))(eC: ∀it∈is,ct C Φ Pre it):ig P C w G a o s:=by
 unfold nF at h
 split at h
 ·rename_i y hy
  injection h with h;subst h
  exact CG ht bY hy
 ·split at h
  ·rename_i y hy
   injection h with h;subst h
   exact BL ht bY hy
  ·exact Fk ht bY h eC
theorem RU(ht:fI C w G σ.tm a)(bY:aq C.ρ pc=true)(h:KX P σ pc o=some (s,is))(eC: ∀it∈is,ct C Φ Pre it):ig P C w G a o s:=by
 unfold KX at h
 split at h
 ·rename_i x ho
  have fin: ∀{ad:Addr},a.eval x= .pointer (some ad)→(execOp a.eval o).run P w= .ok (.value (.pointer (some ad))) w:=by
   intro ad hv
   unfold execOp;simp only[ho,hv];rfl
  split at h
  ·rename_i id off hx
   injection h with h;simp only[Prod.mk.injEq]at h;obtain⟨rfl,rfl⟩:=h
   have hr:=bg ht bY hx
   exact⟨_,fin hr.2,hr.1,rfl⟩
  ·rename_i e fs off hx
   injection h with h;simp only[Prod.mk.injEq]at h;obtain⟨rfl,rfl⟩:=h
   have hr:=bg ht bY hx
   obtain⟨h1,b,l,u',hd,hl,hv,hc⟩:=hr
   exact⟨_,fin hv,h1,b,l,u',hd,hl,rfl,hc⟩
  ·rename_i l i u off hx
   injection h with h;simp only[Prod.mk.injEq]at h;obtain⟨rfl,rfl⟩:=h
   have hr:=bg ht bY hx
   obtain⟨h1,h2,b,o',u',hv,hh,hc⟩:=hr
   exact⟨_,fin hv,h1,h2,b,o',u',rfl,hh,hc⟩
  ·rename_i g i u off hx
   injection h with h;simp only[Prod.mk.injEq]at h;obtain⟨rfl,rfl⟩:=h
   have hr:=bg ht bY hx
   obtain⟨h1,h2,b,cap,m,h3,h4,h5,hv⟩:=hr
   exact⟨_,fin hv,h1,h2,b,cap,m,h3,h4,h5,rfl⟩
  ·rename_i e fs hx
   injection h with h;simp only[Prod.mk.injEq]at h;obtain⟨rfl,rfl⟩:=h
   have hr:=bg ht bY hx
   obtain⟨h1,h2,h3⟩:=hr
   obtain⟨l,hl,hh⟩:=fA.1 h3
   obtain⟨b,cs,hv,_⟩:=(hl▸h2).vp
   exact⟨_,fin hv,h1,by rw[←hv];exact h2,h3⟩
  ·rename_i e fs hx
   injection h with h;simp only[Prod.mk.injEq]at h;obtain⟨rfl,rfl⟩:=h
   have hr:=bg ht bY hx
   obtain⟨h1,h2,h3⟩:=hr
   have dw:ct C Φ Pre (.iP pc (.un .not (.un .Aa e))):=eC _ (by simp)
   have hb:=dw.2 bY
   rcases jV.1 h3 with hn|⟨l,hl,hh⟩
   ·simp[den,U.den,hn,D.dT,D.eh]at hb
   ·obtain⟨b,cs,hv,_⟩:=(hl▸h2).vp
    exact⟨_,fin hv,h1,by rw[←hv];exact h2,fA.2 ⟨l,hl,hh⟩⟩
  ·cases h
 ·cases h
theorem iz{t:TypeId}{n:Nat}(hs:fG P t=some n)(ha:fY P t=true){b off:Nat}{vs:List Value}(hl:vs.length=n)
  (hc: ∀(j:Nat) v,vs[j]? =some v→w.cell? ⟨b,off+j,none⟩=some v):(Instr.loadAt t (.pointer (some ⟨b,off,none⟩))).run P w= .ok (.agg vs.toArray) w:=by
 have hu: ∃d,P.underlying t=some d:=by
  unfold fY at ha
  cases hq:P.underlying t with
  |none=>rw[hq]at ha;cases ha
  |some d=>exact⟨d,rfl⟩
 obtain⟨d,hu⟩:=hu
 have h1:=xp (P:=P) (w:=w) hu
 have h2:=run_loadCells_list (P:=P) w ⟨b,off,none⟩ vs (fun j v hv=>by rw[dD];exact hc j v hv)
 rw[ha]at h1
 simp[Instr.loadAt,Instr.sureAddr,loadVar,h1,fc hs,←hl,h2]
theorem l5{t:TypeId}(ha:fY P t=false)(hu:(P.underlying t).isSome=true){ad:Addr}{v:Value}(hc:w.cell? ad=some v):(Instr.loadAt t (.pointer (some ad))).run P w= .ok v w:=by
 obtain⟨d,hu⟩:=Option.isSome_iff_exists.1 hu
 have h1:=xp (P:=P) (w:=w) hu
 rw[ha]at h1
 simp[Instr.loadAt,Instr.sureAddr,loadVar,h1,hc]
theorem nI{T:TypeId}{e:E}{u:Ty}{off:Nat}(h:oY P T e u off=some (s,is))(hu:(P.underlying T).isSome=true){b o':Nat}{uu:Nat→Value}
  (he:e.lt C.N=true) (hh:Has u (den C.ρ e)) (hc: ∀(j:Nat) c,(den C.ρ e).cells[j]? =some c→w.cell? ⟨b,o'+j,none⟩=some (uu j)∧bj w G.S (uu j) c):
  ∃v,(Instr.loadAt T (.pointer (some ⟨b,o'+off,none⟩))).run P w= .ok v w∧wQ C w G s v:=by
 have T5: ∀{t:Ty} {e':E} {c:D},fY P T=false→e'.lt C.N=true→den C.ρ e'=c→(den C.ρ e).cells[off]? =some c→Has t c→s= .one (.eV e' t)→ ∃v,(Instr.loadAt T (.pointer (some ⟨b,o'+off,none⟩))).run P w= .ok v w∧wQ C w G s v:=by
  intro t e' c ha aL hd hj TF hs
  subst hs
  obtain⟨h2,h3⟩:=hc off c hj
  exact⟨_,l5 ha hu h2,aL,by rw[hd];exact h3,by rw[hd];exact TF⟩
 unfold oY at h
 split at h
 ·rename_i fs n hs
  obtain⟨l,hl,hhl⟩:=cu.1 hh
  have hlen:=dZ hhl
  rw[hl]at hc T5
  simp only[D.cells]at hc T5
  split at h
  ·rename_i ha
   split at h
   ·rename_i iT
    obtain⟨rfl,hn⟩:=iT
    injection h with h;simp only[Prod.mk.injEq]at h;obtain⟨rfl,rfl⟩:=h
    have Ox:((List.range n).map uu).length=n:=by simp
    refine⟨_,iz hs ha (vs:=(List.range n).map uu) Ox (fun j v hv=> ?_),he,?_,hh⟩
    ·have hj:j<n:=by have:=(ai.1 hv).1;simpa using this
     simp only[List.getElem?_map,List.getElem?_range hj,Option.map_some,Option.some.injEq]at hv
     subst hv
     have jh:l[j]? =some l[j] :=av (by omega)
     exact(hc j _ jh).1
    ·rw[hl]
     refine .agg _ l (by simp[hlen,hn]) fun i v d hi hd=> ?_
     have hj:i<n:=by have:=(ai.1 hi).1;simpa using this
     simp only[List.getElem?_map,List.getElem?_range hj,Option.map_some,Option.some.injEq]at hi
     subst hi
     exact(hc i d hd).2
   ·split at h
    ·rename_i hle
     injection h with h;simp only[Prod.mk.injEq]at h;obtain⟨rfl,rfl⟩:=h
     have Ox:((List.range n).map fun j=>uu (off+j)).length=n:=by simp
     have hd:den C.ρ (.un (.part off n) e)= .agg ((l.drop off).take n):=by simp only[den,U.den,hl,D.ak]
     refine⟨_,iz hs ha (vs:=(List.range n).map fun j=>uu (off+j)) Ox (fun j v hv=> ?_),by simpa [E.lt]using he,?_,?_⟩
     ·have hj:j<n:=by have:=(ai.1 hv).1;simpa using this
      simp only[List.getElem?_map,List.getElem?_range hj,Option.map_some,Option.some.injEq]at hv
      subst hv
      have jh:l[off+j]? =some l[off+j] :=av (by omega)
      rw[Nat.add_assoc]
      exact(hc _ _ jh).1
     ·rw[hd]
      refine .agg _ _ (by simp;omega) fun i v d hi hd=> ?_
      have hj:i<n:=by have:=(ai.1 hi).1;simpa using this
      simp only[List.getElem?_map,List.getElem?_range hj,Option.map_some,Option.some.injEq]at hi
      subst hi
      simp only[List.getElem?_take,List.getElem?_drop,if_pos hj]at hd
      exact(hc _ d hd).2
     ·rw[hd]
      refine cu.2 ⟨_,rfl,fK (by simp;omega) fun j u x hj hx=> ?_⟩
      simp only[List.getElem?_take,List.getElem?_drop]at hj hx
      split at hj
      ·rename_i hjn
       rw[if_pos hjn]at hx
       obtain⟨y,hy,hhy⟩:=bX hhl _ u hj
       rw[hx]at hy;injection hy with hy;subst hy;exact hhy
      ·cases hj
    ·cases h
  ·rename_i ha
   split at h
   ·rename_i t FY
    split at h
    ·injection h with h;simp only[Prod.mk.injEq]at h;obtain⟨rfl,rfl⟩:=h
     obtain⟨x,hx,Ik⟩:=bX hhl off t FY
     have hd:den C.ρ (.un (.cell off) e)=x:=by simp only[den,U.den,hl,D.ak];exact dX hx
     exact T5 (by simpa using ha) (by simpa [E.lt]using he) hd hx Ik rfl
    ·cases h
   ·cases h
 ·rename_i u _ _ _
  split at h
  ·rename_i iT
   obtain⟨ha,rfl,jC⟩:=iT
   injection h with h;simp only[Prod.mk.injEq]at h;obtain⟨rfl,rfl⟩:=h
   obtain⟨k1,k2⟩:=bp hh
   have hu1:u.cells=[u] :=by cases u<;>first|rfl|cases jC
   rw[hu1]at k1 k2
   obtain⟨x,hx,Ik⟩:=k2 0 u rfl
   have hxd:x=den C.ρ e:=by
    generalize den C.ρ e=d at*
    cases u<;>(first|cases jC|skip)<;>simp only[bF,bA,kP,aD,fA,jV,jl]at hh
    case ptr=>rcases hh with rfl|⟨n,rfl,_⟩<;>(simp[D.cells]at hx;exact hx.symm)
    all_goals first
     |(obtain⟨n,rfl,_⟩:=hh;simp[D.cells]at hx;exact hx.symm)
     |(obtain⟨n,rfl⟩:=hh;simp[D.cells]at hx;exact hx.symm)
   exact T5 ha he hxd.symm hx (by rw[hxd];exact hh) rfl
  ·cases h
theorem Nq{rd:List Nat}(hm:cJ w0 S0 C G σ w)(ht:fI C w G σ.tm a)(bY:aq C.ρ pc=true)(h:Ek P σ pc o=some ((s,is),rd)):ig P C w G a o s:=by
 unfold Ek at h
 split at h
 ·rename_i t x ho
  have fin: ∀{v u:Value},a.eval x=v→(Instr.loadAt t v).run P w= .ok u w→(execOp a.eval o).run P w= .ok (.value u) w:=by
   intro v u hv hr
   unfold execOp;simp only[ho,hv]
   rw[Sem.run_bind,hr];rfl
  split at h
  ·cases h
  ·rename_i ib
   have ib:(P.underlying t).isSome=true:=by cases hq:P.underlying t<;>simp[hq]at ib⊢
   split at h
   ·rename_i id off hx
    have hv:=(bg ht bY hx).2
    split at h
    ·rename_i ro cs cU
     obtain⟨_,_,dq,_⟩:=hm.box id ro cs cU
     split at h
     ·cases h
     rename_i BW
     obtain⟨vs,T,hg,hr⟩:=dq.cells (by simpa using BW)
     have cB: ∀j,w.cell? ⟨G.β id,j,none⟩=vs[j]? :=by intro j;rw[cell_of_row w _ j _ T _ hg];simp
     split at h
     ·rename_i ha
      split at h
      ·rename_i n hs
       split at h
       ·rename_i hle
        injection h with h;simp only[Prod.mk.injEq]at h;obtain⟨⟨rfl,rfl⟩,rfl⟩:=h
        have hlen:((vs.drop off).take n).length=n:=by have:=hr.1;simp;omega
        refine⟨_,fin hv (iz hs ha hlen (fun j v hj=> ?_)),_,rfl,hr.cut off n⟩
        rw[cB]
        simp only[List.getElem?_take,List.getElem?_drop]at hj
        split at hj
        ·exact hj
        ·cases hj
       ·cases h
      ·cases h
     ·rename_i ha
      split at h
      ·rename_i c hc
       injection h with h;simp only[Prod.mk.injEq]at h;obtain⟨⟨rfl,rfl⟩,rfl⟩:=h
       have aL:off<vs.length:=by rw[hr.1];exact(ai.1 hc).1
       have KE:vs[off]? =some vs[off] :=av aL
       exact⟨_,fin hv (l5 (by simpa using ha) ib ((cB off).trans KE)),hr.2 off c _ hc KE⟩
      ·cases h
    ·cases h
   ·rename_i l i u off hx
    simp only[br,Prod.mk.injEq]at h
    obtain⟨⟨s',is'⟩,h1,⟨rfl,rfl⟩,rfl⟩:=h
    obtain⟨h2,h3,b,o',uu,hv,hh,hc⟩:=bg ht bY hx
    obtain⟨v,k1,k2⟩:=nI (P:=P) (C:=C) (w:=w) (G:=G) h1 ib (by simp[E.lt,h2,h3]) hh (fun j c hj=>(hc j c hj).2)
    exact⟨v,fin hv k1,k2⟩
   ·rename_i e fs off hx
    simp only[br,Prod.mk.injEq]at h
    obtain⟨⟨s',is'⟩,h1,⟨rfl,rfl⟩,rfl⟩:=h
    obtain⟨h2,b,l,uu,hd,hh,hv,hc⟩:=bg ht bY hx
    have gZ:den C.ρ (.un .agg e)= .agg l:=by simp only[den,U.den,hd,D.ak]
    obtain⟨v,k1,k2⟩:=nI (P:=P) (C:=C) (w:=w) (G:=G) (b:=b) (o':=0) (uu:=uu) h1 ib (by simpa [E.lt]using h2) (by rw[gZ];exact cu.2 ⟨l,rfl,hh⟩)
     (by rw[gZ];simp only[D.cells];intro j c hj;rw[Nat.zero_add];exact(hc j c hj).2)
    rw[Nat.zero_add]at k1
    exact⟨v,fin hv k1,k2⟩
   ·rename_i e fs hx
    simp only[br,Prod.mk.injEq]at h
    obtain⟨⟨s',is'⟩,h1,⟨rfl,rfl⟩,rfl⟩:=h
    obtain⟨h2,fa,eS⟩:=bg ht bY hx
    obtain⟨l,hd,hh⟩:=fA.1 eS
    obtain⟨b,cs,hv,hlen,hS,hc,hr⟩:=(hd▸fa).vp
    have gZ:den C.ρ (.un .agg e)= .agg l:=by simp only[den,U.den,hd,D.ak]
    obtain⟨v,k1,k2⟩:=nI (P:=P) (C:=C) (w:=w) (G:=G) (b:=b) (o':=0) (uu:=fun j=>cs.getD j undef) h1 ib (by simpa [E.lt]using h2) (by rw[gZ];exact cu.2 ⟨l,rfl,hh⟩)
     (by
      rw[gZ];simp only[D.cells];intro j c hj;rw[Nat.zero_add]
      have jh:j<cs.length:=by rw[hlen];exact(ai.1 hj).1
      have e1:cs[j]? =some (cs.getD j undef):=by simp[List.getD,jh]
      exact⟨hc j _ e1,hr j _ c e1 hj⟩)
    exact⟨v,fin hv k1,k2⟩
   ·cases h
 ·cases h
end
end Go.bZ
