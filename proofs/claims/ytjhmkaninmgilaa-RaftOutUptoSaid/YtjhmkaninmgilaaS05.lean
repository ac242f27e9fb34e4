/- Part 5 of the proof of RaftOut; no condition. -/
import Derived.Test.YtjhmkaninmgilaaS04
import Derived.KernelRfl
import Derived.Test.YtjhmkaninmgilaaProg
set_option linter.defProp false
set_option linter.unusedVariables false
set_option linter.unusedSimpArgs false
set_option maxHeartbeats 4000000
open Go.IntKind (i64)
namespace Go.Proofs.Ytjhmkaninmgilaa
open Go Go.RowKit Go.dI Go.Proofs
def uZ{d:D}(h:Has (.list (.int .i64)) d): ∃l:List Int,d= .list (l.map (D.int .i64))∧l.length*8<=140737488355328∧ ∀x∈l,-9223372036854775808<=x∧x<=9223372036854775807:=by obtain⟨l,rfl,_,g⟩:=bL.1 h;obtain⟨a,rfl⟩:=rS g;obtain⟨f,e⟩:=pB.1 h;exact⟨a,rfl,f,fun x c=>tH.1 (e x c)⟩
def vd{d:D}(h:Has mL d): ∃v l:List Int,d= .agg [.list (v.map (D.int .i64)),.list (l.map (D.int .i64))] ∧v.length*8<=140737488355328∧(∀x∈v,-9223372036854775808<=x∧x<=9223372036854775807)∧l.length*8<=140737488355328∧ ∀x∈l,-9223372036854775808<=x∧x<=9223372036854775807:=by obtain⟨_,rfl,_,_,rfl,c,_,_,rfl,a,rfl⟩:=h;obtain⟨v,rfl,i,g⟩:=uZ c;obtain⟨l,rfl,f,e⟩:=uZ a;exact⟨v,l,rfl,i,g,f,e⟩
def qX:Int->List Int->Bool
 |_,[] =>true
 |p,x::r=>(decide (1<=x)&&decide (x<=5)&&decide (p<x))&&qX x r
def uX:Int->List Int->Int
 |p,[] =>p
 |_,x::r=>uX x r
def qB: ∀{a b:List Int} {p:Int},uX p (a++b)=uX (uX p a) b
 | [],_,_=>rfl
 |x::a,b,_=>by simp only[dU,uX,qB (a:=a)]
def vo(d:D):List Int:=iT (d.A.getD 0 .top)
def lr(d:D):List Int:=iT (d.A.getD 1 .top)
def xj(v l:List Int):vo (.agg [.list (v.map (D.int .i64)),.list (l.map (D.int .i64))])=v:=fa v
def Eo(v l:List Int):lr (.agg [.list (v.map (D.int .i64)),.list (l.map (D.int .i64))])=l:=fa l
def yK(v l:List Int):Bool:=qX 0 v&&qX 0 l&& !v.isEmpty&&decide (∀x∈l,x∉v)
def Ee(v l:List Int):List Int:=Lib.compact (jV (v++l))
def x9(v a:List Int):Nat:=v.countP fun x=>decide (x∈a)
def Gc(v a:List Int):Bool:=decide ((v.length:Int)<2*(x9 v a:Int))
def mM(m:List Int)(s:Int):Int:=if 1<=s∧s<=m.length then(if 0<m.getD (s-1).toNat 0 then m.getD (s-1).toNat 0 else 0) else 0
def uS(v m:List Int):Int:=if v=[] then 0 else(jV (v.map (mM m))).getD ((v.length-1)/2) 0
def xZ(a b:List Int)(n:Nat):Nat:=(List.range n).countP fun s:Nat=>decide ((s:Int)∈a) !=decide ((s:Int)∈b)
def F9(c la a d:List Int):Bool:=yK c la&&yK a d&&decide (xZ c a 6<=1)
def Li(a b:List Int)(n:Nat):xZ a b (n+1)=xZ a b n+(if decide ((n:Int)∈a) !=decide ((n:Int)∈b) then 1 else 0):=by unfold xZ;rw[List.range_succ,List.countP_append];simp[List.countP_cons]
def QJ(a b:List Int)(n:Nat):xZ a b n<=n:=by unfold xZ;have:=List.countP_le_length (p:=fun s:Nat=>decide ((s:Int)∈a) !=decide ((s:Int)∈b)) (l:=List.range n);simpa using this
def QM(v y:List Int):x9 v y<=v.length:=List.countP_le_length
def Lq{v y:List Int}{n:Nat}{x:Int}(h:v[n]? =some x):x9 (v.take (n+1)) y=x9 (v.take n) y+(if x∈y then 1 else 0):=by unfold x9;rw[cO,h,eQ,List.countP_append];simp[List.countP_cons]
def vt(v m:List Int):(jV (v.map (mM m))).length=v.length:=by rw[pE,ak]
def zx: ∀{l:List Int} {p:Int},0<=p->qX p l=true->(l.length:Int)<=max 0 (5-p)
 | [],p,_,_=>by simp;omega
 |x::r,p,hp,h=>by simp only[qX,aS,bk]at h;obtain⟨⟨⟨e,d⟩,c⟩,a⟩:=h;have:=zx (by omega) a;simp only[bu];omega
def EW{v l:List Int}:yK v l=true↔qX 0 v=true∧qX 0 l=true∧v≠ [] ∧ ∀x∈l,x∉v:=by simp[yK,and_assoc]
def zw: ∀{l:List Int} {p:Int},qX p l=true-> ∀x∈l,1<=x∧x<=5
 | [],_,_,x,a=>by simp at a
 |y::r,p,h,x,a=>by
  simp only[qX,aS,bk]at h;obtain⟨⟨⟨e,d⟩,_⟩,c⟩:=h;rcases aD.1 a with rfl|a
  ·exact⟨e,d⟩
  ·exact zw c x a
def wx:List Int->Int->List Int
 | [],n=> [n]
 |x::r,n=>if x<n then x::wx r n else if x=n then x::r else n::x::r
def IU(v l:List Int):List Int:=l.foldl wx (v.foldl wx [])
def vQ(l:List Int):(jV l).Pairwise (· <= ·):=by have:=List.pairwise_mergeSort (le:=fun x y:Int=>decide (x<=y)) (by intro a b c e d;simp only[bk]at*;omega) (by intro a b;simp only[dt,bk];omega) l;exact this.imp (by intro a b h;simpa using h)
def H9(l:List Int):(jV l).Perm l:=List.mergeSort_perm l _
def K3{d:Tbd Int}{m:Nat}(h:Lib.keeps d m=false):0<m∧d[m]! =d[m-1]! :=by
 refine⟨?_,?_⟩
 ·rcases Nat.eq_zero_or_pos m with a|a
  ·rw[Lib.keeps_lt_one d m (by omega)]at h;cases h
  ·exact a
 ·by_cases e:d[m]! =d[m-1]!
  ·exact e
  ·rw[Lib.keeps_pos e]at h;cases h
def mJ{d:Tbd Int}: ∀{m j:Nat},j<m->d[j]! ∈Lib.compactUpTo d m
 |0,j,h=>by omega
 |m+1,j,h=>by
  rw[Lib.compactUpTo_succ];rcases Nat.lt_or_ge j m with a|a
  ·exact aA _ (mJ a)
  ·obtain rfl:j=m:=by omega
   cases hk:Lib.keeps d j with
   |true=>exact bq _ (by simp)
   |false=>
    obtain⟨e,c⟩:=K3 hk;rw[c];exact aA _ (mJ (by omega))
def yg{l:List Int}{x:Int}:x∈Lib.compact l↔x∈l:=by
 refine⟨xD,fun h=> ?_⟩;obtain⟨j,a,rfl⟩:=fS h;have:=mJ (d:=l.toArray) (m:=l.length) a
 rwa [getElem!_pos _ j (by simpa using a)]at this
def EV{v l:List Int}{x:Int}:x∈Ee v l↔x∈v∨x∈l:=by rw[Ee,yg,wW,aI]
def AW{l:List Int}(t:l.Pairwise (· <= ·)):(Lib.compact l).Pairwise (· < ·):=by
 have d: ∀i j,i<=j->j<l.length->l.toArray[i]! <=l.toArray[j]! :=by
  intro i j g p;rw[getElem!_pos _ i (by simp;omega),getElem!_pos _ j (by simpa using p)];rcases Nat.eq_or_lt_of_le g with h|h
  ·subst h;exact ba _
  ·exact List.pairwise_iff_getElem.1 t i j (by omega) p h
 have f: ∀m,m<=l.length->(Lib.compactUpTo l.toArray m).Pairwise (· < ·)∧ ∀x∈Lib.compactUpTo l.toArray m,0<m∧x<=l.toArray[m-1]! :=by
  intro m
  induction m with
  |zero=>intro _;exact⟨by simp[Lib.compactUpTo],by simp[Lib.compactUpTo]⟩
  |succ m ih=>
   intro z;obtain⟨s,q⟩:=ih (by omega);rw[Lib.compactUpTo_succ]
   have c: ∀x∈Lib.compactUpTo l.toArray m,x<=l.toArray[m]! :=fun x a=>by obtain⟨n,k⟩:=q x a;exact fV k (d (m-1) m (by omega) (by omega))
   cases hk:Lib.keeps l.toArray m with
   |true=>
    rw[if_pos rfl];refine⟨?_,?_⟩
    ·rw[List.pairwise_append];refine⟨s,by simp,fun x a y o=> ?_⟩;rw[aB]at o;subst o;obtain⟨n,k⟩:=q x a;have u:l.toArray[m]! ≠l.toArray[m-1]! :=fun e=>by rw[Lib.keeps_neg n e]at hk;cases hk
     have:=d (m-1) m (by omega) (by omega);omega
    ·intro x a;rcases aI.1 a with a|a
     ·exact⟨by omega,c x a⟩
     ·rw[aB]at a;subst a;exact⟨by omega,ba _⟩
   |false=>
    rw[if_neg (by simp),cN];exact⟨s,fun x a=>⟨by omega,c x a⟩⟩
 exact(f l.length (bf _)).1
def Ak: ∀{a b:List Int},a.Pairwise (· < ·)->b.Pairwise (· < ·)->(∀x,x∈a↔x∈b)->a=b
 | [],[],_,_,_=>rfl
 | [],y::b,_,_,h=>by have:=(h y).2 (by simp);simp at this
 |x::a,[],_,_,h=>by have:=(h x).1 (by simp);simp at this
 |x::a,y::b,ha,hb,h=>by
  rw[gg]at ha hb
  have g:x=y:=by
   have f:=(h x).1 (by simp);have d:=(h y).2 (by simp);rcases aD.1 f with f|f
   ·exact f
   ·rcases aD.1 d with d|d
    ·exact d.symm
    ·have:=hb.1 x f;have:=ha.1 y d;omega
  subst g
  rw[Ak ha.2 hb.2 (fun z=>⟨fun c=>by
   rcases aD.1 ((h z).1 (aH _ c)) with e|e
   ·have:=ha.1 z c;omega
   ·exact e,fun c=>by
   rcases aD.1 ((h z).2 (aH _ c)) with e|e
   ·have:=hb.1 z c;omega
   ·exact e⟩)]
def Jr{b:Int}: ∀{l:List Int},l.Pairwise (· < ·)->(wx l b).Pairwise (· < ·)∧ ∀x,x∈wx l b↔x∈l∨x=b
 | [],_=>by simp[wx]
 |y::r,h=>by
  rw[gg]at h;obtain⟨i,f⟩:=Jr (b:=b) h.2;unfold wx;split
  ·rename_i c;refine⟨gg.2 ⟨fun z a=> ?_,i⟩,fun x=> ?_⟩
   ·rcases (f z).1 a with d|d
    ·exact h.1 z d
    ·rw[d];exact c
   ·rw[aD,f,aD];exact(or_assoc).symm
  ·split
   ·rename_i c e;subst e;exact⟨gg.2 h,fun x=>⟨.inl,fun g=>g.elim id fun e=>by simp[e]⟩⟩
   ·rename_i c e;refine⟨gg.2 ⟨fun z a=> ?_,gg.2 h⟩,fun x=> ?_⟩
    ·rcases aD.1 a with rfl|a
     ·omega
     ·have:=h.1 z a;omega
    ·rw[aD];exact or_comm
def nO: ∀{v o:List Int},o.Pairwise (· < ·)->(v.foldl wx o).Pairwise (· < ·)∧ ∀x,x∈v.foldl wx o↔x∈o∨x∈v
 | [],o,h=>⟨h,by simp⟩
 |y::r,o,h=>by obtain⟨e,d⟩:=Jr (b:=y) h;obtain⟨c,a⟩:=nO (v:=r) e;refine⟨c,fun x=> ?_⟩;show x∈r.foldl wx (wx o y)↔_;rw[a,d,aD,or_assoc]
def KT{v l:List Int}{x:Int}:x∈IU v l↔x∈v∨x∈l:=by have a:=nO (v:=v) (o:=[]) List.Pairwise.nil;have c:=nO (v:=l) a.1;show x∈l.foldl wx (v.foldl wx [])↔_;rw[c.2,a.2];simp
def FC(v l:List Int):(Ee v l).Pairwise (· < ·):=AW (vQ _)
def Dy(v l:List Int):(IU v l).Pairwise (· < ·):=(nO (nO (v:=v) (o:=[]) List.Pairwise.nil).1).1
def HI(v l:List Int):Ee v l=IU v l:=Ak (FC v l) (Dy v l) fun x=>by rw[EV,KT]
def XD(m:List Int)(t:Int)(n:Nat):List Int:=((List.range n).filter fun i=>decide (t<=m.getD i 0)).map fun i:Nat=>(i:Int)+1
def J4(m:List Int)(t:Int):List Int:=XD m t m.length
def OC{m:List Int}{t s:Int}:s∈J4 m t↔1<=s∧s<=m.length∧t<=m.getD (s-1).toNat 0:=by
 unfold J4 XD;simp only[bn,List.mem_filter,db,bk];constructor
 ·rintro⟨i,⟨d,a⟩,rfl⟩;exact⟨by omega,by omega,by rw[show((i:Int)+1-1).toNat=i by omega];exact a⟩
 ·rintro⟨d,a,c⟩;exact⟨(s-1).toNat,⟨by omega,c⟩,by omega⟩
def PI{m:List Int}{t s:Int}(c:0<t):s∈J4 m t↔t<=mM m s:=by
 rw[OC];unfold mM;split
 ·rename_i h;split
  ·exact⟨fun a=>a.2.2,fun a=>⟨h.1,h.2,a⟩⟩
  ·exact⟨fun a=>by omega,fun a=>by omega⟩
 ·rename_i h;exact⟨fun a=>absurd ⟨a.1,a.2.1⟩ h,fun a=>by omega⟩
def QL{v m:List Int}{t:Int}(a:0<t):x9 v (J4 m t)=(jV (v.map (mM m))).countP fun x=>decide (t<=x):=by rw[(H9 _).countP_eq,List.countP_map];unfold x9;congr 1;funext s;simp only[Function.comp_apply];rw[du,bk,bk,PI a]
def Dw{L:List Int}(y:L.Pairwise (· <= ·))(m:L≠ [])(t:Int):t<=L.getD ((L.length-1)/2) 0↔L.length<2*L.countP fun x=>decide (t<=x):=by
 have o:0<L.length:=fR.2 m;have f:(L.length-1)/2<L.length:=by omega
 have d:L.getD ((L.length-1)/2) 0=L[(L.length-1)/2] :=by rw[aj,aQ f];rfl
 rw[d];generalize z:(L.length-1)/2=j at f
 have c: ∀i k (a:i<L.length) (q:k<L.length),i<=k->L[i] <=L[k] :=by
  intro i k a q n;rcases Nat.eq_or_lt_of_le n with h|h
  ·subst h;exact ba _
  ·exact List.pairwise_iff_getElem.1 y i k a q h
 constructor
 ·intro h;have e:L.countP (fun x=>decide (t<=x))=(L.take j).countP (fun x=>decide (t<=x))+(L.drop j).countP (fun x=>decide (t<=x)):=by rw[<-List.countP_append,dE]
  have s:(L.drop j).countP (fun x=>decide (t<=x))=(L.drop j).length:=by rw[List.countP_eq_length];intro x g;obtain⟨i,a,rfl⟩:=fS g;rw[aX]at a;rw[List.getElem_drop,bk];exact fV h (c j (j+i) f (by omega) (by omega))
  rw[aX]at s;omega
 ·intro h;rcases Int.lt_or_le L[j] t with u|u
  ·exfalso;have e:L.countP (fun x=>decide (t<=x))=(L.take (j+1)).countP (fun x=>decide (t<=x))+(L.drop (j+1)).countP (fun x=>decide (t<=x)):=by rw[<-List.countP_append,dE]
   have s:(L.take (j+1)).countP (fun x=>decide (t<=x))=0:=by rw[List.countP_eq_zero];intro x g;obtain⟨i,a,rfl⟩:=fS g;rw[aK]at a;rw[List.getElem_take,bk];have:=c i j (by omega) f (by omega);omega
   have A:=List.countP_le_length (p:=fun x=>decide (t<=x)) (l:=L.drop (j+1));rw[aX]at A;omega
  ·exact u
def Jz{v m:List Int}{t:Int}(d:0<t):Gc v (J4 m t)=decide (t<=uS v m):=by
 unfold Gc uS;rw[QL d];by_cases a:v=[]
 ·subst a;simp[jV];omega
 ·rw[if_neg a]
  have c:jV (v.map (mM m))≠ [] :=fun e=>by have:=vt v m;rw[e]at this;exact a (an this.symm)
  have:=Dw (vQ (v.map (mM m))) c t;rw[vt]at this;rw[du,bk,bk,this];omega
def AM(v m:List Int):0<=uS v m∧(0<uS v m-> ∃i,i<m.length∧m.getD i 0=uS v m):=by
 unfold uS;split
 ·exact⟨ba 0,fun h=>by omega⟩
 ·rename_i d;have a:0<v.length:=fR.2 d;have c:(v.length-1)/2<(jV (v.map (mM m))).length:=by rw[vt];omega
  rw[aj,aQ c,br];have f:(jV (v.map (mM m)))[(v.length-1)/2] ∈v.map (mM m):=wW.1 (aF c);obtain⟨s,_,e⟩:=bn.1 f;rw[<-e];unfold mM;split
  ·rename_i h;split
   ·rename_i g;exact⟨by omega,fun _=>⟨(s-1).toNat,by omega,rfl⟩⟩
   ·exact⟨ba 0,fun h=>by omega⟩
  ·exact⟨ba 0,fun h=>by omega⟩
def Cs(v m:List Int):Nat->Int
 |0=>0
 |k+1=>if Gc v (J4 m (m.getD k 0))&&decide (Cs v m k<m.getD k 0) then m.getD k 0 else Cs v m k
def Jn(v m:List Int): ∀k,0<=Cs v m k∧Cs v m k<=uS v m∧ ∀i,i<k->m.getD i 0<=uS v m->m.getD i 0<=Cs v m k
 |0=>⟨ba 0,(AM v m).1,fun i h=>by omega⟩
 |k+1=>by
  obtain⟨n,j,f⟩:=Jn v m k;unfold Cs;split
  ·rename_i c;simp only[aS,bk]at c;have e:=c.1;rw[Jz (by omega),bk]at e;refine⟨by omega,e,fun i g a=> ?_⟩;rcases Nat.lt_or_ge i k with h|h
   ·have:=f i h a;omega
   ·obtain rfl:i=k:=by omega
    exact ba _
  ·rename_i c;refine⟨n,j,fun i g a=> ?_⟩;rcases Nat.lt_or_ge i k with h|h
   ·exact f i h a
   ·obtain rfl:i=k:=by omega
    rcases Int.lt_or_le (Cs v m i) (m.getD i 0) with d|d
    ·exfalso;apply c;rw[Jz (by omega)];rw[aS,bk,bk];exact⟨a,d⟩
    ·exact d
def Vp(v m:List Int):Cs v m m.length=uS v m:=by
 obtain⟨g,f,c⟩:=Jn v m m.length;obtain⟨j,d⟩:=AM v m;rcases Int.lt_or_le 0 (uS v m) with h|h
 ·obtain⟨i,a,e⟩:=d h;have:=c i a (by omega);omega
 ·omega
def MX:Int:=1099511627776
def ix(d:D):Int:=I d 0
def tm(d:D):Int:=I d 1
def qU:Int->Int->Taf->Bool
 |_,_,[] =>true
 |i,t,x::r=>(ix x==i+1)&&decide (t<=tm x)&&decide (ix x<=MX)&&decide (tm x<=MX)&&qU (ix x) (tm x) r
def okB(i t:Int):Bool:=decide (0<=i)&&decide (i<=MX)&&decide (0<=t)&&decide (t<=MX)
def eV(i t:Int)(l:Taf):Bool:=okB i t&&qU i t l
def eM:Int->Taf->Int
 |t,[] =>t
 |_,x::r=>eM (tm x) r
def jv{i t:Int}:okB i t=true↔0<=i∧i<=MX∧0<=t∧t<=MX:=by simp[okB,and_assoc]
def iG{i t:Int}{x:D}{r:Taf}:qU i t (x::r)=true↔ix x=i+1∧t<=tm x∧ix x<=MX∧tm x<=MX∧qU (ix x) (tm x) r=true:=by simp[qU,and_assoc]
def lX: ∀{a b:Taf} {i t:Int},qU i t (a++b)=true↔qU i t a=true∧qU (i+a.length) (eM t a) b=true
 | [],b,i,t=>by simp[qU,eM]
 |x::a,b,i,t=>by
  rw[dU,iG,iG,lX (a:=a)];constructor
  ·rintro⟨h,g,f,e,d,c⟩;refine⟨⟨h,g,f,e,d⟩,?_⟩;simp only[eM,bu];rw[show i+((a.length+1:Nat):Int)=ix x+a.length by omega];exact c
  ·rintro⟨⟨h,g,f,e,d⟩,c⟩;refine⟨h,g,f,e,d,?_⟩;simp only[eM,bu]at c;rw[show i+((a.length+1:Nat):Int)=ix x+a.length by omega]at c;exact c
def lA: ∀{a b:Taf} {t:Int},eM t (a++b)=eM (eM t a) b
 | [],_,_=>rfl
 |x::a,b,t=>by simp only[dU,eM,lA (a:=a)]
def wZ: ∀{l:Taf} {t:Int} {x:D},l[l.length-1]? =some x->eM t l=tm x
 | [],t,x,h=>by simp at h
 | [y],t,x,h=>by simp at h;subst h;rfl
 |y::z::r,t,x,h=>by have:=wZ (l:=z::r) (t:=tm y) (x:=x) (by simpa using h);simpa [eM]using this
def HN{l:Taf}{i t:Int}{n:Nat}{x:D}(h:qU i t l=true)(d:l[n]? =some x):ix x=i+n+1∧eM t (l.take n)<=tm x∧ix x<=MX∧tm x<=MX:=by
 have c:=(aG.1 d).1
 have e:l=l.take n++x::l.drop (n+1):=by have a:=cT c;rw[(aG.1 d).2]at a;rw[<-a,dE]
 rw[e,lX,iG]at h;obtain⟨_,a,k,j,g,_⟩:=h;have f:(l.take n).length=n:=by simp;omega
 rw[f]at a;exact⟨a,k,j,g⟩
def Ir{l:Taf}{t:Int}{n:Nat}{x:D}(a:l[n]? =some x):eM t (l.take (n+1))=tm x:=by rw[cO,a,eQ,lA];rfl
def vn{l:Taf}{i t:Int}(n:Nat)(h:qU i t l=true):qU i t (l.take n)=true:=by rw[<-dE n l,lX]at h;exact h.1
def Dm{l:Taf}{i t:Int}(n:Nat)(a:n<=l.length)(h:qU i t l=true):qU (i+n) (eM t (l.take n)) (l.drop n)=true:=by
 rw[<-dE n l,lX]at h;have:=h.2
 rwa [aK,Nat.min_eq_left a]at this
def E0: ∀{l:Taf} {i t:Int},qU i t l=true->t<=eM t l
 | [],_,_,_=>ba _
 |x::r,i,t,h=>by obtain⟨_,c,_,_,a⟩:=iG.1 h;have:=E0 a;simp only[eM];omega
def EZ: ∀{l:Taf} {i t:Int},t<=MX->qU i t l=true->eM t l<=MX
 | [],_,_,h,_=>h
 |x::r,i,t,_,h=>by obtain⟨_,_,_,c,a⟩:=iG.1 h;exact EZ (l:=r) c a
def ui: ∀{l:Taf} {i t:Int},i<=MX->qU i t l=true->i+l.length<=MX
 | [],i,_,h,_=>by simpa using h
 |x::r,i,t,_,h=>by obtain⟨d,_,c,_,a⟩:=iG.1 h;have:=ui c a;simp only[bu];omega
def eH{i t:Int}{l:Taf}:eV i t l=true↔(0<=i∧i<=MX∧0<=t∧t<=MX)∧qU i t l=true:=by simp[eV,jv]
def gC(i t:Int)(l:Taf)(k:Int):Int×Int:=
 if k<i then(0,23) else if k=i then(t,0) else match l[(k-i-1).toNat]? with
  |some x=>(tm x,0)
  |none=>(0,3)
def gK(i:Int)(l:Taf)(f m:Int):Taf:=if m<1∨f<=i then [] else(l.drop (f-i-1).toNat).take m.toNat
def HH(i t:Int)(l:Taf)(a term:Int):Bool:=decide (term>eM t l)||(decide (term=eM t l)&&decide (a≥i+l.length))
def pT:D:=.agg [.int .i64 0,.int .i64 0,.int .i64 0,.int .i64 0,.int .i64 0,.int .i64 0,.int .i64 0,.int .i64 0,.int .i64 0,.list [],.int .i64 0,.bool false,.int .i64 0,.int .i64 0,.int .i64 0,.bool false,.bool false,.int .i64 0,.int .i64 0,.int .i64 0,.list [],.int .i64 0,.int .i64 0,.int .i64 0,.list [],.list [],.bool false,.list [],.list []]
def Ed(i t:Int)(l:Taf)(term:Int)(a:D):D:=.agg (.int .i64 (i+l.length+1):: .int .i64 term::a.A)
def oV(i t:Int)(l:Taf)(term:Int):Int:=if term<eM t l∨term<1∨MX<term then 1 else if MX<=i+l.length then 2 else 0
def wv(i t:Int)(l:Taf)(term:Int)(a:D):D:=if oV i t l term=0 then Ed i t l term a else pT
def pO(i t:Int)(l:Taf)(term:Int)(a:D):Taf:=if oV i t l term=0 then l++[Ed i t l term a] else l
def xn(i:Int)(l:Taf)(k:Int):Int:=if i+l.length<k then 3 else 0
def jk(i t:Int)(l:Taf)(k:Int):Int×Int×Taf:=if i+l.length<k∨k<=i then(i,t,l) else(k,(gC i t l k).1,l.drop (k-i).toNat)
def uO(i t:Int)(l:Taf)(x:D):Bool:=(gC i t l (ix x)).2==0&&(gC i t l (ix x)).1==tm x
def re(i t:Int)(l:Taf):Taf->Int×Taf
 | [] =>(0,l)
 |x::r=>if uO i t l x then re i t l r else(ix x,l.take (ix x-i-1).toNat++x::r)
def jB(i t:Int)(l:Taf)(pi pt:Int)(es:Taf):Bool:=eV pi pt es&&(gC i t l pi).2==0&&(gC i t l pi).1==pt
def iS(i t:Int)(l:Taf)(pi pt:Int)(es:Taf):Int×Taf:=if jB i t l pi pt es then re i t l es else(0,l)
def ku{i t:Int}{l:Taf}{k:Int}(h:(gC i t l k).2=0):i<=k∧k<=i+l.length∧(gC i t l k).1=eM t (l.take (k-i).toNat):=by
 unfold gC at h⊢;split at h
 ·simp at h
 ·split at h
  ·rename_i d c;subst c;rw[if_neg (by omega),if_pos rfl];exact⟨by omega,by omega,by simp[eM]⟩
  ·rename_i d c;split at h
   ·rename_i x a;have e:=(aG.1 a).1;rw[if_neg d,if_neg c];refine⟨by omega,by omega,?_⟩;simp only[a];rw[show(k-i).toNat=(k-i-1).toNat+1 by omega,Ir a]
   ·simp at h
def JS{i t:Int}{l:Taf}(d:qU i t l=true): ∀{es:Taf} {n:Nat},n<=l.length->qU (i+n) (eM t (l.take n)) es=true->qU i t (re i t l es).2=true∧(re i t l es).2.length<=l.length+es.length∧
  (∀x r,es=x::r->uO i t l x=false->ix x-i-1=n)
 | [],n,hn,h=>⟨d,by simp[re],by simp⟩
 |x::r,n,hn,h=>by
  obtain⟨A,z,u,q,m⟩:=iG.1 h;refine⟨?_,?_,fun y s e _=>by injection e with f B;subst f;omega⟩
  all_goals
   unfold re;by_cases a:uO i t l x=true
   ·rw[if_pos a];simp only[uO,aS,beq_iff_eq]at a;obtain⟨p,o,g⟩:=ku a.1;have c:n+1<=l.length:=by omega
    have f:(ix x-i).toNat=n+1:=by omega
    rw[f]at g
    have k:qU (i+((n+1:Nat):Int)) (eM t (l.take (n+1))) r=true:=by rw[<-g,a.2,show i+((n+1:Nat):Int)=ix x by omega];exact m
    have j:=JS d c k
    first
    |exact j.1
    |(simp only[bu];have:=j.2.1;omega)
   ·rw[if_neg a];have e:(ix x-i-1).toNat=n:=by omega
    rw[e]
    first
    |(rw[lX,aK,Nat.min_eq_left hn];exact⟨vn n d,h⟩)
    |(simp only[ah,aK,bu];omega)
def Fe{i t:Int}{l:Taf}{s:Nat}{x:D}{r:Taf}(j:s<=l.length)(h:qU (i+s) (eM t (l.take s)) (x::r)=true)(a:uO i t l x=true):s+1<=l.length∧qU (i+((s+1:Nat):Int)) (eM t (l.take (s+1))) r=true:=by
 obtain⟨o,n,m,k,d⟩:=iG.1 h;simp only[uO,aS,beq_iff_eq]at a;obtain⟨g,f,c⟩:=ku a.1;have e:(ix x-i).toNat=s+1:=by omega
 rw[e]at c;refine⟨by omega,?_⟩;rw[<-c,a.2,show i+((s+1:Nat):Int)=ix x by omega];exact d
def AJ(i t:Int)(l es:Taf)(xs:Taf):Prop:= ∃n s:Nat,xs=[.int .i64 0,.bool false,.int .i64 n,.int .i64 i,.int .i64 t,.list l] ∧n<=es.length∧s<=l.length∧qU (i+s) (eM t (l.take s)) (es.drop n)=true∧re i t l (es.drop n)=re i t l es
def QN{x:D}(h:Has uR x): [x.A[0]?.getD .top,x.A[1]?.getD .top,x.A[2]?.getD .top,x.A[3]?.getD .top,x.A[4]?.getD .top,x.A[5]?.getD .top,x.A[6]?.getD .top,x.A[7]?.getD .top,x.A[8]?.getD .top,x.A[9]?.getD .top,x.A[10]?.getD .top,x.A[11]?.getD .top,x.A[12]?.getD .top,x.A[13]?.getD .top,x.A[14]?.getD .top,x.A[15]?.getD .top,x.A[16]?.getD .top,x.A[17]?.getD .top,x.A[18]?.getD .top,x.A[19]?.getD .top,x.A[20]?.getD .top,x.A[21]?.getD .top,x.A[22]?.getD .top,x.A[23]?.getD .top,x.A[24]?.getD .top,x.A[25]?.getD .top,x.A[26]?.getD .top] =x.A:=by obtain⟨_,rfl,_,_,rfl,_,_,_,rfl,_,_,_,rfl,_,_,_,rfl,_,_,_,rfl,_,_,_,rfl,_,_,_,rfl,_,_,_,rfl,_,_,_,rfl,_,_,_,rfl,_,_,_,rfl,_,_,_,rfl,_,_,_,rfl,_,_,_,rfl,_,_,_,rfl,_,_,_,rfl,_,_,_,rfl,_,_,_,rfl,_,_,_,rfl,_,_,_,rfl,_,_,_,rfl,_,_,_,rfl,_,_,_,rfl,_,_,_,rfl,_,_,_,rfl,_,_,_,rfl,_,_,_,rfl,_,rfl⟩:=h;rfl
def nQ:dV.bytes=320:=by kernel_rfl
def FM{a:Type}(l:List a)(k:Nat)(xs:Taf):Nat:=l.length-(I (.list xs) k).toNat
def MJ(i t:Int)(l:Taf)(xs:Taf):Prop:= ∃(n:Nat) (j u:Int),xs=[.bool false,.int .i64 j,.int .i64 u,.int .i64 n] ∧n<=l.length∧okB j u=true∧qU j u (l.drop n)=qU i t l
def na(n lo hi:Int):Bool:=decide (lo<=n)&&decide (n<=hi)
def oT(i t:Int)(l:Taf):D:=.agg [.int .i64 i,.int .i64 t,.list l]
def CX{x:D}(h:Has dV x):x.A[0]?.getD .top= .int .i64 (ix x)∧x.A[1]?.getD .top= .int .i64 (tm x)∧jo .i64 (ix x)∧jo .i64 (tm x):=by obtain⟨_,rfl,_,_,rfl,⟨i,rfl,c⟩,_,_,rfl,⟨t,rfl,a⟩,_⟩:=h;exact⟨rfl,rfl,c,a⟩
def sY{i f m:Int}{l:Taf}:(gK i l f m).length<=l.length:=by
 unfold gK;split
 ·simp
 ·simp;omega
def EE{i t:Int}{l:Taf}{k:Int}(c:i<=k)(a:k<=i+l.length):(gC i t l k).2=0:=by
 unfold gC;rw[if_neg (by omega)];split
 ·rfl
 ·have:(k-i-1).toNat<l.length:=by omega
  rw[aQ this]
def Oq{i t:Int}{l:Taf}{m:Int}{c:D}(h:eV i t l=true):eV i t (pO i t l m c)=true∧(pO i t l m c).length<=l.length+1:=by
 obtain⟨d,e⟩:=eH.1 h;unfold pO;split
 ·rename_i a;unfold oV at a;split at a
  ·simp at a
  ·split at a
   ·simp at a
   ·refine⟨eH.2 ⟨d,?_⟩,by simp⟩;rw[lX];refine⟨e,iG.2 ⟨rfl,?_,?_,?_,rfl⟩⟩
    ·show eM t l<=m;omega
    ·show i+l.length+1<=MX;omega
    ·show m<=MX;omega
 ·exact⟨h,by omega⟩
def Lo{i t:Int}{l:Taf}{k:Int}(h:eV i t l=true):eV (jk i t l k).1 (jk i t l k).2.1 (jk i t l k).2.2=true∧(jk i t l k).2.2.length<=l.length:=by
 obtain⟨⟨n,e,m,d⟩,a⟩:=eH.1 h;have f:=ui e a;unfold jk;split
 ·exact⟨h,bf _⟩
 ·rename_i o;obtain⟨j,g,c⟩:=ku (EE (i:=i) (t:=t) (l:=l) (k:=k) (by omega) (by omega));refine⟨eH.2 ⟨⟨by omega,by omega,?_,?_⟩,?_⟩,by simp⟩
  ·show 0<=(gC i t l k).1;rw[c];have:=E0 (vn (k-i).toNat a);omega
  ·show(gC i t l k).1<=MX;rw[c];exact EZ d (vn _ a)
  ·show qU k (gC i t l k).1 (l.drop (k-i).toNat)=true;rw[c];have:=Dm (k-i).toNat (by omega) a
   rwa [show i+(((k-i).toNat:Nat):Int)=k by omega]at this
def O7{i t:Int}{l:Taf}{pi pt:Int}{es:Taf}(h:eV i t l=true):eV i t (iS i t l pi pt es).2=true∧(iS i t l pi pt es).2.length<=l.length+es.length:=by
 obtain⟨e,f⟩:=eH.1 h;unfold iS;split
 ·rename_i c;simp only[jB,aS,beq_iff_eq]at c;obtain⟨⟨k,j⟩,g⟩:=c;obtain⟨o,m,d⟩:=ku j;obtain⟨_,a⟩:=eH.1 k;have:=JS f (es:=es) (n:=(pi-i).toNat) (by omega) (by rw[<-d,g,show i+(((pi-i).toNat:Nat):Int)=pi by omega];exact a);exact⟨eH.2 ⟨e,this.1⟩,this.2.1⟩
 ·exact⟨h,by simp⟩
def EA{Φ:Taa}{Pre:eN}{R:D->Prop}{ρ:Nat->D}{a:List (Taf->Prop)}{w:Nat}:(VC.stuck w).holds Φ Pre R ρ a=False:=rfl
def cD(j:Nat)(d:D):D:=d.A.getD j .top
def lkD:List (Nat×D)->Nat->Tao D
 | [],_=>none
 |(k,v)::r,j=>if k=j then some v else lkD r j
def aJ(n:Nat)(b:D)(l:List (Nat×D)):D:=.agg ((List.range n).map fun j=>match lkD l j with|some d=>d|none=>cD j b)
def bK(x y:Int):Int:=if y<x then y else x
def bP(x y:Int):Int:=if y>x then y else x
def L4:D:=.agg [.int .i64 0,.int .i64 0,.int .i64 0,.int .i64 0,.int .i64 0,.int .i64 0,.int .i64 0,.list [],.int .i64 0,.bool false,.int .i64 0,.int .i64 0,.int .i64 0,.bool false,.bool false,.int .i64 0,.int .i64 0,.int .i64 0,.list [],.int .i64 0,.int .i64 0,.int .i64 0,.list [],.list [],.bool false,.list [],.list []]
def iy:D:=.agg [.int .i64 0,.int .i64 0,.int .i64 0,.int .i64 0,.int .i64 0,.int .i64 0,.int .i64 0,.bool false,.int .i64 0,.int .i64 0,.int .i64 0,.int .i64 0,.list [],.list [],.list [],.list [],.int .i64 0,.int .i64 0,.int .i64 0,.int .i64 0,.int .i64 0,.int .i64 0,.int .i64 0,.list [],.int .i64 0,.bool false,.int .i64 0,.int .i64 0,.int .i64 0,.bool false,.bool false,.int .i64 0,.int .i64 0,.int .i64 0,.list [],.int .i64 0,.int .i64 0,.int .i64 0,.list [],.list [],.bool false,.list [],.list [],.int .i64 0,.int .i64 0,.list []]
@[ext] structure RS where
 save:Bool
 I3:Int
 I2:Int
 dW:Taf
 fC:D
 msgs:Taf
 bZ:Taf
 pZ:Taf
 id:Int
 fv:Taf
 fl:Taf
 term:Int
 vote:Int
 jO:Int
 ig:Int
 sv:Taf
 sl:Taf
 aY:Taf
 bF:Int
 role:Int
 bM:Int
 wait:Int
 end_ : Int
 bc:Taf
 F6:Int
 wq:Int
 Ba:Int
 D9:Int
 uM:Int
 A9:Int
 D8:Int
 uL:Int
 A8:Int
 D7:Int
 uK:Int
 A4:Int
 D6:Int
 uJ:Int
 A0:Int
 D5:Int
 uI:Int
 AZ:Int
 round:Int
 reads:Taf
 gE:Int
 gQ:Int
 fu:Int
 jx:Int
 ft:Int
 cg:Taf
 li:Int
 lt:Int
 le:Taf
def cR(s:RS):Taf:=[.bool s.save,.int .i64 s.I3,.int .i64 s.I2,.list s.dW,s.fC,.list s.msgs,.list s.bZ,.list s.pZ,.int .i64 s.id,.list s.fv,.list s.fl,.int .i64 s.term,.int .i64 s.vote,.ptr [],.int .i64 s.jO,.int .i64 s.ig,.list s.sv,.list s.sl,.list s.aY,.int .i64 s.bF,.int .i64 s.role,.int .i64 s.bM,.int .i64 s.wait,.int .i64 s.end_,.list s.bc,.int .i64 s.F6,.int .i64 s.wq,.int .i64 s.Ba,.int .i64 s.D9,.int .i64 s.uM,.int .i64 s.A9,.int .i64 s.D8,.int .i64 s.uL,.int .i64 s.A8,.int .i64 s.D7,.int .i64 s.uK,.int .i64 s.A4,.int .i64 s.D6,.int .i64 s.uJ,.int .i64 s.A0,.int .i64 s.D5,.int .i64 s.uI,.int .i64 s.AZ,.int .i64 s.round,.list s.reads,.int .i64 s.gE,.int .i64 s.gQ,.int .i64 s.fu,.int .i64 s.jx,.int .i64 s.ft,.list s.cg]
def cL(s:RS):Taf:=[.int .i64 s.li,.int .i64 s.lt,.list s.le]
def encS(s:RS):Taf:=cR s++cL s
def Cu(s:RS):D:=.ptr [.bool s.save,.int .i64 s.I3,.int .i64 s.I2,.list s.dW,s.fC,.list s.msgs,.list s.bZ,.list s.pZ,.int .i64 s.id,.list s.fv,.list s.fl,.int .i64 s.term,.int .i64 s.vote,.ptr (cL s),.int .i64 s.jO,.int .i64 s.ig,.list s.sv,.list s.sl,.list s.aY,.int .i64 s.bF,.int .i64 s.role,.int .i64 s.bM,.int .i64 s.wait,.int .i64 s.end_,.list s.bc,.int .i64 s.F6,.int .i64 s.wq,.int .i64 s.Ba,.int .i64 s.D9,.int .i64 s.uM,.int .i64 s.A9,.int .i64 s.D8,.int .i64 s.uL,.int .i64 s.A8,.int .i64 s.D7,.int .i64 s.uK,.int .i64 s.A4,.int .i64 s.D6,.int .i64 s.uJ,.int .i64 s.A0,.int .i64 s.D5,.int .i64 s.uI,.int .i64 s.AZ,.int .i64 s.round,.list s.reads,.int .i64 s.gE,.int .i64 s.gQ,.int .i64 s.fu,.int .i64 s.jx,.int .i64 s.ft,.list s.cg]
def ic(l:Taf):RS:=⟨(l.getD 0 .top).Y,(l.getD 1 .top).q,(l.getD 2 .top).q,(l.getD 3 .top).A,(l.getD 4 .top),(l.getD 5 .top).A,(l.getD 6 .top).A,(l.getD 7 .top).A,(l.getD 8 .top).q,(l.getD 9 .top).A,(l.getD 10 .top).A,(l.getD 11 .top).q,(l.getD 12 .top).q,(l.getD 14 .top).q,(l.getD 15 .top).q,(l.getD 16 .top).A,(l.getD 17 .top).A,(l.getD 18 .top).A,(l.getD 19 .top).q,(l.getD 20 .top).q,(l.getD 21 .top).q,(l.getD 22 .top).q,(l.getD 23 .top).q,(l.getD 24 .top).A,(l.getD 25 .top).q,(l.getD 26 .top).q,(l.getD 27 .top).q,(l.getD 28 .top).q,(l.getD 29 .top).q,(l.getD 30 .top).q,(l.getD 31 .top).q,(l.getD 32 .top).q,(l.getD 33 .top).q,(l.getD 34 .top).q,(l.getD 35 .top).q,(l.getD 36 .top).q,(l.getD 37 .top).q,(l.getD 38 .top).q,(l.getD 39 .top).q,(l.getD 40 .top).q,(l.getD 41 .top).q,(l.getD 42 .top).q,(l.getD 43 .top).q,(l.getD 44 .top).A,(l.getD 45 .top).q,(l.getD 46 .top).q,(l.getD 47 .top).q,(l.getD 48 .top).q,(l.getD 49 .top).q,(l.getD 50 .top).A,(l.getD 51 .top).q,(l.getD 52 .top).q,(l.getD 53 .top).A⟩
def tz(d:D):RS:=
 let l:=d.A;let g:=(l.getD 13 .top).A
 ⟨(l.getD 0 .top).Y,(l.getD 1 .top).q,(l.getD 2 .top).q,(l.getD 3 .top).A,(l.getD 4 .top),(l.getD 5 .top).A,(l.getD 6 .top).A,(l.getD 7 .top).A,(l.getD 8 .top).q,(l.getD 9 .top).A,(l.getD 10 .top).A,(l.getD 11 .top).q,(l.getD 12 .top).q,(l.getD 14 .top).q,(l.getD 15 .top).q,(l.getD 16 .top).A,(l.getD 17 .top).A,(l.getD 18 .top).A,(l.getD 19 .top).q,(l.getD 20 .top).q,(l.getD 21 .top).q,(l.getD 22 .top).q,(l.getD 23 .top).q,(l.getD 24 .top).A,(l.getD 25 .top).q,(l.getD 26 .top).q,(l.getD 27 .top).q,(l.getD 28 .top).q,(l.getD 29 .top).q,(l.getD 30 .top).q,(l.getD 31 .top).q,(l.getD 32 .top).q,(l.getD 33 .top).q,(l.getD 34 .top).q,(l.getD 35 .top).q,(l.getD 36 .top).q,(l.getD 37 .top).q,(l.getD 38 .top).q,(l.getD 39 .top).q,(l.getD 40 .top).q,(l.getD 41 .top).q,(l.getD 42 .top).q,(l.getD 43 .top).q,(l.getD 44 .top).A,(l.getD 45 .top).q,(l.getD 46 .top).q,(l.getD 47 .top).q,(l.getD 48 .top).q,(l.getD 49 .top).q,(l.getD 50 .top).A,(g.getD 0 .top).q,(g.getD 1 .top).q,(g.getD 2 .top).A⟩
def dK:RS:=⟨false,0,0,[],.top,[],[],[],0,[],[],0,0,0,0,[],[],[],0,0,0,0,0,[],0,0,0,0,0,0,0,0,0,0,0,0,0,0,0,0,0,0,0,[],0,0,0,0,0,[],0,0,[]⟩
def iz(s:RS):D:=.eS [.eS [],.agg (cR s),.agg (cL s)]
def Jf(x:Bool×RS):D:=.eS [.bool x.1,.agg (cR x.2),.agg (cL x.2)]
def Ei(x:D×RS):D:=.eS [x.1,.agg (cR x.2),.agg (cL x.2)]
def Je(x:(D×Int)×RS):D:=.eS [.eS [x.1.1,.int .i64 x.1.2],.agg (cR x.2),.agg (cL x.2)]
def Sv(x:(Int×D)×RS):D:=.eS [.eS [.int .i64 x.1.1,x.1.2],.agg (cR x.2),.agg (cL x.2)]
def CY(x:(D×Int×D)×RS):D:=.eS [.eS [x.1.1,.int .i64 x.1.2.1,x.1.2.2],.agg (cR x.2),.agg (cL x.2)]
def J6(d:D):RS:=ic ((cD 1 d).A++(cD 2 d).A)
def nV(d:D):RS:=J6 d
def Sz(d:D):Bool×RS:=((cD 0 d).Y,J6 d)
def PB(d:D):D×RS:=(cD 0 d,J6 d)
def abF(d:D):(D×Int)×RS:=((cD 0 (cD 0 d),(cD 1 (cD 0 d)).q),J6 d)
def abE(d:D):(Int×D)×RS:=(((cD 0 (cD 0 d)).q,cD 1 (cD 0 d)),J6 d)
def N3(d:D):(D×Int×D)×RS:=((cD 0 (cD 0 d),(cD 1 (cD 0 d)).q,cD 2 (cD 0 d)),J6 d)
def Gf(s:RS):Taf:=[.bool s.save,.int .i64 s.I3,.int .i64 s.I2,.list s.dW,s.fC,.list s.msgs,.list s.bZ,.list s.pZ,.int .i64 s.id,.list s.fv,.list s.fl,.int .i64 s.term,.int .i64 s.vote,.int .i64 s.jO,.int .i64 s.ig,.list s.sv,.list s.sl,.list s.aY,.int .i64 s.bF,.int .i64 s.role,.int .i64 s.bM,.int .i64 s.wait,.int .i64 s.end_,.list s.bc,.int .i64 s.F6,.int .i64 s.wq,.int .i64 s.Ba,.int .i64 s.D9,.int .i64 s.uM,.int .i64 s.A9,.int .i64 s.D8,.int .i64 s.uL,.int .i64 s.A8,.int .i64 s.D7,.int .i64 s.uK,.int .i64 s.A4,.int .i64 s.D6,.int .i64 s.uJ,.int .i64 s.A0,.int .i64 s.D5,.int .i64 s.uI,.int .i64 s.AZ,.int .i64 s.round,.list s.reads,.int .i64 s.gE,.int .i64 s.gQ,.int .i64 s.fu,.int .i64 s.jx,.int .i64 s.ft,.list s.cg,.int .i64 s.li,.int .i64 s.lt,.list s.le]
def qS(l:Taf):RS:=⟨(l.getD 0 .top).Y,(l.getD 1 .top).q,(l.getD 2 .top).q,(l.getD 3 .top).A,(l.getD 4 .top),(l.getD 5 .top).A,(l.getD 6 .top).A,(l.getD 7 .top).A,(l.getD 8 .top).q,(l.getD 9 .top).A,(l.getD 10 .top).A,(l.getD 11 .top).q,(l.getD 12 .top).q,(l.getD 13 .top).q,(l.getD 14 .top).q,(l.getD 15 .top).A,(l.getD 16 .top).A,(l.getD 17 .top).A,(l.getD 18 .top).q,(l.getD 19 .top).q,(l.getD 20 .top).q,(l.getD 21 .top).q,(l.getD 22 .top).q,(l.getD 23 .top).A,(l.getD 24 .top).q,(l.getD 25 .top).q,(l.getD 26 .top).q,(l.getD 27 .top).q,(l.getD 28 .top).q,(l.getD 29 .top).q,(l.getD 30 .top).q,(l.getD 31 .top).q,(l.getD 32 .top).q,(l.getD 33 .top).q,(l.getD 34 .top).q,(l.getD 35 .top).q,(l.getD 36 .top).q,(l.getD 37 .top).q,(l.getD 38 .top).q,(l.getD 39 .top).q,(l.getD 40 .top).q,(l.getD 41 .top).q,(l.getD 42 .top).q,(l.getD 43 .top).A,(l.getD 44 .top).q,(l.getD 45 .top).q,(l.getD 46 .top).q,(l.getD 47 .top).q,(l.getD 48 .top).q,(l.getD 49 .top).A,(l.getD 50 .top).q,(l.getD 51 .top).q,(l.getD 52 .top).A⟩
def fB(a:D):Bool:=yK (vo a) (lr a)
def lK(a:D)(b:Int):Bool:=decide (b∈vo a)
def jH(a:D):Taf:=(IU (vo a) (lr a)).map (D.int .i64)
def lR(a b:D):Bool:=Gc (vo a) (iT b)
def sw(a b:D):Int:=Cs (vo a) (iT b) (iT b).length
def JD(a b:D):Bool:=F9 (vo a) (lr a) (vo b) (lr b)
def ru(x:D):Bool:=(cD 2 x).q==2
def XB(x:D):D:=.agg [cD 27 x,cD 28 x]
def eI(l:Taf):Bool:= !(l.any fun x=>ru x&& !fB (XB x))
def fN(a:D):D:=a
def lL(l:Taf):Taf:=l
def pS(a:D):D:=.agg [cD 0 a,cD 1 a,cD 2 a,cD 3 a,cD 4 a]
def Le(l:Taf)(b:Int):Bool:=decide (b∈l.map D.q)
def wA(f:D)(x:D):Bool:=match f with
 |.fn k _=>if k=84 then ru x else ru x&& !fB (XB x)
 |_=>false
def mC(l:Taf)(f:D):Bool:=l.any (wA f)
def jP(i t:Int):D:=if okB i t=true∧(i=0↔t=0) then .eS [.eS [],oT i t []] else .eS [.gI]
def PS:Taf->D
 | [.ptr c,f,m] =>.list (gK (c.getD 0 .top).q (c.getD 2 .top).A f.q m.q)
 | [f,m,i,t,l] =>.eS [.list (gK i.q l.A f.q m.q),oT i.q t.q l.A]
 |_=>.top
def aee:Taf->Prop
 | [.ptr c,_,_] =>okB (c.getD 0 .top).q (c.getD 1 .top).q=true
 | [_,_,i,t,_] =>okB i.q t.q=true
 |_=>False
def L5(a b:D):Bool:=((((((decide (vo (.agg [cD 25 a,cD 26 a])=vo (.agg [cD 25 b,cD 26 b]))&&decide (lr (.agg [cD 25 a,cD 26 a])=lr (.agg [cD 25 b,cD 26 b])))&&((cD 0 a).q==(cD 0 b).q))&&((cD 1 a).q==(cD 1 b).q))&&((cD 2 a).q==(cD 2 b).q))&&((cD 3 a).q==(cD 3 b).q))&&((cD 8 a).q==(cD 8 b).q))
def gP(a b:Int):Int:=if a<0 then(i64.wrap (0-(i64.wrap (a+1)))).tmod b else a.tmod b
def gF(i t:Int)(_:Taf):Int×Int:=(i,t)
def gf(i t:Int)(l:Taf):Int×Int:=(i+l.length,eM t l)
def ij(i t:Int)(l:Taf)(k:Int):Int×Int:=gC i t l k
def HK(i t:Int)(l:Taf)(a b:Int):Bool:=HH i t l a b
def dP(i t:Int)(l:Taf)(f m:Int):Taf:=gK i l f m
def Y3(i t:Int)(l:Taf)(term:Int)(c:D):(D×Int)×Int×Int×Taf:=((wv i t l term c,oV i t l term),i,t,pO i t l term c)
def yA(i t:Int)(l:Taf)(a b:Int)(es:Taf):(Int×Bool)×Int×Int×Taf:=(((iS i t l a b es).1,jB i t l a b es),i,t,(iS i t l a b es).2)
def hU(i t:Int)(l:Taf)(k:Int):Int×Int×Int×Taf:=(xn i l k,jk i t l k)
def eU(s:RS):RS:=
 ({s with save:=true}:RS)
def mB(s:RS)(d:Int×Int):D:=
 if decide (d.1>0) then(
  let a:=(fN (D.agg [D.list s.sv,D.list s.sl]))
  aJ 2 a [])
 else(
  let c:=(fN (D.agg [D.list s.fv,D.list s.fl]))
  aJ 2 c [])
def nJ(s:RS)(g:Int×Int)(c:Int)(f:Taf)(e:Taf):(Int×Taf×Taf)⊕(D):=
 if decide (c>g.1) then(
  let a:=(dP s.li s.lt s.le c 1)
  if((((a:Taf).length:Int)==1)&&(((cD 2 ((a).getD (0:Int).toNat .top)).q)==2)) then(
   let d:=(fN (D.agg ((((a).getD (0:Int).toNat .top).A.drop 27).take 2)))
   .inr (aJ 2 d []))
  else(
   .inl ((i64.wrap (c-1)),f,e)))
 else .inr (mB s g)
def EO(s:RS)(c:Int×Int)(a:Int)(e:Taf)(d:Taf):Nat:=(a-c.1).toNat
def rG(s:RS)(f:Int×Int)(e:Int)(d:Taf)(c:Taf):D:=iN (fun a:Int×Taf×Taf=>nJ s f a.1 a.2.1 a.2.2) .top (EO s f e d c+1) (e,d,c)
def tD(x:Int)(s:RS):D:=
 let a:=(gF s.li s.lt s.le)
 rG s a x [] []
def eZ(s:RS):D:=
 let c:=(gf s.li s.lt s.le);let a:=(tD c.1 s)
 aJ 2 a []
def Kz(a:Taf):Taf:=
 a
def ta(s:RS)(c:Taf)(d:Taf)(a:Int):(Taf×Int)⊕(Taf):=
 if decide (a<((c:Taf).length:Int)) then(
  if(((((c).getD (a:Int).toNat .top)).q) !=s.id) then(
   .inl ((d++([((c).getD (a:Int).toNat .top)] :Taf)),(i64.wrap (a+1))))
  else(
   .inl (d,(i64.wrap (a+1)))))
 else .inr (Kz d)
def BZ(s:RS)(a:Taf)(d:Taf)(c:Int):Nat:=a.length-c.toNat
def tc(s:RS)(c:Taf)(e:Taf)(d:Int):Taf:=iN (fun a:Taf×Int=>ta s c a.1 a.2) [] (BZ s c e d+1) (e,d)
def gN(x:D)(s:RS):Taf:=
 let a:=(jH (aJ 2 x []))
 tc s a [] 0
def se(x:Int)(s:RS):Bool:=
 let d:=(eZ s);let c:=(jH (aJ 2 d []));let a:=(Le c x)
 a
def DC:Bool:=
 false
def qx(c:Taf)(d:Bool)(a:Int):(Bool×Int)⊕(Bool):=
 if decide (a<((c:Taf).length:Int)) then(
  if(((cD 2 ((c).getD (a:Int).toNat .top)).q)==2) then(
   .inr (true))
  else(
   .inl (d,(i64.wrap (a+1)))))
 else .inr (DC)
def vU(a:Taf)(d:Bool)(c:Int):Nat:=a.length-c.toNat
def qy(c:Taf)(e:Bool)(d:Int):Bool:=iN (fun a:Bool×Int=>qx c a.1 a.2) false (vU c e d+1) (e,d)
def td(s:RS):Bool:=
 let c:=(gf s.li s.lt s.le);let a:=(dP s.li s.lt s.le (i64.wrap (s.bF+1)) (i64.wrap (c.1-s.bF)))
 qy a false 0
def vB(s:RS):Bool:=
 let a:=(ij s.li s.lt s.le s.bF)
 ((a.2==0)&&(a.1==s.term))
def Bd(x:D)(s:RS):Int:=
 if(s.role !=2) then(
  20)
 else(
  if((cD 0 x).q==1) then(
   1)
  else(
   if((cD 0 x).q !=2) then(
    0)
   else(
    let e:=(vB s);let d:=(td s)
    if((!e)||d) then(
     21)
    else(
     let c:=(eZ s);let a:=(JD (aJ 2 c []) (D.agg [(cD 25 x),(cD 26 x)]))
     if(!a) then(
      22)
     else(
      0)))))
def Jo(s:RS):D:=
 let d:=(gF s.li s.lt s.le);let c:=(gf s.li s.lt s.le);let a:=(eZ s)
 D.agg [D.int .i64 s.role,D.int .i64 s.bM,(cD 0 (D.agg [D.int .i64 s.term,D.int .i64 s.vote])),(cD 1 (D.agg [D.int .i64 s.term,D.int .i64 s.vote])),D.int .i64 s.bF,D.int .i64 c.1,D.int .i64 d.1,(cD 0 a),(cD 1 a)]
def lE(s:RS):RS:=
 ({s with wait:=0,end_:=0}:RS)
def ez(x:D)(s:RS):RS:=
 ({s with msgs:=(s.msgs++([aJ 46 x [(1,D.int .i64 s.id),(3,D.int .i64 s.term)]] :Taf))}:RS)
def gy(x:Int)(y:Int)(s:RS):RS:=
 if decide (x>s.term) then(
  let TU:=eU ({s with term:=x,vote:=0}:RS)
  ({TU with role:=0,bM:=y,bc:=[],reads:=[]}:RS))
 else(
  ({s with role:=0,bM:=y,bc:=[],reads:=[]}:RS))
def cq(s:RS):D×RS:=
 (D.agg [D.bool s.save,D.int .i64 s.term,D.int .i64 s.vote,D.list s.dW,s.fC,D.list s.msgs,D.list s.bZ,D.list s.pZ],({s with save:=false,I3:=0,I2:=0,dW:=[],fC:=D.gI,msgs:=[],bZ:=[],pZ:=[]}:RS))
def pw(x:D)(s:RS):(D×Int)×RS:=
 let xh:=Y3 s.li s.lt s.le s.term (aJ 27 x [])
 if(xh.1.2==0) then(
  let a:=eU ({s with li:=xh.2.1,lt:=xh.2.2.1,le:=xh.2.2.2}:RS)
  ((aJ 29 xh.1.1 [],xh.1.2),({a with dW:=(a.dW++([aJ 29 xh.1.1 []] :Taf))}:RS)))
 else(
  ((aJ 29 xh.1.1 [],xh.1.2),({s with li:=xh.2.1,lt:=xh.2.2.1,le:=xh.2.2.2}:RS)))
def eL(x:Int)(s:RS):RS:=
 if(x==0) then(
  let h:=(gF s.li s.lt s.le)
  if decide (s.wq<=h.1) then(
   let a:=(fN (D.agg [D.list s.sv,D.list s.sl]));let c:=(lL ((s.aY.take ((bK (i64.wrap ((bK (bP 0 s.Ba) (s.aY.length:Int))+256)) (s.aY.length:Int)):Int).toNat).drop ((bK (bP 0 s.Ba) (s.aY.length:Int)):Int).toNat));let e:=ez (aJ 46 iy [(0,D.int .i64 5),(4,D.int .i64 s.jO),(5,D.int .i64 s.ig),(9,D.int .i64 (bK (bP 0 s.Ba) (s.aY.length:Int))),(10,D.int .i64 (s.aY.length:Int)),(13,(cD 0 a)),(14,(cD 1 a)),(15,D.list c)]) ({s with Ba:=(bK (bP 0 s.Ba) (s.aY.length:Int))}:RS)
   e)
  else(
   let g:=(ij s.li s.lt s.le (i64.wrap (s.wq-1)));let d:=dP s.li s.lt s.le s.wq 8;let f:=ez (aJ 46 iy [(0,D.int .i64 3),(4,D.int .i64 (i64.wrap (s.wq-1))),(5,D.int .i64 g.1),(6,D.int .i64 s.bF),(8,D.int .i64 s.round),(12,D.list d)]) s
   f))
 else(
  if(x==1) then(
   let h:=(gF s.li s.lt s.le)
   if decide (s.uM<=h.1) then(
    let a:=(fN (D.agg [D.list s.sv,D.list s.sl]));let c:=(lL ((s.aY.take ((bK (i64.wrap ((bK (bP 0 s.A9) (s.aY.length:Int))+256)) (s.aY.length:Int)):Int).toNat).drop ((bK (bP 0 s.A9) (s.aY.length:Int)):Int).toNat));let e:=ez (aJ 46 iy [(0,D.int .i64 5),(2,D.int .i64 1),(4,D.int .i64 s.jO),(5,D.int .i64 s.ig),(9,D.int .i64 (bK (bP 0 s.A9) (s.aY.length:Int))),(10,D.int .i64 (s.aY.length:Int)),(13,(cD 0 a)),(14,(cD 1 a)),(15,D.list c)]) ({s with A9:=(bK (bP 0 s.A9) (s.aY.length:Int))}:RS)
    e)
   else(
    let g:=(ij s.li s.lt s.le (i64.wrap (s.uM-1)));let d:=dP s.li s.lt s.le s.uM 8;let f:=ez (aJ 46 iy [(0,D.int .i64 3),(2,D.int .i64 1),(4,D.int .i64 (i64.wrap (s.uM-1))),(5,D.int .i64 g.1),(6,D.int .i64 s.bF),(8,D.int .i64 s.round),(12,D.list d)]) s
    f))
  else(
   if(x==2) then(
    let h:=(gF s.li s.lt s.le)
    if decide (s.uL<=h.1) then(
     let a:=(fN (D.agg [D.list s.sv,D.list s.sl]));let c:=(lL ((s.aY.take ((bK (i64.wrap ((bK (bP 0 s.A8) (s.aY.length:Int))+256)) (s.aY.length:Int)):Int).toNat).drop ((bK (bP 0 s.A8) (s.aY.length:Int)):Int).toNat));let e:=ez (aJ 46 iy [(0,D.int .i64 5),(2,D.int .i64 2),(4,D.int .i64 s.jO),(5,D.int .i64 s.ig),(9,D.int .i64 (bK (bP 0 s.A8) (s.aY.length:Int))),(10,D.int .i64 (s.aY.length:Int)),(13,(cD 0 a)),(14,(cD 1 a)),(15,D.list c)]) ({s with A8:=(bK (bP 0 s.A8) (s.aY.length:Int))}:RS)
     e)
    else(
     let g:=(ij s.li s.lt s.le (i64.wrap (s.uL-1)));let d:=dP s.li s.lt s.le s.uL 8;let f:=ez (aJ 46 iy [(0,D.int .i64 3),(2,D.int .i64 2),(4,D.int .i64 (i64.wrap (s.uL-1))),(5,D.int .i64 g.1),(6,D.int .i64 s.bF),(8,D.int .i64 s.round),(12,D.list d)]) s
     f))
   else(
    if(x==3) then(
     let h:=(gF s.li s.lt s.le)
     if decide (s.uK<=h.1) then(
      let a:=(fN (D.agg [D.list s.sv,D.list s.sl]));let c:=(lL ((s.aY.take ((bK (i64.wrap ((bK (bP 0 s.A4) (s.aY.length:Int))+256)) (s.aY.length:Int)):Int).toNat).drop ((bK (bP 0 s.A4) (s.aY.length:Int)):Int).toNat));let e:=ez (aJ 46 iy [(0,D.int .i64 5),(2,D.int .i64 3),(4,D.int .i64 s.jO),(5,D.int .i64 s.ig),(9,D.int .i64 (bK (bP 0 s.A4) (s.aY.length:Int))),(10,D.int .i64 (s.aY.length:Int)),(13,(cD 0 a)),(14,(cD 1 a)),(15,D.list c)]) ({s with A4:=(bK (bP 0 s.A4) (s.aY.length:Int))}:RS)
      e)
     else(
      let g:=(ij s.li s.lt s.le (i64.wrap (s.uK-1)));let d:=dP s.li s.lt s.le s.uK 8;let f:=ez (aJ 46 iy [(0,D.int .i64 3),(2,D.int .i64 3),(4,D.int .i64 (i64.wrap (s.uK-1))),(5,D.int .i64 g.1),(6,D.int .i64 s.bF),(8,D.int .i64 s.round),(12,D.list d)]) s
      f))
    else(
     if(x==4) then(
      let h:=(gF s.li s.lt s.le)
      if decide (s.uJ<=h.1) then(
       let a:=(fN (D.agg [D.list s.sv,D.list s.sl]));let c:=(lL ((s.aY.take ((bK (i64.wrap ((bK (bP 0 s.A0) (s.aY.length:Int))+256)) (s.aY.length:Int)):Int).toNat).drop ((bK (bP 0 s.A0) (s.aY.length:Int)):Int).toNat));let e:=ez (aJ 46 iy [(0,D.int .i64 5),(2,D.int .i64 4),(4,D.int .i64 s.jO),(5,D.int .i64 s.ig),(9,D.int .i64 (bK (bP 0 s.A0) (s.aY.length:Int))),(10,D.int .i64 (s.aY.length:Int)),(13,(cD 0 a)),(14,(cD 1 a)),(15,D.list c)]) ({s with A0:=(bK (bP 0 s.A0) (s.aY.length:Int))}:RS)
       e)
      else(
       let g:=(ij s.li s.lt s.le (i64.wrap (s.uJ-1)));let d:=dP s.li s.lt s.le s.uJ 8;let f:=ez (aJ 46 iy [(0,D.int .i64 3),(2,D.int .i64 4),(4,D.int .i64 (i64.wrap (s.uJ-1))),(5,D.int .i64 g.1),(6,D.int .i64 s.bF),(8,D.int .i64 s.round),(12,D.list d)]) s
       f))
     else(
      if(x==5) then(
       let h:=(gF s.li s.lt s.le)
       if decide (s.uI<=h.1) then(
        let a:=(fN (D.agg [D.list s.sv,D.list s.sl]));let c:=(lL ((s.aY.take ((bK (i64.wrap ((bK (bP 0 s.AZ) (s.aY.length:Int))+256)) (s.aY.length:Int)):Int).toNat).drop ((bK (bP 0 s.AZ) (s.aY.length:Int)):Int).toNat));let e:=ez (aJ 46 iy [(0,D.int .i64 5),(2,D.int .i64 5),(4,D.int .i64 s.jO),(5,D.int .i64 s.ig),(9,D.int .i64 (bK (bP 0 s.AZ) (s.aY.length:Int))),(10,D.int .i64 (s.aY.length:Int)),(13,(cD 0 a)),(14,(cD 1 a)),(15,D.list c)]) ({s with AZ:=(bK (bP 0 s.AZ) (s.aY.length:Int))}:RS)
        e)
       else(
        let g:=(ij s.li s.lt s.le (i64.wrap (s.uI-1)));let d:=dP s.li s.lt s.le s.uI 8;let f:=ez (aJ 46 iy [(0,D.int .i64 3),(2,D.int .i64 5),(4,D.int .i64 (i64.wrap (s.uI-1))),(5,D.int .i64 g.1),(6,D.int .i64 s.bF),(8,D.int .i64 s.round),(12,D.list d)]) s
        f))
      else(
       dK))))))
def iW(x:Int)(s:RS):Bool×RS:=
 if decide (x<=s.bF) then(
  (false,s))
 else(
  let a:=dP s.li s.lt s.le (i64.wrap (s.bF+1)) (i64.wrap (x-s.bF));let c:=(mC a (D.fn 84 []))
  (c,({s with bZ:=(s.bZ++a),bF:=x}:RS)))
def nb(s:RS)(k:Int×Int)(i:Taf):RS:=
 let j:=(eZ s);let c:=(sw (aJ 2 j []) (D.list ((i.take ((i64.wrap (s.id-1)):Int).toNat)++(D.int .i64 k.1::((i.drop ((i64.wrap (s.id-1)):Int).toNat).drop (1:Int).toNat)))));let d:=(ij s.li s.lt s.le c)
 if(((decide (c<=s.bF))||(d.2 !=0))||(d.1 !=s.term)) then(
  s)
 else(
  let a:=iW c s;let f:=(eZ a.2);let e:=(lK (aJ 2 f []) a.2.id)
  if(a.1&&(!e)) then(
   let h:=gy a.2.term 0 a.2;let g:=lE h
   g)
  else(
   a.2))
def lM(s:RS)(d:Int×Int)(c:Taf)(a:Int):(Taf×Int)⊕(RS):=
 if decide (a<((([D.int .i64 0,D.int .i64 0,D.int .i64 0,D.int .i64 0,D.int .i64 0] :Taf):Taf).length:Int)) then(
  if(a==0) then(
   .inl (((c.take (0:Int).toNat)++(D.int .i64 s.D9::((c.drop (0:Int).toNat).drop (1:Int).toNat))),(i64.wrap (a+1))))
  else(
   if(a==1) then(
    .inl (((c.take (1:Int).toNat)++(D.int .i64 s.D8::((c.drop (1:Int).toNat).drop (1:Int).toNat))),(i64.wrap (a+1))))
   else(
    if(a==2) then(
     .inl (((c.take (2:Int).toNat)++(D.int .i64 s.D7::((c.drop (2:Int).toNat).drop (1:Int).toNat))),(i64.wrap (a+1))))
    else(
     if(a==3) then(
      .inl (((c.take (3:Int).toNat)++(D.int .i64 s.D6::((c.drop (3:Int).toNat).drop (1:Int).toNat))),(i64.wrap (a+1))))
     else(
      if(a==4) then(
       .inl (((c.take (4:Int).toNat)++(D.int .i64 s.D5::((c.drop (4:Int).toNat).drop (1:Int).toNat))),(i64.wrap (a+1))))
      else(
       .inr dK))))))
 else .inr (nb s d c)
def lO(s:RS)(c:Int×Int)(d:Taf)(a:Int):Nat:=5-a.toNat
def pF(s:RS)(c:Int×Int)(e:Taf)(d:Int):RS:=iN (fun a:Taf×Int=>lM s c a.1 a.2) dK (lO s c e d+1) (e,d)
def gR(s:RS):RS:=
 let a:=(gf s.li s.lt s.le)
 pF s a ([D.int .i64 0,D.int .i64 0,D.int .i64 0,D.int .i64 0,D.int .i64 0] :Taf) 0
def Ky(a:RS):RS:=
 let c:=gR a
 c
def wR(c:Taf)(a:Int)(d:RS):(Int×RS)⊕(RS):=
 if decide (a<((c:Taf).length:Int)) then(
  let e:=eL ((((c).getD (a:Int).toNat .top)).q) d
  .inl ((i64.wrap (a+1)),e))
 else .inr (Ky d)
def BX(a:Taf)(c:Int)(d:RS):Nat:=a.length-c.toNat
def wS(c:Taf)(e:Int)(d:RS):RS:=iN (fun a:Int×RS=>wR c a.1 a.2) dK (BX c e d+1) (e,d)
def rF(e:RS):RS:=
 let a:=pw (aJ 27 L4 [(0,D.int .i64 1)]) e;let d:=(eZ a.2);let c:=(gN (aJ 2 d []) a.2)
 wS c 0 a.2
def rD(d:Int×Int)(a:Int)(c:RS):(Int×RS)⊕(RS):=
 if decide (a<6) then(
  if(a==0) then(
   .inl ((i64.wrap (a+1)),({c with F6:=0,wq:=(i64.wrap (d.1+1)),Ba:=0}:RS)))
  else(
   if(a==1) then(
    .inl ((i64.wrap (a+1)),({c with D9:=0,uM:=(i64.wrap (d.1+1)),A9:=0}:RS)))
   else(
    if(a==2) then(
     .inl ((i64.wrap (a+1)),({c with D8:=0,uL:=(i64.wrap (d.1+1)),A8:=0}:RS)))
    else(
     if(a==3) then(
      .inl ((i64.wrap (a+1)),({c with D7:=0,uK:=(i64.wrap (d.1+1)),A4:=0}:RS)))
     else(
      if(a==4) then(
       .inl ((i64.wrap (a+1)),({c with D6:=0,uJ:=(i64.wrap (d.1+1)),A0:=0}:RS)))
      else(
       if(a==5) then(
        .inl ((i64.wrap (a+1)),({c with D5:=0,uI:=(i64.wrap (d.1+1)),AZ:=0}:RS)))
       else(
        .inr dK)))))))
 else .inr (rF c)
def mA(c:Int×Int)(a:Int)(d:RS):Nat:=6-a.toNat
def rE(c:Int×Int)(e:Int)(d:RS):RS:=iN (fun a:Int×RS=>rD c a.1 a.2) dK (mA c e d+1) (e,d)
def xk(s:RS):RS:=
 let a:=(gf s.li s.lt s.le)
 rE a 0 ({s with role:=2,bM:=s.id,wait:=0,round:=0,reads:=[]}:RS)
def H7(a:RS):RS:=
 a
def nM(x:D)(e:Int×Int)(c:Taf)(a:Int)(d:RS):(Int×RS)⊕(RS):=
 if decide (a<((c:Taf).length:Int)) then(
  let f:=(lK (aJ 2 x []) ((((c).getD (a:Int).toNat .top)).q))
  if f then(
   let g:=ez (aJ 46 iy [(0,D.int .i64 1),(2,((c).getD (a:Int).toNat .top)),(4,D.int .i64 e.1),(5,D.int .i64 e.2)]) d
   .inl ((i64.wrap (a+1)),g))
  else(
   .inl ((i64.wrap (a+1)),d)))
 else .inr (H7 d)
def Ar(x:D)(d:Int×Int)(a:Taf)(c:Int)(e:RS):Nat:=a.length-c.toNat
def lU(x:D)(d:Int×Int)(c:Taf)(f:Int)(e:RS):RS:=iN (fun a:Int×RS=>nM x d c a.1 a.2) dK (Ar x d c f e+1) (f,e)
def nG(x:D)(s:RS):RS:=
 let qE:=eU ({s with term:=(i64.wrap (s.term+1)),vote:=s.id}:RS);let d:=(lR (aJ 2 x []) (D.list ([D.int .i64 qE.id] :Taf)))
 if d then(
  let e:=xk ({qE with role:=1,bM:=0,bc:=([D.int .i64 qE.id] :Taf)}:RS)
  e)
 else(
  let c:=(gf qE.li qE.lt qE.le);let a:=(gN (aJ 2 x []) ({qE with role:=1,bM:=0,bc:=([D.int .i64 qE.id] :Taf)}:RS))
  lU x c a 0 ({qE with role:=1,bM:=0,bc:=([D.int .i64 qE.id] :Taf)}:RS))
def oi(x:D)(s:RS):RS:=
 let a:=(gf s.li s.lt s.le)
 if((cD 0 x).q==1) then(
  let qE:=ez (aJ 46 iy [(0,D.int .i64 2),(2,(cD 1 x)),(7,D.bool true)]) s
  qE)
 else(
  if((cD 0 x).q==3) then(
   let np:=ez (aJ 46 iy [(0,D.int .i64 4),(2,(cD 1 x)),(4,D.int .i64 a.1),(7,D.bool true)]) s
   np)
  else(
   if((cD 0 x).q==5) then(
    let c:=ez (aJ 46 iy [(0,D.int .i64 6),(2,(cD 1 x)),(4,(cD 4 x)),(7,D.bool true),(10,D.int .i64 1)]) s
    c)
   else(
    s)))
def uU(x:D)(s:RS):RS:=
 let a:=(HK s.li s.lt s.le (cD 4 x).q (cD 5 x).q)
 if((((s.vote==0)||(s.vote==(cD 1 x).q))&&(s.role !=2))&&a) then(
  if(s.vote==0) then(
   let e:=eU ({s with vote:=(cD 1 x).q}:RS);let d:=lE e;let c:=ez (aJ 46 iy [(0,D.int .i64 2),(2,(cD 1 x)),(7,D.bool (!((((s.vote==0)||(s.vote==(cD 1 x).q))&&(s.role !=2))&&a)))]) d
   c)
  else(
   let g:=lE s;let f:=ez (aJ 46 iy [(0,D.int .i64 2),(2,(cD 1 x)),(7,D.bool (!((((s.vote==0)||(s.vote==(cD 1 x).q))&&(s.role !=2))&&a)))]) g
   f))
 else(
  let h:=ez (aJ 46 iy [(0,D.int .i64 2),(2,(cD 1 x)),(7,D.bool (!((((s.vote==0)||(s.vote==(cD 1 x).q))&&(s.role !=2))&&a)))]) s
  h)
def pY(x:D)(s:RS):RS:=
 if((s.role !=1)||(cD 7 x).Y) then(
  s)
 else(
  let c:=(eZ ({s with bc:=(s.bc++([(cD 1 x)] :Taf))}:RS));let a:=(lR (aJ 2 c []) (D.list (s.bc++([(cD 1 x)] :Taf))))
  if a then(
   let d:=xk ({s with bc:=(s.bc++([(cD 1 x)] :Taf))}:RS)
   d)
  else(
   ({s with bc:=(s.bc++([(cD 1 x)] :Taf))}:RS)))
def il(x:D)(s:RS):Bool×RS:=
 if(s.role==2) then(
  (false,s))
 else(
  let gx:=gy s.term (cD 1 x).q s;let TU:=lE gx
  (true,TU))
def mQ(x:D)(s:RS):RS:=
 let cP:=il (aJ 46 x []) s
 if(!cP.1) then(
  cP.2)
 else(
  if decide ((cD 4 x).q<cP.2.bF) then(
   let np:=ez (aJ 46 iy [(0,D.int .i64 4),(2,(cD 1 x)),(4,D.int .i64 cP.2.bF),(8,(cD 8 x))]) cP.2
   np)
  else(
   let np:=yA cP.2.li cP.2.lt cP.2.le (cD 4 x).q (cD 5 x).q (cD 12 x).A
   if(!np.1.2) then(
    let h:=(gf np.2.1 np.2.2.1 np.2.2.2);let g:=ez (aJ 46 iy [(0,D.int .i64 4),(2,(cD 1 x)),(4,D.int .i64 (bK h.1 (i64.wrap ((cD 4 x).q-1)))),(7,D.bool true),(8,(cD 8 x))]) ({cP.2 with li:=np.2.1,lt:=np.2.2.1,le:=np.2.2.2}:RS)
    g)
   else(
    if decide (np.1.1>0) then(
     let a:=eU ({cP.2 with li:=np.2.1,lt:=np.2.2.1,le:=np.2.2.2}:RS);let c:=dP a.li a.lt a.le np.1.1 (i64.wrap ((cD 4 x).q+(((cD 12 x).A:Taf).length:Int)));let e:=iW (bK (cD 6 x).q (i64.wrap ((cD 4 x).q+(((cD 12 x).A:Taf).length:Int)))) ({a with dW:=c}:RS);let d:=ez (aJ 46 iy [(0,D.int .i64 4),(2,(cD 1 x)),(4,D.int .i64 (i64.wrap ((cD 4 x).q+(((cD 12 x).A:Taf).length:Int)))),(8,(cD 8 x))]) e.2
     d)
    else(
     let i:=iW (bK (cD 6 x).q (i64.wrap ((cD 4 x).q+(((cD 12 x).A:Taf).length:Int)))) ({cP.2 with li:=np.2.1,lt:=np.2.2.1,le:=np.2.2.2}:RS);let f:=ez (aJ 46 iy [(0,D.int .i64 4),(2,(cD 1 x)),(4,D.int .i64 (i64.wrap ((cD 4 x).q+(((cD 12 x).A:Taf).length:Int)))),(8,(cD 8 x))]) i.2
     f))))
def DA(c:Taf)(a:RS):RS:=
 ({a with reads:=c}:RS)
def ly(x:D)(s:RS)(f:D)(d:Taf)(a:Int)(c:RS):(Taf×Int×RS)⊕(RS):=
 if decide (a<(s.reads.length:Int)) then(
  if((decide ((cD 8 x).q≥((cD 2 ((s.reads).getD (a:Int).toNat .top)).q)))&&(decide ((cD 8 x).q<=c.round))) then(
   .inr dK)
  else(
   let e:=(lR (aJ 2 f []) (cD 3 ((s.reads).getD (a:Int).toNat .top)))
   if e then(
    .inl (d,(i64.wrap (a+1)),({c with pZ:=(c.pZ++([aJ 2 ((s.reads).getD (a:Int).toNat .top) []] :Taf))}:RS)))
   else(
    .inl ((d++([aJ 4 ((s.reads).getD (a:Int).toNat .top) []] :Taf)),(i64.wrap (a+1)),c))))
 else .inr (DA d c)
def vT(x:D)(s:RS)(c:D)(e:Taf)(a:Int)(d:RS):Nat:=s.reads.length-a.toNat
def lz(x:D)(s:RS)(c:D)(f:Taf)(e:Int)(d:RS):RS:=iN (fun a:Taf×Int×RS=>ly x s c a.1 a.2.1 a.2.2) dK (vT x s c f e d+1) (f,e,d)
def hC(x:D)(s:RS):RS:=
 let a:=(eZ s)
 lz x s a [] 0 s
def tT(x:Int)(y:Int)(s:RS):RS:=
 let c:=(gf s.li s.lt s.le)
 if(x==0) then(
  let a:=gR ({s with F6:=(bP s.F6 (bK y c.1)),wq:=(bP s.wq (i64.wrap ((bP s.F6 (bK y c.1))+1))),Ba:=0}:RS)
  if((a.role==2)&&(decide (a.wq<=c.1))) then(
   let d:=eL 0 a
   d)
  else(
   a))
 else(
  if(x==1) then(
   let a:=gR ({s with D9:=(bP s.D9 (bK y c.1)),uM:=(bP s.uM (i64.wrap ((bP s.D9 (bK y c.1))+1))),A9:=0}:RS)
   if((a.role==2)&&(decide (a.uM<=c.1))) then(
    let d:=eL 1 a
    d)
   else(
    a))
  else(
   if(x==2) then(
    let a:=gR ({s with D8:=(bP s.D8 (bK y c.1)),uL:=(bP s.uL (i64.wrap ((bP s.D8 (bK y c.1))+1))),A8:=0}:RS)
    if((a.role==2)&&(decide (a.uL<=c.1))) then(
     let d:=eL 2 a
     d)
    else(
     a))
   else(
    if(x==3) then(
     let a:=gR ({s with D7:=(bP s.D7 (bK y c.1)),uK:=(bP s.uK (i64.wrap ((bP s.D7 (bK y c.1))+1))),A4:=0}:RS)
     if((a.role==2)&&(decide (a.uK<=c.1))) then(
      let d:=eL 3 a
      d)
     else(
      a))
    else(
     if(x==4) then(
      let a:=gR ({s with D6:=(bP s.D6 (bK y c.1)),uJ:=(bP s.uJ (i64.wrap ((bP s.D6 (bK y c.1))+1))),A0:=0}:RS)
      if((a.role==2)&&(decide (a.uJ<=c.1))) then(
       let d:=eL 4 a
       d)
      else(
       a))
     else(
      if(x==5) then(
       let a:=gR ({s with D5:=(bP s.D5 (bK y c.1)),uI:=(bP s.uI (i64.wrap ((bP s.D5 (bK y c.1))+1))),AZ:=0}:RS)
       if((a.role==2)&&(decide (a.uI<=c.1))) then(
        let d:=eL 5 a
        d)
       else(
        a))
      else(
       dK))))))
def jR(x:D)(s:RS):RS:=
 let e:=(se (cD 1 x).q s)
 if((s.role !=2)||(!e)) then(
  s)
 else(
  let gx:=hC (aJ 46 x []) s
  if((cD 1 x).q==0) then(
   if(cD 7 x).Y then(
    let c:=(gf gx.li gx.lt gx.le);let a:=eL 0 ({gx with wq:=(bP (i64.wrap (gx.F6+1)) (bK (i64.wrap (gx.wq-1)) (i64.wrap ((bK (bP 0 (cD 4 x).q) c.1)+1))))}:RS)
    a)
   else(
    let d:=tT 0 (cD 4 x).q gx
    d))
  else(
   if((cD 1 x).q==1) then(
    if(cD 7 x).Y then(
     let c:=(gf gx.li gx.lt gx.le);let a:=eL 1 ({gx with uM:=(bP (i64.wrap (gx.D9+1)) (bK (i64.wrap (gx.uM-1)) (i64.wrap ((bK (bP 0 (cD 4 x).q) c.1)+1))))}:RS)
     a)
    else(
     let d:=tT 1 (cD 4 x).q gx
     d))
   else(
    if((cD 1 x).q==2) then(
     if(cD 7 x).Y then(
      let c:=(gf gx.li gx.lt gx.le);let a:=eL 2 ({gx with uL:=(bP (i64.wrap (gx.D8+1)) (bK (i64.wrap (gx.uL-1)) (i64.wrap ((bK (bP 0 (cD 4 x).q) c.1)+1))))}:RS)
      a)
     else(
      let d:=tT 2 (cD 4 x).q gx
      d))
    else(
     if((cD 1 x).q==3) then(
      if(cD 7 x).Y then(
       let c:=(gf gx.li gx.lt gx.le);let a:=eL 3 ({gx with uK:=(bP (i64.wrap (gx.D7+1)) (bK (i64.wrap (gx.uK-1)) (i64.wrap ((bK (bP 0 (cD 4 x).q) c.1)+1))))}:RS)
       a)
      else(
       let d:=tT 3 (cD 4 x).q gx
       d))
     else(
      if((cD 1 x).q==4) then(
       if(cD 7 x).Y then(
        let c:=(gf gx.li gx.lt gx.le);let a:=eL 4 ({gx with uJ:=(bP (i64.wrap (gx.D6+1)) (bK (i64.wrap (gx.uJ-1)) (i64.wrap ((bK (bP 0 (cD 4 x).q) c.1)+1))))}:RS)
        a)
       else(
        let d:=tT 4 (cD 4 x).q gx
        d))
      else(
       if((cD 1 x).q==5) then(
        if(cD 7 x).Y then(
         let c:=(gf gx.li gx.lt gx.le);let a:=eL 5 ({gx with uI:=(bP (i64.wrap (gx.D5+1)) (bK (i64.wrap (gx.uI-1)) (i64.wrap ((bK (bP 0 (cD 4 x).q) c.1)+1))))}:RS)
         a)
        else(
         let d:=tT 5 (cD 4 x).q gx
         d))
       else(
        dK)))))))
def lq(x:D)(s:RS):RS:=
 let c:=(se (cD 1 x).q s)
 if((s.role !=2)||(!c)) then(
  s)
 else(
  if((!(cD 7 x).Y)&&((cD 10 x).q==0)) then(
   let s82:=tT (cD 1 x).q (cD 4 x).q s
   s82)
  else(
   if((cD 4 x).q==s.jO) then(
    if((cD 1 x).q==0) then(
     let a:=eL 0 ({s with Ba:=(bK (bP 0 (cD 9 x).q) (s.aY.length:Int))}:RS)
     a)
    else(
     if((cD 1 x).q==1) then(
      let a:=eL 1 ({s with A9:=(bK (bP 0 (cD 9 x).q) (s.aY.length:Int))}:RS)
      a)
     else(
      if((cD 1 x).q==2) then(
       let a:=eL 2 ({s with A8:=(bK (bP 0 (cD 9 x).q) (s.aY.length:Int))}:RS)
       a)
      else(
       if((cD 1 x).q==3) then(
        let a:=eL 3 ({s with A4:=(bK (bP 0 (cD 9 x).q) (s.aY.length:Int))}:RS)
        a)
       else(
        if((cD 1 x).q==4) then(
         let a:=eL 4 ({s with A0:=(bK (bP 0 (cD 9 x).q) (s.aY.length:Int))}:RS)
         a)
        else(
         if((cD 1 x).q==5) then(
          let a:=eL 5 ({s with AZ:=(bK (bP 0 (cD 9 x).q) (s.aY.length:Int))}:RS)
          a)
         else(
          dK)))))))
   else(
    s)))
def uV(x:D)(s:RS):RS:=
 let cP:=il (aJ 46 x []) s
 if(!cP.1) then(
  cP.2)
 else(
  if decide ((cD 4 x).q<=cP.2.bF) then(
   let Q3:=ez (aJ 46 iy [(0,D.int .i64 6),(2,(cD 1 x)),(4,D.int .i64 cP.2.bF)]) cP.2
   Q3)
  else(
   if((!(((((cP.2.gE==(cD 3 x).q)&&(cP.2.gQ==(cD 1 x).q))&&(cP.2.fu==(cD 4 x).q))&&(cP.2.jx==(cD 5 x).q))&&(cP.2.ft==(cD 10 x).q)))||((cD 9 x).q==0)) then(
    let P:=(na (cD 10 x).q 1 1048576)
    if((((cD 9 x).q==(([] :Taf).length:Int))&&(decide ((((cD 15 x).A:Taf).length:Int)<=(i64.wrap ((cD 10 x).q-(([] :Taf).length:Int))))))&&P) then(
     let o:=(jP (cD 4 x).q (cD 5 x).q)
     if(cD 0 o).gk then(
      let L:=(fB (D.agg [(cD 13 x),(cD 14 x)]));let E:=ez (aJ 46 iy [(0,D.int .i64 6),(2,(cD 1 x)),(4,(cD 4 x)),(9,D.int .i64 ((([] ++(cD 15 x).A):Taf).length:Int)),(10,D.int .i64 (bP 1 (cD 10 x).q))]) ({cP.2 with gE:=(cD 3 x).q,gQ:=(cD 1 x).q,fu:=(cD 4 x).q,jx:=(cD 5 x).q,ft:=(cD 10 x).q,cg:=([] ++(cD 15 x).A)}:RS)
      E)
     else(
      let L:=(fB (D.agg [(cD 13 x),(cD 14 x)]))
      if((((((([] ++(cD 15 x).A):Taf).length:Int) !=(cD 10 x).q)||(decide ((cD 10 x).q<1)))&&true)||(!L)) then(
       let E:=ez (aJ 46 iy [(0,D.int .i64 6),(2,(cD 1 x)),(4,(cD 4 x)),(9,D.int .i64 ((([] ++(cD 15 x).A):Taf).length:Int)),(10,D.int .i64 (bP 1 (cD 10 x).q))]) ({cP.2 with gE:=(cD 3 x).q,gQ:=(cD 1 x).q,fu:=(cD 4 x).q,jx:=(cD 5 x).q,ft:=(cD 10 x).q,cg:=([] ++(cD 15 x).A)}:RS)
       E)
      else(
       let a:=(fN (D.agg [(cD 13 x),(cD 14 x)]));let I:=(ij cP.2.li cP.2.lt cP.2.le (cD 4 x).q)
       if((I.2==0)&&(I.1==(cD 5 x).q)) then(
        let z:=hU cP.2.li cP.2.lt cP.2.le (cD 4 x).q;let f:=(pS (D.agg [(cD 4 x),(cD 5 x),(cD 0 a),(cD 1 a),D.list ([] ++(cD 15 x).A)]));let V:=eU ({cP.2 with fC:=(D.ptr [(cD 0 f),(cD 1 f),(cD 2 f),(cD 3 f),(cD 4 f)]),jO:=(cD 4 x).q,ig:=(cD 5 x).q,sv:=(cD 0 a).A,sl:=(cD 1 a).A,aY:=([] ++(cD 15 x).A),bF:=(cD 4 x).q,gE:=0,gQ:=0,fu:=0,jx:=0,ft:=0,cg:=[],li:=z.2.1,lt:=z.2.2.1,le:=z.2.2.2}:RS);let R:=ez (aJ 46 iy [(0,D.int .i64 6),(2,(cD 1 x)),(4,(cD 4 x))]) V
        R)
       else(
        let g:=(pS (D.agg [(cD 4 x),(cD 5 x),(cD 0 a),(cD 1 a),D.list ([] ++(cD 15 x).A)]));let W:=eU ({cP.2 with fC:=(D.ptr [(cD 0 g),(cD 1 g),(cD 2 g),(cD 3 g),(cD 4 g)]),jO:=(cD 4 x).q,ig:=(cD 5 x).q,sv:=(cD 0 a).A,sl:=(cD 1 a).A,aY:=([] ++(cD 15 x).A),bF:=(cD 4 x).q,gE:=0,gQ:=0,fu:=0,jx:=0,ft:=0,cg:=[],li:=((cD 0 (cD 1 o)).q),lt:=((cD 1 (cD 1 o)).q),le:=((cD 2 (cD 1 o)).A)}:RS);let S:=ez (aJ 46 iy [(0,D.int .i64 6),(2,(cD 1 x)),(4,(cD 4 x))]) W
        S))))
    else(
     let q:=(jP (cD 4 x).q (cD 5 x).q)
     if(cD 0 q).gk then(
      let N:=(fB (D.agg [(cD 13 x),(cD 14 x)]));let G:=ez (aJ 46 iy [(0,D.int .i64 6),(2,(cD 1 x)),(4,(cD 4 x)),(9,D.int .i64 (([] :Taf).length:Int)),(10,D.int .i64 (bP 1 (cD 10 x).q))]) ({cP.2 with gE:=(cD 3 x).q,gQ:=(cD 1 x).q,fu:=(cD 4 x).q,jx:=(cD 5 x).q,ft:=(cD 10 x).q,cg:=[]}:RS)
      G)
     else(
      let N:=(fB (D.agg [(cD 13 x),(cD 14 x)]))
      if(((((([] :Taf).length:Int) !=(cD 10 x).q)||(decide ((cD 10 x).q<1)))&&true)||(!N)) then(
       let G:=ez (aJ 46 iy [(0,D.int .i64 6),(2,(cD 1 x)),(4,(cD 4 x)),(9,D.int .i64 (([] :Taf).length:Int)),(10,D.int .i64 (bP 1 (cD 10 x).q))]) ({cP.2 with gE:=(cD 3 x).q,gQ:=(cD 1 x).q,fu:=(cD 4 x).q,jx:=(cD 5 x).q,ft:=(cD 10 x).q,cg:=[]}:RS)
       G)
      else(
       let d:=(fN (D.agg [(cD 13 x),(cD 14 x)]));let K:=(ij cP.2.li cP.2.lt cP.2.le (cD 4 x).q)
       if((K.2==0)&&(K.1==(cD 5 x).q)) then(
        let B:=hU cP.2.li cP.2.lt cP.2.le (cD 4 x).q;let j:=(pS (D.agg [(cD 4 x),(cD 5 x),(cD 0 d),(cD 1 d),D.list []]));let Z:=eU ({cP.2 with fC:=(D.ptr [(cD 0 j),(cD 1 j),(cD 2 j),(cD 3 j),(cD 4 j)]),jO:=(cD 4 x).q,ig:=(cD 5 x).q,sv:=(cD 0 d).A,sl:=(cD 1 d).A,aY:=[],bF:=(cD 4 x).q,gE:=0,gQ:=0,fu:=0,jx:=0,ft:=0,cg:=[],li:=B.2.1,lt:=B.2.2.1,le:=B.2.2.2}:RS);let u:=ez (aJ 46 iy [(0,D.int .i64 6),(2,(cD 1 x)),(4,(cD 4 x))]) Z
        u)
       else(
        let k:=(pS (D.agg [(cD 4 x),(cD 5 x),(cD 0 d),(cD 1 d),D.list []]));let a0:=eU ({cP.2 with fC:=(D.ptr [(cD 0 k),(cD 1 k),(cD 2 k),(cD 3 k),(cD 4 k)]),jO:=(cD 4 x).q,ig:=(cD 5 x).q,sv:=(cD 0 d).A,sl:=(cD 1 d).A,aY:=[],bF:=(cD 4 x).q,gE:=0,gQ:=0,fu:=0,jx:=0,ft:=0,cg:=[],li:=((cD 0 (cD 1 q)).q),lt:=((cD 1 (cD 1 q)).q),le:=((cD 2 (cD 1 q)).A)}:RS);let y:=ez (aJ 46 iy [(0,D.int .i64 6),(2,(cD 1 x)),(4,(cD 4 x))]) a0
        y)))))
   else(
    let Q:=(na (cD 10 x).q 1 1048576)
    if((((cD 9 x).q==((cP.2.cg:Taf).length:Int))&&(decide ((((cD 15 x).A:Taf).length:Int)<=(i64.wrap ((cD 10 x).q-((cP.2.cg:Taf).length:Int))))))&&Q) then(
     let p:=(jP (cD 4 x).q (cD 5 x).q)
     if(cD 0 p).gk then(
      let M:=(fB (D.agg [(cD 13 x),(cD 14 x)]));let F:=ez (aJ 46 iy [(0,D.int .i64 6),(2,(cD 1 x)),(4,(cD 4 x)),(9,D.int .i64 (((cP.2.cg++(cD 15 x).A):Taf).length:Int)),(10,D.int .i64 (bP 1 (cD 10 x).q))]) ({cP.2 with cg:=(cP.2.cg++(cD 15 x).A)}:RS)
      F)
     else(
      let M:=(fB (D.agg [(cD 13 x),(cD 14 x)]))
      if(((((((cP.2.cg++(cD 15 x).A):Taf).length:Int) !=(cD 10 x).q)||(decide ((cD 10 x).q<1)))&&true)||(!M)) then(
       let F:=ez (aJ 46 iy [(0,D.int .i64 6),(2,(cD 1 x)),(4,(cD 4 x)),(9,D.int .i64 (((cP.2.cg++(cD 15 x).A):Taf).length:Int)),(10,D.int .i64 (bP 1 (cD 10 x).q))]) ({cP.2 with cg:=(cP.2.cg++(cD 15 x).A)}:RS)
       F)
      else(
       let c:=(fN (D.agg [(cD 13 x),(cD 14 x)]));let J:=(ij cP.2.li cP.2.lt cP.2.le (cD 4 x).q)
       if((J.2==0)&&(J.1==(cD 5 x).q)) then(
        let A:=hU cP.2.li cP.2.lt cP.2.le (cD 4 x).q;let h:=(pS (D.agg [(cD 4 x),(cD 5 x),(cD 0 c),(cD 1 c),D.list (cP.2.cg++(cD 15 x).A)]));let u:=eU ({cP.2 with fC:=(D.ptr [(cD 0 h),(cD 1 h),(cD 2 h),(cD 3 h),(cD 4 h)]),jO:=(cD 4 x).q,ig:=(cD 5 x).q,sv:=(cD 0 c).A,sl:=(cD 1 c).A,aY:=(cP.2.cg++(cD 15 x).A),bF:=(cD 4 x).q,gE:=0,gQ:=0,fu:=0,jx:=0,ft:=0,cg:=[],li:=A.2.1,lt:=A.2.2.1,le:=A.2.2.2}:RS);let T:=ez (aJ 46 iy [(0,D.int .i64 6),(2,(cD 1 x)),(4,(cD 4 x))]) u
        T)
       else(
        let i:=(pS (D.agg [(cD 4 x),(cD 5 x),(cD 0 c),(cD 1 c),D.list (cP.2.cg++(cD 15 x).A)]));let y:=eU ({cP.2 with fC:=(D.ptr [(cD 0 i),(cD 1 i),(cD 2 i),(cD 3 i),(cD 4 i)]),jO:=(cD 4 x).q,ig:=(cD 5 x).q,sv:=(cD 0 c).A,sl:=(cD 1 c).A,aY:=(cP.2.cg++(cD 15 x).A),bF:=(cD 4 x).q,gE:=0,gQ:=0,fu:=0,jx:=0,ft:=0,cg:=[],li:=((cD 0 (cD 1 p)).q),lt:=((cD 1 (cD 1 p)).q),le:=((cD 2 (cD 1 p)).A)}:RS);let U:=ez (aJ 46 iy [(0,D.int .i64 6),(2,(cD 1 x)),(4,(cD 4 x))]) y
        U))))
    else(
     let t:=(jP (cD 4 x).q (cD 5 x).q)
     if(cD 0 t).gk then(
      let O:=(fB (D.agg [(cD 13 x),(cD 14 x)]));let H:=ez (aJ 46 iy [(0,D.int .i64 6),(2,(cD 1 x)),(4,(cD 4 x)),(9,D.int .i64 ((cP.2.cg:Taf).length:Int)),(10,D.int .i64 (bP 1 (cD 10 x).q))]) cP.2
      H)
     else(
      let O:=(fB (D.agg [(cD 13 x),(cD 14 x)]))
      if((((((cP.2.cg:Taf).length:Int) !=(cD 10 x).q)||(decide ((cD 10 x).q<1)))&&true)||(!O)) then(
       let H:=ez (aJ 46 iy [(0,D.int .i64 6),(2,(cD 1 x)),(4,(cD 4 x)),(9,D.int .i64 ((cP.2.cg:Taf).length:Int)),(10,D.int .i64 (bP 1 (cD 10 x).q))]) cP.2
       H)
      else(
       let e:=(fN (D.agg [(cD 13 x),(cD 14 x)]));let a:=(ij cP.2.li cP.2.lt cP.2.le (cD 4 x).q)
       if((a.2==0)&&(a.1==(cD 5 x).q)) then(
        let C:=hU cP.2.li cP.2.lt cP.2.le (cD 4 x).q;let m:=(pS (D.agg [(cD 4 x),(cD 5 x),(cD 0 e),(cD 1 e),D.list cP.2.cg]));let a1:=eU ({cP.2 with fC:=(D.ptr [(cD 0 m),(cD 1 m),(cD 2 m),(cD 3 m),(cD 4 m)]),jO:=(cD 4 x).q,ig:=(cD 5 x).q,sv:=(cD 0 e).A,sl:=(cD 1 e).A,aY:=cP.2.cg,bF:=(cD 4 x).q,gE:=0,gQ:=0,fu:=0,jx:=0,ft:=0,cg:=[],li:=C.2.1,lt:=C.2.2.1,le:=C.2.2.2}:RS);let X:=ez (aJ 46 iy [(0,D.int .i64 6),(2,(cD 1 x)),(4,(cD 4 x))]) a1
        X)
       else(
        let n:=(pS (D.agg [(cD 4 x),(cD 5 x),(cD 0 e),(cD 1 e),D.list cP.2.cg]));let a2:=eU ({cP.2 with fC:=(D.ptr [(cD 0 n),(cD 1 n),(cD 2 n),(cD 3 n),(cD 4 n)]),jO:=(cD 4 x).q,ig:=(cD 5 x).q,sv:=(cD 0 e).A,sl:=(cD 1 e).A,aY:=cP.2.cg,bF:=(cD 4 x).q,gE:=0,gQ:=0,fu:=0,jx:=0,ft:=0,cg:=[],li:=((cD 0 (cD 1 t)).q),lt:=((cD 1 (cD 1 t)).q),le:=((cD 2 (cD 1 t)).A)}:RS);let Y:=ez (aJ 46 iy [(0,D.int .i64 6),(2,(cD 1 x)),(4,(cD 4 x))]) a2
        Y)))))))
def jy(x:D)(s:RS):D×RS:=
 let z:=(na (cD 1 x).q 1 5);let y:=(na (cD 3 x).q 1 1099511627776);let t:=(eI (cD 12 x).A)
 if(((decide ((cD 5 x).q>(cD 3 x).q))||((decide ((((cD 12 x).A:Taf).length:Int)>0))&&(decide (((cD 1 (((cD 12 x).A).getD ((i64.wrap ((((cD 12 x).A:Taf).length:Int)-1)):Int).toNat .top)).q)>(cD 3 x).q))))||(!t)) then(
  let p:=cq s
  (aJ 8 p.1 [],p.2))
 else(
  if(((!(((((cD 2 x).q==s.id)&&((cD 1 x).q !=s.id))&&z)&&y))||(decide ((cD 0 x).q<1)))||(decide ((cD 0 x).q>6))) then(
   let q:=cq s
   (aJ 8 q.1 [],q.2))
  else(
   if decide ((cD 3 x).q>s.term) then(
    let e:=gy (cD 3 x).q 0 s
    if decide ((cD 3 x).q<e.term) then(
     let j:=oi (aJ 46 x []) e;let g:=cq j
     (aJ 8 g.1 [],g.2))
    else(
     if((cD 0 x).q==1) then(
      let h:=uU (aJ 46 x []) e;let d:=cq h
      (aJ 8 d.1 [],d.2))
     else(
      if((cD 0 x).q==2) then(
       let d:=pY (aJ 46 x []) e;let c:=cq d
       (aJ 8 c.1 [],c.2))
      else(
       if((cD 0 x).q==3) then(
        let c:=mQ (aJ 46 x []) e;let a:=cq c
        (aJ 8 a.1 [],a.2))
       else(
        if((cD 0 x).q==4) then(
         let a:=jR (aJ 46 x []) e;let f:=cq a
         (aJ 8 f.1 [],f.2))
        else(
         if((cD 0 x).q==5) then(
          let f:=uV (aJ 46 x []) e;let i:=cq f
          (aJ 8 i.1 [],i.2))
         else(
          if((cD 0 x).q==6) then(
           let i:=lq (aJ 46 x []) e;let k:=cq i
           (aJ 8 k.1 [],k.2))
          else(
           let m:=cq e
           (aJ 8 m.1 [],m.2)))))))))
   else(
    if decide ((cD 3 x).q<s.term) then(
     let u:=oi (aJ 46 x []) s;let o:=cq u
     (aJ 8 o.1 [],o.2))
    else(
     if((cD 0 x).q==1) then(
      let j:=uU (aJ 46 x []) s;let g:=cq j
      (aJ 8 g.1 [],g.2))
     else(
      if((cD 0 x).q==2) then(
       let g:=pY (aJ 46 x []) s;let h:=cq g
       (aJ 8 h.1 [],h.2))
      else(
       if((cD 0 x).q==3) then(
        let h:=mQ (aJ 46 x []) s;let d:=cq h
        (aJ 8 d.1 [],d.2))
       else(
        if((cD 0 x).q==4) then(
         let d:=jR (aJ 46 x []) s;let c:=cq d
         (aJ 8 c.1 [],c.2))
        else(
         if((cD 0 x).q==5) then(
          let c:=uV (aJ 46 x []) s;let a:=cq c
          (aJ 8 a.1 [],a.2))
         else(
          if((cD 0 x).q==6) then(
           let a:=lq (aJ 46 x []) s;let f:=cq a
           (aJ 8 f.1 [],f.2))
          else(
           let n:=cq s
           (aJ 8 n.1 [],n.2)))))))))))
def On(c:RS):D×RS:=
 let a:=cq c
 (aJ 8 a.1 [],a.2)
def zy(c:Taf)(a:Int)(d:RS):(Int×RS)⊕(D×RS):=
 if decide (a<((c:Taf).length:Int)) then(
  let e:=eL ((((c).getD (a:Int).toNat .top)).q) d
  .inl ((i64.wrap (a+1)),e))
 else .inr (On d)
def EN(a:Taf)(c:Int)(d:RS):Nat:=a.length-c.toNat
def rC(c:Taf)(e:Int)(d:RS):D×RS:=iN (fun a:Int×RS=>zy c a.1 a.2) (.top,dK) (EN c e d+1) (e,d)
def jW(x:Int)(s:RS):D×RS:=
 if(s.role==2) then(
  if decide ((i64.wrap (s.wait+1))≥2) then(
   let z:=(eZ ({s with wait:=0}:RS));let y:=(gN (aJ 2 z []) ({s with wait:=0}:RS))
   rC y 0 ({s with wait:=0}:RS))
  else(
   let Q3:=cq ({s with wait:=(i64.wrap (s.wait+1))}:RS)
   (aJ 8 Q3.1 [],Q3.2)))
 else(
  if(s.end_==0) then(
   if decide (x<0) then(
    if decide ((i64.wrap (s.wait+1))≥(i64.wrap (10+((i64.wrap (0-(i64.wrap (x+1)))).tmod 10)))) then(
     let a:=lE ({s with wait:=(i64.wrap (s.wait+1)),end_:=(i64.wrap (10+((i64.wrap (0-(i64.wrap (x+1)))).tmod 10)))}:RS);let j:=(eZ a);let n:=(lK (aJ 2 j []) a.id)
     if(n&&(decide (a.term<1099511627776))) then(
      let p:=nG (aJ 2 j []) a;let d:=cq p
      (aJ 8 d.1 [],d.2))
     else(
      let e:=cq a
      (aJ 8 e.1 [],e.2)))
    else(
     let a:=cq ({s with wait:=(i64.wrap (s.wait+1)),end_:=(i64.wrap (10+((i64.wrap (0-(i64.wrap (x+1)))).tmod 10)))}:RS)
     (aJ 8 a.1 [],a.2)))
   else(
    if decide ((i64.wrap (s.wait+1))≥(i64.wrap (10+(x.tmod 10)))) then(
     let c:=lE ({s with wait:=(i64.wrap (s.wait+1)),end_:=(i64.wrap (10+(x.tmod 10)))}:RS);let k:=(eZ c);let o:=(lK (aJ 2 k []) c.id)
     if(o&&(decide (c.term<1099511627776))) then(
      let q:=nG (aJ 2 k []) c;let f:=cq q
      (aJ 8 f.1 [],f.2))
     else(
      let g:=cq c
      (aJ 8 g.1 [],g.2)))
    else(
     let c:=cq ({s with wait:=(i64.wrap (s.wait+1)),end_:=(i64.wrap (10+(x.tmod 10)))}:RS)
     (aJ 8 c.1 [],c.2))))
  else(
   if decide ((i64.wrap (s.wait+1))≥s.end_) then(
    let D1:=lE ({s with wait:=(i64.wrap (s.wait+1))}:RS);let m:=(eZ D1);let u:=(lK (aJ 2 m []) D1.id)
    if(u&&(decide (D1.term<1099511627776))) then(
     let t:=nG (aJ 2 m []) D1;let h:=cq t
     (aJ 8 h.1 [],h.2))
    else(
     let i:=cq D1
     (aJ 8 i.1 [],i.2)))
   else(
    let D1:=cq ({s with wait:=(i64.wrap (s.wait+1))}:RS)
    (aJ 8 D1.1 [],D1.2))))
def Fu(kj:(D×Int)×RS)(d:RS):(D×Int×D)×RS:=
 let c:=gR d;let a:=cq c
 ((aJ 29 kj.1.1 [],0,aJ 8 a.1 []),a.2)
def oG(kj:(D×Int)×RS)(e:Taf)(c:Int)(a:RS):(Int×RS)⊕((D×Int×D)×RS):=
 if decide (c<((e:Taf).length:Int)) then(
  if(((((e).getD (c:Int).toNat .top)).q)==0) then(
   if(a.wq==((cD 0 kj.1.1).q)) then(
    let d:=eL 0 a
    .inl ((i64.wrap (c+1)),d))
   else(
    .inl ((i64.wrap (c+1)),a)))
  else(
   if(((((e).getD (c:Int).toNat .top)).q)==1) then(
    if(a.uM==((cD 0 kj.1.1).q)) then(
     let d:=eL 1 a
     .inl ((i64.wrap (c+1)),d))
    else(
     .inl ((i64.wrap (c+1)),a)))
   else(
    if(((((e).getD (c:Int).toNat .top)).q)==2) then(
     if(a.uL==((cD 0 kj.1.1).q)) then(
      let d:=eL 2 a
      .inl ((i64.wrap (c+1)),d))
     else(
      .inl ((i64.wrap (c+1)),a)))
    else(
     if(((((e).getD (c:Int).toNat .top)).q)==3) then(
      if(a.uK==((cD 0 kj.1.1).q)) then(
       let d:=eL 3 a
       .inl ((i64.wrap (c+1)),d))
      else(
       .inl ((i64.wrap (c+1)),a)))
     else(
      if(((((e).getD (c:Int).toNat .top)).q)==4) then(
       if(a.uJ==((cD 0 kj.1.1).q)) then(
        let d:=eL 4 a
        .inl ((i64.wrap (c+1)),d))
       else(
        .inl ((i64.wrap (c+1)),a)))
      else(
       if(((((e).getD (c:Int).toNat .top)).q)==5) then(
        if(a.uI==((cD 0 kj.1.1).q)) then(
         let d:=eL 5 a
         .inl ((i64.wrap (c+1)),d))
        else(
         .inl ((i64.wrap (c+1)),a)))
       else(
        .inr ((.top,0,.top),dK))))))))
 else .inr (Fu kj a)
def xz(kj:(D×Int)×RS)(a:Taf)(c:Int)(d:RS):Nat:=a.length-c.toNat
def oH(kj:(D×Int)×RS)(c:Taf)(e:Int)(d:RS):(D×Int×D)×RS:=iN (fun a:Int×RS=>oG kj c a.1 a.2) ((.top,0,.top),dK) (xz kj c e d+1) (e,d)
def dT(x:D)(s:RS):(D×Int×D)×RS:=
 let a:=(Bd (aJ 27 x []) s)
 if(a !=0) then(
  let xh:=cq s
  ((aJ 29 pT [],a,aJ 8 xh.1 []),xh.2))
 else(
  let kj:=pw (aJ 27 x []) s
  if(kj.1.2 !=0) then(
   let W5:=cq kj.2
   ((aJ 29 pT [],kj.1.2,aJ 8 W5.1 []),W5.2))
  else(
   let d:=(eZ kj.2);let c:=(gN (aJ 2 d []) kj.2)
   oH kj c 0 kj.2))
def eP(x:Int)(y:Taf)(s:RS):(Int×D)×RS:=
 let k:=(gF s.li s.lt s.le)
 if((decide (((y:Taf).length:Int)<1))||(decide (((y:Taf).length:Int)>1048576))) then(
  let W6:=cq s
  ((1,aJ 8 W6.1 []),W6.2))
 else(
  if decide (x>s.bF) then(
   let i:=cq s
   ((3,aJ 8 i.1 []),i.2))
  else(
   if decide (x<=k.1) then(
    let h:=cq s
    ((0,aJ 8 h.1 []),h.2))
   else(
    let d:=(tD x s);let g:=(ij s.li s.lt s.le x);let c:=hU s.li s.lt s.le x;let e:=(lL y);let a:=(pS (D.agg [D.int .i64 x,D.int .i64 g.1,(cD 0 d),(cD 1 d),D.list e]));let j:=eU ({s with fC:=(D.ptr [(cD 0 a),(cD 1 a),(cD 2 a),(cD 3 a),(cD 4 a)]),jO:=x,ig:=g.1,sv:=(cD 0 d).A,sl:=(cD 1 d).A,aY:=e,li:=c.2.1,lt:=c.2.2.1,le:=c.2.2.2}:RS);let f:=cq j
    ((0,aJ 8 f.1 []),f.2))))
def fW{l:Taf}(h:dn (.V eR) l): ∃s:RS,l=encS s:=by obtain⟨_,_,rfl,⟨v0,rfl⟩,h1⟩:=ag.1 h;obtain⟨_,_,rfl,⟨v1,rfl,_⟩,h2⟩:=ag.1 h1;obtain⟨_,_,rfl,⟨v2,rfl,_⟩,h3⟩:=ag.1 h2;obtain⟨_,_,rfl,⟨v3,rfl,_,_⟩,h4⟩:=ag.1 h3;obtain⟨v4,_,rfl,_,h5⟩:=ag.1 h4;obtain⟨_,_,rfl,⟨v5,rfl,_,_⟩,h6⟩:=ag.1 h5;obtain⟨_,_,rfl,⟨v6,rfl,_,_⟩,h7⟩:=ag.1 h6;obtain⟨_,_,rfl,⟨v7,rfl,_,_⟩,h8⟩:=ag.1 h7;obtain⟨_,_,rfl,⟨v8,rfl,_⟩,h9⟩:=ag.1 h8;obtain⟨_,_,rfl,⟨v9,rfl,_,_⟩,e5⟩:=ag.1 h9;obtain⟨_,_,rfl,⟨Y,rfl,_,_⟩,e4⟩:=ag.1 e5;obtain⟨_,_,rfl,⟨X,rfl,_⟩,e3⟩:=ag.1 e4;obtain⟨_,_,rfl,⟨W,rfl,_⟩,e2⟩:=ag.1 e3;obtain⟨_,_,rfl,⟨_,rfl,rfl⟩,e1⟩:=ag.1 e2;obtain⟨_,_,rfl,⟨V,rfl,_⟩,e0⟩:=ag.1 e1;obtain⟨_,_,rfl,⟨U,rfl,_⟩,d9⟩:=ag.1 e0;obtain⟨_,_,rfl,⟨T,rfl,_,_⟩,d8⟩:=ag.1 d9;obtain⟨_,_,rfl,⟨S,rfl,_,_⟩,d7⟩:=ag.1 d8;obtain⟨_,_,rfl,⟨R,rfl,_,_⟩,d6⟩:=ag.1 d7;obtain⟨_,_,rfl,⟨Q,rfl,_⟩,d5⟩:=ag.1 d6;obtain⟨_,_,rfl,⟨P,rfl,_⟩,d4⟩:=ag.1 d5;obtain⟨_,_,rfl,⟨O,rfl,_⟩,d3⟩:=ag.1 d4;obtain⟨_,_,rfl,⟨N,rfl,_⟩,d2⟩:=ag.1 d3;obtain⟨_,_,rfl,⟨M,rfl,_⟩,d1⟩:=ag.1 d2;obtain⟨_,_,rfl,⟨L,rfl,_,_⟩,d0⟩:=ag.1 d1;obtain⟨_,_,rfl,⟨K,rfl,_⟩,c9⟩:=ag.1 d0;obtain⟨_,_,rfl,⟨J,rfl,_⟩,c7⟩:=ag.1 c9;obtain⟨_,_,rfl,⟨I,rfl,_⟩,c6⟩:=ag.1 c7;obtain⟨_,_,rfl,⟨H,rfl,_⟩,c5⟩:=ag.1 c6;obtain⟨_,_,rfl,⟨G,rfl,_⟩,c4⟩:=ag.1 c5;obtain⟨_,_,rfl,⟨F,rfl,_⟩,c2⟩:=ag.1 c4;obtain⟨_,_,rfl,⟨E,rfl,_⟩,c1⟩:=ag.1 c2;obtain⟨_,_,rfl,⟨C,rfl,_⟩,c0⟩:=ag.1 c1;obtain⟨_,_,rfl,⟨B,rfl,_⟩,b9⟩:=ag.1 c0;obtain⟨_,_,rfl,⟨A,rfl,_⟩,b8⟩:=ag.1 b9;obtain⟨_,_,rfl,⟨z,rfl,_⟩,b7⟩:=ag.1 b8;obtain⟨_,_,rfl,⟨y,rfl,_⟩,b6⟩:=ag.1 b7;obtain⟨_,_,rfl,⟨x,rfl,_⟩,b5⟩:=ag.1 b6;obtain⟨_,_,rfl,⟨u,rfl,_⟩,b4⟩:=ag.1 b5;obtain⟨_,_,rfl,⟨t,rfl,_⟩,b3⟩:=ag.1 b4;obtain⟨_,_,rfl,⟨q,rfl,_⟩,b2⟩:=ag.1 b3;obtain⟨_,_,rfl,⟨p,rfl,_⟩,b1⟩:=ag.1 b2;obtain⟨_,_,rfl,⟨o,rfl,_⟩,b0⟩:=ag.1 b1;obtain⟨_,_,rfl,⟨n,rfl,_⟩,a9⟩:=ag.1 b0;obtain⟨_,_,rfl,⟨m,rfl,_,_⟩,a8⟩:=ag.1 a9;obtain⟨_,_,rfl,⟨k,rfl,_⟩,a7⟩:=ag.1 a8;obtain⟨_,_,rfl,⟨j,rfl,_⟩,a6⟩:=ag.1 a7;obtain⟨_,_,rfl,⟨i,rfl,_⟩,a5⟩:=ag.1 a6;obtain⟨_,_,rfl,⟨g,rfl,_⟩,a4⟩:=ag.1 a5;obtain⟨_,_,rfl,⟨f,rfl,_⟩,a3⟩:=ag.1 a4;obtain⟨_,_,rfl,⟨e,rfl,_,_⟩,a2⟩:=ag.1 a3;obtain⟨_,_,rfl,⟨d,rfl,_⟩,a1⟩:=ag.1 a2;obtain⟨_,_,rfl,⟨c,rfl,_⟩,a0⟩:=ag.1 a1;obtain⟨_,_,rfl,⟨a,rfl,_,_⟩,Z⟩:=ag.1 a0;obtain rfl:=dg.1 Z;exact⟨⟨v0,v1,v2,v3,v4,v5,v6,v7,v8,v9,Y,X,W,V,U,T,S,R,Q,P,O,N,M,L,K,J,I,H,G,F,E,C,B,A,z,y,x,u,t,q,p,o,n,m,k,j,i,g,f,e,d,c,a⟩,rfl⟩
@[irreducible] def G (k:Nat):Nat:=k*1073741824
def C3(k:Nat):G (k+1)=G k+1073741824:=by unfold G;rw[cb,Nat.one_mul]
def ZA{j k:Nat}(h:j<=k):G j<=G k:=by unfold G;exact au _ h
structure cJ(C M:Nat)(s:RS)(k:Nat):Prop where
 may:eV s.li s.lt s.le=true
 xV:1<=s.id
 xU:s.id<=5
 qV:s.le.length+k<=1073741824
 nm:s.msgs.length+k<=M
 ne:s.dW.length+k<=4294967296
 nc:s.bZ.length+G k<=C
 nv:s.bc.length+k<=4294967296
 cf:fB (.agg [.list s.fv,.list s.fl])=true
 cs:0<s.li->fB (.agg [.list s.sv,.list s.sl])=true
 cl:eI s.le=true
 tm:0<=s.term
 tx:s.term<=MX
 rd:s.reads=[]
abbrev Ok(s:RS)(k:Nat):Prop:=cJ 274877906944 4294967296 s k
def mz{d:D}(h:Has tC d): ∃s:RS,d=Cu s:=by obtain⟨_,rfl,h0⟩:=iF.1 h;obtain⟨_,_,rfl,⟨v0,rfl⟩,h1⟩:=ag.1 h0;obtain⟨_,_,rfl,⟨v1,rfl,_⟩,h2⟩:=ag.1 h1;obtain⟨_,_,rfl,⟨v2,rfl,_⟩,h3⟩:=ag.1 h2;obtain⟨_,_,rfl,⟨v3,rfl,_,_⟩,h4⟩:=ag.1 h3;obtain⟨v4,_,rfl,_,h5⟩:=ag.1 h4;obtain⟨_,_,rfl,⟨v5,rfl,_,_⟩,h6⟩:=ag.1 h5;obtain⟨_,_,rfl,⟨v6,rfl,_,_⟩,h7⟩:=ag.1 h6;obtain⟨_,_,rfl,⟨v7,rfl,_,_⟩,h8⟩:=ag.1 h7;obtain⟨_,_,rfl,⟨v8,rfl,_⟩,h9⟩:=ag.1 h8;obtain⟨_,_,rfl,⟨v9,rfl,_,_⟩,e0⟩:=ag.1 h9;obtain⟨_,_,rfl,⟨W,rfl,_,_⟩,d9⟩:=ag.1 e0;obtain⟨_,_,rfl,⟨V,rfl,_⟩,d8⟩:=ag.1 d9;obtain⟨_,_,rfl,⟨U,rfl,_⟩,d7⟩:=ag.1 d8;obtain⟨_,_,rfl,⟨_,rfl,⟨_,_,rfl,⟨w0,rfl,_⟩,_,_,rfl,⟨w1,rfl,_⟩,_,_,rfl,⟨w2,rfl,_,_⟩,rfl⟩⟩,d6⟩:=ag.1 d7;obtain⟨_,_,rfl,⟨T,rfl,_⟩,d5⟩:=ag.1 d6;obtain⟨_,_,rfl,⟨S,rfl,_⟩,d4⟩:=ag.1 d5;obtain⟨_,_,rfl,⟨R,rfl,_,_⟩,d3⟩:=ag.1 d4;obtain⟨_,_,rfl,⟨Q,rfl,_,_⟩,d2⟩:=ag.1 d3;obtain⟨_,_,rfl,⟨P,rfl,_,_⟩,d1⟩:=ag.1 d2;obtain⟨_,_,rfl,⟨O,rfl,_⟩,d0⟩:=ag.1 d1;obtain⟨_,_,rfl,⟨N,rfl,_⟩,c9⟩:=ag.1 d0;obtain⟨_,_,rfl,⟨M,rfl,_⟩,c7⟩:=ag.1 c9;obtain⟨_,_,rfl,⟨L,rfl,_⟩,c6⟩:=ag.1 c7;obtain⟨_,_,rfl,⟨K,rfl,_⟩,c5⟩:=ag.1 c6;obtain⟨_,_,rfl,⟨J,rfl,_,_⟩,c4⟩:=ag.1 c5;obtain⟨_,_,rfl,⟨I,rfl,_⟩,c2⟩:=ag.1 c4;obtain⟨_,_,rfl,⟨H,rfl,_⟩,c1⟩:=ag.1 c2;obtain⟨_,_,rfl,⟨G,rfl,_⟩,c0⟩:=ag.1 c1;obtain⟨_,_,rfl,⟨F,rfl,_⟩,b9⟩:=ag.1 c0;obtain⟨_,_,rfl,⟨E,rfl,_⟩,b8⟩:=ag.1 b9;obtain⟨_,_,rfl,⟨C,rfl,_⟩,b7⟩:=ag.1 b8;obtain⟨_,_,rfl,⟨B,rfl,_⟩,b6⟩:=ag.1 b7;obtain⟨_,_,rfl,⟨A,rfl,_⟩,b5⟩:=ag.1 b6;obtain⟨_,_,rfl,⟨z,rfl,_⟩,b4⟩:=ag.1 b5;obtain⟨_,_,rfl,⟨y,rfl,_⟩,b3⟩:=ag.1 b4;obtain⟨_,_,rfl,⟨x,rfl,_⟩,b2⟩:=ag.1 b3;obtain⟨_,_,rfl,⟨u,rfl,_⟩,b1⟩:=ag.1 b2;obtain⟨_,_,rfl,⟨t,rfl,_⟩,b0⟩:=ag.1 b1;obtain⟨_,_,rfl,⟨q,rfl,_⟩,a9⟩:=ag.1 b0;obtain⟨_,_,rfl,⟨p,rfl,_⟩,a8⟩:=ag.1 a9;obtain⟨_,_,rfl,⟨o,rfl,_⟩,a7⟩:=ag.1 a8;obtain⟨_,_,rfl,⟨n,rfl,_⟩,a6⟩:=ag.1 a7;obtain⟨_,_,rfl,⟨m,rfl,_⟩,a5⟩:=ag.1 a6;obtain⟨_,_,rfl,⟨k,rfl,_⟩,a4⟩:=ag.1 a5;obtain⟨_,_,rfl,⟨j,rfl,_,_⟩,a3⟩:=ag.1 a4;obtain⟨_,_,rfl,⟨i,rfl,_⟩,a2⟩:=ag.1 a3;obtain⟨_,_,rfl,⟨g,rfl,_⟩,a1⟩:=ag.1 a2;obtain⟨_,_,rfl,⟨f,rfl,_⟩,a0⟩:=ag.1 a1;obtain⟨_,_,rfl,⟨e,rfl,_⟩,Z⟩:=ag.1 a0;obtain⟨_,_,rfl,⟨c,rfl,_⟩,Y⟩:=ag.1 Z;obtain⟨_,_,rfl,⟨a,rfl,_,_⟩,X⟩:=ag.1 Y;obtain rfl:=dg.1 X;exact⟨⟨v0,v1,v2,v3,v4,v5,v6,v7,v8,v9,W,V,U,T,S,R,Q,P,O,N,M,L,K,J,I,H,G,F,E,C,B,A,z,y,x,u,t,q,p,o,n,m,k,j,i,g,f,e,c,a,w0,w1,w2⟩,rfl⟩
def cz(f:Nat)(ds:Taf):D:=
 let a:=ds.getD 0 .top;let b:=ds.getD 1 .top;let c:=ds.getD 2 .top;let d:=ds.getD 3 .top
 match f with
 |79=>.int .i64 (findF (fun y=>y==b.q) (iT a) 0)
 |56=>.bool (decide (b.q∈iT a))
 |61=>vN ds
 |82=>yo ds
 |83=>yD ds
 |55=>.bool (qX 0 (iT a))
 |21=>.bool (yK (vo a) (lr a))
 |36=>.bool (decide (b.q∈vo a))
 |63=>.list (jH a)
 |66=>.bool (Gc (vo a) (iT b))
 |72=>.int .i64 (sw a b)
 |70=>.bool (F9 (vo a) (lr a) (vo b) (lr b))
 |20=>.bool (na a.q b.q c.q)
 |52=>a
 |60=>.bool (wA (.fn 0 []) a)
 |80=>.int .i64 (findF (wA b) a.A 0)
 |59=>.bool (mC a.A b)
 |24=>.bool (eI a.A)
 |26=>a
 |28=>.eS [.int .i64 (gF (cD 0 (ds.getD 0 .top)).q (cD 1 (ds.getD 0 .top)).q (cD 2 (ds.getD 0 .top)).A).1,.int .i64 (gF (cD 0 (ds.getD 0 .top)).q (cD 1 (ds.getD 0 .top)).q (cD 2 (ds.getD 0 .top)).A).2]
 |25=>.eS [.int .i64 (gf (cD 0 (ds.getD 0 .top)).q (cD 1 (ds.getD 0 .top)).q (cD 2 (ds.getD 0 .top)).A).1,.int .i64 (gf (cD 0 (ds.getD 0 .top)).q (cD 1 (ds.getD 0 .top)).q (cD 2 (ds.getD 0 .top)).A).2]
 |50=>.eS [.int .i64 (ij (cD 0 (ds.getD 0 .top)).q (cD 1 (ds.getD 0 .top)).q (cD 2 (ds.getD 0 .top)).A (ds.getD 1 .top).q).1,.int .i64 (ij (cD 0 (ds.getD 0 .top)).q (cD 1 (ds.getD 0 .top)).q (cD 2 (ds.getD 0 .top)).A (ds.getD 1 .top).q).2]
 |74=>.bool (HK (cD 0 (ds.getD 0 .top)).q (cD 1 (ds.getD 0 .top)).q (cD 2 (ds.getD 0 .top)).A (ds.getD 1 .top).q (ds.getD 2 .top).q)
 |65=>PS ds
 |49=>(tD (ds.getD 1 .top).q (tz (ds.getD 0 .top)))
 |29=>(eZ (tz (ds.getD 0 .top)))
 |32=>.list (gN (ds.getD 1 .top) (tz (ds.getD 0 .top)))
 |76=>.bool (se (ds.getD 1 .top).q (tz (ds.getD 0 .top)))
 |69=>.bool (td (tz (ds.getD 0 .top)))
 |68=>.bool (vB (tz (ds.getD 0 .top)))
 |38=>.int .i64 (Bd (ds.getD 1 .top) (tz (ds.getD 0 .top)))
 |12=>(Jo (tz (ds.getD 0 .top)))
 |57=>.bool (na a.q b.q c.q)
 |58=>.bool (eV a.q b.q c.A)
 |23=>.eS [.eS [.int .i64 (iS (ds.getD 3 .top).q (ds.getD 4 .top).q (ds.getD 5 .top).A a.q b.q c.A).1,.bool (jB (ds.getD 3 .top).q (ds.getD 4 .top).q (ds.getD 5 .top).A a.q b.q c.A)],oT (ds.getD 3 .top).q (ds.getD 4 .top).q (iS (ds.getD 3 .top).q (ds.getD 4 .top).q (ds.getD 5 .top).A a.q b.q c.A).2]
 |71=>.eS [.eS [wv (ds.getD 2 .top).q (ds.getD 3 .top).q (ds.getD 4 .top).A a.q b,.int .i64 (oV (ds.getD 2 .top).q (ds.getD 3 .top).q (ds.getD 4 .top).A a.q)],oT (ds.getD 2 .top).q (ds.getD 3 .top).q (pO (ds.getD 2 .top).q (ds.getD 3 .top).q (ds.getD 4 .top).A a.q b)]
 |51=>.eS [.int .i64 (xn (ds.getD 1 .top).q (ds.getD 3 .top).A a.q),oT (jk (ds.getD 1 .top).q (ds.getD 2 .top).q (ds.getD 3 .top).A a.q).1 (jk (ds.getD 1 .top).q (ds.getD 2 .top).q (ds.getD 3 .top).A a.q).2.1 (jk (ds.getD 1 .top).q (ds.getD 2 .top).q (ds.getD 3 .top).A a.q).2.2]
 |53=>iz (eU (ic (ds.drop 0)))
 |35=>iz (lE (ic (ds.drop 0)))
 |64=>iz (ez (ds.getD 0 .top) (ic (ds.drop 1)))
 |41=>iz (gy (ds.getD 0 .top).q (ds.getD 1 .top).q (ic (ds.drop 2)))
 |34=>Ei (cq (ic (ds.drop 0)))
 |39=>Je (pw (ds.getD 0 .top) (ic (ds.drop 1)))
 |33=>iz (eL (ds.getD 0 .top).q (ic (ds.drop 1)))
 |84=>.bool (ru a)
 |73=>Jf (iW (ds.getD 0 .top).q (ic (ds.drop 1)))
 |40=>iz (gR (ic (ds.drop 0)))
 |67=>iz (xk (ic (ds.drop 0)))
 |37=>iz (nG (ds.getD 0 .top) (ic (ds.drop 1)))
 |42=>iz (oi (ds.getD 0 .top) (ic (ds.drop 1)))
 |43=>iz (uU (ds.getD 0 .top) (ic (ds.drop 1)))
 |44=>iz (pY (ds.getD 0 .top) (ic (ds.drop 1)))
 |75=>Jf (il (ds.getD 0 .top) (ic (ds.drop 1)))
 |45=>iz (mQ (ds.getD 0 .top) (ic (ds.drop 1)))
 |77=>iz (hC (ds.getD 0 .top) (ic (ds.drop 1)))
 |78=>iz (tT (ds.getD 0 .top).q (ds.getD 1 .top).q (ic (ds.drop 2)))
 |46=>iz (jR (ds.getD 0 .top) (ic (ds.drop 1)))
 |48=>iz (lq (ds.getD 0 .top) (ic (ds.drop 1)))
 |27=>pS a
 |47=>iz (uV (ds.getD 0 .top) (ic (ds.drop 1)))
 |17=>Ei (jy (ds.getD 0 .top) (ic (ds.drop 1)))
 |15=>Ei (jW (ds.getD 0 .top).q (ic (ds.drop 1)))
 |81=>.bool (decide (iT a=iT b))
 |62=>.bool (decide (vo a=vo b)&&decide (lr a=lr b))
 |31=>.bool (L5 a b)
 |8=>.int .i64 (gP a.q b.q)
 |22=>jP a.q b.q
 |_=>.bool true
def pre(f:Nat)(ds:Taf):Prop:=
 let a:=ds.getD 0 .top;let b:=ds.getD 1 .top;let c:=ds.getD 2 .top;let d:=ds.getD 3 .top
 match f with
 |63=>((vo a).length+(lr a).length)*8<=140737488355328
 |25=>eV (cD 0 a).q (cD 1 a).q (cD 2 a).A=true
 |50=>eV (cD 0 a).q (cD 1 a).q (cD 2 a).A=true
 |74=>eV (cD 0 a).q (cD 1 a).q (cD 2 a).A=true
 |65=>aee ds
 |49=>Ok (tz a) 0
 |29=>Ok (tz a) 0
 |32=>Ok (tz a) 0∧fB b=true
 |76=>Ok (tz a) 0
 |69=>Ok (tz a) 0
 |68=>Ok (tz a) 0
 |38=>Ok (tz a) 0
 |12=>Ok (tz a) 0
 |23=>eV (ds.getD 3 .top).q (ds.getD 4 .top).q (ds.getD 5 .top).A=true∧(ds.getD 5 .top).A.length<4294967296∧(ds.getD 2 .top).A.length<4294967296
 |71=>eV (ds.getD 2 .top).q (ds.getD 3 .top).q (ds.getD 4 .top).A=true∧(ds.getD 4 .top).A.length<4294967296
 |51=>eV (ds.getD 1 .top).q (ds.getD 2 .top).q (ds.getD 3 .top).A=true
 |64=>Ok (ic (ds.drop 1)) 1
 |39=>Ok (ic (ds.drop 1)) 1
 |33=>Ok (ic (ds.drop 1)) 1∧0<=a.q∧a.q<=5
 |73=>Ok (ic (ds.drop 1)) 1
 |40=>Ok (ic (ds.drop 0)) 1
 |67=>Ok (ic (ds.drop 0)) 13
 |37=>Ok (ic (ds.drop 1)) 14∧fB a=true∧(ic (ds.drop 1)).term<MX
 |42=>Ok (ic (ds.drop 1)) 1
 |43=>Ok (ic (ds.drop 1)) 1
 |44=>Ok (ic (ds.drop 1)) 15
 |45=>Ok (ic (ds.drop 1)) (4+(cD 12 a).A.length)∧(cD 12 a).A.length<=2147483648∧eI (cD 12 a).A=true
 |77=>Ok (ic (ds.drop 1)) 0
 |78=>Ok (ic (ds.drop 2)) 2∧0<=a.q∧a.q<=5
 |46=>Ok (ic (ds.drop 1)) 4∧0<=(cD 1 a).q∧(cD 1 a).q<=5
 |48=>Ok (ic (ds.drop 1)) 4∧0<=(cD 1 a).q∧(cD 1 a).q<=5
 |47=>Ok (ic (ds.drop 1)) 2
 |17=>Ok (ic (ds.drop 1)) (20+(cD 12 a).A.length)∧(cD 12 a).A.length<=2147483648
 |15=>Ok (ic (ds.drop 1)) 20
 |8=>b.q≠0
 |_=>True
def Y1:Tah:=[8,12,15,17,23,25,29,32,33,37,38,39,40,42,43,44,45,46,47,48,49,50,51,63,64,65,67,68,69,71,73,74,76,77,78]
def mix:Try.prog.follows .mixedOrders=true:=by kernel_rfl
section
variable(l r v w:List Int)(b:Int)
def Va:cz 56 [.list (l.map (D.int .i64)),.int .i64 b] = .bool (decide (b∈l)):=by simp[cz,fa,bT]
def ae6:cz 61 [.list (l.map (D.int .i64))] = .list (l.map (D.int .i64)):=rfl
def Zt:cz 82 [.list (l.map (D.int .i64))] = .list ((jV l).map (D.int .i64)):=by simp[cz,yo,fa]
def abv:cz 82 [.list (l.map (D.int .i64)++r.map (D.int .i64))] = .list ((jV (l++r)).map (D.int .i64)):=by rw[<-ck];exact Zt _
def ae5:cz 83 [.list (l.map (D.int .i64))] = .list ((Lib.compact l).map (D.int .i64)):=by simp[cz,yD,fa]
def ae0:cz 55 [.list (l.map (D.int .i64))] = .bool (qX 0 l):=by simp[cz,fa]
def Zu:cz 21 [.agg [.list (v.map (D.int .i64)),.list (l.map (D.int .i64))]] = .bool (yK v l):=by simp[cz,xj,Eo]
def Zs:cz 36 [.agg [.list (v.map (D.int .i64)),.list (l.map (D.int .i64))],.int .i64 b] = .bool (decide (b∈v)):=by simp[cz,xj,bT]
def ae2:cz 63 [.agg [.list (v.map (D.int .i64)),.list (l.map (D.int .i64))]] = .list ((Ee v l).map (D.int .i64)):=by simp[cz,jH,HI,xj,Eo]
def ae3:cz 66 [.agg [.list (v.map (D.int .i64)),.list (l.map (D.int .i64))],.list (r.map (D.int .i64))] = .bool (Gc v r):=by simp[cz,xj,fa]
def ae7:cz 72 [.agg [.list (v.map (D.int .i64)),.list (l.map (D.int .i64))],.list (r.map (D.int .i64))] = .int .i64 (uS v r):=by simp[cz,sw,Vp,xj,fa]
def aeZ:cz 70 [.agg [.list (v.map (D.int .i64)),.list (l.map (D.int .i64))],.agg [.list (w.map (D.int .i64)),.list (r.map (D.int .i64))]] = .bool (F9 v l w r):=by simp[cz,xj,Eo]
def ae4:cz 81 [.list (l.map (D.int .i64)),.list (r.map (D.int .i64))] = .bool (decide (l=r)):=by simp[cz,fa]
def abx:cz 62 [.agg [.list (v.map (D.int .i64)),.list (l.map (D.int .i64))],.agg [.list (w.map (D.int .i64)),.list (r.map (D.int .i64))]] = .bool (decide (v=w)&&decide (l=r)):=by simp[cz,xj,Eo]
end
def triv(f:Nat):Bool:= !(Y1.contains f)
def kA: ∀f a,triv f=true->pre f a:=by intro f a h;unfold pre;split<;>first|trivial|(simp[triv,Y1]at h)
variable{C M:Nat}
def cJ.le{s:RS}{k j:Nat}(h:cJ C M s k)(a:j<=k):cJ C M s j:=
 ⟨h.may,h.xV,h.xU,by have:=h.qV;omega,by have:=h.nm;omega,by have:=h.ne;omega,by have:=h.nc;have:=ZA a;omega,by have:=h.nv;omega,h.cf,h.cs,h.cl,h.tm,h.tx,h.rd⟩
structure wB(s t:RS):Prop where
 li:t.li=s.li
 lt:t.lt=s.lt
 le:t.le=s.le
 id:t.id=s.id
 msgs:t.msgs=s.msgs
 dW:t.dW=s.dW
 bZ:t.bZ=s.bZ
 bc:t.bc=s.bc
 fv:t.fv=s.fv
 fl:t.fl=s.fl
 sv:t.sv=s.sv
 sl:t.sl=s.sl
 term:t.term=s.term
 reads:t.reads=s.reads
abbrev Mi(s:RS):=(s.li,s.lt,s.le,s.id,s.msgs,s.dW,s.bZ,s.bc,s.fv,s.fl,s.sv,s.sl,s.term,s.reads)
def fH{s t:RS}(h:Mi t=Mi s:=by rfl):wB s t:=by unfold Mi at h;simp only[ae]at h;obtain⟨o,n,m,l,k,j,i,g,f,e,d,c,b,a⟩:=h;exact⟨o,n,m,l,k,j,i,g,f,e,d,c,b,a⟩
def cJ.same{s t:RS}{k:Nat}(h:cJ C M s k)(e:wB s t):cJ C M t k:=by
 obtain⟨i,q,g,p,o,n,m,l,j,f,d,c,b,a⟩:=e;refine⟨?_,?_,?_,?_,?_,?_,?_,?_,?_,?_,?_,?_,?_,?_⟩
 all_goals first
  |(rw[i,q,g];exact h.may)
  |(rw[p];first|exact h.xV|exact h.xU)
  |(rw[g];first|exact h.qV|exact h.cl)
  |(rw[o];exact h.nm)
  |(rw[n];exact h.ne)
  |(rw[m];exact h.nc)
  |(rw[l];exact h.nv)
  |(rw[j,f];exact h.cf)
  |(rw[i,d,c];exact h.cs)
  |(rw[b];first|exact h.tm|exact h.tx)
  |(rw[a];exact h.rd)
def cJ.send{s:RS}{k:Nat}{x:D}(h:cJ C M s (k+1)):cJ C M (ez x s) k:=by refine⟨h.may,h.xV,h.xU,by have:=h.qV;show s.le.length+k<=_;omega,?_,by have:=h.ne;show s.dW.length+_<=_;omega,by have:=h.nc;have:=C3 k;show s.bZ.length+_<=_;omega,by have:=h.nv;show s.bc.length+k<=_;omega,h.cf,h.cs,h.cl,h.tm,h.tx,h.rd⟩;have:=h.nm;simp only[ez,ah,aZ];omega
def cJ.saved{s:RS}{k:Nat}(h:cJ C M s k):cJ C M (eU s) k:=h.same fH
def cJ.NM{s:RS}{k:Nat}(h:cJ C M s k):cJ C M (lE s) k:=h.same fH
def cJ.follow{s:RS}{k:Nat}{x y:Int}(h:cJ C M s k)(c:0<=x)(b:x<=MX):cJ C M (gy x y s) k:=by
 have a:([] :Taf).length+k<=4294967296:=by have:=h.nv;simp;omega
 unfold gy;split
 ·exact⟨h.may,h.xV,h.xU,h.qV,h.nm,h.ne,h.nc,a,h.cf,h.cs,h.cl,c,b,rfl⟩
 ·exact⟨h.may,h.xV,h.xU,h.qV,h.nm,h.ne,h.nc,a,h.cf,h.cs,h.cl,h.tm,h.tx,rfl⟩
def cJ.done{s:RS}{k:Nat}(h:cJ C M s k):cJ C M (cq s).2 k:=
 ⟨h.may,h.xV,h.xU,h.qV,by have:=h.nm;show([] :Taf).length+k<=_;simp;omega,by have:=h.ne;show([] :Taf).length+_<=_;simp;omega,by have:=h.nc;show([] :Taf).length+_<=_;simp;omega,h.nv,h.cf,h.cs,h.cl,h.tm,h.tx,h.rd⟩
def cJ.LW{s:RS}{k:Nat}(h:cJ C M s k):okB s.li s.lt=true:=by have:=h.may;unfold eV at this;exact(aS _ _▸this).1
def cJ.li{s:RS}{k:Nat}(h:cJ C M s k):0<=s.li∧s.li+s.le.length<=MX:=by obtain⟨⟨c,b,_,_⟩,a⟩:=eH.1 h.may;exact⟨c,ui b a⟩
def sX{i f m:Int}{l:Taf}{x:D}(h:x∈gK i l f m):x∈l:=by
 unfold gK at h;split at h
 ·simp at h
 ·exact cG (cF h)
def cJ.bZ{s:RS}{k:Nat}{x:Int}(h:cJ C M s (k+1)):cJ C M (iW x s).2 k:=by
 have e:iW x s=if decide (x<=s.bF) then(false,s) else(mC (dP s.li s.lt s.le (i64.wrap (s.bF+1)) (i64.wrap (x-s.bF))) (D.fn 84 []),{s with bZ:=s.bZ++dP s.li s.lt s.le (i64.wrap (s.bF+1)) (i64.wrap (x-s.bF)),bF:=x}):=rfl
 rw[e];by_cases a:decide (x<=s.bF)=true
 ·rw[if_pos a];exact h.le (by omega)
 ·rw[if_neg a];refine⟨h.may,h.xV,h.xU,by have:=h.qV;show s.le.length+k<=_;omega,by have:=h.nm;show s.msgs.length+_<=_;omega,by have:=h.ne;show s.dW.length+_<=_;omega,?_,by have:=h.nv;show s.bc.length+k<=_;omega,h.cf,h.cs,h.cl,h.tm,h.tx,h.rd⟩;have g:=h.nc;have b:=C3 k;have d:=h.qV;have c:=sY (i:=s.li) (f:=i64.wrap (s.bF+1)) (m:=i64.wrap (x-s.bF)) (l:=s.le);show(s.bZ++gK _ _ _ _).length+_<=_;rw[ah];omega
def gO{l:Taf}:eI l=true↔ ∀x∈l,ru x=true->fB (XB x)=true:=by
 unfold eI;rw[ff,List.any_eq_false];constructor
 ·intro h x b a;have:=h x b;rw[a]at this;simpa using this
 ·intro h x b a;rw[aS]at a;rw[h x b a.1]at a;simp at a
def DO{l r:Taf}(h:eI l=true)(b: ∀x∈r,x∈l):eI r=true:=gO.2 fun x a=>gO.1 h x (b x a)
def DP{l r:Taf}(h:eI l=true)(b:eI r=true):eI (l++r)=true:=gO.2 fun x a=>(aI.1 a).elim (gO.1 h x) (gO.1 b x)
def cJ.put{s:RS}{k:Nat}{c:D}(h:cJ C M s (k+1))(g:(cD 0 c).q=2->fB (.agg [cD 25 c,cD 26 c])=true):cJ C M (pw c s).2 k:=by
 obtain⟨d,i⟩:=Oq (m:=s.term) (c:=aJ 27 c []) h.may
 have a:eI (pO s.li s.lt s.le s.term (aJ 27 c []))=true:=by
  unfold pO;split
  ·refine DP h.cl (gO.2 fun x f b=> ?_);rw[aB]at f;subst f;exact g (eq_of_beq (show((cD 0 c).q==2)=true from b))
  ·exact h.cl
 have q:=h.qV;have p:=h.nm;have o:=h.ne;have n:=h.nc;have l:=h.nv;have j:=C3 k
 have e:pw c s=if(oV s.li s.lt s.le s.term==0) then((aJ 29 (wv s.li s.lt s.le s.term (aJ 27 c [])) [],oV s.li s.lt s.le s.term),{eU {s with li:=s.li,lt:=s.lt,le:=pO s.li s.lt s.le s.term (aJ 27 c [])} with dW:=s.dW++[aJ 29 (wv s.li s.lt s.le s.term (aJ 27 c [])) []]})
  else((aJ 29 (wv s.li s.lt s.le s.term (aJ 27 c [])) [],oV s.li s.lt s.le s.term),{s with li:=s.li,lt:=s.lt,le:=pO s.li s.lt s.le s.term (aJ 27 c [])}):=rfl
 rw[e];by_cases b:(oV s.li s.lt s.le s.term==0)=true
 ·rw[if_pos b];refine⟨d,h.xV,h.xU,?_,?_,?_,?_,?_,h.cf,h.cs,a,h.tm,h.tx,h.rd⟩
  ·show(pO _ _ _ _ _).length+k<=_;omega
  ·show s.msgs.length+k<=_;omega
  ·show(s.dW++[_]).length+k<=_;rw[ah,aZ];omega
  ·show s.bZ.length+_<=_;omega
  ·show s.bc.length+k<=_;omega
 ·rw[if_neg b];refine⟨d,h.xV,h.xU,?_,?_,?_,?_,?_,h.cf,h.cs,a,h.tm,h.tx,h.rd⟩
  ·show(pO _ _ _ _ _).length+k<=_;omega
  ·show s.msgs.length+k<=_;omega
  ·show s.dW.length+_<=_;omega
  ·show s.bZ.length+_<=_;omega
  ·show s.bc.length+k<=_;omega
def K2{s:RS}{x:Int}(d:0<=x)(c:x<=5): ∃m t,wB s t∧eL x s=ez m t:=by
 have b:x=0∨x=1∨x=2∨x=3∨x=4∨x=5:=by omega
 rcases b with rfl|rfl|rfl|rfl|rfl|rfl
 ·unfold eL;rw[if_pos (by decide)];by_cases a:decide (s.wq<=(gF s.li s.lt s.le).1)=true
  ·dsimp only;rw[if_pos a];refine⟨_,_,?_,rfl⟩;exact fH
  ·dsimp only;rw[if_neg a];refine⟨_,_,?_,rfl⟩;exact fH
 ·unfold eL;rw[if_neg (by decide),if_pos (by decide)];by_cases a:decide (s.uM<=(gF s.li s.lt s.le).1)=true
  ·dsimp only;rw[if_pos a];refine⟨_,_,?_,rfl⟩;exact fH
  ·dsimp only;rw[if_neg a];refine⟨_,_,?_,rfl⟩;exact fH
 ·unfold eL;rw[if_neg (by decide),if_neg (by decide),if_pos (by decide)];by_cases a:decide (s.uL<=(gF s.li s.lt s.le).1)=true
  ·dsimp only;rw[if_pos a];refine⟨_,_,?_,rfl⟩;exact fH
  ·dsimp only;rw[if_neg a];refine⟨_,_,?_,rfl⟩;exact fH
 ·unfold eL;rw[if_neg (by decide),if_neg (by decide),if_neg (by decide),if_pos (by decide)];by_cases a:decide (s.uK<=(gF s.li s.lt s.le).1)=true
  ·dsimp only;rw[if_pos a];refine⟨_,_,?_,rfl⟩;exact fH
  ·dsimp only;rw[if_neg a];refine⟨_,_,?_,rfl⟩;exact fH
 ·unfold eL;rw[if_neg (by decide),if_neg (by decide),if_neg (by decide),if_neg (by decide),if_pos (by decide)];by_cases a:decide (s.uJ<=(gF s.li s.lt s.le).1)=true
  ·dsimp only;rw[if_pos a];refine⟨_,_,?_,rfl⟩;exact fH
  ·dsimp only;rw[if_neg a];refine⟨_,_,?_,rfl⟩;exact fH
 ·unfold eL;rw[if_neg (by decide),if_neg (by decide),if_neg (by decide),if_neg (by decide),if_neg (by decide),if_pos (by decide)];by_cases a:decide (s.uI<=(gF s.li s.lt s.le).1)=true
  ·dsimp only;rw[if_pos a];refine⟨_,_,?_,rfl⟩;exact fH
  ·dsimp only;rw[if_neg a];refine⟨_,_,?_,rfl⟩;exact fH
def cJ.pQ{s:RS}{k:Nat}{x:Int}(h:cJ C M s (k+1))(b:0<=x)(a:x<=5):cJ C M (eL x s) k:=by obtain⟨m,t,e,c⟩:=K2 (s:=s) b a;rw[c];exact(h.same e).send
def cJ.refuse{s:RS}{k:Nat}{x:D}(h:cJ C M s (k+1)):cJ C M (oi x s) k:=by
 unfold oi
 repeat' split
 all_goals first
  |exact h.send
  |exact h.le (by omega)
def cJ.vote{s:RS}{k:Nat}{x:D}(h:cJ C M s (k+1)):cJ C M (uU x s) k:=by
 unfold uU;have go: ∀(t:RS) (m:D),wB s t->cJ C M (ez m t) k:=fun t m e=>(h.same e).send;dsimp only;split
 ·split
  ·exact go _ _ fH
  ·exact go _ _ fH
 ·exact h.send
def cJ.BG{s:RS}{k:Nat}{x:D}(h:cJ C M s k):cJ C M (il x s).2 k:=by
 unfold il;split
 ·exact h
 ·exact(h.follow h.tm h.tx).NM
def DR(x:D):fB (D.agg ((x.A.drop 27).take 2))=fB (XB x):=by
 have e: ∀j,j<2->((x.A.drop 27).take 2).getD j .top=x.A.getD (27+j) .top:=by intro j a;rw[aj,aj,ay,if_pos a,aE]
 unfold fB vo lr;show yK (iT (((x.A.drop 27).take 2).getD 0 .top)) (iT (((x.A.drop 27).take 2).getD 1 .top))=_;rw[e 0 (by omega),e 1 (by omega)];rfl
def BY{s:RS}{k:Nat}{x:Int}(h:cJ C M s k)(o:x<=9223372036854775807):fB (tD x s)=true:=by
 obtain⟨v,u⟩:=h.li;unfold tD rG;refine ib (fun a:Int×Taf×Taf=>a.1<=9223372036854775807) (fun d=>fB d=true) (fun a=>(a.1-s.li).toNat) ?_ _ _ o (cY _);intro a w
 have e:nJ s (gF s.li s.lt s.le) a.1 a.2.1 a.2.2=if decide (a.1>s.li) then
   (if(decide (((dP s.li s.lt s.le a.1 1).length:Int)=1))&&((cD 2 ((dP s.li s.lt s.le a.1 1).getD 0 .top)).q==2) then .inr (aJ 2 (D.agg ((((dP s.li s.lt s.le a.1 1).getD 0 .top).A.drop 27).take 2)) [])
    else .inl (IntKind.wrap .i64 (a.1-1),a.2.1,a.2.2)) else .inr (mB s (gF s.li s.lt s.le)):=rfl
 rw[e];by_cases b:decide (a.1>s.li)=true
 ·rw[if_pos b];rw[bk]at b;generalize n:((decide (((dP s.li s.lt s.le a.1 1).length:Int)=1))&&((cD 2 ((dP s.li s.lt s.le a.1 1).getD 0 .top)).q==2))=c;cases c with
  |true=>
   simp only[aS,bk,beq_iff_eq]at n;show fB (D.agg ((((dP s.li s.lt s.le a.1 1).getD 0 .top).A.drop 27).take 2))=true;rw[DR];obtain⟨r,g⟩:=n;have q:(dP s.li s.lt s.le a.1 1).length=1:=by omega
   obtain⟨y,l⟩:=bJ.1 q;rw[l]at g⊢;have p:y∈s.le:=sX (i:=s.li) (f:=a.1) (m:=1) (by show y∈dP s.li s.lt s.le a.1 1;rw[l];simp);exact gO.1 h.cl y p (by unfold ru;rw[beq_iff_eq];exact g)
  |false=>
   show IntKind.wrap .i64 (a.1-1)<=_∧(IntKind.wrap .i64 (a.1-1)-s.li).toNat<_;rw[wrap64 (by omega) (by omega)];exact⟨by omega,by omega⟩
 ·rw[if_neg b];show fB (mB s (gF s.li s.lt s.le))=true;have t:mB s (gF s.li s.lt s.le)=if decide (s.li>0) then aJ 2 (D.agg [.list s.sv,.list s.sl]) [] else aJ 2 (D.agg [.list s.fv,.list s.fl]) [] :=rfl
  rw[t];by_cases j:decide (s.li>0)=true
  ·rw[if_pos j];exact h.cs (by simpa using j)
  ·rw[if_neg j];exact h.cf
def iY{s:RS}{k:Nat}(h:cJ C M s k):fB (eZ s)=true:=by obtain⟨b,a⟩:=h.li;show fB (tD (s.li+s.le.length) s)=true;refine BY h ?_;simp only[MX]at a;omega
def DI{c y:D}(d:fB c=true)(a:y∈jH c):1<=y.q∧y.q<=5:=by
 unfold jH at a;rw[<-HI]at a;obtain⟨n,b,rfl⟩:=bn.1 a;obtain⟨f,e,_,_⟩:=EW.1 d;rcases EV.1 b with h|h
 ·exact zw f n h
 ·exact zw e n h
def zY{c:D}(d:fB c=true):(vo c).length<=5∧(lr c).length<=5:=by obtain⟨f,e,_,_⟩:=EW.1 d;have a:=zx (ba 0) f;have b:=zx (ba 0) e;omega
def vY{c:D}(d:fB c=true):(jH c).length<=10:=by
 obtain⟨a,b⟩:=zY d
 have h:(Ee (vo c) (lr c)).length<=(vo c++lr c).length:=by unfold Ee;exact aW (Lib.compact_length_le _) (by rw[pE];exact bf _)
 unfold jH;rw[<-HI,ak];simp only[ah]at h;omega
def iL{c:D}{s:RS}(p:fB c=true):(gN c s).length<=10∧ ∀y∈gN c s,1<=y.q∧y.q<=5:=by
 have i:fB (aJ 2 c [])=true:=p;have g:=vY i;unfold gN tc;generalize m:jH (aJ 2 c [])=b at g;have o: ∀y∈b,1<=y.q∧y.q<=5:=fun y d=>DI i (m▸d);refine ib (fun a:Taf×Int=>0<=a.2∧a.1.length<=a.2.toNat∧a.2.toNat<=b.length∧ ∀y∈a.1,1<=y.q∧y.q<=5) (fun(l:Taf)=>l.length<=10∧ ∀y∈l,1<=y.q∧y.q<=5) (fun a=>b.length-a.2.toNat) ?_ _ _ ⟨by show(0:Int)<=0;omega,by simp,by simp,by simp⟩ (cY _);rintro⟨l,j⟩ ⟨t,r,q,k⟩;simp only at t r q k;unfold ta;by_cases e:decide (j<(b.length:Int))=true
 ·rw[if_pos e];rw[bk]at e;have n:IntKind.wrap .i64 (j+1)=j+1:=wrap64 (by omega) (by omega);have h:j.toNat<b.length:=by omega
  by_cases f:((b.getD j.toNat .top).q !=s.id)=true
  ·rw[if_pos f,n];refine⟨⟨by show 0<=j+1;omega,?_,by show(j+1).toNat<=_;omega,?_⟩,by show b.length-(j+1).toNat<b.length-j.toNat;omega⟩
   ·show(l++[_]).length<=(j+1).toNat;rw[ah,aZ];omega
   intro y d;rcases aI.1 d with d|d
   ·exact k y d
   ·rw[aB]at d;subst d;rw[aj,aQ h,br];exact o _ (aF h)
  ·rw[if_neg f,n];exact⟨⟨by show 0<=j+1;omega,by show l.length<=(j+1).toNat;omega,by show(j+1).toNat<=_;omega,k⟩,by show b.length-(j+1).toNat<b.length-j.toNat;omega⟩
 ·rw[if_neg e];exact⟨by show l.length<=10;omega,k⟩
def Ou(o:Int)(n:Nat)(d:n<=140737488355328):(decide (0<=bK (bP 0 o) n)&&(decide (bK (bP 0 o) n<=bK (i64.wrap (bK (bP 0 o) n+256)) n)&&decide (bK (i64.wrap (bK (bP 0 o) n+256)) n<=n)))=true:=by
 have c:0<=bK (bP 0 o) n∧bK (bP 0 o) n<=n:=by unfold bK bP;split<;>split<;>omega
 obtain⟨a,b⟩:=c;generalize bK (bP 0 o) n=m at a b;rw[wrap64 (by omega) (by omega)];simp only[aS,bk];unfold bK;split<;>omega
def Kr{s:RS}(d:dn (.V eR) (encS s)):s.aY.length<=140737488355328:=by obtain⟨x,a,f⟩:=cI d 18 (.list (.int .u8)) (by rw[Ty.dq];rfl);have e:(encS s)[18]? =some (.list s.aY):=rfl;rw[e]at a;injection a with a;subst a;obtain⟨l,b,h,_⟩:=bL.1 f;injection b with b;subst b;have c:=h.2;have g:(Ty.int .u8).bytes=1:=rfl;rw[g,bG]at c;exact c
def cJ.alike{s t:RS}{k j:Nat}(h:cJ C M s k)(a:j<=k)(e:wB s t):cJ C M t j:=(h.same e).le a
variable{C M:Nat}
def cJ.WV{s:RS}{k:Nat}{a:Int×Int}{l:Taf}(h:cJ C M s (k+1)):cJ C M (nb s a l) k:=by
 unfold nb;dsimp only;split
 ·exact h.le (by omega)
 ·split
  ·have b:=h.bZ (x:=sw (aJ 2 (eZ s) []) (.list (l.take (i64.wrap (s.id-1)).toNat++(.int .i64 a.1::(l.drop (i64.wrap (s.id-1)).toNat).drop (1:Int).toNat))));exact(b.follow b.tm b.tx).NM
  ·exact h.bZ
def cJ.agree{s:RS}{k:Nat}(h:cJ C M s (k+1)):cJ C M (gR s) k:=by
 unfold gR pF;refine ib (fun a:Taf×Int=>0<=a.2∧a.2<=5) (fun t=>cJ C M t k) (fun a=>5-a.2.toNat) ?_ _ _ ⟨by show(0:Int)<=0;omega,by show(0:Int)<=5;omega⟩ (cY _);intro a c;revert c;generalize a.2=j;generalize a.1=l;rintro⟨e,d⟩;unfold lM;have b:j=0∨j=1∨j=2∨j=3∨j=4∨j=5:=by omega
 rcases b with rfl|rfl|rfl|rfl|rfl|rfl
 ·rw[if_pos (by decide),if_pos (by decide)];refine⟨⟨?_,?_⟩,?_⟩<;>(dsimp only;decide)
 ·rw[if_pos (by decide),if_neg (by decide),if_pos (by decide)];refine⟨⟨?_,?_⟩,?_⟩<;>(dsimp only;decide)
 ·rw[if_pos (by decide),if_neg (by decide),if_neg (by decide),if_pos (by decide)];refine⟨⟨?_,?_⟩,?_⟩<;>(dsimp only;decide)
 ·rw[if_pos (by decide),if_neg (by decide),if_neg (by decide),if_neg (by decide),if_pos (by decide)];refine⟨⟨?_,?_⟩,?_⟩<;>(dsimp only;decide)
 ·rw[if_pos (by decide),if_neg (by decide),if_neg (by decide),if_neg (by decide),if_neg (by decide),if_pos (by decide)];refine⟨⟨?_,?_⟩,?_⟩<;>(dsimp only;decide)
 ·rw[if_neg (by decide)];exact h.WV
def Is{B:Type}{x:Taf}{step:Int->RS->(Int×RS)⊕B}{ex:RS->B}{bad:B}{m:Int->RS->Nat}{Q:B->Prop}{k:Nat}{s:RS}(h:x.length<=10∧ ∀y∈x,1<=y.q∧y.q<=5)(d: ∀i t,step i t=if decide (i<(x.length:Int)) then .inl (i64.wrap (i+1),eL ((x.getD i.toNat .top).q) t) else .inr (ex t))(f: ∀i t,m i t=x.length-i.toNat)(j:cJ C M s (k+10))(o: ∀t,cJ C M t k->Q (ex t)):
  Q (iN (fun a:Int×RS=>step a.1 a.2) bad (m 0 s+1) (0,s)):=by
 refine ib (fun a:Int×RS=>0<=a.1∧a.1<=x.length∧cJ C M a.2 (k+(10-a.1.toNat))) Q (fun a=>m a.1 a.2) ?_ _ _ ⟨ba 0,ew _,j⟩ (cY _);rintro⟨i,t⟩ ⟨q,p,e⟩;simp only at q p e;obtain⟨r,l⟩:=h;rw[d];by_cases b:decide (i<(x.length:Int))=true
 ·rw[if_pos b];rw[bk]at b;have c:i.toNat<x.length:=by omega
  have g:=l _ (aF c);have n:x.getD i.toNat .top=x[i.toNat] :=by rw[aj,aQ c];rfl
  rw[n,wrap64 (by omega) (by omega)];refine⟨⟨by show 0<=i+1;omega,by show i+1<=_;omega,?_⟩,by show m (i+1) _<m i t;rw[f,f];omega⟩;show cJ C M (eL _ t) (k+(10-(i+1).toNat));refine cJ.pQ (e.le ?_) (by omega) g.2;omega
 ·rw[if_neg b];exact o t (e.le (by omega))
def cJ.abp{s:RS}{k:Nat}(h:cJ C M s (k+12)):cJ C M (rF s) k:=by unfold rF;dsimp only;have a:cJ C M (pw (aJ 27 L4 [(0,.int .i64 1)]) s).2 (k+11):=h.put (by intro d;exact absurd d (by decide));exact Is (k:=k+1) (Q:=fun t=>cJ C M t k) (iL (c:=aJ 2 (eZ _) []) (iY a)) (fun _ _=>rfl) (fun _ _=>rfl) a (fun t b=>b.agree)
def cJ.lead{s:RS}{k:Nat}(h:cJ C M s (k+12)):cJ C M (xk s) k:=by
 unfold xk rE;refine ib (fun a:Int×RS=>0<=a.1∧a.1<=6∧cJ C M a.2 (k+12)) (fun t=>cJ C M t k) (fun a=>6-a.1.toNat) ?_ _ _ ⟨by show(0:Int)<=0;omega,by show(0:Int)<=6;omega,⟨h.may,h.xV,h.xU,h.qV,h.nm,h.ne,h.nc,h.nv,h.cf,h.cs,h.cl,h.tm,h.tx,rfl⟩⟩ (cY _);intro a d;revert d;generalize a.2=t;generalize a.1=j;rintro⟨f,e,b⟩;unfold rD;have c:j=0∨j=1∨j=2∨j=3∨j=4∨j=5∨j=6:=by omega
 rcases c with rfl|rfl|rfl|rfl|rfl|rfl|rfl
 ·rw[if_pos (by decide),if_pos (by decide)];refine⟨⟨?_,?_,b.same fH⟩,?_⟩<;>(dsimp only;decide)
 ·rw[if_pos (by decide),if_neg (by decide),if_pos (by decide)];refine⟨⟨?_,?_,b.same fH⟩,?_⟩<;>(dsimp only;decide)
 ·rw[if_pos (by decide),if_neg (by decide),if_neg (by decide),if_pos (by decide)];refine⟨⟨?_,?_,b.same fH⟩,?_⟩<;>(dsimp only;decide)
 ·rw[if_pos (by decide),if_neg (by decide),if_neg (by decide),if_neg (by decide),if_pos (by decide)];refine⟨⟨?_,?_,b.same fH⟩,?_⟩<;>(dsimp only;decide)
 ·rw[if_pos (by decide),if_neg (by decide),if_neg (by decide),if_neg (by decide),if_neg (by decide),if_pos (by decide)];refine⟨⟨?_,?_,b.same fH⟩,?_⟩<;>(dsimp only;decide)
 ·rw[if_pos (by decide),if_neg (by decide),if_neg (by decide),if_neg (by decide),if_neg (by decide),if_neg (by decide),if_pos (by decide)];refine⟨⟨?_,?_,b.same fH⟩,?_⟩<;>(dsimp only;decide)
 ·rw[if_neg (by decide)];exact b.abp
def Fp{c:D}{p:Int×Int}{x:Taf}{f:RS}{k:Nat}(n:x.length<=10)(h:cJ C M f (k+10)):cJ C M (lU c p x 0 f) k:=by
 unfold lU;refine ib (fun a:Int×RS=>0<=a.1∧a.1<=x.length∧cJ C M a.2 (k+(10-a.1.toNat))) (fun t=>cJ C M t k) (fun a=>x.length-a.1.toNat) ?_ _ _ ⟨ba 0,ew _,h⟩ (cY _);intro a j;revert j;generalize a.2=t;generalize a.1=i;rintro⟨m,l,d⟩;unfold nM;dsimp only;by_cases b:decide (i<(x.length:Int))=true
 ·rw[if_pos b];rw[bk]at b;have e:IntKind.wrap .i64 (i+1)=i+1:=wrap64 (by omega) (by omega);rw[e];by_cases g:lK (aJ 2 c []) ((x.getD i.toNat .top).q)=true
  ·rw[if_pos g];refine⟨⟨by show 0<=i+1;omega,by show i+1<=_;omega,?_⟩,by show x.length-(i+1).toNat<x.length-i.toNat;omega⟩;show cJ C M (ez _ t) (k+(10-(i+1).toNat));exact cJ.send (d.le (by omega))
  ·rw[if_neg g];exact⟨⟨by show 0<=i+1;omega,by show i+1<=_;omega,d.le (by show k+(10-(i+1).toNat)<=_;omega)⟩,by show x.length-(i+1).toNat<x.length-i.toNat;omega⟩
 ·rw[if_neg b];exact d.le (by omega)
def cJ.Gv{s:RS}{k:Nat}(h:cJ C M s k)(b:s.term<MX):cJ C M ({eU ({s with term:=i64.wrap (s.term+1),vote:=s.id}:RS) with role:=1,bM:=0,bc:=[.int .i64 s.id]}:RS) k:=by
 have a:IntKind.wrap .i64 (s.term+1)=s.term+1:=wrap64 (by have:=h.tm;omega) (by simp only[MX]at b;omega);have d:=h.tm;have c:=h.qV;refine⟨h.may,h.xV,h.xU,h.qV,h.nm,h.ne,h.nc,?_,h.cf,h.cs,h.cl,?_,?_,h.rd⟩
 ·show([D.int .i64 s.id] :Taf).length+k<=_;simp only[aZ];omega
 ·show 0<=IntKind.wrap .i64 (s.term+1);rw[a];omega
 ·show IntKind.wrap .i64 (s.term+1)<=MX;rw[a];omega
def cJ.Me{s:RS}{k:Nat}{c:D}(h:cJ C M s (k+13))(d:fB c=true)(b:s.term<MX):cJ C M (nG c s) k:=by
 have a:=h.Gv b;unfold nG;dsimp only;split
 ·exact(a.le (by omega:k+12<=k+13)).lead
 ·exact Fp (iL d).1 (a.le (by omega))
variable{C M:Nat}
def cJ.ite{k:Nat}{c:Prop}[Decidable c]{a b:RS}(e:c->cJ C M a k)(d: ¬c->cJ C M b k):cJ C M (if c then a else b) k:=by
 split
 ·exact e (by assumption)
 ·exact d (by assumption)
def cJ.Pz{d:Type}{k:Nat}{c:Prop}[Decidable c]{a b:d×RS}(f:c->cJ C M a.2 k)(e: ¬c->cJ C M b.2 k):cJ C M (if c then a else b).2 k:=by
 split
 ·exact f (by assumption)
 ·exact e (by assumption)
def cJ.rO{s:RS}{k:Nat}{x:D}(h:cJ C M s k):cJ C M (hC x s) k:=by unfold hC lz;dsimp only;unfold iN ly;rw[if_neg (by rw[h.rd];exact(by decide: ¬decide ((0:Int)<(([] :Taf).length:Int))=true))];exact⟨h.may,h.xV,h.xU,h.qV,h.nm,h.ne,h.nc,h.nv,h.cf,h.cs,h.cl,h.tm,h.tx,rfl⟩
def ON{s:RS}{x y:Int}(c:0<=x)(b:x<=5): ∃t,wB s t∧(tT x y s=gR t∨tT x y s=eL x (gR t)):=by
 have a:x=0∨x=1∨x=2∨x=3∨x=4∨x=5:=by omega
 unfold tT;dsimp only;rcases a with rfl|rfl|rfl|rfl|rfl|rfl
 ·rw[if_pos (by rfl)];split
  ·refine⟨_,?_,.inr rfl⟩;exact⟨rfl,rfl,rfl,rfl,rfl,rfl,rfl,rfl,rfl,rfl,rfl,rfl,rfl,rfl⟩
  ·refine⟨_,?_,.inl rfl⟩;exact⟨rfl,rfl,rfl,rfl,rfl,rfl,rfl,rfl,rfl,rfl,rfl,rfl,rfl,rfl⟩
 ·rw[if_neg (by simp),if_pos (by rfl)];split
  ·refine⟨_,?_,.inr rfl⟩;exact⟨rfl,rfl,rfl,rfl,rfl,rfl,rfl,rfl,rfl,rfl,rfl,rfl,rfl,rfl⟩
  ·refine⟨_,?_,.inl rfl⟩;exact⟨rfl,rfl,rfl,rfl,rfl,rfl,rfl,rfl,rfl,rfl,rfl,rfl,rfl,rfl⟩
 ·rw[if_neg (by simp),if_neg (by simp),if_pos (by rfl)];split
  ·refine⟨_,?_,.inr rfl⟩;exact⟨rfl,rfl,rfl,rfl,rfl,rfl,rfl,rfl,rfl,rfl,rfl,rfl,rfl,rfl⟩
  ·refine⟨_,?_,.inl rfl⟩;exact⟨rfl,rfl,rfl,rfl,rfl,rfl,rfl,rfl,rfl,rfl,rfl,rfl,rfl,rfl⟩
 ·rw[if_neg (by simp),if_neg (by simp),if_neg (by simp),if_pos (by rfl)];split
  ·refine⟨_,?_,.inr rfl⟩;exact⟨rfl,rfl,rfl,rfl,rfl,rfl,rfl,rfl,rfl,rfl,rfl,rfl,rfl,rfl⟩
  ·refine⟨_,?_,.inl rfl⟩;exact⟨rfl,rfl,rfl,rfl,rfl,rfl,rfl,rfl,rfl,rfl,rfl,rfl,rfl,rfl⟩
 ·rw[if_neg (by simp),if_neg (by simp),if_neg (by simp),if_neg (by simp),if_pos (by rfl)];split
  ·refine⟨_,?_,.inr rfl⟩;exact⟨rfl,rfl,rfl,rfl,rfl,rfl,rfl,rfl,rfl,rfl,rfl,rfl,rfl,rfl⟩
  ·refine⟨_,?_,.inl rfl⟩;exact⟨rfl,rfl,rfl,rfl,rfl,rfl,rfl,rfl,rfl,rfl,rfl,rfl,rfl,rfl⟩
 ·rw[if_neg (by simp),if_neg (by simp),if_neg (by simp),if_neg (by simp),if_neg (by simp),if_pos (by rfl)];split
  ·refine⟨_,?_,.inr rfl⟩;exact⟨rfl,rfl,rfl,rfl,rfl,rfl,rfl,rfl,rfl,rfl,rfl,rfl,rfl,rfl⟩
  ·refine⟨_,?_,.inl rfl⟩;exact⟨rfl,rfl,rfl,rfl,rfl,rfl,rfl,rfl,rfl,rfl,rfl,rfl,rfl,rfl⟩
def cJ.has{s:RS}{k:Nat}{x y:Int}(h:cJ C M s (k+2))(d:0<=x)(c:x<=5):cJ C M (tT x y s) k:=by
 obtain⟨t,e,a⟩:=ON (s:=s) (y:=y) d c;have b:cJ C M (gR t) (k+1):=(h.same e).agree;rcases a with a|a
 ·rw[a];exact b.le (by omega)
 ·rw[a];exact b.pQ d c
def Fl{i t:Int}{l:Taf}{y:D}: ∀{es:Taf},y∈(re i t l es).2->y∈l∨y∈es
 | [],h=>.inl h
 |x::r,h=>by
  unfold re at h;split at h
  ·exact(Fl h).imp id (aH _)
  ·rcases aI.1 h with h|h
   ·exact .inl (cF h)
   ·exact .inr h
def O6{i t:Int}{l es:Taf}{pi pt:Int}{y:D}(h:y∈(iS i t l pi pt es).2):y∈l∨y∈es:=by
 unfold iS at h;split at h
 ·exact Fl h
 ·exact .inl h
def cJ.log{s t:RS}{k j:Nat}(h:cJ C M s k)(c:j<=k)(l:eV t.li t.lt t.le=true)(m:t.le.length+j<=1073741824)(e:eI t.le=true)(d:0<t.li->fB (.agg [.list t.sv,.list t.sl])=true)(n:t.id=s.id∧t.msgs=s.msgs∧t.dW=s.dW∧t.bZ=s.bZ∧t.bc=s.bc∧t.fv=s.fv∧t.fl=s.fl∧t.term=s.term∧t.reads=s.reads):cJ C M t j:=by obtain⟨i,u,r,q,p,o,g,a,f⟩:=n;have b:=h.le c;refine⟨l,by rw[i];exact h.xV,by rw[i];exact h.xU,m,by rw[u];exact b.nm,by rw[r];exact b.ne,by rw[q];exact b.nc,by rw[p];exact b.nv,by rw[o,g];exact h.cf,d,e,by rw[a];exact h.tm,by rw[a];exact h.tx,by rw[f];exact h.rd⟩
def cJ.accept{s:RS}{k:Nat}{pi pt:Int}{es:Taf}(h:cJ C M s (k+es.length))(b:eI es=true):cJ C M ({s with li:=s.li,lt:=s.lt,le:=(iS s.li s.lt s.le pi pt es).2}:RS) k:=by
 obtain⟨c,e⟩:=O7 (pi:=pi) (pt:=pt) (es:=es) h.may;have d:=h.qV;refine h.log (by omega) c ?_ ?_ h.cs ⟨rfl,rfl,rfl,rfl,rfl,rfl,rfl,rfl,rfl⟩
 ·show(iS s.li s.lt s.le pi pt es).2.length+k<=_;omega
 ·refine gO.2 fun y a=> ?_;rcases O6 a with a|a
  ·exact gO.1 h.cl y a
  ·exact gO.1 b y a
def cJ.dW{s:RS}{k:Nat}{f m:Int}(h:cJ C M s k):cJ C M ({eU s with dW:=dP s.li s.lt s.le f m}:RS) k:=by have b:=h.qV;have a:=sY (i:=s.li) (f:=f) (m:=m) (l:=s.le);refine⟨h.may,h.xV,h.xU,h.qV,h.nm,?_,h.nc,h.nv,h.cf,h.cs,h.cl,h.tm,h.tx,h.rd⟩;show(gK s.li s.le f m).length+k<=_;omega
def cJ.append{s:RS}{k:Nat}{x:D}(h:cJ C M s (k+3+(cD 12 x).A.length))(b:eI (cD 12 x).A=true):cJ C M (mQ x s) k:=by
 have a:cJ C M (il (aJ 46 x []) s).2 (k+3+(cD 12 x).A.length):=h.BG;unfold mQ;generalize il (aJ 46 x []) s=cP at a;dsimp only;have c:=cJ.accept (pi:=(cD 4 x).q) (pt:=(cD 5 x).q) a b;split
 ·exact a.le (by omega)
 split
 ·exact cJ.send (a.le (by omega))
 split
 ·exact cJ.send (c.le (by omega))
 split
 ·exact cJ.send (cJ.bZ ((cJ.dW c).le (by omega)))
 ·exact cJ.send (cJ.bZ (c.le (by omega)))
def cJ.appended{s:RS}{k:Nat}{x:D}(h:cJ C M s (k+2))(c:0<=(cD 1 x).q)(b:(cD 1 x).q<=5):cJ C M (jR x s) k:=by
 have a:cJ C M (hC (aJ 46 x []) s) (k+2):=h.rO;unfold jR;generalize hC (aJ 46 x []) s=gx at a;have f:(cD 1 x).q=0∨(cD 1 x).q=1∨(cD 1 x).q=2∨(cD 1 x).q=3∨(cD 1 x).q=4∨(cD 1 x).q=5:=by omega
 dsimp only;refine cJ.ite (fun _=>h.le (by omega)) (fun _=> ?_);have d: ∀(t:RS) (n:Int),wB gx t->0<=n->n<=5->cJ C M (eL n t) k:=fun t n e c b=>((a.same e).le (by omega:k+1<=k+2)).pQ c b
 (repeat' (first|(with_reducible refine cJ.ite (fun _=> ?_) (fun _=> ?_))|(with_reducible refine cJ.Pz (fun _=> ?_) (fun _=> ?_))))
 all_goals first
  |exact a.has (by decide) (by decide)
  |(refine d _ _ ?_ (by decide) (by decide);exact⟨rfl,rfl,rfl,rfl,rfl,rfl,rfl,rfl,rfl,rfl,rfl,rfl,rfl,rfl⟩)
  |(simp only[beq_iff_eq]at*;omega)
def cJ.C7{s:RS}{k:Nat}{x:D}(h:cJ C M s (k+2))(b:0<=(cD 1 x).q)(a:(cD 1 x).q<=5):cJ C M (lq x s) k:=by
 unfold lq;have d:(cD 1 x).q=0∨(cD 1 x).q=1∨(cD 1 x).q=2∨(cD 1 x).q=3∨(cD 1 x).q=4∨(cD 1 x).q=5:=by omega
 dsimp only;have c: ∀(t:RS) (n:Int),wB s t->0<=n->n<=5->cJ C M (eL n t) k:=fun t n e b a=>((h.same e).le (by omega:k+1<=k+2)).pQ b a;refine cJ.ite (fun _=>h.le (by omega)) (fun _=> ?_);refine cJ.ite (fun _=>h.has b a) (fun _=> ?_)
 (repeat' (first|(with_reducible refine cJ.ite (fun _=> ?_) (fun _=> ?_))|(with_reducible refine cJ.Pz (fun _=> ?_) (fun _=> ?_))))
 all_goals first
  |exact h.le (by omega)
  |(refine c _ _ ?_ (by decide) (by decide);exact⟨rfl,rfl,rfl,rfl,rfl,rfl,rfl,rfl,rfl,rfl,rfl,rfl,rfl,rfl⟩)
  |(simp only[beq_iff_eq]at*;omega)
def vC{a b:Bool}(h: ¬(a|| !b)=true):b=true:=by cases a<;>cases b<;>simp_all
def Ln{i t:Int}{l:Taf}{k:Int}{y:D}(h:y∈(jk i t l k).2.2):y∈l:=by
 unfold jk at h;split at h
 ·exact h
 ·exact cG h
def JE{i t:Int}(h: ¬(cD 0 (jP i t)).gk=true):okB i t=true∧cD 1 (jP i t)=oT i t [] :=by
 unfold jP at h⊢;split
 ·rename_i a;exact⟨a.1,rfl⟩
 ·rename_i a;rw[if_neg a]at h;exact absurd rfl h
def cJ.Mf{s t:RS}{k j:Nat}{c:Int}(h:cJ C M s k)(a:j<=k)(d:(t.li,t.lt,t.le)=jk s.li s.lt s.le c)(l:fB (.agg [.list t.sv,.list t.sl])=true)(g:t.id=s.id∧t.msgs=s.msgs∧t.dW=s.dW∧t.bZ=s.bZ∧t.bc=s.bc∧t.fv=s.fv∧t.fl=s.fl∧t.term=s.term∧t.reads=s.reads):cJ C M t j:=by obtain⟨b,e⟩:=Lo (k:=c) h.may;have m:=h.qV;rw[<-d]at b e;simp only at b e;refine h.log a b (by omega) (DO h.cl fun y f=>Ln (i:=s.li) (t:=s.lt) (k:=c) ?_) (fun _=>l) g;rw[<-d];exact f
def cJ.Rq{s t:RS}{k j:Nat}{i m:Int}(h:cJ C M s k)(c:j<=k)(f: ¬(cD 0 (jP i m)).gk=true)(e:(t.li,t.lt,t.le)=((cD 0 (cD 1 (jP i m))).q,(cD 1 (cD 1 (jP i m))).q,(cD 2 (cD 1 (jP i m))).A))(l:fB (.agg [.list t.sv,.list t.sl])=true)(g:t.id=s.id∧t.msgs=s.msgs∧t.dW=s.dW∧t.bZ=s.bZ∧t.bc=s.bc∧t.fv=s.fv∧t.fl=s.fl∧t.term=s.term∧t.reads=s.reads):cJ C M t j:=by obtain⟨o,n⟩:=JE f;have p:=h.qV;rw[n]at e;injection e with d b;injection b with b a;replace d:t.li=i:=d;replace b:t.lt=m:=b;replace a:t.le=[] :=a;refine h.log c ?_ (by rw[a];simp;omega) (by rw[a];rfl) (fun _=>l) g;rw[d,b,a];exact eH.2 ⟨jv.1 o,rfl⟩
def cJ.snap{s:RS}{k:Nat}{x:D}(h:cJ C M s (k+1)):cJ C M (uV x s) k:=by
 have a:cJ C M (il (aJ 46 x []) s).2 (k+1):=h.BG;unfold uV;generalize il (aJ 46 x []) s=cP at a;dsimp only;refine cJ.ite (fun _=>a.le (by omega)) (fun _=> ?_);refine cJ.ite (fun _=>cJ.send a) (fun _=> ?_);have l: ∀(t:RS) (m:D),wB cP.2 t->cJ C M (ez m t) k:=fun t m e=>cJ.send (a.same e);have j: ∀(t:RS) (m:D) (c:Int),(t.li,t.lt,t.le)=jk cP.2.li cP.2.lt cP.2.le c->fB (.agg [.list t.sv,.list t.sl])=true->(t.id=cP.2.id∧t.msgs=cP.2.msgs∧t.dW=cP.2.dW∧t.bZ=cP.2.bZ∧t.bc=cP.2.bc∧t.fv=cP.2.fv∧t.fl=cP.2.fl∧t.term=cP.2.term∧t.reads=cP.2.reads)->cJ C M (ez m (eU t)) k:=fun t m c f d b=>cJ.send (cJ.saved (a.Mf (bf _) f d b));have g: ∀(t:RS) (m:D) (i n:Int),¬(cD 0 (jP i n)).gk=true->(t.li,t.lt,t.le)=((cD 0 (cD 1 (jP i n))).q,(cD 1 (cD 1 (jP i n))).q,(cD 2 (cD 1 (jP i n))).A)->fB (.agg [.list t.sv,.list t.sl])=true->(t.id=cP.2.id∧t.msgs=cP.2.msgs∧t.dW=cP.2.dW∧t.bZ=cP.2.bZ∧t.bc=cP.2.bc∧t.fv=cP.2.fv∧t.fl=cP.2.fl∧t.term=cP.2.term∧t.reads=cP.2.reads)->cJ C M (ez m (eU t)) k:=fun t m i n o f d b=>cJ.send (cJ.saved (a.Rq (bf _) o f d b))
 (repeat' (first|(with_reducible refine cJ.ite (fun _=> ?_) (fun _=> ?_))|(with_reducible refine cJ.Pz (fun _=> ?_) (fun _=> ?_))))
 all_goals first
  |(refine l _ _ ?_;exact⟨rfl,rfl,rfl,rfl,rfl,rfl,rfl,rfl,rfl,rfl,rfl,rfl,rfl,rfl⟩)
  |(refine j _ _ (cD 4 x).q ?_ ?_ ?_;exact rfl;exact vC ‹¬(_|| !_)=true›;exact⟨rfl,rfl,rfl,rfl,rfl,rfl,rfl,rfl,rfl⟩)
  |(refine g _ _ (cD 4 x).q (cD 5 x).q ?_ ?_ ?_ ?_;assumption;exact rfl;exact vC ‹¬(_|| !_)=true›;exact⟨rfl,rfl,rfl,rfl,rfl,rfl,rfl,rfl,rfl⟩)
def cJ.Ma{s:RS}{k:Nat}{x:D}(h:cJ C M s (k+13)):cJ C M (pY x s) k:=by
 have c:=h.nv
 have b:cJ C M ({s with bc:=s.bc++[cD 1 x]}:RS) (k+12):=by have a:=h.le (by omega:k+12<=k+13);refine⟨a.may,a.xV,a.xU,a.qV,a.nm,a.ne,a.nc,?_,a.cf,a.cs,a.cl,a.tm,a.tx,a.rd⟩;show(s.bc++[cD 1 x]).length+(k+12)<=_;rw[ah,aZ];omega
 unfold pY;dsimp only
 (repeat' (first|(with_reducible refine cJ.ite (fun _=> ?_) (fun _=> ?_))|(with_reducible refine cJ.Pz (fun _=> ?_) (fun _=> ?_))))
 all_goals first
  |exact h.le (by omega)
  |exact b.le (by omega)
  |exact b.lead
def FH(x:D)(s:RS):(il x s).2.cg.length<=s.cg.length:=by
 unfold il gy;by_cases h:(s.role==2)=true
 ·rw[if_pos h];exact bf _
 ·rw[if_neg h];by_cases a:decide (s.term>s.term)=true
  ·rw[if_pos a];exact bf _
  ·rw[if_neg a];exact bf _
def KE{s:RS}(d:dn (.V eR) (encS s)):s.cg.length<=140737488355328:=by obtain⟨x,a,f⟩:=cI d 50 (.list (.int .u8)) (by rw[Ty.dq];rfl);have e:(encS s)[50]? =some (.list s.cg):=rfl;rw[e]at a;injection a with a;subst a;obtain⟨l,b,h,_⟩:=bL.1 f;injection b with b;subst b;have c:=h.2;have g:(Ty.int .u8).bytes=1:=rfl;rw[g,bG]at c;exact c
variable{C M K:Nat}{N:Int}{z s t:RS}
structure mr(N:Int)(m:D):Prop where
 n8:(cD 12 m).A.length<=8
 qW:(cD 12 m).A≠ [] ->(cD 4 m).q+(cD 12 m).A.length<=N
 snp:(cD 0 m).q=5->(cD 4 m).q<=N
 pos: ∀e∈(cD 12 m).A,1<=tm e
structure Bs(N:Int)(s:RS):Prop where
 hd:s.jO=s.li∧s.ig=s.lt
 zz:s.li=0↔s.lt=0
 F2:s.li<=s.bF∧s.bF<=s.li+s.le.length
 gz:0<s.li->1<=s.aY.length∧s.aY.length<=1048576
 O8:s.cg.length<=1048576
 Pb:eM s.lt s.le<=s.term
 qP:0<=s.vote∧s.vote<=MX
 top:s.li+s.le.length<=N
 pos: ∀e∈s.le,1<=tm e
def yQ(es:Taf)(f:Int):Taf:=es.filter fun e=>decide ((cD 0 e).q<f)
def wG(es:Taf)(i:Int):Taf:=es.filter fun e=>decide ((cD 0 e).q>i)
def CW(E o:Taf):Taf:=if o=[] then E else yQ E (cD 0 (o.getD 0 .top)).q++o
def ZF(s:RS):D:=.ptr [.int .i64 s.li,.int .i64 s.lt,.list s.sv,.list s.sl,.list s.aY]
structure Inv(z:RS)(N:Int)(s:RS):Prop extends Bs N s where
 lg:(s.fC= .gI∧s.li=z.li∧s.lt=z.lt∧s.sv=z.sv∧s.sl=z.sl∧s.aY=z.aY∧CW z.le s.dW=s.le)∨(s.fC=ZF s∧s.dW=[] ∧s.save=true∧(s.le=[] ∨wG z.le s.li=s.le))
 ns:s.save=false->s.dW=[] ∧s.fC= .gI∧s.term=z.term∧s.vote=z.vote
 msg: ∀m∈s.msgs,mr N m
 J3: ∀e∈s.bZ,0<=(cD 0 e).q∧(cD 0 e).q<=N
def iJ(s:RS):=(s.jO,s.ig,s.sv,s.sl,s.aY,s.li,s.lt,s.le,s.bF,s.term,s.vote,s.save,s.dW,s.fC,s.msgs,s.bZ)
def Inv.pd(h:Inv z N s)(a:t.cg.length<=1048576)(e:iJ t=iJ s:=by rfl):Inv z N t:=by cases s;cases t;simp only[iJ,ae]at e;obtain⟨rfl,rfl,rfl,rfl,rfl,rfl,rfl,rfl,rfl,rfl,rfl,rfl,rfl,rfl,rfl,rfl⟩:=e;exact⟨⟨h.hd,h.zz,h.F2,h.gz,a,h.Pb,h.qP,h.top,h.pos⟩,h.lg,h.ns,h.msg,h.J3⟩
def Inv.same(h:Inv z N s)(e:iJ t=iJ s:=by rfl)(a:t.cg=s.cg:=by rfl):Inv z N t:=h.pd (by rw[a];exact h.O8) e
def mr.mono{m:D}{c:Int}(h:mr N m)(b:N<=c):mr c m:=⟨h.n8,fun a=>fV (h.qW a) b,fun a=>fV (h.snp a) b,h.pos⟩
def Bs.mono{a:Int}(h:Bs N s)(b:N<=a):Bs a s:=⟨h.hd,h.zz,h.F2,h.gz,h.O8,h.Pb,h.qP,fV h.top b,h.pos⟩
def Inv.mono{c:Int}(h:Inv z N s)(a:N<=c):Inv z c s:=⟨h.toBs.mono a,h.lg,h.ns,fun m d=>(h.msg m d).mono a,fun e b=>⟨(h.J3 e b).1,fV (h.J3 e b).2 a⟩⟩
def Ze{m:D}(h:(cD 12 m).A=[])(c:(cD 0 m).q=5->(cD 4 m).q<=N):mr N m:=⟨by rw[h];exact aC _,fun a=>absurd h a,c,by rw[h];intro e b;cases b⟩
def Inv.send{m:D}(h:Inv z N s)(b:mr N m):Inv z N (ez m s):=by
 refine⟨⟨h.hd,h.zz,h.F2,h.gz,h.O8,h.Pb,h.qP,h.top,h.pos⟩,h.lg,h.ns,fun y a=> ?_,h.J3⟩;rcases aI.1 (show y∈s.msgs++[_] from a) with a|a
 ·exact h.msg y a
 ·rw[aB.1 a];exact⟨b.n8,b.qW,b.snp,b.pos⟩
def Inv.nX{m:D}(h:Inv z N s)(c:(cD 12 m).A=[] :=by rfl)(b:((cD 0 m).q==5)=false:=by rfl):Inv z N (ez m s):=h.send (Ze c fun a=>by rw[a]at b;cases b)
def Inv.U9{T V:Int}(h:Inv z N s)(d:s.term<=T)(c:0<=V)(b:V<=MX):Inv z N (eU {s with term:=T,vote:=V}):=
 ⟨⟨h.hd,h.zz,h.F2,h.gz,h.O8,fV h.Pb d,⟨c,b⟩,h.top,h.pos⟩,h.lg.imp id (fun a=>⟨a.1,a.2.1,rfl,a.2.2.2⟩),fun a=>absurd (show true=false from a) (by decide),h.msg,h.J3⟩
def Inv.follow{x y:Int}(h:Inv z N s):Inv z N (gy x y s):=by
 unfold gy;split
 ·rename_i a;rw[bk]at a;exact(h.U9 (T:=x) (V:=0) (by omega) (by decide) (by decide)).same
 ·exact h.same
def zm{l:Taf}{i t:Int}{e:D}(h:qU i t l=true)(b:e∈l):i<ix e∧ix e<=i+l.length:=by obtain⟨j,a⟩:=aw b;have d:=(HN h a).1;have c:=(aG.1 a).1;omega
def B8{l:Taf}{i t f:Int}{n:Nat}(h:qU i t l=true)(b:n<=l.length)(d:f=i+n+1):yQ l f=l.take n:=by
 have e:=dE n l;have g:(l.take n).length=n:=by rw[aK];omega
 conv=>lhs;rw[<-e]
 unfold yQ;rw[List.filter_append,List.filter_eq_self.2,List.filter_eq_nil_iff.2,cN]
 ·intro x a;have c:=(zm (Dm n b h) a).1;rw[bk];show¬ix x<f;omega
 ·intro x a;have c:=(zm (vn n h) a).2;rw[bk];show ix x<f;omega
def Ax{l:Taf}{i t k:Int}(h:qU i t l=true)(d:i<=k)(c:k<=i+l.length):wG l k=l.drop (k-i).toNat:=by
 have e:=dE (k-i).toNat l
 conv=>lhs;rw[<-e]
 unfold wG;rw[List.filter_append,List.filter_eq_nil_iff.2,List.filter_eq_self.2,cX]
 ·intro x a;have b:=(zm (Dm (k-i).toNat (by omega) h) a).1;rw[bk];show ix x>k;omega
 ·intro x a;have b:=(zm (vn (k-i).toNat h) a).2;rw[aK]at b;rw[bk];show¬ix x>k;omega
def OU{E o l:Taf}{e:D}{i t:Int}(h:CW E o=l)(c:qU i t l=true)(b:ix e=i+l.length+1):CW E (o++[e])=l++[e] :=by
 cases o with
 |nil=>
  have d:E=l:=h;subst d;show yQ E (ix e)++[e] =E++[e];rw[B8 c (bf _) b,dG]
 |cons a r=>
  have f:yQ E (ix a)++a::r=l:=h;show yQ E (ix a)++(a::r++[e])=l++[e];rw[<-f,dN]
def Ay{l:Taf}{t:Int}(n:Nat):eM (eM t (l.take n)) (l.drop n)=eM t l:=by rw[<-lA,dE]
def Cp{i t:Int}{l:Taf}(f:qU i t l=true): ∀{es:Taf} {n:Nat},n<=l.length->qU (i+n) (eM t (l.take n)) es=true->
  (re i t l es=(0,l)∧n+es.length<=l.length)∨ ∃(m:Nat) (x:D) (r:Taf),n<=m∧m<=l.length∧re i t l es=(i+m+1,l.take m++x::r)∧(∀y∈x::r,y∈es)∧eM t (l.take m++x::r)=eM (eM t (l.take n)) es∧i+m+(x::r).length=i+n+es.length
 | [],n,hn,h=>.inl ⟨rfl,by simpa using hn⟩
 |x::r,n,hn,h=>by
  unfold re;by_cases a:uO i t l x=true
  ·rw[if_pos a];obtain⟨j,g⟩:=Fe hn h a;rcases Cp f j g with⟨h3,h4⟩|⟨m,y,q,h8,h3,h4,h5,h6,h7⟩
   ·exact .inl ⟨h3,by simp only[bu];omega⟩
   ·refine .inr ⟨m,y,q,by omega,h3,h4,fun u b=>aH _ (h5 u b),?_,?_⟩
    ·rw[h6];simp only[uO,aS,beq_iff_eq]at a;obtain⟨p,o,c⟩:=ku a.1;obtain⟨d,_⟩:=iG.1 h;have k:(ix x-i).toNat=n+1:=by omega
     rw[k]at c;rw[<-c,a.2];rfl
    ·simp only[bu]at h7⊢;omega
  ·rw[if_neg a];obtain⟨d,_⟩:=iG.1 h;have e:(ix x-i-1).toNat=n:=by omega
   rw[e];refine .inr ⟨n,x,r,bf _,hn,by rw[d],fun u b=>b,by rw[lA],rfl⟩
def Lz{i t pi pt:Int}{l es:Taf}(q:eV i t l=true)(k:jB i t l pi pt es=true):(iS i t l pi pt es=(0,l)∧pi+es.length<=i+l.length)∨ ∃(m:Nat) (x:D) (r:Taf),pi<=i+m∧m<=l.length∧iS i t l pi pt es=(i+m+1,l.take m++x::r)∧(∀y∈x::r,y∈es)∧eM t (l.take m++x::r)=eM pt es∧i+m+(x::r).length=pi+es.length:=by
 unfold iS;rw[if_pos k];obtain⟨E,u⟩:=eH.1 q;simp only[jB,aS,beq_iff_eq]at k;obtain⟨⟨w,v⟩,p⟩:=k;obtain⟨B,A,o⟩:=ku v;obtain⟨_,j⟩:=eH.1 w;have e:i+(((pi-i).toNat:Nat):Int)=pi:=by omega
 rcases Cp u (es:=es) (n:=(pi-i).toNat) (by omega) (by rw[<-o,p,e];exact j) with⟨h,h'⟩|⟨m,x,r,g,a,b,c,d,f⟩
 ·exact .inl ⟨h,by omega⟩
 ·exact .inr ⟨m,x,r,by omega,a,b,c,by rw[d,<-o,p],by rw[f,e]⟩
def Inv.put{c:D}(h:Inv z N s)(k:cJ C M s K)(p:s.fC= .gI):Inv z (N+1) (pw c s).2:=by
 obtain⟨v,n⟩:=eH.1 k.may
 have e:pw c s=if(oV s.li s.lt s.le s.term==0) then((aJ 29 (wv s.li s.lt s.le s.term (aJ 27 c [])) [],oV s.li s.lt s.le s.term),{eU {s with li:=s.li,lt:=s.lt,le:=pO s.li s.lt s.le s.term (aJ 27 c [])} with dW:=s.dW++[aJ 29 (wv s.li s.lt s.le s.term (aJ 27 c [])) []]})
  else((aJ 29 (wv s.li s.lt s.le s.term (aJ 27 c [])) [],oV s.li s.lt s.le s.term),{s with li:=s.li,lt:=s.lt,le:=pO s.li s.lt s.le s.term (aJ 27 c [])}):=rfl
 rw[e];have g:N<=N+1:=by omega
 by_cases b:oV s.li s.lt s.le s.term=0
 ·rw[if_pos (beq_iff_eq.2 b)];have u:wv s.li s.lt s.le s.term (aJ 27 c [])=Ed s.li s.lt s.le s.term (aJ 27 c []):=if_pos b;have i:pO s.li s.lt s.le s.term (aJ 27 c [])=s.le++[Ed s.li s.lt s.le s.term (aJ 27 c [])] :=if_pos b;rw[u,i];have r:aJ 29 (Ed s.li s.lt s.le s.term (aJ 27 c [])) [] =Ed s.li s.lt s.le s.term (aJ 27 c []):=rfl;rw[r]
  have A:1<=s.term:=by
   unfold oV at b;split at b
   ·cases b
   ·rename_i w;omega
  generalize j:Ed s.li s.lt s.le s.term (aJ 27 c [])=x;have f:ix x=s.li+s.le.length+1:=by rw[<-j];rfl
  have o:tm x=s.term:=by rw[<-j];rfl
  rcases h.lg with⟨l1,l2,l3,l4,l5,l6,l7⟩|⟨l1,_⟩
  ·refine⟨⟨h.hd,h.zz,⟨h.F2.1,?_⟩,h.gz,h.O8,?_,h.qP,?_,?_⟩,.inl ⟨l1,l2,l3,l4,l5,l6,OU l7 n f⟩,fun a=>absurd (show true=false from a) (by decide),fun m q=>(h.msg m q).mono g,fun e l=>⟨(h.J3 e l).1,fV (h.J3 e l).2 g⟩⟩
   ·show s.bF<=s.li+((s.le++[x]).length:Int);have:=h.F2.2;rw[ah,aZ];omega
   ·show eM s.lt (s.le++[x])<=s.term;rw[lA];show tm x<=s.term;omega
   ·show s.li+((s.le++[x]).length:Int)<=N+1;have:=h.top;rw[ah,aZ];omega
   ·intro y d;rcases aI.1 (show y∈s.le++[x] from d) with d|d
    ·exact h.pos y d
    ·rw[aB.1 d];omega
  ·rw[p]at l1;cases l1
 ·rw[if_neg (by simpa using b)];have i:pO s.li s.lt s.le s.term (aJ 27 c [])=s.le:=if_neg b;rw[i];exact(h.mono g).same
def Inv.bZ{x:Int}(h:Inv z N s)(k:cJ C M s K)(d:x<=s.li+s.le.length):Inv z N (iW x s).2:=by
 have e:iW x s=if decide (x<=s.bF) then(false,s) else(mC (dP s.li s.lt s.le (i64.wrap (s.bF+1)) (i64.wrap (x-s.bF))) (D.fn 84 []),{s with bZ:=s.bZ++dP s.li s.lt s.le (i64.wrap (s.bF+1)) (i64.wrap (x-s.bF)),bF:=x}):=rfl
 rw[e];obtain⟨⟨f,_⟩,c⟩:=eH.1 k.may;by_cases b:decide (x<=s.bF)=true
 ·rw[if_pos b];exact h
 ·rw[if_neg b];rw[bk]at b;refine⟨⟨h.hd,h.zz,⟨?_,d⟩,h.gz,h.O8,h.Pb,h.qP,h.top,h.pos⟩,h.lg,h.ns,h.msg,?_⟩
  ·show s.li<=x;have:=h.F2.1;omega
  ·intro y a;rcases aI.1 (show y∈s.bZ++dP s.li s.lt s.le _ _ from a) with a|a
   ·exact h.J3 y a
   ·obtain⟨j,g⟩:=zm c (sX (i:=s.li) a);have:=h.top;show 0<=ix y∧ix y<=N;omega
def Inv.pQ{x:Int}(h:Inv z N s)(k:cJ C M s K)(A:0<=x)(y:x<=5):Inv z N (eL x s):=by
 obtain⟨u,f⟩:=k.li;have d: ∀(m:D) (t:RS),mr N m->iJ t=iJ s->t.cg=s.cg->Inv z N (ez m t):=fun m t j e r=>(h.same e r).send j;have q: ∀m:D,(cD 12 m).A=[] ->(cD 4 m).q=s.jO->mr N m:=fun m a b=>Ze a fun _=>by rw[b,h.hd.1];have:=h.top;omega
 have o: ∀(m:D) (p:Int),(cD 12 m).A=dP s.li s.lt s.le p 8->(cD 4 m).q=i64.wrap (p-1)->(cD 0 m).q=3->mr N m:=by
  intro m p a b c;refine⟨?_,?_,fun a=>(by rw[c]at a;cases a),?_⟩
  ·rw[a];unfold dP gK;split
   ·exact aC _
   ·exact List.length_take_le _ _
  ·rw[a,b];unfold dP gK;split
   ·intro a;exact absurd rfl a
   ·rename_i v;intro a
    have w:(p-s.li-1).toNat<s.le.length:=by
     by_cases l:(p-s.li-1).toNat<s.le.length
     ·exact l
     ·exact absurd (by rw[bO (by omega),List.take_nil]) a
    simp only[MX]at f;rw[wrap64 (by omega) (by omega),aK,aX];have:=h.top;omega
  ·rw[a];intro e n;exact h.pos e (sX (i:=s.li) n)
 have g:x=0∨x=1∨x=2∨x=3∨x=4∨x=5:=by omega
 rcases g with rfl|rfl|rfl|rfl|rfl|rfl<;>unfold eL<;>(repeat (first|rw[if_pos (by decide)] |rw[if_neg (by decide)]))<;>dsimp only<;>split
 all_goals first
  |exact d _ _ (q _ rfl rfl) rfl rfl
  |exact d _ _ (o _ _ rfl rfl rfl) rfl rfl
def Inv.agree(h:Inv z N s)(k:cJ C M s (K+1)):Inv z N (gR s):=by
 unfold gR pF;refine ib (fun a:Taf×Int=>0<=a.2∧a.2<=5) (fun t=>Inv z N t) (fun a=>5-a.2.toNat) ?_ _ _ ⟨by show(0:Int)<=0;omega,by show(0:Int)<=5;omega⟩ (cY _);intro a e;revert e;generalize a.2=j;generalize a.1=l;rintro⟨g,f⟩;unfold lM;have d:j=0∨j=1∨j=2∨j=3∨j=4∨j=5:=by omega
 rcases d with rfl|rfl|rfl|rfl|rfl|rfl<;>(repeat (first|rw[if_pos (by decide)] |rw[if_neg (by decide)]))
 all_goals first
  |(refine⟨⟨?_,?_⟩,?_⟩<;>(dsimp only;decide))
  |(show Inv z N (nb _ _ _)
    unfold nb;dsimp only;split
    ·exact h
    ·rename_i b;simp only[dt,not_or,bne_iff_ne,ne_eq,Decidable.not_not]at b;have c:=h.bZ k (ku b.1.2).2.1;split
     ·exact c.follow.same
     ·exact c)
def Cb{B:Type}{x:Taf}{step:Int->RS->(Int×RS)⊕B}{ex:RS->B}{bad:B}{m:Int->RS->Nat}{Q:B->Prop}(j:x.length<=10∧ ∀y∈x,1<=y.q∧y.q<=5)(e: ∀i t,step i t=if decide (i<(x.length:Int)) then .inl (i64.wrap (i+1),eL ((x.getD i.toNat .top).q) t) else .inr (ex t))(h: ∀i t,m i t=x.length-i.toNat)(k:Inv z N s∧cJ C M s (K+10))(o: ∀t,Inv z N t->cJ C M t K->Q (ex t)):
  Q (iN (fun a:Int×RS=>step a.1 a.2) bad (m 0 s+1) (0,s)):=by
 refine ib (fun a:Int×RS=>0<=a.1∧a.1<=x.length∧Inv z N a.2∧cJ C M a.2 (K+(10-a.1.toNat))) Q (fun a=>m a.1 a.2) ?_ _ _ ⟨ba 0,ew _,k⟩ (cY _);rintro⟨i,t⟩ ⟨q,p,f,d⟩;simp only at q p d f;obtain⟨r,l⟩:=j;rw[e];by_cases b:decide (i<(x.length:Int))=true
 ·rw[if_pos b];rw[bk]at b;have c:i.toNat<x.length:=by omega
  have g:=l _ (aF c);have n:x.getD i.toNat .top=x[i.toNat] :=by rw[aj,aQ c];rfl
  rw[n,wrap64 (by omega) (by omega)];refine⟨⟨by show 0<=i+1;omega,by show i+1<=_;omega,f.pQ d (by omega) g.2,?_⟩,by show m (i+1) _<m i t;rw[h,h];omega⟩;show cJ C M (eL _ t) (K+(10-(i+1).toNat));exact cJ.pQ (d.le (by omega)) (by omega) g.2
 ·rw[if_neg b];exact o t f (d.le (by omega))
def Inv.lead(h:Inv z N s)(k:cJ C M s (K+12))(e:s.fC= .gI):Inv z (N+1) (xk s):=by
 have m: ∀t,Inv z N t->cJ C M t (K+12)->t.fC= .gI->Inv z (N+1) (rF t):=by intro t d b e;unfold rF;dsimp only;have f:cJ C M (pw (aJ 27 L4 [(0,.int .i64 1)]) t).2 (K+11):=b.put (by intro g;exact absurd g (by decide));exact Cb (K:=K+1) (Q:=fun t=>Inv z (N+1) t) (iL (c:=aJ 2 (eZ _) []) (iY f)) (fun _ _=>rfl) (fun _ _=>rfl) ⟨d.put b e,f⟩ (fun t d b=>d.agree b)
 unfold xk rE;refine ib (fun a:Int×RS=>0<=a.1∧a.1<=6∧Inv z N a.2∧cJ C M a.2 (K+12)∧a.2.fC= .gI) (fun t=>Inv z (N+1) t) (fun a=>6-a.1.toNat) ?_ _ _ ⟨by show(0:Int)<=0;omega,by show(0:Int)<=6;omega,h.same,⟨k.may,k.xV,k.xU,k.qV,k.nm,k.ne,k.nc,k.nv,k.cf,k.cs,k.cl,k.tm,k.tx,rfl⟩,e⟩ (cY _);intro a l;revert l;generalize a.2=t;generalize a.1=j;rintro⟨o,n,d,b,e⟩;unfold rD;have i:j=0∨j=1∨j=2∨j=3∨j=4∨j=5∨j=6:=by omega
 rcases i with rfl|rfl|rfl|rfl|rfl|rfl|rfl<;>(repeat (first|rw[if_pos (by decide)] |rw[if_neg (by decide)]))
 all_goals first
  |exact m t d b e
  |(refine⟨⟨?_,?_,d.same,b.same fH,e⟩,?_⟩<;>(dsimp only;decide))
def Inv.Me{c:D}(h:Inv z N s)(k:cJ C M s (K+13))(q:fB c=true)(g:s.term<MX)(p:s.fC= .gI):Inv z (N+1) (nG c s):=by
 have m:=k.Gv g;have o:IntKind.wrap .i64 (s.term+1)=s.term+1:=wrap64 (by have:=k.tm;omega) (by simp only[MX]at g;omega)
 have l:Inv z N ({eU ({s with term:=i64.wrap (s.term+1),vote:=s.id}:RS) with role:=1,bM:=0,bc:=[.int .i64 s.id]}:RS):=
  (h.U9 (T:=i64.wrap (s.term+1)) (V:=s.id) (by rw[o];omega) (by have:=k.xV;omega) (by have:=k.xU;simp only[MX];omega)).same
 unfold nG;dsimp only;split
 ·exact l.lead (m.le (by omega:K+12<=K+13)) p
 ·generalize n:gN _ _=x;have e:x.length<=10:=by rw[<-n];exact(iL (c:=aJ 2 c []) q).1
  unfold lU;refine ib (fun a:Int×RS=>0<=a.1∧a.1<=x.length∧Inv z N a.2) (fun t=>Inv z (N+1) t) (fun a=>x.length-a.1.toNat) ?_ _ _ ⟨ba 0,ew _,l⟩ (cY _);intro a r;revert r;generalize a.2=t;generalize a.1=i;rintro⟨v,u,d⟩;unfold nM;dsimp only;by_cases b:decide (i<(x.length:Int))=true
  ·rw[if_pos b];rw[bk]at b;rw[wrap64 (by omega) (by omega)];have j:x.length-(i+1).toNat<x.length-i.toNat:=by omega
   by_cases f:lK (aJ 2 c []) ((x.getD i.toNat .top).q)=true
   ·rw[if_pos f];exact⟨⟨by show 0<=i+1;omega,by show i+1<=_;omega,Inv.nX d⟩,j⟩
   ·rw[if_neg f];exact⟨⟨by show 0<=i+1;omega,by show i+1<=_;omega,d⟩,j⟩
  ·rw[if_neg b];exact d.mono (by omega)
variable{C M K:Nat}{N:Int}{z s t:RS}{x:D}
def Inv.ite{c:Prop}[Decidable c]{a b:RS}(e:c->Inv z N a)(d: ¬c->Inv z N b):Inv z N (if c then a else b):=by
 split
 ·exact e (by assumption)
 ·exact d (by assumption)
def Inv.refuse(h:Inv z N s):Inv z N (oi x s):=by
 unfold oi;dsimp only
 repeat' split
 all_goals first
  |exact h.nX
  |exact h
def Inv.vote(h:Inv z N s)(c:0<=(cD 1 x).q)(b:(cD 1 x).q<=MX):Inv z N (uU x s):=by
 unfold uU;dsimp only;split
 ·split
  ·have a:Inv z N (lE (eU ({s with vote:=(cD 1 x).q}:RS))):=(h.U9 (T:=s.term) (ba _) c b).same;exact a.nX
  ·have a:Inv z N (lE s):=h.same;exact a.nX
 ·exact h.nX
def Inv.Ma(h:Inv z N s)(k:cJ C M s (K+13))(d:s.fC= .gI):Inv z (N+1) (pY x s):=by
 have e:=k.nv
 have c:cJ C M ({s with bc:=s.bc++[cD 1 x]}:RS) (K+12):=by have a:=k.le (by omega:K+12<=K+13);refine⟨a.may,a.xV,a.xU,a.qV,a.nm,a.ne,a.nc,?_,a.cf,a.cs,a.cl,a.tm,a.tx,a.rd⟩;show(s.bc++[cD 1 x]).length+(K+12)<=_;rw[ah,aZ];omega
 have b:Inv z N ({s with bc:=s.bc++[cD 1 x]}:RS):=h.same;unfold pY;dsimp only;refine Inv.ite (fun _=>h.mono (by omega)) fun _=>Inv.ite (fun _=>b.lead c d) fun _=>b.mono (by omega)
def AA:(il x s=(false,s))∨ ∃u,il x s=(true,u)∧iJ u=iJ s∧u.cg=s.cg∧u.gE=s.gE:=by
 unfold il;dsimp only;split
 ·exact .inl rfl
 ·refine .inr ⟨_,rfl,?_⟩;unfold gy;rw[if_neg (by simp)];exact⟨rfl,rfl,rfl⟩
def Inv.left(h:Inv z N s)(a:s.fC= .gI):s.li=z.li∧s.lt=z.lt∧s.sv=z.sv∧s.sl=z.sl∧s.aY=z.aY∧CW z.le s.dW=s.le:=by
 rcases h.lg with h|h
 ·exact h.2
 ·rw[a]at h;cases h.1
def K1{l:Taf}{i:Int}(h:(decide ((l.length:Int)>0)&&decide ((cD 1 (l.getD (i64.wrap ((l.length:Int)-1)).toNat .top)).q>i))=false)(c:l.length<=4611686018427387904){p:Int}(b:p<=i):eM p l<=i:=by
 by_cases a:l=[]
 ·subst a;exact b
 ·have d:0<l.length:=fR.2 a;rw[wrap64 (by omega) (by omega)]at h;have e:((l.length:Int)-1).toNat=l.length-1:=by omega
  rw[e,aj,aQ (by omega),br]at h;rw[wZ (aQ (by omega))];rw[Bool.and_eq_false_iff]at h;rcases h with h|h
  ·rw[decide_eq_false_iff_not]at h;omega
  ·rw[decide_eq_false_iff_not]at h;show(cD 1 _).q<=i;omega
def Inv.append(h:Inv z N s)(k:cJ C M s (K+3+(cD 12 x).A.length))(L:eI (cD 12 x).A=true)(I:mr N x)(T:s.fC= .gI)(ho:s.dW=[])(hl: ∀p≤s.term,eM p (cD 12 x).A<=s.term)(h5:(cD 5 x).q<=s.term):Inv z N (mQ x s):=by
 have S:(cD 12 (aJ 46 x []))=cD 12 x:=rfl;unfold mQ;rcases AA (x:=aJ 46 x []) (s:=s) with D|⟨u,D,U,e2,e3⟩
 ·rw[D];exact h
 have B:cJ C M u (K+3+(cD 12 x).A.length):=by have:=k.BG (x:=aJ 46 x []);rw[D]at this;exact this
 have d:=h.same U e2;have w:=U;simp only[iJ,ae]at w;obtain⟨_,_,_,_,_,f6,f7,f8,_,Q,_,_,P,v,_⟩:=w;rw[D];dsimp only;rw[if_neg (by decide)];refine Inv.ite (fun _=>d.nX) fun O=> ?_;have b:=cJ.accept (pi:=(cD 4 x).q) (pt:=(cD 5 x).q) B L;obtain⟨Z,Y,X,W,V,A⟩:=d.left (by rw[v];exact T);rw[P,ho]at A;have A:z.le=u.le:=A;obtain⟨⟨k1,k2,_⟩,R⟩:=eH.1 B.may;have J:=ui k2 R;simp only[MX]at J;generalize c:iS u.li u.lt u.le (cD 4 x).q (cD 5 x).q (cD 12 x).A=l at b;have eo:yA u.li u.lt u.le (cD 4 x).q (cD 5 x).q (cD 12 x).A=((l.1,jB u.li u.lt u.le (cD 4 x).q (cD 5 x).q (cD 12 x).A),u.li,u.lt,l.2):=by unfold yA;rw[c]
 rw[eo];dsimp only;refine Inv.ite (fun i=> ?_) fun i=> ?_
 ·have j:l=(0,u.le):=by rw[<-c];unfold iS;rw[if_neg (by simpa using i)]
  subst j;exact Inv.nX d
 have g:jB u.li u.lt u.le (cD 4 x).q (cD 5 x).q (cD 12 x).A=true:=by simpa using i
 have a0:=I.n8;rcases Lz (pi:=(cD 4 x).q) (pt:=(cD 5 x).q) (es:=(cD 12 x).A) B.may g with⟨j,aeX⟩|⟨m,y,r,hm0,hm1,j,hm3,hm4,hm5⟩
 ·rw[c]at j;subst j;rw[if_neg (by simp)]
  have F:i64.wrap ((cD 4 x).q+((cD 12 x).A.length:Int))<=u.li+u.le.length:=by simp only[jB,aS]at g;obtain⟨⟨p0,_⟩,_⟩:=eH.1 g.1.1;rw[wrap64 (by omega) (by omega)];exact aeX
  exact Inv.nX (Inv.bZ (s:={u with li:=u.li,lt:=u.lt,le:=u.le}) d B (by show bK _ _<=_;unfold bK;split<;>omega))
 ·rw[c]at j;subst j;have H:(cD 12 x).A≠ [] :=fun e=>by have:=hm3 y bw;rw[e]at this;cases this
  have a1:=I.qW H;have o:(u.le.take m).length=m:=by rw[aK];omega
  rw[bk]at O;have f:(((u.le.take m++y::r).length:Nat):Int)=m+(y::r).length:=by rw[ah,o];omega
  have hB:Inv z N ({eU ({u with li:=u.li,lt:=u.lt,le:=u.le.take m++y::r}:RS) with dW:=y::r}:RS):=by
   refine⟨⟨d.hd,d.zz,⟨d.F2.1,?_⟩,d.gz,d.O8,?_,d.qP,?_,?_⟩,.inl ⟨show u.fC= .gI by rw[v];exact T,Z,Y,X,W,V,?_⟩,fun a=>absurd (show true=false from a) (by decide),d.msg,d.J3⟩
   ·show u.bF<=u.li+((u.le.take m++y::r).length:Int);rw[f];omega
   ·show eM u.lt (u.le.take m++y::r)<=u.term;rw[hm4,Q];exact hl _ h5
   ·show u.li+((u.le.take m++y::r).length:Int)<=N;rw[f];omega
   ·intro e q;rcases aI.1 (show e∈u.le.take m++y::r from q) with q|q
    ·exact d.pos e (cF q)
    ·exact I.pos e (hm3 e q)
   ·show yQ z.le (ix y)++y::r=u.le.take m++y::r;obtain⟨_,E⟩:=eH.1 b.may;have hy:ix y=u.li+m+1:=(HN E (n:=m) (x:=y) (by show(u.le.take m++y::r)[m]? =some y;rw[aN (by omega),o,Nat.sub_self];rfl)).1;rw[A,B8 R hm1 hy]
  rw[if_pos (decide_eq_true (by omega))];have F:i64.wrap ((cD 4 x).q+((cD 12 x).A.length:Int))=u.li+m+(y::r).length:=by rw[<-hm5];exact wrap64 (by simp only[bu]at hm5;omega) (by omega)
  have hs:dP (eU ({u with li:=u.li,lt:=u.lt,le:=u.le.take m++y::r}:RS)).li (eU ({u with li:=u.li,lt:=u.lt,le:=u.le.take m++y::r}:RS)).lt (eU ({u with li:=u.li,lt:=u.lt,le:=u.le.take m++y::r}:RS)).le (u.li+(m:Int)+1) (i64.wrap ((cD 4 x).q+((cD 12 x).A.length:Int)))=y::r:=by show gK u.li (u.le.take m++y::r) (u.li+(m:Int)+1) _=_;rw[F];unfold gK;rw[if_neg (by simp only[bu];omega),show(u.li+(m:Int)+1-u.li-1).toNat=m by omega,List.drop_append_of_le_length (by omega),bO (by omega),cX];exact eB (by omega)
  rw[hs]
  have kb:cJ C M ({eU ({u with li:=u.li,lt:=u.lt,le:=u.le.take m++y::r}:RS) with dW:=y::r}:RS) (K+3):=by have G:(u.le.take m++y::r).length+(K+3)<=_:=b.qV;exact⟨b.may,b.xV,b.xU,b.qV,b.nm,(by show(y::r).length+(K+3)<=_;rw[ah]at G;omega),b.nc,b.nv,b.cf,b.cs,b.cl,b.tm,b.tx,b.rd⟩
  refine Inv.nX (hB.bZ kb ?_);show bK _ _<=u.li+((u.le.take m++y::r).length:Int);rw[f,F];unfold bK;split<;>omega
def Inv.rO(h:Inv z N s)(k:cJ C M s K):Inv z N (hC x s):=by unfold hC lz;dsimp only;unfold iN ly;rw[if_neg (by rw[k.rd];exact(by decide: ¬decide ((0:Int)<(([] :Taf).length:Int))=true))];exact h.same
def Inv.has{a b:Int}(h:Inv z N s)(k:cJ C M s (K+2))(i:0<=a)(g:a<=5):Inv z N (tT a b s):=by
 have go: ∀(t:RS) (c:Bool),Inv z N t->cJ C M t (K+2)->Inv z N (if c then eL a (gR t) else gR t):=by
  intro t c e d;cases c
  ·exact e.agree d
  ·exact(e.agree (K:=K+1) d).pQ (cJ.agree (k:=K+1) d) i g
 have f:a=0∨a=1∨a=2∨a=3∨a=4∨a=5:=by omega
 unfold tT;dsimp only;rcases f with rfl|rfl|rfl|rfl|rfl|rfl<;>(repeat (first|rw[if_pos (by decide)] |rw[if_neg (by decide)]))
 all_goals exact go _ _ h.same (k.same fH)
def Inv.appended(h:Inv z N s)(k:cJ C M s (K+2))(e:0<=(cD 1 x).q)(d:(cD 1 x).q<=5):Inv z N (jR x s):=by
 have b:Inv z N (hC (aJ 46 x []) s):=h.rO k;have a:cJ C M (hC (aJ 46 x []) s) (K+2):=k.rO;unfold jR;generalize hC (aJ 46 x []) s=gx at b a;have c:(cD 1 x).q=0∨(cD 1 x).q=1∨(cD 1 x).q=2∨(cD 1 x).q=3∨(cD 1 x).q=4∨(cD 1 x).q=5:=by omega
 dsimp only;refine Inv.ite (fun _=>h) fun _=> ?_;generalize (cD 1 x).q=n at c;rcases c with rfl|rfl|rfl|rfl|rfl|rfl<;>(repeat (first|rw[if_pos (by decide)] |rw[if_neg (by decide)]))<;>refine Inv.ite (fun _=> ?_) fun _=> ?_
 all_goals first
  |exact b.has a (by decide) (by decide)
  |(refine Inv.pQ b.same (cJ.same a ?_) (by decide) (by decide);exact fH)
def Inv.C7(h:Inv z N s)(k:cJ C M s (K+2))(c:0<=(cD 1 x).q)(b:(cD 1 x).q<=5):Inv z N (lq x s):=by
 unfold lq;have a:(cD 1 x).q=0∨(cD 1 x).q=1∨(cD 1 x).q=2∨(cD 1 x).q=3∨(cD 1 x).q=4∨(cD 1 x).q=5:=by omega
 dsimp only;refine Inv.ite (fun _=>h) fun _=>Inv.ite (fun _=>h.has k c b) fun _=>Inv.ite (fun _=> ?_) fun _=>h;generalize (cD 1 x).q=n at a;rcases a with rfl|rfl|rfl|rfl|rfl|rfl<;>(repeat (first|rw[if_pos (by decide)] |rw[if_neg (by decide)]))
 all_goals (refine Inv.pQ h.same (cJ.same k ?_) (by decide) (by decide);exact fH)
def C0{ts:Tal}{j:Nat}{t:Ty}{x:D}(h:Has (.agg (.V ts)) x)(c:ts[j]? =some t):Has t (cD j x):=by
 obtain⟨l,rfl,b⟩:=dQ.1 h;obtain⟨y,a,d⟩:=cI b j t (by rw[Ty.dq];exact c);have:cD j (.agg l)=y:=by show l.getD j .top=y;rw[aj,a];rfl
 rw[this];exact d
def yN(x:D)(u:RS)(pd:Taf)(b:RS):RS:=
 let a:=jP (cD 4 x).q (cD 5 x).q
 if(cD 0 a).gk then ez (aJ 46 iy [(0,D.int .i64 6),(2,(cD 1 x)),(4,(cD 4 x)),(9,D.int .i64 (pd.length:Int)),(10,D.int .i64 (bP 1 (cD 10 x).q))]) b
 else if(((((pd.length:Int) !=(cD 10 x).q)||(decide ((cD 10 x).q<1)))&&true)||(!fB (D.agg [(cD 13 x),(cD 14 x)]))) then ez (aJ 46 iy [(0,D.int .i64 6),(2,(cD 1 x)),(4,(cD 4 x)),(9,D.int .i64 (pd.length:Int)),(10,D.int .i64 (bP 1 (cD 10 x).q))]) b
 else if(((ij u.li u.lt u.le (cD 4 x).q).2==0)&&((ij u.li u.lt u.le (cD 4 x).q).1==(cD 5 x).q)) then
  ez (aJ 46 iy [(0,D.int .i64 6),(2,(cD 1 x)),(4,(cD 4 x))]) (eU ({u with fC:=(D.ptr [cD 4 x,cD 5 x,cD 13 x,cD 14 x,.list pd]),jO:=(cD 4 x).q,ig:=(cD 5 x).q,sv:=(cD 13 x).A,sl:=(cD 14 x).A,aY:=pd,bF:=(cD 4 x).q,gE:=0,gQ:=0,fu:=0,jx:=0,ft:=0,cg:=[],li:=(hU u.li u.lt u.le (cD 4 x).q).2.1,lt:=(hU u.li u.lt u.le (cD 4 x).q).2.2.1,le:=(hU u.li u.lt u.le (cD 4 x).q).2.2.2}:RS))
 else ez (aJ 46 iy [(0,D.int .i64 6),(2,(cD 1 x)),(4,(cD 4 x))]) (eU ({u with fC:=(D.ptr [cD 4 x,cD 5 x,cD 13 x,cD 14 x,.list pd]),jO:=(cD 4 x).q,ig:=(cD 5 x).q,sv:=(cD 13 x).A,sl:=(cD 14 x).A,aY:=pd,bF:=(cD 4 x).q,gE:=0,gQ:=0,fu:=0,jx:=0,ft:=0,cg:=[],li:=((cD 0 (cD 1 a)).q),lt:=((cD 1 (cD 1 a)).q),le:=((cD 2 (cD 1 a)).A)}:RS))
def Km:uV x s=if(!(il (aJ 46 x []) s).1) then(il (aJ 46 x []) s).2 else
  let u:=(il (aJ 46 x []) s).2
  if decide ((cD 4 x).q<=u.bF) then ez (aJ 46 iy [(0,D.int .i64 6),(2,(cD 1 x)),(4,D.int .i64 u.bF)]) u
  else if((!(((((u.gE==(cD 3 x).q)&&(u.gQ==(cD 1 x).q))&&(u.fu==(cD 4 x).q))&&(u.jx==(cD 5 x).q))&&(u.ft==(cD 10 x).q)))||((cD 9 x).q==0)) then
   (if((((cD 9 x).q==(([] :Taf).length:Int))&&(decide ((((cD 15 x).A:Taf).length:Int)<=(i64.wrap ((cD 10 x).q-(([] :Taf).length:Int))))))&&(na (cD 10 x).q 1 1048576)) then
    yN x u ([] ++(cD 15 x).A) ({u with gE:=(cD 3 x).q,gQ:=(cD 1 x).q,fu:=(cD 4 x).q,jx:=(cD 5 x).q,ft:=(cD 10 x).q,cg:=([] ++(cD 15 x).A)}:RS)
   else yN x u [] ({u with gE:=(cD 3 x).q,gQ:=(cD 1 x).q,fu:=(cD 4 x).q,jx:=(cD 5 x).q,ft:=(cD 10 x).q,cg:=[]}:RS))
  else(if((((cD 9 x).q==((u.cg:Taf).length:Int))&&(decide ((((cD 15 x).A:Taf).length:Int)<=(i64.wrap ((cD 10 x).q-((u.cg:Taf).length:Int))))))&&(na (cD 10 x).q 1 1048576)) then
    yN x u (u.cg++(cD 15 x).A) ({u with cg:=(u.cg++(cD 15 x).A)}:RS)
   else yN x u u.cg u):=rfl
def Inv.ZE{u r:RS}{pd:Taf}(h:Inv z N u)(k:cJ C M u K)(B:Inv z N r)(O:u.fC= .gI)(o:u.dW=[])(L:pd.length<=1048576)(hc: ¬(cD 4 x).q<=u.bF)(Q:(cD 5 x).q<=u.term)(hN:(cD 4 x).q<=N)(l:Has hH x):Inv z N (yN x u pd r):=by
 obtain⟨X,W,V,U,T,i⟩:=h.left O;rw[o]at i;have i:z.le=u.le:=i;obtain⟨⟨k1,k2,Z,Y⟩,J⟩:=eH.1 k.may;have A:=h.F2.1;obtain⟨_,n,_⟩:=C0 (j:=4) l rfl;obtain⟨_,m,_⟩:=C0 (j:=5) l rfl;obtain⟨_,d,_⟩:=C0 (j:=13) l rfl;obtain⟨_,c,_⟩:=C0 (j:=14) l rfl;have n:cD 4 x= .int .i64 (cD 4 x).q:=by rw[n];rfl
 have m:cD 5 x= .int .i64 (cD 5 x).q:=by rw[m];rfl
 have d:cD 13 x= .list (cD 13 x).A:=by rw[d];rfl
 have c:cD 14 x= .list (cD 14 x).A:=by rw[c];rfl
 unfold yN;dsimp only;refine Inv.ite (fun _=>B.nX) fun b=>Inv.ite (fun _=>B.nX) fun y=> ?_;obtain⟨S,I⟩:=JE b
 have v:(cD 4 x).q=0↔(cD 5 x).q=0:=by
  unfold jP at b;split at b
  ·rename_i P;exact P.2
  ·exact absurd rfl b
 have f:1<=pd.length∧pd.length<=1048576:=by simp only[Bool.and_true,dt,not_or,bne_iff_ne,ne_eq,Decidable.not_not,bk]at y;obtain⟨⟨H,G⟩,_⟩:=y;omega
 refine Inv.ite (fun w=>Inv.nX ?_) fun _=>Inv.nX ?_
 ·simp only[aS,beq_iff_eq]at w;obtain⟨E,q⟩:=w;obtain⟨H,G,F⟩:=ku E
  have R:hU u.li u.lt u.le (cD 4 x).q=(xn u.li u.le (cD 4 x).q,(cD 4 x).q,(cD 5 x).q,u.le.drop ((cD 4 x).q-u.li).toNat):=by unfold hU jk;rw[if_neg (by omega)];have g:(gC u.li u.lt u.le (cD 4 x).q).1=(cD 5 x).q:=q;rw[g]
  rw[R];dsimp only;refine⟨⟨⟨rfl,rfl⟩,v,⟨ba _,?_⟩,fun _=>f,aC _,?_,h.qP,?_,?_⟩,.inr ⟨?_,o,rfl,.inr ?_⟩,fun a=>absurd (show true=false from a) (by decide),h.msg,h.J3⟩
  ·show(cD 4 x).q<=(cD 4 x).q+((u.le.drop _).length:Int);omega
  ·show eM (cD 5 x).q (u.le.drop _)<=u.term;have g:(gC u.li u.lt u.le (cD 4 x).q).1=(cD 5 x).q:=q;rw[<-g,F,Ay];exact h.Pb
  ·show(cD 4 x).q+((u.le.drop ((cD 4 x).q-u.li).toNat).length:Int)<=N;have:=h.top;rw[aX];omega
  ·intro e p;exact h.pos e (cG (show e∈u.le.drop _ from p))
  ·show D.ptr [cD 4 x,cD 5 x,cD 13 x,cD 14 x,.list pd] = .ptr [.int .i64 (cD 4 x).q,.int .i64 (cD 5 x).q,.list (cD 13 x).A,.list (cD 14 x).A,.list pd];rw[<-n,<-m,<-d,<-c]
  ·show wG z.le (cD 4 x).q=u.le.drop ((cD 4 x).q-u.li).toNat;rw[i];exact Ax J (by omega) (by omega)
 ·rw[I];refine⟨⟨⟨rfl,rfl⟩,v,⟨ba _,?_⟩,fun _=>f,aC _,Q,h.qP,?_,?_⟩,.inr ⟨?_,o,rfl,.inl rfl⟩,fun a=>absurd (show true=false from a) (by decide),h.msg,h.J3⟩
  ·show(cD 4 x).q<=(cD 4 x).q+((([] :Taf).length:Nat):Int);omega
  ·show(cD 4 x).q+((([] :Taf).length:Nat):Int)<=N;simp only[fO];omega
  ·intro e p;cases (show e∈([] :Taf) from p)
  ·show D.ptr [cD 4 x,cD 5 x,cD 13 x,cD 14 x,.list pd] = .ptr [.int .i64 (cD 4 x).q,.int .i64 (cD 5 x).q,.list (cD 13 x).A,.list (cD 14 x).A,.list pd];rw[<-n,<-m,<-d,<-c]
def Inv.snap(h:Inv z N s)(k:cJ C M s K)(y:s.fC= .gI)(w:s.dW=[])(E:(cD 5 x).q<=s.term)(A:(cD 4 x).q<=N)(v:Has hH x):Inv z N (uV x s):=by
 rw[Km];rcases AA (x:=aJ 46 x []) (s:=s) with f|⟨u,f,o,F,O⟩
 ·rw[f];exact h
 have r:cJ C M u K:=by have:=k.BG (x:=aJ 46 x []);rw[f]at this;exact this
 have c:=h.same o F;have e:=o;simp only[iJ,ae]at e;obtain⟨_,_,_,_,_,L,J,I,_,l,_,_,j,i,_⟩:=e;rw[f];dsimp only;rw[if_neg (by decide)];have d:=c.O8;refine Inv.ite (fun _=>c.nX) fun n=> ?_;rw[bk]at n;have go: ∀(pd:Taf) (g:RS),pd.length<=1048576->Inv z N g->Inv z N (yN x u pd g):=fun pd g d B=>c.ZE r B (by rw[i];exact y) (by rw[j];exact w) d n (by rw[l];exact E) A v
 have m: ∀(p:Taf),p.length<=1048576->(decide (((cD 15 x).A.length:Int)<=i64.wrap ((cD 10 x).q-(p.length:Int)))&&na (cD 10 x).q 1 1048576)=true->(p++(cD 15 x).A).length<=1048576:=by intro p d b;simp only[na,aS,bk]at b;obtain⟨q,H,G⟩:=b;rw[wrap64 (by omega) (by omega)]at q;rw[ah];omega
 refine Inv.ite (fun _=>Inv.ite (fun b=> ?_) fun _=> ?_) fun _=>Inv.ite (fun b=> ?_) fun _=> ?_
 ·have a:=m [] (aC _) (by simp only[aS]at b⊢;exact⟨b.1.2,b.2⟩);refine go _ _ a ?_;exact c.pd a
 ·refine go _ _ (aC _) ?_;exact c.pd (aC _)
 ·have a:=m u.cg d (by simp only[aS]at b⊢;exact⟨b.1.2,b.2⟩);refine go _ _ a ?_;exact c.pd a
 ·exact go _ _ d c
structure Idle(s:RS):Prop where
 save:s.save=false
 snap:s.fC= .gI
 F2:s.bZ=[]
 Kc:s.dW=[]
 msgs:s.msgs=[]
def K5(t:RS):Idle (cq t).2:=⟨rfl,rfl,rfl,rfl,rfl⟩
end Go.Proofs.Ytjhmkaninmgilaa
namespace Go.Proofs.Ytjhmkaninmgilaa
open Go Go.dI Go.Proofs Go.Shelf
def DK:Go.Shelf.Ren:=⟨fun|189=>82|125=>86|257=>85|128=>96|129=>97|294=>87|295=>88|296=>89|297=>90|298=>91|299=>92|216=>93|300=>94|301=>95|328=>98|329=>99|330=>100|331=>101|332=>102|215=>103|343=>104|n=>n,fun|28=>29|3=>3|46=>156|0=>0|51=>165|53=>167|4=>4|183=>159|182=>158|131=>92|5=>5|9=>9|218=>168|222=>172|228=>174|229=>95|n=>n,fun|n=>n⟩
def OE:Go.Proofs.Lays.n189 Try.prog DK:={
 mixed:=by kernel_rfl,
 f125:=Try.func86.trans (congrArg some (by kernel_rfl)),
 f128:=Try.func96.trans (congrArg some (by kernel_rfl)),
 f129:=Try.func97.trans (congrArg some (by kernel_rfl)),
 f189:=Try.func82.trans (congrArg some (by kernel_rfl)),
 f215:=Try.func103.trans (congrArg some (by kernel_rfl)),
 f216:=Try.func93.trans (congrArg some (by kernel_rfl)),
 f257:=Try.func85.trans (congrArg some (by kernel_rfl)),
 f294:=Try.func87.trans (congrArg some (by kernel_rfl)),
 f295:=Try.func88.trans (congrArg some (by kernel_rfl)),
 f296:=Try.func89.trans (congrArg some (by kernel_rfl)),
 f297:=Try.func90.trans (congrArg some (by kernel_rfl)),
 f298:=Try.func91.trans (congrArg some (by kernel_rfl)),
 f299:=Try.func92.trans (congrArg some (by kernel_rfl)),
 f300:=Try.func94.trans (congrArg some (by kernel_rfl)),
 f301:=Try.func95.trans (congrArg some (by kernel_rfl)),
 f328:=Try.func98.trans (congrArg some (by kernel_rfl)),
 f329:=Try.func99.trans (congrArg some (by kernel_rfl)),
 f330:=Try.func100.trans (congrArg some (by kernel_rfl)),
 f331:=Try.func101.trans (congrArg some (by kernel_rfl)),
 f332:=Try.func102.trans (congrArg some (by kernel_rfl)),
 f343:=Try.func104.trans (congrArg some (by kernel_rfl)),
 t0:=Try.underlying0,
 a0:=Try.isAgg0,
 z0:=Try.sizeOf0,
 v0:=Try.zeroValue0,
 t3:=Try.underlying3,
 a3:=Try.isAgg3,
 z3:=Try.sizeOf3,
 v3:=Try.zeroValue3,
 t4:=Try.underlying4,
 a4:=Try.isAgg4,
 z4:=Try.sizeOf4,
 v4:=Try.zeroValue4,
 t5:=Try.underlying5,
 a5:=Try.isAgg5,
 z5:=Try.sizeOf5,
 v5:=Try.zeroValue5,
 t9:=Try.underlying9,
 a9:=Try.isAgg9,
 z9:=Try.sizeOf9,
 v9:=Try.zeroValue9,
 t28:=Try.underlying29,
 a28:=Try.isAgg29,
 z28:=Try.sizeOf29,
 v28:=Try.zeroValue29,
 t46:=Try.underlying156,
 a46:=Try.isAgg156,
 z46:=Try.sizeOf156,
 v46:=Try.zeroValue156,
 t51:=Try.underlying165,
 a51:=Try.isAgg165,
 z51:=Try.sizeOf165,
 v51:=Try.zeroValue165,
 t53:=Try.underlying167,
 a53:=Try.isAgg167,
 z53:=Try.sizeOf167,
 v53:=Try.zeroValue167,
 t131:=Try.underlying92,
 a131:=Try.isAgg92,
 z131:=Try.sizeOf92,
 v131:=Try.zeroValue92,
 t182:=Try.underlying158,
 a182:=Try.isAgg158,
 z182:=Try.sizeOf158,
 v182:=Try.zeroValue158,
 t183:=Try.underlying159,
 a183:=Try.isAgg159,
 z183:=Try.sizeOf159,
 v183:=Try.zeroValue159,
 t218:=Try.underlying168,
 a218:=Try.isAgg168,
 z218:=Try.sizeOf168,
 v218:=Try.zeroValue168,
 t222:=Try.underlying172,
 a222:=Try.isAgg172,
 z222:=Try.sizeOf172,
 v222:=Try.zeroValue172,
 t228:=Try.underlying174,
 a228:=Try.isAgg174,
 z228:=Try.sizeOf174,
 v228:=Try.zeroValue174,
 t229:=Try.underlying95,
 a229:=Try.isAgg95,
 z229:=Try.sizeOf95,
 v229:=Try.zeroValue95}
def yh:Go.Shelf.Ren:=⟨fun|20=>83|n=>n,fun|22=>29|3=>3|4=>4|0=>0|n=>n,fun|n=>n⟩
def FG:Go.Proofs.Lays2.n20 Try.prog yh:={
 mixed:=by kernel_rfl,
 f20:=Try.func83.trans (congrArg some (by kernel_rfl)),
 t0:=Try.underlying0,
 a0:=Try.isAgg0,
 z0:=Try.sizeOf0,
 v0:=Try.zeroValue0,
 t3:=Try.underlying3,
 a3:=Try.isAgg3,
 z3:=Try.sizeOf3,
 v3:=Try.zeroValue3,
 t4:=Try.underlying4,
 a4:=Try.isAgg4,
 z4:=Try.sizeOf4,
 v4:=Try.zeroValue4,
 t22:=Try.underlying29,
 a22:=Try.isAgg29,
 z22:=Try.sizeOf29,
 v22:=Try.zeroValue29,
 i3:=by kernel_rfl}
def Bw:Go.Shelf.Ren:=⟨fun|15=>61|n=>n,fun|22=>29|3=>3|4=>4|n=>n,fun|n=>n⟩
def KZ:Go.Proofs.Lays2.n15 Try.prog Bw:={
 mixed:=by kernel_rfl,
 f15:=Try.func61.trans (congrArg some (by kernel_rfl)),
 t3:=Try.underlying3,
 a3:=Try.isAgg3,
 z3:=Try.sizeOf3,
 v3:=Try.zeroValue3,
 t4:=Try.underlying4,
 a4:=Try.isAgg4,
 z4:=Try.sizeOf4,
 v4:=Try.zeroValue4,
 t22:=Try.underlying29,
 a22:=Try.isAgg29,
 z22:=Try.sizeOf29,
 v22:=Try.zeroValue29,
 i3:=by kernel_rfl}
end Go.Proofs.Ytjhmkaninmgilaa
