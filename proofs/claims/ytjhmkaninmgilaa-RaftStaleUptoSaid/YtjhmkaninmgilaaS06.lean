/- Part 6 of the proof of RaftStale; no condition. -/
import Derived.Test.YtjhmkaninmgilaaS05
import Derived.KernelRfl
set_option linter.unusedVariables false
set_option linter.unusedSimpArgs false
set_option maxHeartbeats 4000000
namespace Go.Proofs.Ytjhmkaninmgilaa
open Go Go.RowKit Go.bZ Go.Proofs
theorem uW{d:D}(h:Has (.list (.int .i64)) d): ∃l:List Int,d= .list (l.map (D.int .i64))∧l.length*8≤140737488355328∧ ∀x∈l,-9223372036854775808≤x∧x≤9223372036854775807:=by
 obtain⟨l,rfl,_,h2⟩:=aD.1 h
 obtain⟨zs,rfl⟩:=rq h2
 obtain⟨h3,h4⟩:=oW.1 h
 exact⟨zs,rfl,h3,fun x hx=>tn.1 (h4 x hx)⟩
theorem vg{d:D}(h:Has mK d): ∃v l:List Int,d= .agg [.list (v.map (D.int .i64)), .list (l.map (D.int .i64))] ∧v.length*8≤140737488355328∧(∀x∈v,-9223372036854775808≤x∧x≤9223372036854775807)∧l.length*8≤140737488355328∧ ∀x∈l,-9223372036854775808≤x∧x≤9223372036854775807:=by
 obtain⟨_,rfl,_,_,rfl,h1,_,_,rfl,h2,rfl⟩:=h
 obtain⟨v,rfl,a1,a2⟩:=uW h1
 obtain⟨l,rfl,b1,b2⟩:=uW h2
 exact⟨v,l,rfl,a1,a2,b1,b2⟩
def qz:Int→List Int→Bool
 |_,[] =>true
 |p,x::r=>(decide (1≤x)&&decide (x≤5)&&decide (p<x))&&qz x r
def uU:Int→List Int→Int
 |p,[] =>p
 |_,x::r=>uU x r
theorem pQ: ∀{a b:List Int} {p:Int},uU p (a++b)=uU (uU p a) b
 | [],_,_=>rfl
 |x::a,b,_=>by simp only[List.cons_append,uU,pQ (a:=a)]
def vo(d:D):List Int:=fP (d.ak.getD 0 .top)
def lr(d:D):List Int:=fP (d.ak.getD 1 .top)
theorem xS(v l:List Int):vo (.agg [.list (v.map (D.int .i64)), .list (l.map (D.int .i64))])=v:=cK v
theorem Gs(v l:List Int):lr (.agg [.list (v.map (D.int .i64)), .list (l.map (D.int .i64))])=l:=cK l
def zU(v l:List Int):Bool:=qz 0 v&&qz 0 l&& !v.isEmpty&&decide (∀x∈l,x∉v)
def Ge(v l:List Int):List Int:=Lib.compact (iI (v++l))
def yY(v yes:List Int):Nat:=v.countP fun x=>decide (x∈yes)
def II(v yes:List Int):Bool:=decide ((v.length:Int)<2*(yY v yes:Int))
def lT(m:List Int)(s:Int):Int:=if 1≤s∧s≤m.length then(if 0<m.getD (s-1).toNat 0 then m.getD (s-1).toNat 0 else 0) else 0
def uO(v m:List Int):Int:=if v=[] then 0 else(iI (v.map (lT m))).getD ((v.length-1)/2) 0
def yX(a b:List Int)(n:Nat):Nat:=(List.range n).countP fun s:Nat=>decide ((s:Int)∈a) !=decide ((s:Int)∈b)
def Mq(va la vb lb:List Int):Bool:=zU va la&&zU vb lb&&decide (yX va vb 6≤1)
theorem NQ(a b:List Int)(n:Nat):yX a b (n+1)=yX a b n+(if decide ((n:Int)∈a) !=decide ((n:Int)∈b) then 1 else 0):=by
 unfold yX;rw[List.range_succ,List.countP_append];simp[List.countP_cons]
theorem VJ(a b:List Int)(n:Nat):yX a b n≤n:=by
 unfold yX;have:=List.countP_le_length (p:=fun s:Nat=>decide ((s:Int)∈a) !=decide ((s:Int)∈b)) (l:=List.range n);simpa using this
theorem VM(v y:List Int):yY v y≤v.length:=List.countP_le_length
theorem NV{v y:List Int}{n:Nat}{x:Int}(h:v[n]? =some x):yY (v.take (n+1)) y=yY (v.take n) y+(if x∈y then 1 else 0):=by
 unfold yY;rw[List.take_add_one,h,Option.toList_some,List.countP_append];simp[List.countP_cons]
theorem vz(v m:List Int):(iI (v.map (lT m))).length=v.length:=by rw[oZ,List.length_map]
theorem AO: ∀{l:List Int} {p:Int},0≤p→qz p l=true→(l.length:Int)≤max 0 (5-p)
 | [],p,_,_=>by simp;omega
 |x::r,p,hp,h=>by
  simp only[qz,aw,aN]at h
  obtain⟨⟨⟨h1,h2⟩,h3⟩,h4⟩:=h
  have:=AO (by omega) h4
  simp only[List.length_cons];omega
theorem Ha{v l:List Int}:zU v l=true↔qz 0 v=true∧qz 0 l=true∧v≠ [] ∧ ∀x∈l,x∉v:=by
 simp[zU,and_assoc]
theorem AN: ∀{l:List Int} {p:Int},qz p l=true→ ∀x∈l,1≤x∧x≤5
 | [],_,_,x,hx=>by simp at hx
 |y::r,p,h,x,hx=>by
  simp only[qz,aw,aN]at h
  obtain⟨⟨⟨h1,h2⟩,_⟩,h4⟩:=h
  rcases List.mem_cons.1 hx with rfl|hx
  ·exact⟨h1,h2⟩
  ·exact AN h4 x hx
def wT:List Int→Int→List Int
 | [],n=> [n]
 |x::r,n=>if x<n then x::wT r n else if x=n then x::r else n::x::r
def KT(v l:List Int):List Int:=l.foldl wT (v.foldl wT [])
theorem vU(l:List Int):(iI l).Pairwise (· ≤ ·):=by
 have:=List.pairwise_mergeSort (le:=fun x y:Int=>decide (x≤y)) (by intro a b c h1 h2;simp only[aN]at*;omega) (by intro a b;simp only[Bool.or_eq_true,aN];omega) l
 exact this.imp (by intro a b h;simpa using h)
theorem J5(l:List Int):(iI l).Perm l:=List.mergeSort_perm l _
theorem NH{d:Array Int}{m:Nat}(h:Lib.keeps d m=false):0<m∧d[m]! =d[m-1]! :=by
 refine⟨?_,?_⟩
 ·rcases Nat.eq_zero_or_pos m with h0|h0
  ·rw[Lib.keeps_lt_one d m (by omega)]at h;cases h
  ·exact h0
 ·by_cases e:d[m]! =d[m-1]!
  ·exact e
  ·rw[Lib.keeps_pos e]at h;cases h
theorem lK{d:Array Int}: ∀{m j:Nat},j<m→d[j]! ∈Lib.compactUpTo d m
 |0,j,h=>by omega
 |m+1,j,h=>by
  rw[Lib.compactUpTo_succ]
  rcases Nat.lt_or_ge j m with h'|h'
  ·exact List.mem_append_left _ (lK h')
  ·obtain rfl:j=m:=by omega
   cases hk:Lib.keeps d j with
   |true=>exact List.mem_append_right _ (by simp)
   |false=>
    obtain⟨h1,h2⟩:=NH hk
    rw[h2];exact List.mem_append_left _ (lK (by omega))
theorem zd{l:List Int}{x:Int}:x∈Lib.compact l↔x∈l:=by
 refine⟨yl,fun h=> ?_⟩
 obtain⟨j,hj,rfl⟩:=List.getElem_of_mem h
 have:=lK (d:=l.toArray) (m:=l.length) hj
 rwa [getElem!_pos _ j (by simpa using hj)]at this
theorem G8{v l:List Int}{x:Int}:x∈Ge v l↔x∈v∨x∈l:=by
 rw[Ge,zd,xx,List.mem_append]
theorem BP{l:List Int}(hs:l.Pairwise (· ≤ ·)):(Lib.compact l).Pairwise (· < ·):=by
 have hle: ∀i j,i≤j→j<l.length→l.toArray[i]! ≤l.toArray[j]! :=by
  intro i j B8 hj
  rw[getElem!_pos _ i (by simp;omega),getElem!_pos _ j (by simpa using hj)]
  rcases Nat.eq_or_lt_of_le B8 with h|h
  ·subst h;exact Int.le_refl _
  ·exact List.pairwise_iff_getElem.1 hs i j (by omega) hj h
 have key: ∀m,m≤l.length→(Lib.compactUpTo l.toArray m).Pairwise (· < ·)∧ ∀x∈Lib.compactUpTo l.toArray m,0<m∧x≤l.toArray[m-1]! :=by
  intro m
  induction m with
  |zero=>intro _;exact⟨by simp[Lib.compactUpTo],by simp[Lib.compactUpTo]⟩
  |succ m ih=>
   intro hm
   obtain⟨h1,h2⟩:=ih (by omega)
   rw[Lib.compactUpTo_succ]
   have Y3: ∀x∈Lib.compactUpTo l.toArray m,x≤l.toArray[m]! :=fun x hx=>by
    obtain⟨q1,q2⟩:=h2 x hx
    exact Int.le_trans q2 (hle (m-1) m (by omega) (by omega))
   cases hk:Lib.keeps l.toArray m with
   |true=>
    rw[if_pos rfl]
    refine⟨?_,?_⟩
    ·rw[List.pairwise_append]
     refine⟨h1,by simp,fun x hx y hy=> ?_⟩
     rw[List.mem_singleton]at hy;subst hy
     obtain⟨q1,q2⟩:=h2 x hx
     have dH:l.toArray[m]! ≠l.toArray[m-1]! :=fun e=>by rw[Lib.keeps_neg q1 e]at hk;cases hk
     have:=hle (m-1) m (by omega) (by omega)
     omega
    ·intro x hx
     rcases List.mem_append.1 hx with hx|hx
     ·exact⟨by omega,Y3 x hx⟩
     ·rw[List.mem_singleton]at hx;subst hx;exact⟨by omega,Int.le_refl _⟩
   |false=>
    rw[if_neg (by simp),List.append_nil]
    exact⟨h1,fun x hx=>⟨by omega,Y3 x hx⟩⟩
 exact(key l.length (Nat.le_refl _)).1
theorem Bn: ∀{a b:List Int},a.Pairwise (· < ·)→b.Pairwise (· < ·)→(∀x,x∈a↔x∈b)→a=b
 | [],[],_,_,_=>rfl
 | [],y::b,_,_,h=>by have:=(h y).2 (by simp);simp at this
 |x::a,[],_,_,h=>by have:=(h x).1 (by simp);simp at this
 |x::a,y::b,ha,hb,h=>by
  rw[List.pairwise_cons]at ha hb
  have exy:x=y:=by
   have h1:=(h x).1 (by simp)
   have h2:=(h y).2 (by simp)
   rcases List.mem_cons.1 h1 with h1|h1
   ·exact h1
   ·rcases List.mem_cons.1 h2 with h2|h2
    ·exact h2.symm
    ·have:=hb.1 x h1;have:=ha.1 y h2;omega
  subst exy
  rw[Bn ha.2 hb.2 (fun z=>⟨fun hz=>by
   rcases List.mem_cons.1 ((h z).1 (List.mem_cons_of_mem _ hz)) with e|e
   ·have:=ha.1 z hz;omega
   ·exact e,fun hz=>by
   rcases List.mem_cons.1 ((h z).2 (List.mem_cons_of_mem _ hz)) with e|e
   ·have:=hb.1 z hz;omega
   ·exact e⟩)]
theorem Lx{b:Int}: ∀{l:List Int},l.Pairwise (· < ·)→(wT l b).Pairwise (· < ·)∧ ∀x,x∈wT l b↔x∈l∨x=b
 | [],_=>by simp[wT]
 |y::r,h=>by
  rw[List.pairwise_cons]at h
  obtain⟨h1,h2⟩:=Lx (b:=b) h.2
  unfold wT
  split
  ·rename_i hy
   refine⟨List.pairwise_cons.2 ⟨fun z hz=> ?_,h1⟩,fun x=> ?_⟩
   ·rcases (h2 z).1 hz with h3|h3
    ·exact h.1 z h3
    ·rw[h3];exact hy
   ·rw[List.mem_cons,h2,List.mem_cons];exact(or_assoc).symm
  ·split
   ·rename_i hy e
    subst e
    exact⟨List.pairwise_cons.2 h,fun x=>⟨.inl,fun hx=>hx.elim id fun e=>by simp[e]⟩⟩
   ·rename_i hy e
    refine⟨List.pairwise_cons.2 ⟨fun z hz=> ?_,List.pairwise_cons.2 h⟩,fun x=> ?_⟩
    ·rcases List.mem_cons.1 hz with rfl|hz
     ·omega
     ·have:=h.1 z hz;omega
    ·rw[List.mem_cons];exact or_comm
theorem mU: ∀{v o:List Int},o.Pairwise (· < ·)→(v.foldl wT o).Pairwise (· < ·)∧ ∀x,x∈v.foldl wT o↔x∈o∨x∈v
 | [],o,h=>⟨h,by simp⟩
 |y::r,o,h=>by
  obtain⟨h1,h2⟩:=Lx (b:=y) h
  obtain⟨h3,h4⟩:=mU (v:=r) h1
  refine⟨h3,fun x=> ?_⟩
  show x∈r.foldl wT (wT o y)↔_
  rw[h4,h2,List.mem_cons,or_assoc]
theorem Ny{v l:List Int}{x:Int}:x∈KT v l↔x∈v∨x∈l:=by
 have h1:=mU (v:=v) (o:=[]) List.Pairwise.nil
 have h2:=mU (v:=l) h1.1
 show x∈l.foldl wT (v.foldl wT [])↔_
 rw[h2.2,h1.2];simp
theorem HG(v l:List Int):(Ge v l).Pairwise (· < ·):=BP (vU _)
theorem Fc(v l:List Int):(KT v l).Pairwise (· < ·):=(mU (mU (v:=v) (o:=[]) List.Pairwise.nil).1).1
theorem Jv(v l:List Int):Ge v l=KT v l:=Bn (HG v l) (Fc v l) fun x=>by rw[G8,Ny]
def aeL(m:List Int)(t:Int)(n:Nat):List Int:=((List.range n).filter fun i=>decide (t≤m.getD i 0)).map fun i:Nat=>(i:Int)+1
def Mk(m:List Int)(t:Int):List Int:=aeL m t m.length
theorem RW{m:List Int}{t s:Int}:s∈Mk m t↔1≤s∧s≤m.length∧t≤m.getD (s-1).toNat 0:=by
 unfold Mk aeL
 simp only[List.mem_map,List.mem_filter,List.mem_range,aN]
 constructor
 ·rintro⟨i,⟨h1,h2⟩,rfl⟩
  exact⟨by omega,by omega,by rw[show((i:Int)+1-1).toNat=i by omega];exact h2⟩
 ·rintro⟨h1,h2,h3⟩
  exact⟨(s-1).toNat,⟨by omega,h3⟩,by omega⟩
theorem UJ{m:List Int}{t s:Int}(ht:0<t):s∈Mk m t↔t≤lT m s:=by
 rw[RW];unfold lT
 split
 ·rename_i h
  split
  ·exact⟨fun h'=>h'.2.2,fun h'=>⟨h.1,h.2,h'⟩⟩
  ·exact⟨fun h'=>by omega,fun h'=>by omega⟩
 ·rename_i h
  exact⟨fun h'=>absurd ⟨h'.1,h'.2.1⟩ h,fun h'=>by omega⟩
theorem VL{v m:List Int}{t:Int}(ht:0<t):yY v (Mk m t)=(iI (v.map (lT m))).countP fun x=>decide (t≤x):=by
 rw[(J5 _).countP_eq,List.countP_map]
 unfold yY
 congr 1
 funext s
 simp only[Function.comp_apply]
 rw[Bool.eq_iff_iff,aN,aN,UJ ht]
theorem Fa{L:List Int}(hs:L.Pairwise (· ≤ ·))(dH:L≠ [])(t:Int):t≤L.getD ((L.length-1)/2) 0↔L.length<2*L.countP fun x=>decide (t≤x):=by
 have ev:0<L.length:=List.length_pos_iff.2 dH
 have hj:(L.length-1)/2<L.length:=by omega
 have zY:L.getD ((L.length-1)/2) 0=L[(L.length-1)/2] :=by rw[List.getD_eq_getElem?_getD,av hj];rfl
 rw[zY]
 generalize hjj:(L.length-1)/2=j at hj
 have hle: ∀i k (hi:i<L.length) (hk:k<L.length),i≤k→L[i] ≤L[k] :=by
  intro i k hi hk Md
  rcases Nat.eq_or_lt_of_le Md with h|h
  ·subst h;exact Int.le_refl _
  ·exact List.pairwise_iff_getElem.1 hs i k hi hk h
 constructor
 ·intro h
  have e:L.countP (fun x=>decide (t≤x))=(L.take j).countP (fun x=>decide (t≤x))+(L.drop j).countP (fun x=>decide (t≤x)):=by rw[←List.countP_append,List.take_append_drop]
  have hd:(L.drop j).countP (fun x=>decide (t≤x))=(L.drop j).length:=by
   rw[List.countP_eq_length]
   intro x hx
   obtain⟨i,hi,rfl⟩:=List.getElem_of_mem hx
   rw[List.length_drop]at hi
   rw[List.getElem_drop,aN]
   exact Int.le_trans h (hle j (j+i) hj (by omega) (by omega))
  rw[List.length_drop]at hd
  omega
 ·intro h
  rcases Int.lt_or_le L[j] t with h'|h'
  ·exfalso
   have e:L.countP (fun x=>decide (t≤x))=(L.take (j+1)).countP (fun x=>decide (t≤x))+(L.drop (j+1)).countP (fun x=>decide (t≤x)):=by rw[←List.countP_append,List.take_append_drop]
   have hd:(L.take (j+1)).countP (fun x=>decide (t≤x))=0:=by
    rw[List.countP_eq_zero]
    intro x hx
    obtain⟨i,hi,rfl⟩:=List.getElem_of_mem hx
    rw[List.length_take]at hi
    rw[List.getElem_take,aN]
    have:=hle i j (by omega) hj (by omega)
    omega
   have h3:=List.countP_le_length (p:=fun x=>decide (t≤x)) (l:=L.drop (j+1))
   rw[List.length_drop]at h3
   omega
  ·exact h'
theorem LC{v m:List Int}{t:Int}(ht:0<t):II v (Mk m t)=decide (t≤uO v m):=by
 unfold II uO
 rw[VL ht]
 by_cases hv:v=[]
 ·subst hv;simp[iI];omega
 ·rw[if_neg hv]
  have dH:iI (v.map (lT m))≠ [] :=fun e=>by
   have:=vz v m;rw[e]at this;exact hv (List.eq_nil_of_length_eq_zero this.symm)
  have:=Fa (vU (v.map (lT m))) dH t
  rw[vz]at this
  rw[Bool.eq_iff_iff,aN,aN,this]
  omega
theorem BG(v m:List Int):0≤uO v m∧(0<uO v m→ ∃i,i<m.length∧m.getD i 0=uO v m):=by
 unfold uO
 split
 ·exact⟨Int.le_refl 0,fun h=>by omega⟩
 ·rename_i hv
  have ev:0<v.length:=List.length_pos_iff.2 hv
  have hj:(v.length-1)/2<(iI (v.map (lT m))).length:=by rw[vz];omega
  rw[List.getD_eq_getElem?_getD,av hj,Option.getD_some]
  have hm:(iI (v.map (lT m)))[(v.length-1)/2] ∈v.map (lT m):=xx.1 (List.getElem_mem hj)
  obtain⟨s,_,hs⟩:=List.mem_map.1 hm
  rw[←hs]
  unfold lT
  split
  ·rename_i h
   split
   ·rename_i h2
    exact⟨by omega,fun _=>⟨(s-1).toNat,by omega,rfl⟩⟩
   ·exact⟨Int.le_refl 0,fun h=>by omega⟩
  ·exact⟨Int.le_refl 0,fun h=>by omega⟩
def DX(v m:List Int):Nat→Int
 |0=>0
 |k+1=>if II v (Mk m (m.getD k 0))&&decide (DX v m k<m.getD k 0) then m.getD k 0 else DX v m k
theorem Lt(v m:List Int): ∀k,0≤DX v m k∧DX v m k≤uO v m∧ ∀i,i<k→m.getD i 0≤uO v m→m.getD i 0≤DX v m k
 |0=>⟨Int.le_refl 0,(BG v m).1,fun i h=>by omega⟩
 |k+1=>by
  obtain⟨h1,h2,h3⟩:=Lt v m k
  unfold DX
  split
  ·rename_i hc
   simp only[aw,aN]at hc
   have hm:=hc.1
   rw[LC (by omega),aN]at hm
   refine⟨by omega,hm,fun i hi S9=> ?_⟩
   rcases Nat.lt_or_ge i k with h|h
   ·have:=h3 i h S9;omega
   ·obtain rfl:i=k:=by omega
    exact Int.le_refl _
  ·rename_i hc
   refine⟨h1,h2,fun i hi S9=> ?_⟩
   rcases Nat.lt_or_ge i k with h|h
   ·exact h3 i h S9
   ·obtain rfl:i=k:=by omega
    rcases Int.lt_or_le (DX v m i) (m.getD i 0) with h'|h'
    ·exfalso
     apply hc
     rw[LC (by omega)]
     rw[aw,aN,aN];exact⟨S9,h'⟩
    ·exact h'
theorem abl(v m:List Int):DX v m m.length=uO v m:=by
 obtain⟨h1,h2,h3⟩:=Lt v m m.length
 obtain⟨a1,a2⟩:=BG v m
 rcases Int.lt_or_le 0 (uO v m) with h|h
 ·obtain⟨i,hi,he⟩:=a2 h
  have:=h3 i hi (by omega)
  omega
 ·omega
def MX:Int:=1099511627776
def ix(d:D):Int:=I d 0
def tm(d:D):Int:=I d 1
def uA:Int→Int→List D→Bool
 |_,_,[] =>true
 |i,t,x::r=>(ix x==i+1)&&decide (t≤tm x)&&decide (ix x≤MX)&&decide (tm x≤MX)&&uA (ix x) (tm x) r
def okB(i t:Int):Bool:=decide (0≤i)&&decide (i≤MX)&&decide (0≤t)&&decide (t≤MX)
def de(i t:Int)(l:List D):Bool:=okB i t&&uA i t l
def eE:Int→List D→Int
 |t,[] =>t
 |_,x::r=>eE (tm x) r
theorem jd{i t:Int}:okB i t=true↔0≤i∧i≤MX∧0≤t∧t≤MX:=by simp[okB,and_assoc]
theorem ir{i t:Int}{x:D}{r:List D}:uA i t (x::r)=true↔ix x=i+1∧t≤tm x∧ix x≤MX∧tm x≤MX∧uA (ix x) (tm x) r=true:=by simp[uA,and_assoc]
theorem kH: ∀{a b:List D} {i t:Int},uA i t (a++b)=true↔uA i t a=true∧uA (i+a.length) (eE t a) b=true
 | [],b,i,t=>by simp[uA,eE]
 |x::a,b,i,t=>by
  rw[List.cons_append,ir,ir,kH (a:=a)]
  constructor
  ·rintro⟨h1,h2,h3,h4,h5,h6⟩
   refine⟨⟨h1,h2,h3,h4,h5⟩,?_⟩
   simp only[eE,List.length_cons]
   rw[show i+((a.length+1:Nat):Int)=ix x+a.length by omega]
   exact h6
  ·rintro⟨⟨h1,h2,h3,h4,h5⟩,h6⟩
   refine⟨h1,h2,h3,h4,h5,?_⟩
   simp only[eE,List.length_cons]at h6
   rw[show i+((a.length+1:Nat):Int)=ix x+a.length by omega]at h6
   exact h6
theorem wm: ∀{a b:List D} {t:Int},eE t (a++b)=eE (eE t a) b
 | [],_,_=>rfl
 |x::a,b,t=>by simp only[List.cons_append,eE,wm (a:=a)]
theorem Dm: ∀{l:List D} {t:Int} {x:D},l[l.length-1]? =some x→eE t l=tm x
 | [],t,x,h=>by simp at h
 | [y],t,x,h=>by simp at h;subst h;rfl
 |y::z::r,t,x,h=>by
  have:=Dm (l:=z::r) (t:=tm y) (x:=x) (by simpa using h)
  simpa [eE]using this
theorem acX{l:List D}{i t:Int}{n:Nat}{x:D}(h:uA i t l=true)(hx:l[n]? =some x):ix x=i+n+1∧eE t (l.take n)≤tm x∧ix x≤MX∧tm x≤MX:=by
 have aL:=(ai.1 hx).1
 have e:l=l.take n++x::l.drop (n+1):=by
  have h1:=List.drop_eq_getElem_cons aL
  rw[(ai.1 hx).2]at h1
  rw[←h1,List.take_append_drop]
 rw[e,kH,ir]at h
 obtain⟨_,h1,h2,h3,h4,_⟩:=h
 have hl:(l.take n).length=n:=by simp;omega
 rw[hl]at h1
 exact⟨h1,h2,h3,h4⟩
theorem Kj{l:List D}{t:Int}{n:Nat}{x:D}(hx:l[n]? =some x):eE t (l.take (n+1))=tm x:=by
 rw[List.take_add_one,hx,Option.toList_some,wm];rfl
theorem E1{l:List D}{i t:Int}(n:Nat)(h:uA i t l=true):uA i t (l.take n)=true:=by
 rw[←List.take_append_drop n l,kH]at h;exact h.1
theorem VO{l:List D}{i t:Int}(n:Nat)(hn:n≤l.length)(h:uA i t l=true):uA (i+n) (eE t (l.take n)) (l.drop n)=true:=by
 rw[←List.take_append_drop n l,kH]at h
 have:=h.2
 rwa [List.length_take,Nat.min_eq_left hn]at this
theorem Hd: ∀{l:List D} {i t:Int},uA i t l=true→t≤eE t l
 | [],_,_,_=>Int.le_refl _
 |x::r,i,t,h=>by
  obtain⟨_,h2,_,_,h5⟩:=ir.1 h
  have:=Hd h5
  simp only[eE];omega
theorem Hc: ∀{l:List D} {i t:Int},t≤MX→uA i t l=true→eE t l≤MX
 | [],_,_,h,_=>h
 |x::r,i,t,_,h=>by
  obtain⟨_,_,_,h4,h5⟩:=ir.1 h
  exact Hc (l:=r) h4 h5
theorem xh: ∀{l:List D} {i t:Int},i≤MX→uA i t l=true→i+l.length≤MX
 | [],i,_,h,_=>by simpa using h
 |x::r,i,t,_,h=>by
  obtain⟨h1,_,h3,_,h5⟩:=ir.1 h
  have:=xh h3 h5
  simp only[List.length_cons];omega
theorem fk{i t:Int}{l:List D}:de i t l=true↔(0≤i∧i≤MX∧0≤t∧t≤MX)∧uA i t l=true:=by simp[de,jd]
def gf(i t:Int)(l:List D)(k:Int):Int×Int:=
 if k<i then(0,23) else if k=i then(t,0) else match l[(k-i-1).toNat]? with
  |some x=>(tm x,0)
  |none=>(0,3)
def fi(i:Int)(l:List D)(f m:Int):List D:=if m<1∨f≤i then [] else(l.drop (f-i-1).toNat).take m.toNat
def Ju(i t:Int)(l:List D)(index term:Int):Bool:=decide (term>eE t l)||(decide (term=eE t l)&&decide (index≥i+l.length))
def tR:D:= .agg [.int .i64 0, .int .i64 0, .int .i64 0, .int .i64 0, .int .i64 0, .int .i64 0, .int .i64 0, .int .i64 0, .int .i64 0, .list [], .int .i64 0, .bool false, .int .i64 0, .int .i64 0, .int .i64 0, .bool false, .bool false, .int .i64 0, .int .i64 0, .int .i64 0, .list [], .int .i64 0, .int .i64 0, .int .i64 0, .list [], .list [], .bool false, .list [], .list []]
def aai(i t:Int)(l:List D)(term:Int)(cmd:D):D:= .agg (.int .i64 (i+l.length+1):: .int .i64 term::cmd.ak)
def tc(i t:Int)(l:List D)(term:Int):Int:=if term<eE t l∨term<1∨MX<term then 1 else if MX≤i+l.length then 2 else 0
def DZ(i t:Int)(l:List D)(term:Int)(cmd:D):D:=if tc i t l term=0 then aai i t l term cmd else tR
def tL(i t:Int)(l:List D)(term:Int)(cmd:D):List D:=if tc i t l term=0 then l++[aai i t l term cmd] else l
def C2(i:Int)(l:List D)(k:Int):Int:=if i+l.length<k then 3 else 0
def iW(i t:Int)(l:List D)(k:Int):Int×Int×List D:=if i+l.length<k∨k≤i then(i,t,l) else(k,(gf i t l k).1,l.drop (k-i).toNat)
def Cr(i t:Int)(l:List D)(x:D):Bool:=(gf i t l (ix x)).2==0&&(gf i t l (ix x)).1==tm x
def wY(i t:Int)(l:List D):List D→Int×List D
 | [] =>(0,l)
 |x::r=>if Cr i t l x then wY i t l r else(ix x,l.take (ix x-i-1).toNat++x::r)
def np(i t:Int)(l:List D)(pi pt:Int)(es:List D):Bool:=de pi pt es&&(gf i t l pi).2==0&&(gf i t l pi).1==pt
def jj(i t:Int)(l:List D)(pi pt:Int)(es:List D):Int×List D:=if np i t l pi pt es then wY i t l es else(0,l)
theorem qW{i t:Int}{l:List D}{k:Int}(h:(gf i t l k).2=0):i≤k∧k≤i+l.length∧(gf i t l k).1=eE t (l.take (k-i).toNat):=by
 unfold gf at h⊢
 split at h
 ·simp at h
 ·split at h
  ·rename_i h1 h2;subst h2;rw[if_neg (by omega),if_pos rfl];exact⟨by omega,by omega,by simp[eE]⟩
  ·rename_i h1 h2
   split at h
   ·rename_i x hx
    have aL:=(ai.1 hx).1
    rw[if_neg h1,if_neg h2]
    refine⟨by omega,by omega,?_⟩
    simp only[hx]
    rw[show(k-i).toNat=(k-i-1).toNat+1 by omega,Kj hx]
   ·simp at h
theorem LZ{i t:Int}{l:List D}(hl:uA i t l=true): ∀{es:List D} {n:Nat},n≤l.length→uA (i+n) (eE t (l.take n)) es=true→uA i t (wY i t l es).2=true∧(wY i t l es).2.length≤l.length+es.length∧
  (∀x r,es=x::r→Cr i t l x=false→ix x-i-1=n)
 | [],n,hn,h=>⟨hl,by simp[wY],by simp⟩
 |x::r,n,hn,h=>by
  obtain⟨h1,h2,h3,h4,h5⟩:=ir.1 h
  refine⟨?_,?_,fun y s e _=>by injection e with e1 e2;subst e1;omega⟩
  all_goals
   unfold wY
   by_cases hh:Cr i t l x=true
   ·rw[if_pos hh]
    simp only[Cr,aw,beq_iff_eq]at hh
    obtain⟨k1,k2,k3⟩:=qW hh.1
    have hn1:n+1≤l.length:=by omega
    have e1:(ix x-i).toNat=n+1:=by omega
    rw[e1]at k3
    have hr:uA (i+((n+1:Nat):Int)) (eE t (l.take (n+1))) r=true:=by
     rw[←k3,hh.2,show i+((n+1:Nat):Int)=ix x by omega];exact h5
    have ih:=LZ hl hn1 hr
    first
    |exact ih.1
    |(simp only[List.length_cons];have:=ih.2.1;omega)
   ·rw[if_neg hh]
    have e:(ix x-i-1).toNat=n:=by omega
    rw[e]
    first
    |(rw[kH,List.length_take,Nat.min_eq_left hn];exact⟨E1 n hl,h⟩)
    |(simp only[List.length_append,List.length_take,List.length_cons];omega)
theorem Sy{i t:Int}{l:List D}{s:Nat}{x:D}{r:List D}(hs:s≤l.length)(h:uA (i+s) (eE t (l.take s)) (x::r)=true)(hh:Cr i t l x=true):s+1≤l.length∧uA (i+((s+1:Nat):Int)) (eE t (l.take (s+1))) r=true:=by
 obtain⟨h1,h2,h3,h4,h5⟩:=ir.1 h
 simp only[Cr,aw,beq_iff_eq]at hh
 obtain⟨k1,k2,k3⟩:=qW hh.1
 have e1:(ix x-i).toNat=s+1:=by omega
 rw[e1]at k3
 refine⟨by omega,?_⟩
 rw[←k3,hh.2,show i+((s+1:Nat):Int)=ix x by omega];exact h5
def AJ(i t:Int)(l es:List D)(xs:List D):Prop:= ∃n s:Nat,xs=[.int .i64 0, .bool false, .int .i64 n, .int .i64 i, .int .i64 t, .list l] ∧n≤es.length∧s≤l.length∧uA (i+s) (eE t (l.take s)) (es.drop n)=true∧wY i t l (es.drop n)=wY i t l es
theorem VN{x:D}(h:Has IW x): [x.ak[0]?.getD .top,x.ak[1]?.getD .top,x.ak[2]?.getD .top,x.ak[3]?.getD .top,x.ak[4]?.getD .top,x.ak[5]?.getD .top,x.ak[6]?.getD .top,x.ak[7]?.getD .top,x.ak[8]?.getD .top,x.ak[9]?.getD .top,x.ak[10]?.getD .top,x.ak[11]?.getD .top,x.ak[12]?.getD .top,x.ak[13]?.getD .top,x.ak[14]?.getD .top,x.ak[15]?.getD .top,x.ak[16]?.getD .top,x.ak[17]?.getD .top,x.ak[18]?.getD .top,x.ak[19]?.getD .top,x.ak[20]?.getD .top,x.ak[21]?.getD .top,x.ak[22]?.getD .top,x.ak[23]?.getD .top,x.ak[24]?.getD .top,x.ak[25]?.getD .top,x.ak[26]?.getD .top] =x.ak:=by
 obtain⟨_,rfl,_,_,rfl,_,_,_,rfl,_,_,_,rfl,_,_,_,rfl,_,_,_,rfl,_,_,_,rfl,_,_,_,rfl,_,_,_,rfl,_,_,_,rfl,_,_,_,rfl,_,_,_,rfl,_,_,_,rfl,_,_,_,rfl,_,_,_,rfl,_,_,_,rfl,_,_,_,rfl,_,_,_,rfl,_,_,_,rfl,_,_,_,rfl,_,_,_,rfl,_,_,_,rfl,_,_,_,rfl,_,_,_,rfl,_,_,_,rfl,_,_,_,rfl,_,_,_,rfl,_,_,_,rfl,_,rfl⟩:=h
 rfl
theorem mV:cX.bytes=320:=by kernel_rfl
def FM{α:Type}(l:List α)(k:Nat)(xs:List D):Nat:=l.length-(I (.list xs) k).toNat
def MJ(i t:Int)(l:List D)(xs:List D):Prop:= ∃(n:Nat) (j u:Int),xs=[.bool false, .int .i64 j, .int .i64 u, .int .i64 n] ∧n≤l.length∧okB j u=true∧uA j u (l.drop n)=uA i t l
def qc(n lo hi:Int):Bool:=decide (lo≤n)&&decide (n≤hi)
def su(i t:Int)(l:List D):D:= .agg [.int .i64 i, .int .i64 t, .list l]
theorem EG{x:D}(h:Has cX x):x.ak[0]?.getD .top= .int .i64 (ix x)∧x.ak[1]?.getD .top= .int .i64 (tm x)∧kr .i64 (ix x)∧kr .i64 (tm x):=by
 obtain⟨_,rfl,_,_,rfl,⟨i,rfl,hi⟩,_,_,rfl,⟨t,rfl,ht⟩,_⟩:=h
 exact⟨rfl,rfl,hi,ht⟩
theorem rU{i f m:Int}{l:List D}:(fi i l f m).length≤l.length:=by
 unfold fi;split
 ·simp
 ·simp;omega
theorem RA{i t:Int}{l:List D}{k:Int}(h1:i≤k)(h2:k≤i+l.length):(gf i t l k).2=0:=by
 unfold gf
 rw[if_neg (by omega)]
 split
 ·rfl
 ·have:(k-i-1).toNat<l.length:=by omega
  rw[av this]
theorem RN{i t:Int}{l:List D}{m:Int}{c:D}(h:de i t l=true):de i t (tL i t l m c)=true∧(tL i t l m c).length≤l.length+1:=by
 obtain⟨hk,hc⟩:=fk.1 h
 unfold tL
 split
 ·rename_i hp
  unfold tc at hp
  split at hp
  ·simp at hp
  ·split at hp
   ·simp at hp
   ·refine⟨fk.2 ⟨hk,?_⟩,by simp⟩
    rw[kH]
    refine⟨hc,ir.2 ⟨rfl,?_,?_,?_,rfl⟩⟩
    ·show eE t l≤m;omega
    ·show i+l.length+1≤MX;omega
    ·show m≤MX;omega
 ·exact⟨h,by omega⟩
theorem NU{i t:Int}{l:List D}{k:Int}(h:de i t l=true):de (iW i t l k).1 (iW i t l k).2.1 (iW i t l k).2.2=true∧(iW i t l k).2.2.length≤l.length:=by
 obtain⟨⟨k1,k2,k3,k4⟩,hc⟩:=fk.1 h
 have OH:=xh k2 hc
 unfold iW
 split
 ·exact⟨h,Nat.le_refl _⟩
 ·rename_i hk
  obtain⟨q1,q2,q3⟩:=qW (RA (i:=i) (t:=t) (l:=l) (k:=k) (by omega) (by omega))
  refine⟨fk.2 ⟨⟨by omega,by omega,?_,?_⟩,?_⟩,by simp⟩
  ·show 0≤(gf i t l k).1
   rw[q3];have:=Hd (E1 (k-i).toNat hc);omega
  ·show(gf i t l k).1≤MX
   rw[q3];exact Hc k4 (E1 _ hc)
  ·show uA k (gf i t l k).1 (l.drop (k-i).toNat)=true
   rw[q3]
   have:=VO (k-i).toNat (by omega) hc
   rwa [show i+(((k-i).toNat:Nat):Int)=k by omega]at this
theorem SD{i t:Int}{l:List D}{pi pt:Int}{es:List D}(h:de i t l=true):de i t (jj i t l pi pt es).2=true∧(jj i t l pi pt es).2.length≤l.length+es.length:=by
 obtain⟨hk,hc⟩:=fk.1 h
 unfold jj
 split
 ·rename_i hA
  simp only[np,aw,beq_iff_eq]at hA
  obtain⟨⟨h1,h2⟩,h3⟩:=hA
  obtain⟨q1,q2,q3⟩:=qW h2
  obtain⟨_,Oi⟩:=fk.1 h1
  have:=LZ hc (es:=es) (n:=(pi-i).toNat) (by omega) (by rw[←q3,h3,show i+(((pi-i).toNat:Nat):Int)=pi by omega];exact Oi)
  exact⟨fk.2 ⟨hk,this.1⟩,this.2.1⟩
 ·exact⟨h,by simp⟩
theorem GN{Φ:Nat→List D→D}{Pre:Nat→List D→Prop}{R:D→Prop}{ρ:Nat→D}{dE:List (List D→Prop)}{w:Nat}:(VC.stuck w).holds Φ Pre R ρ dE=False:=rfl
def cD(j:Nat)(d:D):D:=d.ak.getD j .top
def lkD:List (Nat×D)→Nat→Option D
 | [],_=>none
 |(k,v)::r,j=>if k=j then some v else lkD r j
def ah(n:Nat)(b:D)(l:List (Nat×D)):D:= .agg ((List.range n).map fun j=>match lkD l j with|some d=>d|none=>cD j b)
def az(x y:Int):Int:=if y<x then y else x
def ay(x y:Int):Int:=if y>x then y else x
def Pw:D:= .agg [.int .i64 0, .int .i64 0, .int .i64 0, .int .i64 0, .int .i64 0, .int .i64 0, .int .i64 0, .list [], .int .i64 0, .bool false, .int .i64 0, .int .i64 0, .int .i64 0, .bool false, .bool false, .int .i64 0, .int .i64 0, .int .i64 0, .list [], .int .i64 0, .int .i64 0, .int .i64 0, .list [], .list [], .bool false, .list [], .list []]
def cA:D:= .agg [.int .i64 0, .int .i64 0, .int .i64 0, .int .i64 0, .int .i64 0, .int .i64 0, .int .i64 0, .bool false, .int .i64 0, .int .i64 0, .int .i64 0, .int .i64 0, .list [], .list [], .list [], .list [], .int .i64 0, .int .i64 0, .int .i64 0, .int .i64 0, .int .i64 0, .int .i64 0, .int .i64 0, .list [], .int .i64 0, .bool false, .int .i64 0, .int .i64 0, .int .i64 0, .bool false, .bool false, .int .i64 0, .int .i64 0, .int .i64 0, .list [], .int .i64 0, .int .i64 0, .int .i64 0, .list [], .list [], .bool false, .list [], .list [], .int .i64 0, .int .i64 0, .list []]
@[ext] structure RS where
 save:Bool
 KW:Int
 KV:Int
 dt:List D
 gg:D
 msgs:List D
 bq:List D
 pr:List D
 id:Int
 fv:List D
 fl:List D
 term:Int
 vote:Int
 iK:Int
 ff:Int
 sv:List D
 sl:List D
 au:List D
 aJ:Int
 role:Int
 aI:Int
 wait:Int
 end_ : Int
 aE:List D
 HZ:Int
 wE:Int
 xL:Int
 FK:Int
 wD:Int
 xK:Int
 FJ:Int
 wC:Int
 xJ:Int
 FI:Int
 wB:Int
 xI:Int
 FH:Int
 wA:Int
 xH:Int
 FG:Int
 wy:Int
 xG:Int
 round:Int
 reads:List D
 eL:Int
 eM:Int
 dh:Int
 iB:Int
 dg:Int
 bc:List D
 li:Int
 lt:Int
 le:List D
def cR(s:RS):List D:=[.bool s.save, .int .i64 s.KW, .int .i64 s.KV, .list s.dt,s.gg, .list s.msgs, .list s.bq, .list s.pr, .int .i64 s.id, .list s.fv, .list s.fl, .int .i64 s.term, .int .i64 s.vote, .ptr [], .int .i64 s.iK, .int .i64 s.ff, .list s.sv, .list s.sl, .list s.au, .int .i64 s.aJ, .int .i64 s.role, .int .i64 s.aI, .int .i64 s.wait, .int .i64 s.end_, .list s.aE, .int .i64 s.HZ, .int .i64 s.wE, .int .i64 s.xL, .int .i64 s.FK, .int .i64 s.wD, .int .i64 s.xK, .int .i64 s.FJ, .int .i64 s.wC, .int .i64 s.xJ, .int .i64 s.FI, .int .i64 s.wB, .int .i64 s.xI, .int .i64 s.FH, .int .i64 s.wA, .int .i64 s.xH, .int .i64 s.FG, .int .i64 s.wy, .int .i64 s.xG, .int .i64 s.round, .list s.reads, .int .i64 s.eL, .int .i64 s.eM, .int .i64 s.dh, .int .i64 s.iB, .int .i64 s.dg, .list s.bc]
def cL(s:RS):List D:=[.int .i64 s.li, .int .i64 s.lt, .list s.le]
def encS(s:RS):List D:=cR s++cL s
def Eb(s:RS):D:= .ptr [.bool s.save, .int .i64 s.KW, .int .i64 s.KV, .list s.dt,s.gg, .list s.msgs, .list s.bq, .list s.pr, .int .i64 s.id, .list s.fv, .list s.fl, .int .i64 s.term, .int .i64 s.vote, .ptr (cL s), .int .i64 s.iK, .int .i64 s.ff, .list s.sv, .list s.sl, .list s.au, .int .i64 s.aJ, .int .i64 s.role, .int .i64 s.aI, .int .i64 s.wait, .int .i64 s.end_, .list s.aE, .int .i64 s.HZ, .int .i64 s.wE, .int .i64 s.xL, .int .i64 s.FK, .int .i64 s.wD, .int .i64 s.xK, .int .i64 s.FJ, .int .i64 s.wC, .int .i64 s.xJ, .int .i64 s.FI, .int .i64 s.wB, .int .i64 s.xI, .int .i64 s.FH, .int .i64 s.wA, .int .i64 s.xH, .int .i64 s.FG, .int .i64 s.wy, .int .i64 s.xG, .int .i64 s.round, .list s.reads, .int .i64 s.eL, .int .i64 s.eM, .int .i64 s.dh, .int .i64 s.iB, .int .i64 s.dg, .list s.bc]
def fE(l:List D):RS:=⟨(l.getD 0 .top).eh,(l.getD 1 .top).ab,(l.getD 2 .top).ab,(l.getD 3 .top).ak,(l.getD 4 .top),(l.getD 5 .top).ak,(l.getD 6 .top).ak,(l.getD 7 .top).ak,(l.getD 8 .top).ab,(l.getD 9 .top).ak,(l.getD 10 .top).ak,(l.getD 11 .top).ab,(l.getD 12 .top).ab,(l.getD 14 .top).ab,(l.getD 15 .top).ab,(l.getD 16 .top).ak,(l.getD 17 .top).ak,(l.getD 18 .top).ak,(l.getD 19 .top).ab,(l.getD 20 .top).ab,(l.getD 21 .top).ab,(l.getD 22 .top).ab,(l.getD 23 .top).ab,(l.getD 24 .top).ak,(l.getD 25 .top).ab,(l.getD 26 .top).ab,(l.getD 27 .top).ab,(l.getD 28 .top).ab,(l.getD 29 .top).ab,(l.getD 30 .top).ab,(l.getD 31 .top).ab,(l.getD 32 .top).ab,(l.getD 33 .top).ab,(l.getD 34 .top).ab,(l.getD 35 .top).ab,(l.getD 36 .top).ab,(l.getD 37 .top).ab,(l.getD 38 .top).ab,(l.getD 39 .top).ab,(l.getD 40 .top).ab,(l.getD 41 .top).ab,(l.getD 42 .top).ab,(l.getD 43 .top).ab,(l.getD 44 .top).ak,(l.getD 45 .top).ab,(l.getD 46 .top).ab,(l.getD 47 .top).ab,(l.getD 48 .top).ab,(l.getD 49 .top).ab,(l.getD 50 .top).ak,(l.getD 51 .top).ab,(l.getD 52 .top).ab,(l.getD 53 .top).ak⟩
def td(d:D):RS:=
 let l:=d.ak
 let g:=(l.getD 13 .top).ak
 ⟨(l.getD 0 .top).eh,(l.getD 1 .top).ab,(l.getD 2 .top).ab,(l.getD 3 .top).ak,(l.getD 4 .top),(l.getD 5 .top).ak,(l.getD 6 .top).ak,(l.getD 7 .top).ak,(l.getD 8 .top).ab,(l.getD 9 .top).ak,(l.getD 10 .top).ak,(l.getD 11 .top).ab,(l.getD 12 .top).ab,(l.getD 14 .top).ab,(l.getD 15 .top).ab,(l.getD 16 .top).ak,(l.getD 17 .top).ak,(l.getD 18 .top).ak,(l.getD 19 .top).ab,(l.getD 20 .top).ab,(l.getD 21 .top).ab,(l.getD 22 .top).ab,(l.getD 23 .top).ab,(l.getD 24 .top).ak,(l.getD 25 .top).ab,(l.getD 26 .top).ab,(l.getD 27 .top).ab,(l.getD 28 .top).ab,(l.getD 29 .top).ab,(l.getD 30 .top).ab,(l.getD 31 .top).ab,(l.getD 32 .top).ab,(l.getD 33 .top).ab,(l.getD 34 .top).ab,(l.getD 35 .top).ab,(l.getD 36 .top).ab,(l.getD 37 .top).ab,(l.getD 38 .top).ab,(l.getD 39 .top).ab,(l.getD 40 .top).ab,(l.getD 41 .top).ab,(l.getD 42 .top).ab,(l.getD 43 .top).ab,(l.getD 44 .top).ak,(l.getD 45 .top).ab,(l.getD 46 .top).ab,(l.getD 47 .top).ab,(l.getD 48 .top).ab,(l.getD 49 .top).ab,(l.getD 50 .top).ak,(g.getD 0 .top).ab,(g.getD 1 .top).ab,(g.getD 2 .top).ak⟩
def aW:RS:=⟨false,0,0,[], .top,[],[],[],0,[],[],0,0,0,0,[],[],[],0,0,0,0,0,[],0,0,0,0,0,0,0,0,0,0,0,0,0,0,0,0,0,0,0,[],0,0,0,0,0,[],0,0,[]⟩
def dF(s:RS):D:= .cW [.cW [], .agg (cR s), .agg (cL s)]
def GJ(x:Bool×RS):D:= .cW [.bool x.1, .agg (cR x.2), .agg (cL x.2)]
def zZ(x:D×RS):D:= .cW [x.1, .agg (cR x.2), .agg (cL x.2)]
def Lg(x:(D×Int)×RS):D:= .cW [.cW [x.1.1, .int .i64 x.1.2], .agg (cR x.2), .agg (cL x.2)]
def T3(d:D):RS:=fE ((cD 1 d).ak++(cD 2 d).ak)
def na(d:D):RS:=T3 d
def XP(d:D):Bool×RS:=((cD 0 d).eh,T3 d)
def UD(d:D):D×RS:=(cD 0 d,T3 d)
def akO(d:D):(D×Int)×RS:=((cD 0 (cD 0 d),(cD 1 (cD 0 d)).ab),T3 d)
def MN(s:RS):List D:=[.bool s.save, .int .i64 s.KW, .int .i64 s.KV, .list s.dt,s.gg, .list s.msgs, .list s.bq, .list s.pr, .int .i64 s.id, .list s.fv, .list s.fl, .int .i64 s.term, .int .i64 s.vote, .int .i64 s.iK, .int .i64 s.ff, .list s.sv, .list s.sl, .list s.au, .int .i64 s.aJ, .int .i64 s.role, .int .i64 s.aI, .int .i64 s.wait, .int .i64 s.end_, .list s.aE, .int .i64 s.HZ, .int .i64 s.wE, .int .i64 s.xL, .int .i64 s.FK, .int .i64 s.wD, .int .i64 s.xK, .int .i64 s.FJ, .int .i64 s.wC, .int .i64 s.xJ, .int .i64 s.FI, .int .i64 s.wB, .int .i64 s.xI, .int .i64 s.FH, .int .i64 s.wA, .int .i64 s.xH, .int .i64 s.FG, .int .i64 s.wy, .int .i64 s.xG, .int .i64 s.round, .list s.reads, .int .i64 s.eL, .int .i64 s.eM, .int .i64 s.dh, .int .i64 s.iB, .int .i64 s.dg, .list s.bc, .int .i64 s.li, .int .i64 s.lt, .list s.le]
def oD(l:List D):RS:=⟨(l.getD 0 .top).eh,(l.getD 1 .top).ab,(l.getD 2 .top).ab,(l.getD 3 .top).ak,(l.getD 4 .top),(l.getD 5 .top).ak,(l.getD 6 .top).ak,(l.getD 7 .top).ak,(l.getD 8 .top).ab,(l.getD 9 .top).ak,(l.getD 10 .top).ak,(l.getD 11 .top).ab,(l.getD 12 .top).ab,(l.getD 13 .top).ab,(l.getD 14 .top).ab,(l.getD 15 .top).ak,(l.getD 16 .top).ak,(l.getD 17 .top).ak,(l.getD 18 .top).ab,(l.getD 19 .top).ab,(l.getD 20 .top).ab,(l.getD 21 .top).ab,(l.getD 22 .top).ab,(l.getD 23 .top).ak,(l.getD 24 .top).ab,(l.getD 25 .top).ab,(l.getD 26 .top).ab,(l.getD 27 .top).ab,(l.getD 28 .top).ab,(l.getD 29 .top).ab,(l.getD 30 .top).ab,(l.getD 31 .top).ab,(l.getD 32 .top).ab,(l.getD 33 .top).ab,(l.getD 34 .top).ab,(l.getD 35 .top).ab,(l.getD 36 .top).ab,(l.getD 37 .top).ab,(l.getD 38 .top).ab,(l.getD 39 .top).ab,(l.getD 40 .top).ab,(l.getD 41 .top).ab,(l.getD 42 .top).ab,(l.getD 43 .top).ak,(l.getD 44 .top).ab,(l.getD 45 .top).ab,(l.getD 46 .top).ab,(l.getD 47 .top).ab,(l.getD 48 .top).ab,(l.getD 49 .top).ak,(l.getD 50 .top).ab,(l.getD 51 .top).ab,(l.getD 52 .top).ak⟩
def dL(a:D):Bool:=zU (vo a) (lr a)
def lI(a:D)(b:Int):Bool:=decide (b∈vo a)
def fR(a:D):List D:=(KT (vo a) (lr a)).map (D.int .i64)
def jv(a b:D):Bool:=II (vo a) (fP b)
def rR(a b:D):Int:=DX (vo a) (fP b) (fP b).length
def VB(a b:D):Bool:=Mq (vo a) (lr a) (vo b) (lr b)
def qT(x:D):Bool:=(cD 2 x).ab==2
def cfE(x:D):D:= .agg [cD 27 x,cD 28 x]
def cI(l:List D):Bool:= !(l.any fun x=>qT x&& !dL (cfE x))
def du(a:D):D:=a
def lJ(l:List D):List D:=l
def qk(a:D):D:= .agg [cD 0 a,cD 1 a,cD 2 a,cD 3 a,cD 4 a]
def NN(l:List D)(b:Int):Bool:=decide (b∈l.map D.ab)
def wX(f:D)(x:D):Bool:=match f with
 | .fn k _=>if k=84 then qT x else qT x&& !dL (cfE x)
 |_=>false
def mT(l:List D)(f:D):Bool:=l.any (wX f)
def iU(i t:Int):D:=if okB i t=true∧(i=0↔t=0) then .cW [.cW [],su i t []] else .cW [.eW]
def US:List D→D
 | [.ptr c,f,m] => .list (fi (c.getD 0 .top).ab (c.getD 2 .top).ak f.ab m.ab)
 | [f,m,i,t,l] => .cW [.list (fi i.ab l.ak f.ab m.ab),su i.ab t.ab l.ak]
 |_=> .top
def ap6:List D→Prop
 | [.ptr c,_,_] =>okB (c.getD 0 .top).ab (c.getD 1 .top).ab=true
 | [_,_,i,t,_] =>okB i.ab t.ab=true
 |_=>False
def Px(a b:D):Bool:=((((((decide (vo (.agg [cD 25 a,cD 26 a])=vo (.agg [cD 25 b,cD 26 b]))&&decide (lr (.agg [cD 25 a,cD 26 a])=lr (.agg [cD 25 b,cD 26 b])))&&((cD 0 a).ab==(cD 0 b).ab))&&((cD 1 a).ab==(cD 1 b).ab))&&((cD 2 a).ab==(cD 2 b).ab))&&((cD 3 a).ab==(cD 3 b).ab))&&((cD 8 a).ab==(cD 8 b).ab))
def mH(a b:Int):Int:=if a<0 then(IntKind.i64.wrap (0-(IntKind.i64.wrap (a+1)))).tmod b else a.tmod b
def fh(i t:Int)(_:List D):Int×Int:=(i,t)
def dm(i t:Int)(l:List D):Int×Int:=(i+l.length,eE t l)
def fN(i t:Int)(l:List D)(k:Int):Int×Int:=gf i t l k
def Jy(i t:Int)(l:List D)(a b:Int):Bool:=Ju i t l a b
def cT(i t:Int)(l:List D)(f m:Int):List D:=fi i l f m
def ag3(i t:Int)(l:List D)(term:Int)(c:D):(D×Int)×Int×Int×List D:=((DZ i t l term c,tc i t l term),i,t,tL i t l term c)
def LA(i t:Int)(l:List D)(a b:Int)(es:List D):(Int×Bool)×Int×Int×List D:=(((jj i t l a b es).1,np i t l a b es),i,t,(jj i t l a b es).2)
def lu(i t:Int)(l:List D)(k:Int):Int×Int×Int×List D:=(C2 i l k,iW i t l k)
def dQ(s:RS):RS:=
 ({s with save:=true}:RS)
def q9(s:RS)(x7:Int×Int):D:=
 if decide (x7.1>0) then(
  let x28:=(du (D.agg [D.list s.sv,D.list s.sl]))
  ah 2 x28 [])
 else(
  let ql:=(du (D.agg [D.list s.fv,D.list s.fl]))
  ah 2 ql [])
def oO(s:RS)(x7:Int×Int)(i15:Int)(SM:List D)(SL:List D):(Int×List D×List D)⊕(D):=
 if decide (i15>x7.1) then(
  let KB:=(cT s.li s.lt s.le i15 1)
  if((((KB:List D).length:Int)==1)&&(((cD 2 ((KB).getD (0:Int).toNat .top)).ab)==2)) then(
   let x44:=(du (D.agg ((((KB).getD (0:Int).toNat .top).ak.drop 27).take 2)))
   .inr (ah 2 x44 []))
  else(
   .inl ((IntKind.i64.wrap (i15-1)),SM,SL)))
 else .inr (q9 s x7)
def G0(s:RS)(x7:Int×Int)(i15:Int)(SM:List D)(SL:List D):Nat:=(i15-x7.1).toNat
def q8(s:RS)(x7:Int×Int)(i15:Int)(SM:List D)(SL:List D):D:=gI (fun a:Int×List D×List D=>oO s x7 a.1 a.2.1 a.2.2) .top (G0 s x7 i15 SM SL+1) (i15,SM,SL)
def z7(x:Int)(s:RS):D:=
 let x7:=(fh s.li s.lt s.le)
 q8 s x7 x [] []
def cH(s:RS):D:=
 let x6:=(dm s.li s.lt s.le)
 let x14:=(z7 x6.1 s)
 ah 2 x14 []
def Nj(i9:List D):List D:=
 i9
def rY(s:RS)(x6:List D)(i9:List D)(j9:Int):(List D×Int)⊕(List D):=
 if decide (j9<((x6:List D).length:Int)) then(
  if(((((x6).getD (j9:Int).toNat .top)).ab) !=s.id) then(
   .inl ((i9++([((x6).getD (j9:Int).toNat .top)] :List D)),(IntKind.i64.wrap (j9+1))))
  else(
   .inl (i9,(IntKind.i64.wrap (j9+1)))))
 else .inr (Nj i9)
def Dd(s:RS)(x6:List D)(i9:List D)(j9:Int):Nat:=x6.length-j9.toNat
def o5(s:RS)(x6:List D)(i9:List D)(j9:Int):List D:=gI (fun a:List D×Int=>rY s x6 a.1 a.2) [] (Dd s x6 i9 j9+1) (i9,j9)
def eO(x:D)(s:RS):List D:=
 let x6:=(fR (ah 2 x []))
 o5 s x6 [] 0
def rL(x:Int)(s:RS):Bool:=
 let x4:=(cH s)
 let x5:=(fR (ah 2 x4 []))
 let x7:=(NN x5 x)
 x7
def Fh:Bool:=
 false
def pN(ql:List D)(i30:Bool)(N7:Int):(Bool×Int)⊕(Bool):=
 if decide (N7<((ql:List D).length:Int)) then(
  if(((cD 2 ((ql).getD (N7:Int).toNat .top)).ab)==2) then(
   .inr (true))
  else(
   .inl (i30,(IntKind.i64.wrap (N7+1)))))
 else .inr (Fh)
def vY(ql:List D)(i30:Bool)(N7:Int):Nat:=ql.length-N7.toNat
def ma(ql:List D)(i30:Bool)(N7:Int):Bool:=gI (fun a:Bool×Int=>pN ql a.1 a.2) false (vY ql i30 N7+1) (i30,N7)
def rZ(s:RS):Bool:=
 let x6:=(dm s.li s.lt s.le)
 let ql:=(cT s.li s.lt s.le (IntKind.i64.wrap (s.aJ+1)) (IntKind.i64.wrap (x6.1-s.aJ)))
 ma ql false 0
def vG(s:RS):Bool:=
 let x10:=(fN s.li s.lt s.le s.aJ)
 ((x10.2==0)&&(x10.1==s.term))
def agB(x:D)(s:RS):Int:=
 if(s.role !=2) then(
  20)
 else(
  if((cD 0 x).ab==1) then(
   1)
  else(
   if((cD 0 x).ab !=2) then(
    0)
   else(
    let x19:=(vG s)
    let x23:=(rZ s)
    if((!x19)||x23) then(
     21)
    else(
     let ql:=(cH s)
     let x30:=(VB (ah 2 ql []) (D.agg [(cD 25 x),(cD 26 x)]))
     if(!x30) then(
      22)
     else(
      0)))))
def Lu(s:RS):D:=
 let x6:=(fh s.li s.lt s.le)
 let x16:=(dm s.li s.lt s.le)
 let x41:=(cH s)
 D.agg [D.int .i64 s.role,D.int .i64 s.aI,(cD 0 (D.agg [D.int .i64 s.term,D.int .i64 s.vote])),(cD 1 (D.agg [D.int .i64 s.term,D.int .i64 s.vote])),D.int .i64 s.aJ,D.int .i64 x16.1,D.int .i64 x6.1,(cD 0 x41),(cD 1 x41)]
def lO(s:RS):RS:=
 ({s with wait:=0,end_:=0}:RS)
def aX(x:D)(s:RS):RS:=
 ({s with msgs:=(s.msgs++([ah 46 x [(1,D.int .i64 s.id),(3,D.int .i64 s.term)]] :List D))}:RS)
def iE(x:Int)(y:Int)(s:RS):RS:=
 if decide (x>s.term) then(
  let YS:=dQ ({s with term:=x,vote:=0}:RS)
  ({YS with role:=0,aI:=y,aE:=[],reads:=[]}:RS))
 else(
  ({s with role:=0,aI:=y,aE:=[],reads:=[]}:RS))
def cE(s:RS):D×RS:=
 (D.agg [D.bool s.save,D.int .i64 s.term,D.int .i64 s.vote,D.list s.dt,s.gg,D.list s.msgs,D.list s.bq,D.list s.pr],({s with save:=false,KW:=0,KV:=0,dt:=[],gg:=D.eW,msgs:=[],bq:=[],pr:=[]}:RS))
def DY(x:D)(s:RS):(D×Int)×RS:=
 let zF:=ag3 s.li s.lt s.le s.term (ah 27 x [])
 if(zF.1.2==0) then(
  let V4:=dQ ({s with li:=zF.2.1,lt:=zF.2.2.1,le:=zF.2.2.2}:RS)
  ((ah 29 zF.1.1 [],zF.1.2),({V4 with dt:=(V4.dt++([ah 29 zF.1.1 []] :List D))}:RS)))
 else(
  ((ah 29 zF.1.1 [],zF.1.2),({s with li:=zF.2.1,lt:=zF.2.2.1,le:=zF.2.2.2}:RS)))
def cq(x:Int)(s:RS):RS:=
 if(x==0) then(
  let qb:=(fh s.li s.lt s.le)
  if decide (s.wE≤qb.1) then(
   let hH:=(du (D.agg [D.list s.sv,D.list s.sl]))
   let mC:=(lJ ((s.au.take ((az (IntKind.i64.wrap ((az (ay 0 s.xL) ((s.au:List D).length:Int))+256)) ((s.au:List D).length:Int)):Int).toNat).drop ((az (ay 0 s.xL) ((s.au:List D).length:Int)):Int).toNat))
   let qw:=aX (ah 46 cA [(0,D.int .i64 5),(4,D.int .i64 s.iK),(5,D.int .i64 s.ff),(9,D.int .i64 (az (ay 0 s.xL) ((s.au:List D).length:Int))),(10,D.int .i64 ((s.au:List D).length:Int)),(13,(cD 0 hH)),(14,(cD 1 hH)),(15,D.list mC)]) ({s with xL:=(az (ay 0 s.xL) ((s.au:List D).length:Int))}:RS)
   qw)
  else(
   let uq:=(fN s.li s.lt s.le (IntKind.i64.wrap (s.wE-1)))
   let mD:=cT s.li s.lt s.le s.wE 8
   let gk:=aX (ah 46 cA [(0,D.int .i64 3),(4,D.int .i64 (IntKind.i64.wrap (s.wE-1))),(5,D.int .i64 uq.1),(6,D.int .i64 s.aJ),(8,D.int .i64 s.round),(12,D.list mD)]) s
   gk))
 else(
  if(x==1) then(
   let qb:=(fh s.li s.lt s.le)
   if decide (s.wD≤qb.1) then(
    let hH:=(du (D.agg [D.list s.sv,D.list s.sl]))
    let mC:=(lJ ((s.au.take ((az (IntKind.i64.wrap ((az (ay 0 s.xK) ((s.au:List D).length:Int))+256)) ((s.au:List D).length:Int)):Int).toNat).drop ((az (ay 0 s.xK) ((s.au:List D).length:Int)):Int).toNat))
    let qw:=aX (ah 46 cA [(0,D.int .i64 5),(2,D.int .i64 1),(4,D.int .i64 s.iK),(5,D.int .i64 s.ff),(9,D.int .i64 (az (ay 0 s.xK) ((s.au:List D).length:Int))),(10,D.int .i64 ((s.au:List D).length:Int)),(13,(cD 0 hH)),(14,(cD 1 hH)),(15,D.list mC)]) ({s with xK:=(az (ay 0 s.xK) ((s.au:List D).length:Int))}:RS)
    qw)
   else(
    let uq:=(fN s.li s.lt s.le (IntKind.i64.wrap (s.wD-1)))
    let mD:=cT s.li s.lt s.le s.wD 8
    let gk:=aX (ah 46 cA [(0,D.int .i64 3),(2,D.int .i64 1),(4,D.int .i64 (IntKind.i64.wrap (s.wD-1))),(5,D.int .i64 uq.1),(6,D.int .i64 s.aJ),(8,D.int .i64 s.round),(12,D.list mD)]) s
    gk))
  else(
   if(x==2) then(
    let qb:=(fh s.li s.lt s.le)
    if decide (s.wC≤qb.1) then(
     let hH:=(du (D.agg [D.list s.sv,D.list s.sl]))
     let mC:=(lJ ((s.au.take ((az (IntKind.i64.wrap ((az (ay 0 s.xJ) ((s.au:List D).length:Int))+256)) ((s.au:List D).length:Int)):Int).toNat).drop ((az (ay 0 s.xJ) ((s.au:List D).length:Int)):Int).toNat))
     let qw:=aX (ah 46 cA [(0,D.int .i64 5),(2,D.int .i64 2),(4,D.int .i64 s.iK),(5,D.int .i64 s.ff),(9,D.int .i64 (az (ay 0 s.xJ) ((s.au:List D).length:Int))),(10,D.int .i64 ((s.au:List D).length:Int)),(13,(cD 0 hH)),(14,(cD 1 hH)),(15,D.list mC)]) ({s with xJ:=(az (ay 0 s.xJ) ((s.au:List D).length:Int))}:RS)
     qw)
    else(
     let uq:=(fN s.li s.lt s.le (IntKind.i64.wrap (s.wC-1)))
     let mD:=cT s.li s.lt s.le s.wC 8
     let gk:=aX (ah 46 cA [(0,D.int .i64 3),(2,D.int .i64 2),(4,D.int .i64 (IntKind.i64.wrap (s.wC-1))),(5,D.int .i64 uq.1),(6,D.int .i64 s.aJ),(8,D.int .i64 s.round),(12,D.list mD)]) s
     gk))
   else(
    if(x==3) then(
     let qb:=(fh s.li s.lt s.le)
     if decide (s.wB≤qb.1) then(
      let hH:=(du (D.agg [D.list s.sv,D.list s.sl]))
      let mC:=(lJ ((s.au.take ((az (IntKind.i64.wrap ((az (ay 0 s.xI) ((s.au:List D).length:Int))+256)) ((s.au:List D).length:Int)):Int).toNat).drop ((az (ay 0 s.xI) ((s.au:List D).length:Int)):Int).toNat))
      let qw:=aX (ah 46 cA [(0,D.int .i64 5),(2,D.int .i64 3),(4,D.int .i64 s.iK),(5,D.int .i64 s.ff),(9,D.int .i64 (az (ay 0 s.xI) ((s.au:List D).length:Int))),(10,D.int .i64 ((s.au:List D).length:Int)),(13,(cD 0 hH)),(14,(cD 1 hH)),(15,D.list mC)]) ({s with xI:=(az (ay 0 s.xI) ((s.au:List D).length:Int))}:RS)
      qw)
     else(
      let uq:=(fN s.li s.lt s.le (IntKind.i64.wrap (s.wB-1)))
      let mD:=cT s.li s.lt s.le s.wB 8
      let gk:=aX (ah 46 cA [(0,D.int .i64 3),(2,D.int .i64 3),(4,D.int .i64 (IntKind.i64.wrap (s.wB-1))),(5,D.int .i64 uq.1),(6,D.int .i64 s.aJ),(8,D.int .i64 s.round),(12,D.list mD)]) s
      gk))
    else(
     if(x==4) then(
      let qb:=(fh s.li s.lt s.le)
      if decide (s.wA≤qb.1) then(
       let hH:=(du (D.agg [D.list s.sv,D.list s.sl]))
       let mC:=(lJ ((s.au.take ((az (IntKind.i64.wrap ((az (ay 0 s.xH) ((s.au:List D).length:Int))+256)) ((s.au:List D).length:Int)):Int).toNat).drop ((az (ay 0 s.xH) ((s.au:List D).length:Int)):Int).toNat))
       let qw:=aX (ah 46 cA [(0,D.int .i64 5),(2,D.int .i64 4),(4,D.int .i64 s.iK),(5,D.int .i64 s.ff),(9,D.int .i64 (az (ay 0 s.xH) ((s.au:List D).length:Int))),(10,D.int .i64 ((s.au:List D).length:Int)),(13,(cD 0 hH)),(14,(cD 1 hH)),(15,D.list mC)]) ({s with xH:=(az (ay 0 s.xH) ((s.au:List D).length:Int))}:RS)
       qw)
      else(
       let uq:=(fN s.li s.lt s.le (IntKind.i64.wrap (s.wA-1)))
       let mD:=cT s.li s.lt s.le s.wA 8
       let gk:=aX (ah 46 cA [(0,D.int .i64 3),(2,D.int .i64 4),(4,D.int .i64 (IntKind.i64.wrap (s.wA-1))),(5,D.int .i64 uq.1),(6,D.int .i64 s.aJ),(8,D.int .i64 s.round),(12,D.list mD)]) s
       gk))
     else(
      if(x==5) then(
       let qb:=(fh s.li s.lt s.le)
       if decide (s.wy≤qb.1) then(
        let hH:=(du (D.agg [D.list s.sv,D.list s.sl]))
        let mC:=(lJ ((s.au.take ((az (IntKind.i64.wrap ((az (ay 0 s.xG) ((s.au:List D).length:Int))+256)) ((s.au:List D).length:Int)):Int).toNat).drop ((az (ay 0 s.xG) ((s.au:List D).length:Int)):Int).toNat))
        let qw:=aX (ah 46 cA [(0,D.int .i64 5),(2,D.int .i64 5),(4,D.int .i64 s.iK),(5,D.int .i64 s.ff),(9,D.int .i64 (az (ay 0 s.xG) ((s.au:List D).length:Int))),(10,D.int .i64 ((s.au:List D).length:Int)),(13,(cD 0 hH)),(14,(cD 1 hH)),(15,D.list mC)]) ({s with xG:=(az (ay 0 s.xG) ((s.au:List D).length:Int))}:RS)
        qw)
       else(
        let uq:=(fN s.li s.lt s.le (IntKind.i64.wrap (s.wy-1)))
        let mD:=cT s.li s.lt s.le s.wy 8
        let gk:=aX (ah 46 cA [(0,D.int .i64 3),(2,D.int .i64 5),(4,D.int .i64 (IntKind.i64.wrap (s.wy-1))),(5,D.int .i64 uq.1),(6,D.int .i64 s.aJ),(8,D.int .i64 s.round),(12,D.list mD)]) s
        gk))
      else(
       aW))))))
def iq(x:Int)(s:RS):Bool×RS:=
 if decide (x≤s.aJ) then(
  (false,s))
 else(
  let x77:=cT s.li s.lt s.le (IntKind.i64.wrap (s.aJ+1)) (IntKind.i64.wrap (x-s.aJ))
  let V0:=(mT x77 (D.fn 84 []))
  (V0,({s with bq:=(s.bq++x77),aJ:=x}:RS)))
def rX(s:RS)(jF:Int×Int)(i69:List D):RS:=
 let x82:=(cH s)
 let nZ:=(rR (ah 2 x82 []) (D.list ((i69.take ((IntKind.i64.wrap (s.id-1)):Int).toNat)++(D.int .i64 jF.1::((i69.drop ((IntKind.i64.wrap (s.id-1)):Int).toNat).drop (1:Int).toNat)))))
 let Ti:=(fN s.li s.lt s.le nZ)
 if(((decide (nZ≤s.aJ))||(Ti.2 !=0))||(Ti.1 !=s.term)) then(
  s)
 else(
  let gk:=iq nZ s
  let TV:=(cH gk.2)
  let Zr:=(lI (ah 2 TV []) gk.2.id)
  if(gk.1&&(!Zr)) then(
   let ZZ:=iE gk.2.term 0 gk.2
   let ZY:=lO ZZ
   ZY)
  else(
   gk.2))
def ml(s:RS)(jF:Int×Int)(i69:List D)(nf:Int):(List D×Int)⊕(RS):=
 if decide (nf<((([D.int .i64 0,D.int .i64 0,D.int .i64 0,D.int .i64 0,D.int .i64 0] :List D):List D).length:Int)) then(
  if(nf==0) then(
   .inl (((i69.take (0:Int).toNat)++(D.int .i64 s.FK::((i69.drop (0:Int).toNat).drop (1:Int).toNat))),(IntKind.i64.wrap (nf+1))))
  else(
   if(nf==1) then(
    .inl (((i69.take (1:Int).toNat)++(D.int .i64 s.FJ::((i69.drop (1:Int).toNat).drop (1:Int).toNat))),(IntKind.i64.wrap (nf+1))))
   else(
    if(nf==2) then(
     .inl (((i69.take (2:Int).toNat)++(D.int .i64 s.FI::((i69.drop (2:Int).toNat).drop (1:Int).toNat))),(IntKind.i64.wrap (nf+1))))
    else(
     if(nf==3) then(
      .inl (((i69.take (3:Int).toNat)++(D.int .i64 s.FH::((i69.drop (3:Int).toNat).drop (1:Int).toNat))),(IntKind.i64.wrap (nf+1))))
     else(
      if(nf==4) then(
       .inl (((i69.take (4:Int).toNat)++(D.int .i64 s.FG::((i69.drop (4:Int).toNat).drop (1:Int).toNat))),(IntKind.i64.wrap (nf+1))))
      else(
       .inr aW))))))
 else .inr (rX s jF i69)
def kA(s:RS)(jF:Int×Int)(i69:List D)(nf:Int):Nat:=5-nf.toNat
def o4(s:RS)(jF:Int×Int)(i69:List D)(nf:Int):RS:=gI (fun a:List D×Int=>ml s jF a.1 a.2) aW (kA s jF i69 nf+1) (i69,nf)
def fx(s:RS):RS:=
 let jF:=(dm s.li s.lt s.le)
 o4 s jF ([D.int .i64 0,D.int .i64 0,D.int .i64 0,D.int .i64 0,D.int .i64 0] :List D) 0
def Nh(t153:RS):RS:=
 let F9:=fx t153
 F9
def xq(gj:List D)(i153:Int)(t153:RS):(Int×RS)⊕(RS):=
 if decide (i153<((gj:List D).length:Int)) then(
  let agh:=cq ((((gj).getD (i153:Int).toNat .top)).ab) t153
  .inl ((IntKind.i64.wrap (i153+1)),agh))
 else .inr (Nh t153)
def Dc(gj:List D)(i153:Int)(t153:RS):Nat:=gj.length-i153.toNat
def rW(gj:List D)(i153:Int)(t153:RS):RS:=gI (fun a:Int×RS=>xq gj a.1 a.2) aW (Dc gj i153 t153+1) (i153,t153)
def AQ(t89:RS):RS:=
 let ot:=DY (ah 27 Pw [(0,D.int .i64 1)]) t89
 let wR:=(cH ot.2)
 let gj:=(eO (ah 2 wR []) ot.2)
 rW gj 0 ot.2
def vF(jF:Int×Int)(i89:Int)(t89:RS):(Int×RS)⊕(RS):=
 if decide (i89<6) then(
  if(i89==0) then(
   .inl ((IntKind.i64.wrap (i89+1)),({t89 with HZ:=0,wE:=(IntKind.i64.wrap (jF.1+1)),xL:=0}:RS)))
  else(
   if(i89==1) then(
    .inl ((IntKind.i64.wrap (i89+1)),({t89 with FK:=0,wD:=(IntKind.i64.wrap (jF.1+1)),xK:=0}:RS)))
   else(
    if(i89==2) then(
     .inl ((IntKind.i64.wrap (i89+1)),({t89 with FJ:=0,wC:=(IntKind.i64.wrap (jF.1+1)),xJ:=0}:RS)))
    else(
     if(i89==3) then(
      .inl ((IntKind.i64.wrap (i89+1)),({t89 with FI:=0,wB:=(IntKind.i64.wrap (jF.1+1)),xI:=0}:RS)))
     else(
      if(i89==4) then(
       .inl ((IntKind.i64.wrap (i89+1)),({t89 with FH:=0,wA:=(IntKind.i64.wrap (jF.1+1)),xH:=0}:RS)))
      else(
       if(i89==5) then(
        .inl ((IntKind.i64.wrap (i89+1)),({t89 with FG:=0,wy:=(IntKind.i64.wrap (jF.1+1)),xG:=0}:RS)))
       else(
        .inr aW)))))))
 else .inr (AQ t89)
def lq(jF:Int×Int)(i89:Int)(t89:RS):Nat:=6-i89.toNat
def qZ(jF:Int×Int)(i89:Int)(t89:RS):RS:=gI (fun a:Int×RS=>vF jF a.1 a.2) aW (lq jF i89 t89+1) (i89,t89)
def xU(s:RS):RS:=
 let jF:=(dm s.li s.lt s.le)
 qZ jF 0 ({s with role:=2,aI:=s.id,wait:=0,round:=0,reads:=[]}:RS)
def J4(t113:RS):RS:=
 t113
def pH(x:D)(lS:Int×Int)(hU:List D)(i113:Int)(t113:RS):(Int×RS)⊕(RS):=
 if decide (i113<((hU:List D).length:Int)) then(
  let Zq:=(lI (ah 2 x []) ((((hU).getD (i113:Int).toNat .top)).ab))
  if Zq then(
   let agi:=aX (ah 46 cA [(0,D.int .i64 1),(2,((hU).getD (i113:Int).toNat .top)),(4,D.int .i64 lS.1),(5,D.int .i64 lS.2)]) t113
   .inl ((IntKind.i64.wrap (i113+1)),agi))
  else(
   .inl ((IntKind.i64.wrap (i113+1)),t113)))
 else .inr (J4 t113)
def Bs(x:D)(lS:Int×Int)(hU:List D)(i113:Int)(t113:RS):Nat:=hU.length-i113.toNat
def kE(x:D)(lS:Int×Int)(hU:List D)(i113:Int)(t113:RS):RS:=gI (fun a:Int×RS=>pH x lS hU a.1 a.2) aW (Bs x lS hU i113 t113+1) (i113,t113)
def mM(x:D)(s:RS):RS:=
 let mh:=dQ ({s with term:=(IntKind.i64.wrap (s.term+1)),vote:=s.id}:RS)
 let YP:=(jv (ah 2 x []) (D.list ([D.int .i64 mh.id] :List D)))
 if YP then(
  let N4:=xU ({mh with role:=1,aI:=0,aE:=([D.int .i64 mh.id] :List D)}:RS)
  N4)
 else(
  let lS:=(dm mh.li mh.lt mh.le)
  let hU:=(eO (ah 2 x []) ({mh with role:=1,aI:=0,aE:=([D.int .i64 mh.id] :List D)}:RS))
  kE x lS hU 0 ({mh with role:=1,aI:=0,aE:=([D.int .i64 mh.id] :List D)}:RS))
def gR(x:D)(s:RS):RS:=
 let kT:=(dm s.li s.lt s.le)
 if((cD 0 x).ab==1) then(
  let mh:=aX (ah 46 cA [(0,D.int .i64 2),(2,(cD 1 x)),(7,D.bool true)]) s
  mh)
 else(
  if((cD 0 x).ab==3) then(
   let lA:=aX (ah 46 cA [(0,D.int .i64 4),(2,(cD 1 x)),(4,D.int .i64 kT.1),(7,D.bool true)]) s
   lA)
  else(
   if((cD 0 x).ab==5) then(
    let V4:=aX (ah 46 cA [(0,D.int .i64 6),(2,(cD 1 x)),(4,(cD 4 x)),(7,D.bool true),(10,D.int .i64 1)]) s
    V4)
   else(
    s)))
def uQ(x:D)(s:RS):RS:=
 let SG:=(Jy s.li s.lt s.le (cD 4 x).ab (cD 5 x).ab)
 if((((s.vote==0)||(s.vote==(cD 1 x).ab))&&(s.role !=2))&&SG) then(
  if(s.vote==0) then(
   let Z0:=dQ ({s with vote:=(cD 1 x).ab}:RS)
   let Uc:=lO Z0
   let O0:=aX (ah 46 cA [(0,D.int .i64 2),(2,(cD 1 x)),(7,D.bool (!((((s.vote==0)||(s.vote==(cD 1 x).ab))&&(s.role !=2))&&SG)))]) Uc
   O0)
  else(
   let N4:=lO s
   let O1:=aX (ah 46 cA [(0,D.int .i64 2),(2,(cD 1 x)),(7,D.bool (!((((s.vote==0)||(s.vote==(cD 1 x).ab))&&(s.role !=2))&&SG)))]) N4
   O1))
 else(
  let s98:=aX (ah 46 cA [(0,D.int .i64 2),(2,(cD 1 x)),(7,D.bool (!((((s.vote==0)||(s.vote==(cD 1 x).ab))&&(s.role !=2))&&SG)))]) s
  s98)
def pq(x:D)(s:RS):RS:=
 if((s.role !=1)||(cD 7 x).eh) then(
  s)
 else(
  let x78:=(cH ({s with aE:=(s.aE++([(cD 1 x)] :List D))}:RS))
  let x83:=(jv (ah 2 x78 []) (D.list (s.aE++([(cD 1 x)] :List D))))
  if x83 then(
   let CL:=xU ({s with aE:=(s.aE++([(cD 1 x)] :List D))}:RS)
   CL)
  else(
   ({s with aE:=(s.aE++([(cD 1 x)] :List D))}:RS)))
def ik(x:D)(s:RS):Bool×RS:=
 if(s.role==2) then(
  (false,s))
 else(
  let dj:=iE s.term (cD 1 x).ab s
  let YS:=lO dj
  (true,YS))
def lW(x:D)(s:RS):RS:=
 let aY:=ik (ah 46 x []) s
 if(!aY.1) then(
  aY.2)
 else(
  if decide ((cD 4 x).ab<aY.2.aJ) then(
   let lA:=aX (ah 46 cA [(0,D.int .i64 4),(2,(cD 1 x)),(4,D.int .i64 aY.2.aJ),(8,(cD 8 x))]) aY.2
   lA)
  else(
   let lA:=LA aY.2.li aY.2.lt aY.2.le (cD 4 x).ab (cD 5 x).ab (cD 12 x).ak
   if(!lA.1.2) then(
    let x89:=(dm lA.2.1 lA.2.2.1 lA.2.2.2)
    let O1:=aX (ah 46 cA [(0,D.int .i64 4),(2,(cD 1 x)),(4,D.int .i64 (az x89.1 (IntKind.i64.wrap ((cD 4 x).ab-1)))),(7,D.bool true),(8,(cD 8 x))]) ({aY.2 with li:=lA.2.1,lt:=lA.2.2.1,le:=lA.2.2.2}:RS)
    O1)
   else(
    if decide (lA.1.1>0) then(
     let uC:=dQ ({aY.2 with li:=lA.2.1,lt:=lA.2.2.1,le:=lA.2.2.2}:RS)
     let TW:=cT uC.li uC.lt uC.le lA.1.1 (IntKind.i64.wrap ((cD 4 x).ab+(((cD 12 x).ak:List D).length:Int)))
     let ID:=iq (az (cD 6 x).ab (IntKind.i64.wrap ((cD 4 x).ab+(((cD 12 x).ak:List D).length:Int)))) ({uC with dt:=TW}:RS)
     let ags:=aX (ah 46 cA [(0,D.int .i64 4),(2,(cD 1 x)),(4,D.int .i64 (IntKind.i64.wrap ((cD 4 x).ab+(((cD 12 x).ak:List D).length:Int)))),(8,(cD 8 x))]) ID.2
     ags)
    else(
     let N4:=iq (az (cD 6 x).ab (IntKind.i64.wrap ((cD 4 x).ab+(((cD 12 x).ak:List D).length:Int)))) ({aY.2 with li:=lA.2.1,lt:=lA.2.2.1,le:=lA.2.2.2}:RS)
     let mE:=aX (ah 46 cA [(0,D.int .i64 4),(2,(cD 1 x)),(4,D.int .i64 (IntKind.i64.wrap ((cD 4 x).ab+(((cD 12 x).ak:List D).length:Int)))),(8,(cD 8 x))]) N4.2
     mE))))
def Ff(i67:List D)(t67:RS):RS:=
 ({t67 with reads:=i67}:RS)
def l6(x:D)(s:RS)(B1:D)(i67:List D)(zG:Int)(t67:RS):(List D×Int×RS)⊕(RS):=
 if decide (zG<((s.reads:List D).length:Int)) then(
  if((decide ((cD 8 x).ab≥((cD 2 ((s.reads).getD (zG:Int).toNat .top)).ab)))&&(decide ((cD 8 x).ab≤t67.round))) then(
   .inr aW)
  else(
   let TU:=(jv (ah 2 B1 []) (cD 3 ((s.reads).getD (zG:Int).toNat .top)))
   if TU then(
    .inl (i67,(IntKind.i64.wrap (zG+1)),({t67 with pr:=(t67.pr++([ah 2 ((s.reads).getD (zG:Int).toNat .top) []] :List D))}:RS)))
   else(
    .inl ((i67++([ah 4 ((s.reads).getD (zG:Int).toNat .top) []] :List D)),(IntKind.i64.wrap (zG+1)),t67))))
 else .inr (Ff i67 t67)
def vX(x:D)(s:RS)(B1:D)(i67:List D)(zG:Int)(t67:RS):Nat:=s.reads.length-zG.toNat
def j4(x:D)(s:RS)(B1:D)(i67:List D)(zG:Int)(t67:RS):RS:=gI (fun a:List D×Int×RS=>l6 x s B1 a.1 a.2.1 a.2.2) aW (vX x s B1 i67 zG t67+1) (i67,zG,t67)
def iG(x:D)(s:RS):RS:=
 let B1:=(cH s)
 j4 x s B1 [] 0 s
def ou(x:Int)(y:Int)(s:RS):RS:=
 let kT:=(dm s.li s.lt s.le)
 if(x==0) then(
  let dO:=fx ({s with HZ:=(ay s.HZ (az y kT.1)),wE:=(ay s.wE (IntKind.i64.wrap ((ay s.HZ (az y kT.1))+1))),xL:=0}:RS)
  if((dO.role==2)&&(decide (dO.wE≤kT.1))) then(
   let qx:=cq 0 dO
   qx)
  else(
   dO))
 else(
  if(x==1) then(
   let dO:=fx ({s with FK:=(ay s.FK (az y kT.1)),wD:=(ay s.wD (IntKind.i64.wrap ((ay s.FK (az y kT.1))+1))),xK:=0}:RS)
   if((dO.role==2)&&(decide (dO.wD≤kT.1))) then(
    let qx:=cq 1 dO
    qx)
   else(
    dO))
  else(
   if(x==2) then(
    let dO:=fx ({s with FJ:=(ay s.FJ (az y kT.1)),wC:=(ay s.wC (IntKind.i64.wrap ((ay s.FJ (az y kT.1))+1))),xJ:=0}:RS)
    if((dO.role==2)&&(decide (dO.wC≤kT.1))) then(
     let qx:=cq 2 dO
     qx)
    else(
     dO))
   else(
    if(x==3) then(
     let dO:=fx ({s with FI:=(ay s.FI (az y kT.1)),wB:=(ay s.wB (IntKind.i64.wrap ((ay s.FI (az y kT.1))+1))),xI:=0}:RS)
     if((dO.role==2)&&(decide (dO.wB≤kT.1))) then(
      let qx:=cq 3 dO
      qx)
     else(
      dO))
    else(
     if(x==4) then(
      let dO:=fx ({s with FH:=(ay s.FH (az y kT.1)),wA:=(ay s.wA (IntKind.i64.wrap ((ay s.FH (az y kT.1))+1))),xH:=0}:RS)
      if((dO.role==2)&&(decide (dO.wA≤kT.1))) then(
       let qx:=cq 4 dO
       qx)
      else(
       dO))
     else(
      if(x==5) then(
       let dO:=fx ({s with FG:=(ay s.FG (az y kT.1)),wy:=(ay s.wy (IntKind.i64.wrap ((ay s.FG (az y kT.1))+1))),xG:=0}:RS)
       if((dO.role==2)&&(decide (dO.wy≤kT.1))) then(
        let qx:=cq 5 dO
        qx)
       else(
        dO))
      else(
       aW))))))
def iF(x:D)(s:RS):RS:=
 let qb:=(rL (cD 1 x).ab s)
 if((s.role !=2)||(!qb)) then(
  s)
 else(
  let dj:=iG (ah 46 x []) s
  if((cD 1 x).ab==0) then(
   if(cD 7 x).eh then(
    let nZ:=(dm dj.li dj.lt dj.le)
    let qy:=cq 0 ({dj with wE:=(ay (IntKind.i64.wrap (dj.HZ+1)) (az (IntKind.i64.wrap (dj.wE-1)) (IntKind.i64.wrap ((az (ay 0 (cD 4 x).ab) nZ.1)+1))))}:RS)
    qy)
   else(
    let CL:=ou 0 (cD 4 x).ab dj
    CL))
  else(
   if((cD 1 x).ab==1) then(
    if(cD 7 x).eh then(
     let nZ:=(dm dj.li dj.lt dj.le)
     let qy:=cq 1 ({dj with wD:=(ay (IntKind.i64.wrap (dj.FK+1)) (az (IntKind.i64.wrap (dj.wD-1)) (IntKind.i64.wrap ((az (ay 0 (cD 4 x).ab) nZ.1)+1))))}:RS)
     qy)
    else(
     let CL:=ou 1 (cD 4 x).ab dj
     CL))
   else(
    if((cD 1 x).ab==2) then(
     if(cD 7 x).eh then(
      let nZ:=(dm dj.li dj.lt dj.le)
      let qy:=cq 2 ({dj with wC:=(ay (IntKind.i64.wrap (dj.FJ+1)) (az (IntKind.i64.wrap (dj.wC-1)) (IntKind.i64.wrap ((az (ay 0 (cD 4 x).ab) nZ.1)+1))))}:RS)
      qy)
     else(
      let CL:=ou 2 (cD 4 x).ab dj
      CL))
    else(
     if((cD 1 x).ab==3) then(
      if(cD 7 x).eh then(
       let nZ:=(dm dj.li dj.lt dj.le)
       let qy:=cq 3 ({dj with wB:=(ay (IntKind.i64.wrap (dj.FI+1)) (az (IntKind.i64.wrap (dj.wB-1)) (IntKind.i64.wrap ((az (ay 0 (cD 4 x).ab) nZ.1)+1))))}:RS)
       qy)
      else(
       let CL:=ou 3 (cD 4 x).ab dj
       CL))
     else(
      if((cD 1 x).ab==4) then(
       if(cD 7 x).eh then(
        let nZ:=(dm dj.li dj.lt dj.le)
        let qy:=cq 4 ({dj with wA:=(ay (IntKind.i64.wrap (dj.FH+1)) (az (IntKind.i64.wrap (dj.wA-1)) (IntKind.i64.wrap ((az (ay 0 (cD 4 x).ab) nZ.1)+1))))}:RS)
        qy)
       else(
        let CL:=ou 4 (cD 4 x).ab dj
        CL))
      else(
       if((cD 1 x).ab==5) then(
        if(cD 7 x).eh then(
         let nZ:=(dm dj.li dj.lt dj.le)
         let qy:=cq 5 ({dj with wy:=(ay (IntKind.i64.wrap (dj.FG+1)) (az (IntKind.i64.wrap (dj.wy-1)) (IntKind.i64.wrap ((az (ay 0 (cD 4 x).ab) nZ.1)+1))))}:RS)
         qy)
        else(
         let CL:=ou 5 (cD 4 x).ab dj
         CL))
       else(
        aW)))))))
def jX(x:D)(s:RS):RS:=
 let qb:=(rL (cD 1 x).ab s)
 if((s.role !=2)||(!qb)) then(
  s)
 else(
  if((!(cD 7 x).eh)&&((cD 10 x).ab==0)) then(
   let s82:=ou (cD 1 x).ab (cD 4 x).ab s
   s82)
  else(
   if((cD 4 x).ab==s.iK) then(
    if((cD 1 x).ab==0) then(
     let mE:=cq 0 ({s with xL:=(az (ay 0 (cD 9 x).ab) ((s.au:List D).length:Int))}:RS)
     mE)
    else(
     if((cD 1 x).ab==1) then(
      let mE:=cq 1 ({s with xK:=(az (ay 0 (cD 9 x).ab) ((s.au:List D).length:Int))}:RS)
      mE)
     else(
      if((cD 1 x).ab==2) then(
       let mE:=cq 2 ({s with xJ:=(az (ay 0 (cD 9 x).ab) ((s.au:List D).length:Int))}:RS)
       mE)
      else(
       if((cD 1 x).ab==3) then(
        let mE:=cq 3 ({s with xI:=(az (ay 0 (cD 9 x).ab) ((s.au:List D).length:Int))}:RS)
        mE)
       else(
        if((cD 1 x).ab==4) then(
         let mE:=cq 4 ({s with xH:=(az (ay 0 (cD 9 x).ab) ((s.au:List D).length:Int))}:RS)
         mE)
        else(
         if((cD 1 x).ab==5) then(
          let mE:=cq 5 ({s with xG:=(az (ay 0 (cD 9 x).ab) ((s.au:List D).length:Int))}:RS)
          mE)
         else(
          aW)))))))
   else(
    s)))
def uR(x:D)(s:RS):RS:=
 let aY:=ik (ah 46 x []) s
 if(!aY.1) then(
  aY.2)
 else(
  if decide ((cD 4 x).ab≤aY.2.aJ) then(
   let Tl:=aX (ah 46 cA [(0,D.int .i64 6),(2,(cD 1 x)),(4,D.int .i64 aY.2.aJ)]) aY.2
   Tl)
  else(
   if((!(((((aY.2.eL==(cD 3 x).ab)&&(aY.2.eM==(cD 1 x).ab))&&(aY.2.dh==(cD 4 x).ab))&&(aY.2.iB==(cD 5 x).ab))&&(aY.2.dg==(cD 10 x).ab)))||((cD 9 x).ab==0)) then(
    let TR:=(qc (cD 10 x).ab 1 1048576)
    if((((cD 9 x).ab==(([] :List D).length:Int))&&(decide ((((cD 15 x).ak:List D).length:Int)≤(IntKind.i64.wrap ((cD 10 x).ab-(([] :List D).length:Int))))))&&TR) then(
     let Cc:=(iU (cD 4 x).ab (cD 5 x).ab)
     if(cD 0 Cc).dT then(
      let Ml:=(dL (D.agg [(cD 13 x),(cD 14 x)]))
      let OV:=aX (ah 46 cA [(0,D.int .i64 6),(2,(cD 1 x)),(4,(cD 4 x)),(9,D.int .i64 ((([] ++(cD 15 x).ak):List D).length:Int)),(10,D.int .i64 (ay 1 (cD 10 x).ab))]) ({aY.2 with eL:=(cD 3 x).ab,eM:=(cD 1 x).ab,dh:=(cD 4 x).ab,iB:=(cD 5 x).ab,dg:=(cD 10 x).ab,bc:=([] ++(cD 15 x).ak)}:RS)
      OV)
     else(
      let Ml:=(dL (D.agg [(cD 13 x),(cD 14 x)]))
      if((((((([] ++(cD 15 x).ak):List D).length:Int) !=(cD 10 x).ab)||(decide ((cD 10 x).ab<1)))&&true)||(!Ml)) then(
       let OV:=aX (ah 46 cA [(0,D.int .i64 6),(2,(cD 1 x)),(4,(cD 4 x)),(9,D.int .i64 ((([] ++(cD 15 x).ak):List D).length:Int)),(10,D.int .i64 (ay 1 (cD 10 x).ab))]) ({aY.2 with eL:=(cD 3 x).ab,eM:=(cD 1 x).ab,dh:=(cD 4 x).ab,iB:=(cD 5 x).ab,dg:=(cD 10 x).ab,bc:=([] ++(cD 15 x).ak)}:RS)
       OV)
      else(
       let lE:=(du (D.agg [(cD 13 x),(cD 14 x)]))
       let Is:=(fN aY.2.li aY.2.lt aY.2.le (cD 4 x).ab)
       if((Is.2==0)&&(Is.1==(cD 5 x).ab)) then(
        let Iz:=lu aY.2.li aY.2.lt aY.2.le (cD 4 x).ab
        let zI:=(qk (D.agg [(cD 4 x),(cD 5 x),(cD 0 lE),(cD 1 lE),D.list ([] ++(cD 15 x).ak)]))
        let T6:=dQ ({aY.2 with gg:=(D.ptr [(cD 0 zI),(cD 1 zI),(cD 2 zI),(cD 3 zI),(cD 4 zI)]),iK:=(cD 4 x).ab,ff:=(cD 5 x).ab,sv:=(cD 0 lE).ak,sl:=(cD 1 lE).ak,au:=([] ++(cD 15 x).ak),aJ:=(cD 4 x).ab,eL:=0,eM:=0,dh:=0,iB:=0,dg:=0,bc:=[],li:=Iz.2.1,lt:=Iz.2.2.1,le:=Iz.2.2.2}:RS)
        let aga:=aX (ah 46 cA [(0,D.int .i64 6),(2,(cD 1 x)),(4,(cD 4 x))]) T6
        aga)
       else(
        let zJ:=(qk (D.agg [(cD 4 x),(cD 5 x),(cD 0 lE),(cD 1 lE),D.list ([] ++(cD 15 x).ak)]))
        let T7:=dQ ({aY.2 with gg:=(D.ptr [(cD 0 zJ),(cD 1 zJ),(cD 2 zJ),(cD 3 zJ),(cD 4 zJ)]),iK:=(cD 4 x).ab,ff:=(cD 5 x).ab,sv:=(cD 0 lE).ak,sl:=(cD 1 lE).ak,au:=([] ++(cD 15 x).ak),aJ:=(cD 4 x).ab,eL:=0,eM:=0,dh:=0,iB:=0,dg:=0,bc:=[],li:=((cD 0 (cD 1 Cc)).ab),lt:=((cD 1 (cD 1 Cc)).ab),le:=((cD 2 (cD 1 Cc)).ak)}:RS)
        let agb:=aX (ah 46 cA [(0,D.int .i64 6),(2,(cD 1 x)),(4,(cD 4 x))]) T7
        agb))))
    else(
     let Ce:=(iU (cD 4 x).ab (cD 5 x).ab)
     if(cD 0 Ce).dT then(
      let Mn:=(dL (D.agg [(cD 13 x),(cD 14 x)]))
      let F9:=aX (ah 46 cA [(0,D.int .i64 6),(2,(cD 1 x)),(4,(cD 4 x)),(9,D.int .i64 (([] :List D).length:Int)),(10,D.int .i64 (ay 1 (cD 10 x).ab))]) ({aY.2 with eL:=(cD 3 x).ab,eM:=(cD 1 x).ab,dh:=(cD 4 x).ab,iB:=(cD 5 x).ab,dg:=(cD 10 x).ab,bc:=[]}:RS)
      F9)
     else(
      let Mn:=(dL (D.agg [(cD 13 x),(cD 14 x)]))
      if(((((([] :List D).length:Int) !=(cD 10 x).ab)||(decide ((cD 10 x).ab<1)))&&true)||(!Mn)) then(
       let F9:=aX (ah 46 cA [(0,D.int .i64 6),(2,(cD 1 x)),(4,(cD 4 x)),(9,D.int .i64 (([] :List D).length:Int)),(10,D.int .i64 (ay 1 (cD 10 x).ab))]) ({aY.2 with eL:=(cD 3 x).ab,eM:=(cD 1 x).ab,dh:=(cD 4 x).ab,iB:=(cD 5 x).ab,dg:=(cD 10 x).ab,bc:=[]}:RS)
       F9)
      else(
       let qu:=(du (D.agg [(cD 13 x),(cD 14 x)]))
       let Iu:=(fN aY.2.li aY.2.lt aY.2.le (cD 4 x).ab)
       if((Iu.2==0)&&(Iu.1==(cD 5 x).ab)) then(
        let IB:=lu aY.2.li aY.2.lt aY.2.le (cD 4 x).ab
        let zM:=(qk (D.agg [(cD 4 x),(cD 5 x),(cD 0 qu),(cD 1 qu),D.list []]))
        let T8:=dQ ({aY.2 with gg:=(D.ptr [(cD 0 zM),(cD 1 zM),(cD 2 zM),(cD 3 zM),(cD 4 zM)]),iK:=(cD 4 x).ab,ff:=(cD 5 x).ab,sv:=(cD 0 qu).ak,sl:=(cD 1 qu).ak,au:=[],aJ:=(cD 4 x).ab,eL:=0,eM:=0,dh:=0,iB:=0,dg:=0,bc:=[],li:=IB.2.1,lt:=IB.2.2.1,le:=IB.2.2.2}:RS)
        let Ix:=aX (ah 46 cA [(0,D.int .i64 6),(2,(cD 1 x)),(4,(cD 4 x))]) T8
        Ix)
       else(
        let zN:=(qk (D.agg [(cD 4 x),(cD 5 x),(cD 0 qu),(cD 1 qu),D.list []]))
        let T9:=dQ ({aY.2 with gg:=(D.ptr [(cD 0 zN),(cD 1 zN),(cD 2 zN),(cD 3 zN),(cD 4 zN)]),iK:=(cD 4 x).ab,ff:=(cD 5 x).ab,sv:=(cD 0 qu).ak,sl:=(cD 1 qu).ak,au:=[],aJ:=(cD 4 x).ab,eL:=0,eM:=0,dh:=0,iB:=0,dg:=0,bc:=[],li:=((cD 0 (cD 1 Ce)).ab),lt:=((cD 1 (cD 1 Ce)).ab),le:=((cD 2 (cD 1 Ce)).ak)}:RS)
        let Iy:=aX (ah 46 cA [(0,D.int .i64 6),(2,(cD 1 x)),(4,(cD 4 x))]) T9
        Iy)))))
   else(
    let TS:=(qc (cD 10 x).ab 1 1048576)
    if((((cD 9 x).ab==((aY.2.bc:List D).length:Int))&&(decide ((((cD 15 x).ak:List D).length:Int)≤(IntKind.i64.wrap ((cD 10 x).ab-((aY.2.bc:List D).length:Int))))))&&TS) then(
     let Cd:=(iU (cD 4 x).ab (cD 5 x).ab)
     if(cD 0 Cd).dT then(
      let Mm:=(dL (D.agg [(cD 13 x),(cD 14 x)]))
      let OW:=aX (ah 46 cA [(0,D.int .i64 6),(2,(cD 1 x)),(4,(cD 4 x)),(9,D.int .i64 (((aY.2.bc++(cD 15 x).ak):List D).length:Int)),(10,D.int .i64 (ay 1 (cD 10 x).ab))]) ({aY.2 with bc:=(aY.2.bc++(cD 15 x).ak)}:RS)
      OW)
     else(
      let Mm:=(dL (D.agg [(cD 13 x),(cD 14 x)]))
      if(((((((aY.2.bc++(cD 15 x).ak):List D).length:Int) !=(cD 10 x).ab)||(decide ((cD 10 x).ab<1)))&&true)||(!Mm)) then(
       let OW:=aX (ah 46 cA [(0,D.int .i64 6),(2,(cD 1 x)),(4,(cD 4 x)),(9,D.int .i64 (((aY.2.bc++(cD 15 x).ak):List D).length:Int)),(10,D.int .i64 (ay 1 (cD 10 x).ab))]) ({aY.2 with bc:=(aY.2.bc++(cD 15 x).ak)}:RS)
       OW)
      else(
       let qt:=(du (D.agg [(cD 13 x),(cD 14 x)]))
       let It:=(fN aY.2.li aY.2.lt aY.2.le (cD 4 x).ab)
       if((It.2==0)&&(It.1==(cD 5 x).ab)) then(
        let IA:=lu aY.2.li aY.2.lt aY.2.le (cD 4 x).ab
        let zK:=(qk (D.agg [(cD 4 x),(cD 5 x),(cD 0 qt),(cD 1 qt),D.list (aY.2.bc++(cD 15 x).ak)]))
        let Ix:=dQ ({aY.2 with gg:=(D.ptr [(cD 0 zK),(cD 1 zK),(cD 2 zK),(cD 3 zK),(cD 4 zK)]),iK:=(cD 4 x).ab,ff:=(cD 5 x).ab,sv:=(cD 0 qt).ak,sl:=(cD 1 qt).ak,au:=(aY.2.bc++(cD 15 x).ak),aJ:=(cD 4 x).ab,eL:=0,eM:=0,dh:=0,iB:=0,dg:=0,bc:=[],li:=IA.2.1,lt:=IA.2.2.1,le:=IA.2.2.2}:RS)
        let agc:=aX (ah 46 cA [(0,D.int .i64 6),(2,(cD 1 x)),(4,(cD 4 x))]) Ix
        agc)
       else(
        let zL:=(qk (D.agg [(cD 4 x),(cD 5 x),(cD 0 qt),(cD 1 qt),D.list (aY.2.bc++(cD 15 x).ak)]))
        let Iy:=dQ ({aY.2 with gg:=(D.ptr [(cD 0 zL),(cD 1 zL),(cD 2 zL),(cD 3 zL),(cD 4 zL)]),iK:=(cD 4 x).ab,ff:=(cD 5 x).ab,sv:=(cD 0 qt).ak,sl:=(cD 1 qt).ak,au:=(aY.2.bc++(cD 15 x).ak),aJ:=(cD 4 x).ab,eL:=0,eM:=0,dh:=0,iB:=0,dg:=0,bc:=[],li:=((cD 0 (cD 1 Cd)).ab),lt:=((cD 1 (cD 1 Cd)).ab),le:=((cD 2 (cD 1 Cd)).ak)}:RS)
        let agd:=aX (ah 46 cA [(0,D.int .i64 6),(2,(cD 1 x)),(4,(cD 4 x))]) Iy
        agd))))
    else(
     let Cf:=(iU (cD 4 x).ab (cD 5 x).ab)
     if(cD 0 Cf).dT then(
      let Mo:=(dL (D.agg [(cD 13 x),(cD 14 x)]))
      let OX:=aX (ah 46 cA [(0,D.int .i64 6),(2,(cD 1 x)),(4,(cD 4 x)),(9,D.int .i64 ((aY.2.bc:List D).length:Int)),(10,D.int .i64 (ay 1 (cD 10 x).ab))]) aY.2
      OX)
     else(
      let Mo:=(dL (D.agg [(cD 13 x),(cD 14 x)]))
      if((((((aY.2.bc:List D).length:Int) !=(cD 10 x).ab)||(decide ((cD 10 x).ab<1)))&&true)||(!Mo)) then(
       let OX:=aX (ah 46 cA [(0,D.int .i64 6),(2,(cD 1 x)),(4,(cD 4 x)),(9,D.int .i64 ((aY.2.bc:List D).length:Int)),(10,D.int .i64 (ay 1 (cD 10 x).ab))]) aY.2
       OX)
      else(
       let qv:=(du (D.agg [(cD 13 x),(cD 14 x)]))
       let lE:=(fN aY.2.li aY.2.lt aY.2.le (cD 4 x).ab)
       if((lE.2==0)&&(lE.1==(cD 5 x).ab)) then(
        let IC:=lu aY.2.li aY.2.lt aY.2.le (cD 4 x).ab
        let zO:=(qk (D.agg [(cD 4 x),(cD 5 x),(cD 0 qv),(cD 1 qv),D.list aY.2.bc]))
        let Ua:=dQ ({aY.2 with gg:=(D.ptr [(cD 0 zO),(cD 1 zO),(cD 2 zO),(cD 3 zO),(cD 4 zO)]),iK:=(cD 4 x).ab,ff:=(cD 5 x).ab,sv:=(cD 0 qv).ak,sl:=(cD 1 qv).ak,au:=aY.2.bc,aJ:=(cD 4 x).ab,eL:=0,eM:=0,dh:=0,iB:=0,dg:=0,bc:=[],li:=IC.2.1,lt:=IC.2.2.1,le:=IC.2.2.2}:RS)
        let age:=aX (ah 46 cA [(0,D.int .i64 6),(2,(cD 1 x)),(4,(cD 4 x))]) Ua
        age)
       else(
        let zP:=(qk (D.agg [(cD 4 x),(cD 5 x),(cD 0 qv),(cD 1 qv),D.list aY.2.bc]))
        let Ub:=dQ ({aY.2 with gg:=(D.ptr [(cD 0 zP),(cD 1 zP),(cD 2 zP),(cD 3 zP),(cD 4 zP)]),iK:=(cD 4 x).ab,ff:=(cD 5 x).ab,sv:=(cD 0 qv).ak,sl:=(cD 1 qv).ak,au:=aY.2.bc,aJ:=(cD 4 x).ab,eL:=0,eM:=0,dh:=0,iB:=0,dg:=0,bc:=[],li:=((cD 0 (cD 1 Cf)).ab),lt:=((cD 1 (cD 1 Cf)).ab),le:=((cD 2 (cD 1 Cf)).ak)}:RS)
        let agf:=aX (ah 46 cA [(0,D.int .i64 6),(2,(cD 1 x)),(4,(cD 4 x))]) Ub
        agf)))))))
def eD(x:D)(s:RS):D×RS:=
 let x76:=(qc (cD 1 x).ab 1 5)
 let n6:=(qc (cD 3 x).ab 1 1099511627776)
 let Zs:=(cI (cD 12 x).ak)
 if(((decide ((cD 5 x).ab>(cD 3 x).ab))||((decide ((((cD 12 x).ak:List D).length:Int)>0))&&(decide (((cD 1 (((cD 12 x).ak).getD ((IntKind.i64.wrap ((((cD 12 x).ak:List D).length:Int)-1)):Int).toNat .top)).ab)>(cD 3 x).ab))))||(!Zs)) then(
  let agq:=cE s
  (ah 8 agq.1 [],agq.2))
 else(
  if(((!(((((cD 2 x).ab==s.id)&&((cD 1 x).ab !=s.id))&&x76)&&n6))||(decide ((cD 0 x).ab<1)))||(decide ((cD 0 x).ab>6))) then(
   let agr:=cE s
   (ah 8 agr.1 [],agr.2))
  else(
   if decide ((cD 3 x).ab>s.term) then(
    let kW:=iE (cD 3 x).ab 0 s
    if decide ((cD 3 x).ab<kW.term) then(
     let OZ:=gR (ah 46 x []) kW
     let Gc:=cE OZ
     (ah 8 Gc.1 [],Gc.2))
    else(
     if((cD 0 x).ab==1) then(
      let Gb:=uQ (ah 46 x []) kW
      let zS:=cE Gb
      (ah 8 zS.1 [],zS.2))
     else(
      if((cD 0 x).ab==2) then(
       let zS:=pq (ah 46 x []) kW
       let zR:=cE zS
       (ah 8 zR.1 [],zR.2))
      else(
       if((cD 0 x).ab==3) then(
        let zR:=lW (ah 46 x []) kW
        let zQ:=cE zR
        (ah 8 zQ.1 [],zQ.2))
       else(
        if((cD 0 x).ab==4) then(
         let zQ:=iF (ah 46 x []) kW
         let Ga:=cE zQ
         (ah 8 Ga.1 [],Ga.2))
        else(
         if((cD 0 x).ab==5) then(
          let Ga:=uR (ah 46 x []) kW
          let OY:=cE Ga
          (ah 8 OY.1 [],OY.2))
         else(
          if((cD 0 x).ab==6) then(
           let OY:=jX (ah 46 x []) kW
           let agj:=cE OY
           (ah 8 agj.1 [],agj.2))
          else(
           let agk:=cE kW
           (ah 8 agk.1 [],agk.2)))))))))
   else(
    if decide ((cD 3 x).ab<s.term) then(
     let agn:=gR (ah 46 x []) s
     let agm:=cE agn
     (ah 8 agm.1 [],agm.2))
    else(
     if((cD 0 x).ab==1) then(
      let OZ:=uQ (ah 46 x []) s
      let Gc:=cE OZ
      (ah 8 Gc.1 [],Gc.2))
     else(
      if((cD 0 x).ab==2) then(
       let Gc:=pq (ah 46 x []) s
       let Gb:=cE Gc
       (ah 8 Gb.1 [],Gb.2))
      else(
       if((cD 0 x).ab==3) then(
        let Gb:=lW (ah 46 x []) s
        let zS:=cE Gb
        (ah 8 zS.1 [],zS.2))
       else(
        if((cD 0 x).ab==4) then(
         let zS:=iF (ah 46 x []) s
         let zR:=cE zS
         (ah 8 zR.1 [],zR.2))
        else(
         if((cD 0 x).ab==5) then(
          let zR:=uR (ah 46 x []) s
          let zQ:=cE zR
          (ah 8 zQ.1 [],zQ.2))
         else(
          if((cD 0 x).ab==6) then(
           let zQ:=jX (ah 46 x []) s
           let Ga:=cE zQ
           (ah 8 Ga.1 [],Ga.2))
          else(
           let agl:=cE s
           (ah 8 agl.1 [],agl.2)))))))))))
def RL(t84:RS):D×RS:=
 let agp:=cE t84
 (ah 8 agp.1 [],agp.2)
def AP(n6:List D)(i84:Int)(t84:RS):(Int×RS)⊕(D×RS):=
 if decide (i84<((n6:List D).length:Int)) then(
  let ago:=cq ((((n6).getD (i84:Int).toNat .top)).ab) t84
  .inl ((IntKind.i64.wrap (i84+1)),ago))
 else .inr (RL t84)
def GZ(n6:List D)(i84:Int)(t84:RS):Nat:=n6.length-i84.toNat
def mQ(n6:List D)(i84:Int)(t84:RS):D×RS:=gI (fun a:Int×RS=>AP n6 a.1 a.2) (.top,aW) (GZ n6 i84 t84+1) (i84,t84)
def js(x:Int)(s:RS):D×RS:=
 if(s.role==2) then(
  if decide ((IntKind.i64.wrap (s.wait+1))≥2) then(
   let L0:=(cH ({s with wait:=0}:RS))
   let n6:=(eO (ah 2 L0 []) ({s with wait:=0}:RS))
   mQ n6 0 ({s with wait:=0}:RS))
  else(
   let Tl:=cE ({s with wait:=(IntKind.i64.wrap (s.wait+1))}:RS)
   (ah 8 Tl.1 [],Tl.2)))
 else(
  if(s.end_==0) then(
   if decide (x<0) then(
    if decide ((IntKind.i64.wrap (s.wait+1))≥(IntKind.i64.wrap (10+((IntKind.i64.wrap (0-(IntKind.i64.wrap (x+1)))).tmod 10)))) then(
     let uC:=lO ({s with wait:=(IntKind.i64.wrap (s.wait+1)),end_:=(IntKind.i64.wrap (10+((IntKind.i64.wrap (0-(IntKind.i64.wrap (x+1)))).tmod 10)))}:RS)
     let V0:=(cH uC)
     let Zt:=(lI (ah 2 V0 []) uC.id)
     if(Zt&&(decide (uC.term<1099511627776))) then(
      let gk:=mM (ah 2 V0 []) uC
      let agt:=cE gk
      (ah 8 agt.1 [],agt.2))
     else(
      let O0:=cE uC
      (ah 8 O0.1 [],O0.2)))
    else(
     let uC:=cE ({s with wait:=(IntKind.i64.wrap (s.wait+1)),end_:=(IntKind.i64.wrap (10+((IntKind.i64.wrap (0-(IntKind.i64.wrap (x+1)))).tmod 10)))}:RS)
     (ah 8 uC.1 [],uC.2)))
   else(
    if decide ((IntKind.i64.wrap (s.wait+1))≥(IntKind.i64.wrap (10+(x.tmod 10)))) then(
     let HY:=lO ({s with wait:=(IntKind.i64.wrap (s.wait+1)),end_:=(IntKind.i64.wrap (10+(x.tmod 10)))}:RS)
     let x95:=(cH HY)
     let Zu:=(lI (ah 2 x95 []) HY.id)
     if(Zu&&(decide (HY.term<1099511627776))) then(
      let agu:=mM (ah 2 x95 []) HY
      let ID:=cE agu
      (ah 8 ID.1 [],ID.2))
     else(
      let agv:=cE HY
      (ah 8 agv.1 [],agv.2)))
    else(
     let HY:=cE ({s with wait:=(IntKind.i64.wrap (s.wait+1)),end_:=(IntKind.i64.wrap (10+(x.tmod 10)))}:RS)
     (ah 8 HY.1 [],HY.2))))
  else(
   if decide ((IntKind.i64.wrap (s.wait+1))≥s.end_) then(
    let DJ:=lO ({s with wait:=(IntKind.i64.wrap (s.wait+1))}:RS)
    let uq:=(cH DJ)
    let x94:=(lI (ah 2 uq []) DJ.id)
    if(x94&&(decide (DJ.term<1099511627776))) then(
     let agw:=mM (ah 2 uq []) DJ
     let mE:=cE agw
     (ah 8 mE.1 [],mE.2))
    else(
     let agx:=cE DJ
     (ah 8 agx.1 [],agx.2)))
   else(
    let DJ:=cE ({s with wait:=(IntKind.i64.wrap (s.wait+1))}:RS)
    (ah 8 DJ.1 [],DJ.2))))
theorem dV{l:List D}(h:bV (.bQ cY) l): ∃s:RS,l=encS s:=by
 obtain⟨_,_,rfl,⟨v0,rfl⟩,h1⟩:=aa.1 h
 obtain⟨_,_,rfl,⟨v1,rfl,_⟩,h2⟩:=aa.1 h1
 obtain⟨_,_,rfl,⟨v2,rfl,_⟩,h3⟩:=aa.1 h2
 obtain⟨_,_,rfl,⟨v3,rfl,_,_⟩,h4⟩:=aa.1 h3
 obtain⟨v4,_,rfl,_,h5⟩:=aa.1 h4
 obtain⟨_,_,rfl,⟨v5,rfl,_,_⟩,h6⟩:=aa.1 h5
 obtain⟨_,_,rfl,⟨v6,rfl,_,_⟩,h7⟩:=aa.1 h6
 obtain⟨_,_,rfl,⟨v7,rfl,_,_⟩,h8⟩:=aa.1 h7
 obtain⟨_,_,rfl,⟨v8,rfl,_⟩,h9⟩:=aa.1 h8
 obtain⟨_,_,rfl,⟨v9,rfl,_,_⟩,Om⟩:=aa.1 h9
 obtain⟨_,_,rfl,⟨v10,rfl,_,_⟩,TN⟩:=aa.1 Om
 obtain⟨_,_,rfl,⟨v11,rfl,_⟩,h12⟩:=aa.1 TN
 obtain⟨_,_,rfl,⟨v12,rfl,_⟩,Ol⟩:=aa.1 h12
 obtain⟨_,_,rfl,⟨_,rfl,rfl⟩,h14⟩:=aa.1 Ol
 obtain⟨_,_,rfl,⟨v14,rfl,_⟩,h15⟩:=aa.1 h14
 obtain⟨_,_,rfl,⟨v15,rfl,_⟩,h16⟩:=aa.1 h15
 obtain⟨_,_,rfl,⟨v16,rfl,_,_⟩,h17⟩:=aa.1 h16
 obtain⟨_,_,rfl,⟨v17,rfl,_,_⟩,h18⟩:=aa.1 h17
 obtain⟨_,_,rfl,⟨v18,rfl,_,_⟩,h19⟩:=aa.1 h18
 obtain⟨_,_,rfl,⟨v19,rfl,_⟩,h20⟩:=aa.1 h19
 obtain⟨_,_,rfl,⟨v20,rfl,_⟩,h21⟩:=aa.1 h20
 obtain⟨_,_,rfl,⟨v21,rfl,_⟩,h22⟩:=aa.1 h21
 obtain⟨_,_,rfl,⟨v22,rfl,_⟩,h23⟩:=aa.1 h22
 obtain⟨_,_,rfl,⟨v23,rfl,_⟩,h24⟩:=aa.1 h23
 obtain⟨_,_,rfl,⟨v24,rfl,_,_⟩,h25⟩:=aa.1 h24
 obtain⟨_,_,rfl,⟨v25,rfl,_⟩,h26⟩:=aa.1 h25
 obtain⟨_,_,rfl,⟨v26,rfl,_⟩,h27⟩:=aa.1 h26
 obtain⟨_,_,rfl,⟨v27,rfl,_⟩,h28⟩:=aa.1 h27
 obtain⟨_,_,rfl,⟨v28,rfl,_⟩,h29⟩:=aa.1 h28
 obtain⟨_,_,rfl,⟨v29,rfl,_⟩,h30⟩:=aa.1 h29
 obtain⟨_,_,rfl,⟨v30,rfl,_⟩,h31⟩:=aa.1 h30
 obtain⟨_,_,rfl,⟨v31,rfl,_⟩,h32⟩:=aa.1 h31
 obtain⟨_,_,rfl,⟨v32,rfl,_⟩,h33⟩:=aa.1 h32
 obtain⟨_,_,rfl,⟨v33,rfl,_⟩,h34⟩:=aa.1 h33
 obtain⟨_,_,rfl,⟨v34,rfl,_⟩,h35⟩:=aa.1 h34
 obtain⟨_,_,rfl,⟨v35,rfl,_⟩,h36⟩:=aa.1 h35
 obtain⟨_,_,rfl,⟨v36,rfl,_⟩,h37⟩:=aa.1 h36
 obtain⟨_,_,rfl,⟨v37,rfl,_⟩,h38⟩:=aa.1 h37
 obtain⟨_,_,rfl,⟨v38,rfl,_⟩,h39⟩:=aa.1 h38
 obtain⟨_,_,rfl,⟨v39,rfl,_⟩,h40⟩:=aa.1 h39
 obtain⟨_,_,rfl,⟨v40,rfl,_⟩,h41⟩:=aa.1 h40
 obtain⟨_,_,rfl,⟨v41,rfl,_⟩,h42⟩:=aa.1 h41
 obtain⟨_,_,rfl,⟨v42,rfl,_⟩,h43⟩:=aa.1 h42
 obtain⟨_,_,rfl,⟨v43,rfl,_⟩,h44⟩:=aa.1 h43
 obtain⟨_,_,rfl,⟨v44,rfl,_,_⟩,h45⟩:=aa.1 h44
 obtain⟨_,_,rfl,⟨v45,rfl,_⟩,h46⟩:=aa.1 h45
 obtain⟨_,_,rfl,⟨v46,rfl,_⟩,h47⟩:=aa.1 h46
 obtain⟨_,_,rfl,⟨v47,rfl,_⟩,h48⟩:=aa.1 h47
 obtain⟨_,_,rfl,⟨v48,rfl,_⟩,h49⟩:=aa.1 h48
 obtain⟨_,_,rfl,⟨v49,rfl,_⟩,h50⟩:=aa.1 h49
 obtain⟨_,_,rfl,⟨v50,rfl,_,_⟩,h51⟩:=aa.1 h50
 obtain⟨_,_,rfl,⟨v51,rfl,_⟩,h52⟩:=aa.1 h51
 obtain⟨_,_,rfl,⟨v52,rfl,_⟩,h53⟩:=aa.1 h52
 obtain⟨_,_,rfl,⟨v53,rfl,_,_⟩,h54⟩:=aa.1 h53
 obtain rfl:=bE.1 h54
 exact⟨⟨v0,v1,v2,v3,v4,v5,v6,v7,v8,v9,v10,v11,v12,v14,v15,v16,v17,v18,v19,v20,v21,v22,v23,v24,v25,v26,v27,v28,v29,v30,v31,v32,v33,v34,v35,v36,v37,v38,v39,v40,v41,v42,v43,v44,v45,v46,v47,v48,v49,v50,v51,v52,v53⟩,rfl⟩
@[irreducible] def G (k:Nat):Nat:=k*4194304
theorem EJ(k:Nat):G (k+1)=G k+4194304:=by unfold G;rw[Nat.add_mul,Nat.one_mul]
theorem aii{j k:Nat}(h:j≤k):G j≤G k:=by unfold G;exact Nat.mul_le_mul_right _ h
structure bB(C:Nat)(s:RS)(k:Nat):Prop where
 may:de s.li s.lt s.le=true
 DL:1≤s.id
 DK:s.id≤5
 xM:s.le.length+k≤4194304
 nm:s.msgs.length+k≤4294967296
 ne:s.dt.length+k≤4294967296
 nc:s.bq.length+G k≤C
 nv:s.aE.length+k≤4294967296
 cf:dL (.agg [.list s.fv, .list s.fl])=true
 cs:0<s.li→dL (.agg [.list s.sv, .list s.sl])=true
 cl:cI s.le=true
 tm:0≤s.term
 tx:s.term≤MX
 rd:s.reads=[]
abbrev Ok(s:RS)(k:Nat):Prop:=bB 274877906944 s k
theorem ln{d:D}(h:Has tj d): ∃s:RS,d=Eb s:=by
 obtain⟨_,rfl,h0⟩:=fA.1 h
 obtain⟨_,_,rfl,⟨v0,rfl⟩,h1⟩:=aa.1 h0
 obtain⟨_,_,rfl,⟨v1,rfl,_⟩,h2⟩:=aa.1 h1
 obtain⟨_,_,rfl,⟨v2,rfl,_⟩,h3⟩:=aa.1 h2
 obtain⟨_,_,rfl,⟨v3,rfl,_,_⟩,h4⟩:=aa.1 h3
 obtain⟨v4,_,rfl,_,h5⟩:=aa.1 h4
 obtain⟨_,_,rfl,⟨v5,rfl,_,_⟩,h6⟩:=aa.1 h5
 obtain⟨_,_,rfl,⟨v6,rfl,_,_⟩,h7⟩:=aa.1 h6
 obtain⟨_,_,rfl,⟨v7,rfl,_,_⟩,h8⟩:=aa.1 h7
 obtain⟨_,_,rfl,⟨v8,rfl,_⟩,h9⟩:=aa.1 h8
 obtain⟨_,_,rfl,⟨v9,rfl,_,_⟩,Om⟩:=aa.1 h9
 obtain⟨_,_,rfl,⟨v10,rfl,_,_⟩,TN⟩:=aa.1 Om
 obtain⟨_,_,rfl,⟨v11,rfl,_⟩,h12⟩:=aa.1 TN
 obtain⟨_,_,rfl,⟨v12,rfl,_⟩,Ol⟩:=aa.1 h12
 obtain⟨_,_,rfl,⟨_,rfl,⟨_,_,rfl,⟨w0,rfl,_⟩,_,_,rfl,⟨w1,rfl,_⟩,_,_,rfl,⟨w2,rfl,_,_⟩,rfl⟩⟩,h14⟩:=aa.1 Ol
 obtain⟨_,_,rfl,⟨v14,rfl,_⟩,h15⟩:=aa.1 h14
 obtain⟨_,_,rfl,⟨v15,rfl,_⟩,h16⟩:=aa.1 h15
 obtain⟨_,_,rfl,⟨v16,rfl,_,_⟩,h17⟩:=aa.1 h16
 obtain⟨_,_,rfl,⟨v17,rfl,_,_⟩,h18⟩:=aa.1 h17
 obtain⟨_,_,rfl,⟨v18,rfl,_,_⟩,h19⟩:=aa.1 h18
 obtain⟨_,_,rfl,⟨v19,rfl,_⟩,h20⟩:=aa.1 h19
 obtain⟨_,_,rfl,⟨v20,rfl,_⟩,h21⟩:=aa.1 h20
 obtain⟨_,_,rfl,⟨v21,rfl,_⟩,h22⟩:=aa.1 h21
 obtain⟨_,_,rfl,⟨v22,rfl,_⟩,h23⟩:=aa.1 h22
 obtain⟨_,_,rfl,⟨v23,rfl,_⟩,h24⟩:=aa.1 h23
 obtain⟨_,_,rfl,⟨v24,rfl,_,_⟩,h25⟩:=aa.1 h24
 obtain⟨_,_,rfl,⟨v25,rfl,_⟩,h26⟩:=aa.1 h25
 obtain⟨_,_,rfl,⟨v26,rfl,_⟩,h27⟩:=aa.1 h26
 obtain⟨_,_,rfl,⟨v27,rfl,_⟩,h28⟩:=aa.1 h27
 obtain⟨_,_,rfl,⟨v28,rfl,_⟩,h29⟩:=aa.1 h28
 obtain⟨_,_,rfl,⟨v29,rfl,_⟩,h30⟩:=aa.1 h29
 obtain⟨_,_,rfl,⟨v30,rfl,_⟩,h31⟩:=aa.1 h30
 obtain⟨_,_,rfl,⟨v31,rfl,_⟩,h32⟩:=aa.1 h31
 obtain⟨_,_,rfl,⟨v32,rfl,_⟩,h33⟩:=aa.1 h32
 obtain⟨_,_,rfl,⟨v33,rfl,_⟩,h34⟩:=aa.1 h33
 obtain⟨_,_,rfl,⟨v34,rfl,_⟩,h35⟩:=aa.1 h34
 obtain⟨_,_,rfl,⟨v35,rfl,_⟩,h36⟩:=aa.1 h35
 obtain⟨_,_,rfl,⟨v36,rfl,_⟩,h37⟩:=aa.1 h36
 obtain⟨_,_,rfl,⟨v37,rfl,_⟩,h38⟩:=aa.1 h37
 obtain⟨_,_,rfl,⟨v38,rfl,_⟩,h39⟩:=aa.1 h38
 obtain⟨_,_,rfl,⟨v39,rfl,_⟩,h40⟩:=aa.1 h39
 obtain⟨_,_,rfl,⟨v40,rfl,_⟩,h41⟩:=aa.1 h40
 obtain⟨_,_,rfl,⟨v41,rfl,_⟩,h42⟩:=aa.1 h41
 obtain⟨_,_,rfl,⟨v42,rfl,_⟩,h43⟩:=aa.1 h42
 obtain⟨_,_,rfl,⟨v43,rfl,_⟩,h44⟩:=aa.1 h43
 obtain⟨_,_,rfl,⟨v44,rfl,_,_⟩,h45⟩:=aa.1 h44
 obtain⟨_,_,rfl,⟨v45,rfl,_⟩,h46⟩:=aa.1 h45
 obtain⟨_,_,rfl,⟨v46,rfl,_⟩,h47⟩:=aa.1 h46
 obtain⟨_,_,rfl,⟨v47,rfl,_⟩,h48⟩:=aa.1 h47
 obtain⟨_,_,rfl,⟨v48,rfl,_⟩,h49⟩:=aa.1 h48
 obtain⟨_,_,rfl,⟨v49,rfl,_⟩,h50⟩:=aa.1 h49
 obtain⟨_,_,rfl,⟨v50,rfl,_,_⟩,h51⟩:=aa.1 h50
 obtain rfl:=bE.1 h51
 exact⟨⟨v0,v1,v2,v3,v4,v5,v6,v7,v8,v9,v10,v11,v12,v14,v15,v16,v17,v18,v19,v20,v21,v22,v23,v24,v25,v26,v27,v28,v29,v30,v31,v32,v33,v34,v35,v36,v37,v38,v39,v40,v41,v42,v43,v44,v45,v46,v47,v48,v49,v50,w0,w1,w2⟩,rfl⟩
def aK(f:Nat)(ds:List D):D:=
 let a:=ds.getD 0 .top;let b:=ds.getD 1 .top;let c:=ds.getD 2 .top;let d:=ds.getD 3 .top
 match f with
 |79=> .int .i64 (findF (fun y=>y==b.ab) (fP a) 0)
 |56=> .bool (decide (b.ab∈fP a))
 |61=>vQ ds
 |82=>zp ds
 |83=>zA ds
 |55=> .bool (qz 0 (fP a))
 |21=> .bool (zU (vo a) (lr a))
 |36=> .bool (decide (b.ab∈vo a))
 |63=> .list (fR a)
 |66=> .bool (II (vo a) (fP b))
 |72=> .int .i64 (rR a b)
 |70=> .bool (Mq (vo a) (lr a) (vo b) (lr b))
 |20=> .bool (qc a.ab b.ab c.ab)
 |52=>a
 |60=> .bool (wX (.fn 0 []) a)
 |80=> .int .i64 (findF (wX b) a.ak 0)
 |59=> .bool (mT a.ak b)
 |24=> .bool (cI a.ak)
 |26=>a
 |28=> .cW [.int .i64 (fh (cD 0 (ds.getD 0 .top)).ab (cD 1 (ds.getD 0 .top)).ab (cD 2 (ds.getD 0 .top)).ak).1, .int .i64 (fh (cD 0 (ds.getD 0 .top)).ab (cD 1 (ds.getD 0 .top)).ab (cD 2 (ds.getD 0 .top)).ak).2]
 |25=> .cW [.int .i64 (dm (cD 0 (ds.getD 0 .top)).ab (cD 1 (ds.getD 0 .top)).ab (cD 2 (ds.getD 0 .top)).ak).1, .int .i64 (dm (cD 0 (ds.getD 0 .top)).ab (cD 1 (ds.getD 0 .top)).ab (cD 2 (ds.getD 0 .top)).ak).2]
 |50=> .cW [.int .i64 (fN (cD 0 (ds.getD 0 .top)).ab (cD 1 (ds.getD 0 .top)).ab (cD 2 (ds.getD 0 .top)).ak (ds.getD 1 .top).ab).1, .int .i64 (fN (cD 0 (ds.getD 0 .top)).ab (cD 1 (ds.getD 0 .top)).ab (cD 2 (ds.getD 0 .top)).ak (ds.getD 1 .top).ab).2]
 |74=> .bool (Jy (cD 0 (ds.getD 0 .top)).ab (cD 1 (ds.getD 0 .top)).ab (cD 2 (ds.getD 0 .top)).ak (ds.getD 1 .top).ab (ds.getD 2 .top).ab)
 |65=>US ds
 |49=>(z7 (ds.getD 1 .top).ab (td (ds.getD 0 .top)))
 |29=>(cH (td (ds.getD 0 .top)))
 |32=> .list (eO (ds.getD 1 .top) (td (ds.getD 0 .top)))
 |76=> .bool (rL (ds.getD 1 .top).ab (td (ds.getD 0 .top)))
 |69=> .bool (rZ (td (ds.getD 0 .top)))
 |68=> .bool (vG (td (ds.getD 0 .top)))
 |38=> .int .i64 (agB (ds.getD 1 .top) (td (ds.getD 0 .top)))
 |12=>(Lu (td (ds.getD 0 .top)))
 |57=> .bool (qc a.ab b.ab c.ab)
 |58=> .bool (de a.ab b.ab c.ak)
 |23=> .cW [.cW [.int .i64 (jj (ds.getD 3 .top).ab (ds.getD 4 .top).ab (ds.getD 5 .top).ak a.ab b.ab c.ak).1, .bool (np (ds.getD 3 .top).ab (ds.getD 4 .top).ab (ds.getD 5 .top).ak a.ab b.ab c.ak)],su (ds.getD 3 .top).ab (ds.getD 4 .top).ab (jj (ds.getD 3 .top).ab (ds.getD 4 .top).ab (ds.getD 5 .top).ak a.ab b.ab c.ak).2]
 |71=> .cW [.cW [DZ (ds.getD 2 .top).ab (ds.getD 3 .top).ab (ds.getD 4 .top).ak a.ab b, .int .i64 (tc (ds.getD 2 .top).ab (ds.getD 3 .top).ab (ds.getD 4 .top).ak a.ab)],su (ds.getD 2 .top).ab (ds.getD 3 .top).ab (tL (ds.getD 2 .top).ab (ds.getD 3 .top).ab (ds.getD 4 .top).ak a.ab b)]
 |51=> .cW [.int .i64 (C2 (ds.getD 1 .top).ab (ds.getD 3 .top).ak a.ab),su (iW (ds.getD 1 .top).ab (ds.getD 2 .top).ab (ds.getD 3 .top).ak a.ab).1 (iW (ds.getD 1 .top).ab (ds.getD 2 .top).ab (ds.getD 3 .top).ak a.ab).2.1 (iW (ds.getD 1 .top).ab (ds.getD 2 .top).ab (ds.getD 3 .top).ak a.ab).2.2]
 |53=>dF (dQ (fE (ds.drop 0)))
 |35=>dF (lO (fE (ds.drop 0)))
 |64=>dF (aX (ds.getD 0 .top) (fE (ds.drop 1)))
 |41=>dF (iE (ds.getD 0 .top).ab (ds.getD 1 .top).ab (fE (ds.drop 2)))
 |34=>zZ (cE (fE (ds.drop 0)))
 |39=>Lg (DY (ds.getD 0 .top) (fE (ds.drop 1)))
 |33=>dF (cq (ds.getD 0 .top).ab (fE (ds.drop 1)))
 |84=> .bool (qT a)
 |73=>GJ (iq (ds.getD 0 .top).ab (fE (ds.drop 1)))
 |40=>dF (fx (fE (ds.drop 0)))
 |67=>dF (xU (fE (ds.drop 0)))
 |37=>dF (mM (ds.getD 0 .top) (fE (ds.drop 1)))
 |42=>dF (gR (ds.getD 0 .top) (fE (ds.drop 1)))
 |43=>dF (uQ (ds.getD 0 .top) (fE (ds.drop 1)))
 |44=>dF (pq (ds.getD 0 .top) (fE (ds.drop 1)))
 |75=>GJ (ik (ds.getD 0 .top) (fE (ds.drop 1)))
 |45=>dF (lW (ds.getD 0 .top) (fE (ds.drop 1)))
 |77=>dF (iG (ds.getD 0 .top) (fE (ds.drop 1)))
 |78=>dF (ou (ds.getD 0 .top).ab (ds.getD 1 .top).ab (fE (ds.drop 2)))
 |46=>dF (iF (ds.getD 0 .top) (fE (ds.drop 1)))
 |48=>dF (jX (ds.getD 0 .top) (fE (ds.drop 1)))
 |27=>qk a
 |47=>dF (uR (ds.getD 0 .top) (fE (ds.drop 1)))
 |17=>zZ (eD (ds.getD 0 .top) (fE (ds.drop 1)))
 |15=>zZ (js (ds.getD 0 .top).ab (fE (ds.drop 1)))
 |81=> .bool (decide (fP a=fP b))
 |62=> .bool (decide (vo a=vo b)&&decide (lr a=lr b))
 |31=> .bool (Px a b)
 |8=> .int .i64 (mH a.ab b.ab)
 |22=>iU a.ab b.ab
 |_=> .bool true
def pre(f:Nat)(ds:List D):Prop:=
 let a:=ds.getD 0 .top;let b:=ds.getD 1 .top;let c:=ds.getD 2 .top;let d:=ds.getD 3 .top
 match f with
 |63=>((vo a).length+(lr a).length)*8≤140737488355328
 |25=>de (cD 0 a).ab (cD 1 a).ab (cD 2 a).ak=true
 |50=>de (cD 0 a).ab (cD 1 a).ab (cD 2 a).ak=true
 |74=>de (cD 0 a).ab (cD 1 a).ab (cD 2 a).ak=true
 |65=>ap6 ds
 |49=>Ok (td a) 0
 |29=>Ok (td a) 0
 |32=>Ok (td a) 0∧dL b=true
 |76=>Ok (td a) 0
 |69=>Ok (td a) 0
 |68=>Ok (td a) 0
 |38=>Ok (td a) 0
 |12=>Ok (td a) 0
 |23=>de (ds.getD 3 .top).ab (ds.getD 4 .top).ab (ds.getD 5 .top).ak=true∧(ds.getD 5 .top).ak.length<4294967296∧(ds.getD 2 .top).ak.length<4294967296
 |71=>de (ds.getD 2 .top).ab (ds.getD 3 .top).ab (ds.getD 4 .top).ak=true∧(ds.getD 4 .top).ak.length<4294967296
 |51=>de (ds.getD 1 .top).ab (ds.getD 2 .top).ab (ds.getD 3 .top).ak=true
 |64=>Ok (fE (ds.drop 1)) 1
 |39=>Ok (fE (ds.drop 1)) 1
 |33=>Ok (fE (ds.drop 1)) 1∧0≤a.ab∧a.ab≤5
 |73=>Ok (fE (ds.drop 1)) 1
 |40=>Ok (fE (ds.drop 0)) 1
 |67=>Ok (fE (ds.drop 0)) 13
 |37=>Ok (fE (ds.drop 1)) 14∧dL a=true∧(fE (ds.drop 1)).term<MX
 |42=>Ok (fE (ds.drop 1)) 1
 |43=>Ok (fE (ds.drop 1)) 1
 |44=>Ok (fE (ds.drop 1)) 15
 |45=>Ok (fE (ds.drop 1)) (4+(cD 12 a).ak.length)∧(cD 12 a).ak.length≤2147483648∧cI (cD 12 a).ak=true
 |77=>Ok (fE (ds.drop 1)) 0
 |78=>Ok (fE (ds.drop 2)) 2∧0≤a.ab∧a.ab≤5
 |46=>Ok (fE (ds.drop 1)) 4∧0≤(cD 1 a).ab∧(cD 1 a).ab≤5
 |48=>Ok (fE (ds.drop 1)) 4∧0≤(cD 1 a).ab∧(cD 1 a).ab≤5
 |47=>Ok (fE (ds.drop 1)) 2
 |17=>Ok (fE (ds.drop 1)) (20+(cD 12 a).ak.length)∧(cD 12 a).ak.length≤2147483648
 |15=>Ok (fE (ds.drop 1)) 20
 |8=>b.ab≠0
 |_=>True
def agC:List Nat:=[8,12,15,17,23,25,29,32,33,37,38,39,40,42,43,44,45,46,47,48,49,50,51,63,64,65,67,68,69,71,73,74,76,77,78]
theorem mix:Try.prog.follows .mixedOrders=true:=by kernel_rfl
section
variable(l r v w:List Int)(b:Int)
theorem aa7:aK 56 [.list (l.map (D.int .i64)), .int .i64 b] = .bool (decide (b∈l)):=by simp[aK,cK,aQ]
theorem aru:aK 61 [.list (l.map (D.int .i64))] = .list (l.map (D.int .i64)):=rfl
theorem ah5:aK 82 [.list (l.map (D.int .i64))] = .list ((iI l).map (D.int .i64)):=by simp[aK,zp,cK]
theorem akE:aK 82 [.list (l.map (D.int .i64)++r.map (D.int .i64))] = .list ((iI (l++r)).map (D.int .i64)):=by rw[←List.map_append];exact ah5 _
theorem art:aK 83 [.list (l.map (D.int .i64))] = .list ((Lib.compact l).map (D.int .i64)):=by simp[aK,zA,cK]
theorem arn:aK 55 [.list (l.map (D.int .i64))] = .bool (qz 0 l):=by simp[aK,cK]
theorem ah8:aK 21 [.agg [.list (v.map (D.int .i64)), .list (l.map (D.int .i64))]] = .bool (zU v l):=by simp[aK,xS,Gs]
theorem ah4:aK 36 [.agg [.list (v.map (D.int .i64)), .list (l.map (D.int .i64))], .int .i64 b] = .bool (decide (b∈v)):=by simp[aK,xS,aQ]
theorem arp:aK 63 [.agg [.list (v.map (D.int .i64)), .list (l.map (D.int .i64))]] = .list ((Ge v l).map (D.int .i64)):=by simp[aK,fR,Jv,xS,Gs]
theorem arq:aK 66 [.agg [.list (v.map (D.int .i64)), .list (l.map (D.int .i64))], .list (r.map (D.int .i64))] = .bool (II v r):=by simp[aK,xS,cK]
theorem arw:aK 72 [.agg [.list (v.map (D.int .i64)), .list (l.map (D.int .i64))], .list (r.map (D.int .i64))] = .int .i64 (uO v r):=by simp[aK,rR,abl,xS,cK]
theorem ark:aK 70 [.agg [.list (v.map (D.int .i64)), .list (l.map (D.int .i64))], .agg [.list (w.map (D.int .i64)), .list (r.map (D.int .i64))]] = .bool (Mq v l w r):=by simp[aK,xS,Gs]
theorem ars:aK 81 [.list (l.map (D.int .i64)), .list (r.map (D.int .i64))] = .bool (decide (l=r)):=by simp[aK,cK]
theorem akH:aK 62 [.agg [.list (v.map (D.int .i64)), .list (l.map (D.int .i64))], .agg [.list (w.map (D.int .i64)), .list (r.map (D.int .i64))]] = .bool (decide (v=w)&&decide (l=r)):=by simp[aK,xS,Gs]
end
def triv(f:Nat):Bool:= !(agC.contains f)
theorem bC: ∀f a,triv f=true→pre f a:=by
 intro f a h
 unfold pre
 split<;>first|trivial|(simp[triv,agC]at h)
end Go.Proofs.Ytjhmkaninmgilaa
