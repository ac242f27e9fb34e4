/- Part 5 of the proof of RaftOne; no condition. -/
import Derived.Test.YtjhmkaninmgilaaS04
import Derived.KernelRfl
import Derived.Test.YtjhmkaninmgilaaProg
set_option linter.unusedVariables false
set_option linter.unusedSimpArgs false
set_option maxHeartbeats 4000000
open Go.IntKind (i64)
namespace Go.Proofs.Ytjhmkaninmgilaa
open Go Go.RowKit Go.dV Go.Proofs
theorem yH{d:D}(h:Has (.list (.int .i64)) d): ∃l:List Int,d= .list (l.map (D.int .i64))∧l.length*8≤140737488355328∧ ∀x∈l,-9223372036854775808≤x∧x≤9223372036854775807:=by
 obtain⟨l,rfl,_,h2⟩:=bK.1 h
 obtain⟨zs,rfl⟩:=vu h2
 obtain⟨h3,h4⟩:=rT.1 h
 exact⟨zs,rfl,h3,fun x hx=>xd.1 (h4 x hx)⟩
theorem yM{d:D}(h:Has pj d): ∃v l:List Int,d= .agg [.list (v.map (D.int .i64)),.list (l.map (D.int .i64))] ∧v.length*8≤140737488355328∧(∀x∈v,-9223372036854775808≤x∧x≤9223372036854775807)∧l.length*8≤140737488355328∧ ∀x∈l,-9223372036854775808≤x∧x≤9223372036854775807:=by
 obtain⟨_,rfl,_,_,rfl,h1,_,_,rfl,h2,rfl⟩:=h
 obtain⟨v,rfl,a1,a2⟩:=yH h1
 obtain⟨l,rfl,b1,b2⟩:=yH h2
 exact⟨v,l,rfl,a1,a2,b1,b2⟩
def uA:Int→List Int→Bool
 |_,[] =>true
 |p,x::r=>(decide (1≤x)&&decide (x≤5)&&decide (p<x))&&uA x r
def yF:Int→List Int→Int
 |p,[] =>p
 |_,x::r=>yF x r
theorem tw: ∀{a b:List Int} {p:Int},yF p (a++b)=yF (yF p a) b
 | [],_,_=>rfl
 |x::a,b,_=>by simp only[er,yF,tw (a:=a)]
def vo(d:D):List Int:=jR (d.aV.getD 0 .top)
def lr(d:D):List Int:=jR (d.aV.getD 1 .top)
theorem AW(v l:List Int):vo (.agg [.list (v.map (D.int .i64)),.list (l.map (D.int .i64))])=v:=eX v
theorem JX(v l:List Int):lr (.agg [.list (v.map (D.int .i64)),.list (l.map (D.int .i64))])=l:=eX l
def CZ(v l:List Int):Bool:=uA 0 v&&uA 0 l&& !v.isEmpty&&decide (∀x∈l,x∉v)
def JE(v l:List Int):List Int:=Lib.compact (kT (v++l))
def B4(v yes:List Int):Nat:=v.countP fun x=>decide (x∈yes)
def L2(v yes:List Int):Bool:=decide ((v.length:Int)<2*(B4 v yes:Int))
def ov(m:List Int)(s:Int):Int:=if 1≤s∧s≤m.length then(if 0<m.getD (s-1).toNat 0 then m.getD (s-1).toNat 0 else 0) else 0
def xI(v m:List Int):Int:=if v=[] then 0 else(kT (v.map (ov m))).getD ((v.length-1)/2) 0
def B3(a b:List Int)(n:Nat):Nat:=(List.range n).countP fun s:Nat=>decide ((s:Int)∈a) !=decide ((s:Int)∈b)
def LS(va la vb lb:List Int):Bool:=CZ va la&&CZ vb lb&&decide (B3 va vb 6≤1)
theorem Rl(a b:List Int)(n:Nat):B3 a b (n+1)=B3 a b n+(if decide ((n:Int)∈a) !=decide ((n:Int)∈b) then 1 else 0):=by
 unfold B3;rw[List.range_succ,List.countP_append];simp[List.countP_cons]
theorem ZG(a b:List Int)(n:Nat):B3 a b n≤n:=by
 unfold B3;have:=List.countP_le_length (p:=fun s:Nat=>decide ((s:Int)∈a) !=decide ((s:Int)∈b)) (l:=List.range n);simpa using this
theorem ZJ(v y:List Int):B4 v y≤v.length:=List.countP_le_length
theorem Rr{v y:List Int}{n:Nat}{x:Int}(h:v[n]? =some x):B4 (v.take (n+1)) y=B4 (v.take n) y+(if x∈y then 1 else 0):=by
 unfold B4;rw[dj,h,eY,List.countP_append];simp[List.countP_cons]
theorem yY(v m:List Int):(kT (v.map (ov m))).length=v.length:=by rw[rW,aw]
theorem DT: ∀{l:List Int} {p:Int},0≤p→uA p l=true→(l.length:Int)≤max 0 (5-p)
 | [],p,_,_=>by simp;omega
 |x::r,p,hp,h=>by
  simp only[uA,bc,bQ]at h
  obtain⟨⟨⟨h1,h2⟩,h3⟩,h4⟩:=h
  have:=DT (by omega) h4
  simp only[bM];omega
theorem Kz{v l:List Int}:CZ v l=true↔uA 0 v=true∧uA 0 l=true∧v≠ [] ∧ ∀x∈l,x∉v:=by
 simp[CZ,and_assoc]
theorem DS: ∀{l:List Int} {p:Int},uA p l=true→ ∀x∈l,1≤x∧x≤5
 | [],_,_,x,hx=>by simp at hx
 |y::r,p,h,x,hx=>by
  simp only[uA,bc,bQ]at h
  obtain⟨⟨⟨h1,h2⟩,_⟩,h4⟩:=h
  rcases aM.1 hx with rfl|hx
  ·exact⟨h1,h2⟩
  ·exact DS h4 x hx
def Ad:List Int→Int→List Int
 | [],n=> [n]
 |x::r,n=>if x<n then x::Ad r n else if x=n then x::r else n::x::r
def Of(v l:List Int):List Int:=l.foldl Ad (v.foldl Ad [])
theorem zr(l:List Int):(kT l).Pairwise (· ≤ ·):=by
 have:=List.pairwise_mergeSort (le:=fun x y:Int=>decide (x≤y)) (by intro a b c h1 h2;simp only[bQ]at*;omega) (by intro a b;simp only[fB,bQ];omega) l
 exact this.imp (by intro a b h;simpa using h)
theorem No(l:List Int):(kT l).Perm l:=List.mergeSort_perm l _
theorem Q8{d:Array Int}{m:Nat}(h:Lib.keeps d m=false):0<m∧d[m]! =d[m-1]! :=by
 refine⟨?_,?_⟩
 ·rcases Nat.eq_zero_or_pos m with h0|h0
  ·rw[Lib.keeps_lt_one d m (by omega)]at h;cases h
  ·exact h0
 ·by_cases e:d[m]! =d[m-1]!
  ·exact e
  ·rw[Lib.keeps_pos e]at h;cases h
theorem pf{d:Array Int}: ∀{m j:Nat},j<m→d[j]! ∈Lib.compactUpTo d m
 |0,j,h=>by omega
 |m+1,j,h=>by
  rw[Lib.compactUpTo_succ]
  rcases Nat.lt_or_ge j m with h'|h'
  ·exact aC _ (pf h')
  ·obtain rfl:j=m:=by omega
   cases hk:Lib.keeps d j with
   |true=>exact bC _ (by simp)
   |false=>
    obtain⟨h1,h2⟩:=Q8 hk
    rw[h2];exact aC _ (pf (by omega))
theorem Cd{l:List Int}{x:Int}:x∈Lib.compact l↔x∈l:=by
 refine⟨Bn,fun h=> ?_⟩
 obtain⟨j,hj,rfl⟩:=gw h
 have:=pf (d:=l.toArray) (m:=l.length) hj
 rwa [getElem!_pos _ j (by simpa using hj)]at this
theorem Ky{v l:List Int}{x:Int}:x∈JE v l↔x∈v∨x∈l:=by
 rw[JE,Cd,AH,aS]
theorem ET{l:List Int}(hs:l.Pairwise (· ≤ ·)):(Lib.compact l).Pairwise (· < ·):=by
 have hle: ∀i j,i≤j→j<l.length→l.toArray[i]! ≤l.toArray[j]! :=by
  intro i j yp hj
  rw[getElem!_pos _ i (by simp;omega),getElem!_pos _ j (by simpa using hj)]
  rcases Nat.eq_or_lt_of_le yp with h|h
  ·subst h;exact cA _
  ·exact List.pairwise_iff_getElem.1 hs i j (by omega) hj h
 have key: ∀m,m≤l.length→(Lib.compactUpTo l.toArray m).Pairwise (· < ·)∧ ∀x∈Lib.compactUpTo l.toArray m,0<m∧x≤l.toArray[m-1]! :=by
  intro m
  induction m with
  |zero=>intro _;exact⟨by simp[Lib.compactUpTo],by simp[Lib.compactUpTo]⟩
  |succ m ih=>
   intro hm
   obtain⟨h1,h2⟩:=ih (by omega)
   rw[Lib.compactUpTo_succ]
   have hup: ∀x∈Lib.compactUpTo l.toArray m,x≤l.toArray[m]! :=fun x hx=>by
    obtain⟨q1,q2⟩:=h2 x hx
    exact Int.le_trans q2 (hle (m-1) m (by omega) (by omega))
   cases hk:Lib.keeps l.toArray m with
   |true=>
    rw[if_pos rfl]
    refine⟨?_,?_⟩
    ·rw[List.pairwise_append]
     refine⟨h1,by simp,fun x hx y hy=> ?_⟩
     rw[aA]at hy;subst hy
     obtain⟨q1,q2⟩:=h2 x hx
     have fY:l.toArray[m]! ≠l.toArray[m-1]! :=fun e=>by rw[Lib.keeps_neg q1 e]at hk;cases hk
     have:=hle (m-1) m (by omega) (by omega)
     omega
    ·intro x hx
     rcases aS.1 hx with hx|hx
     ·exact⟨by omega,hup x hx⟩
     ·rw[aA]at hx;subst hx;exact⟨by omega,cA _⟩
   |false=>
    rw[if_neg (by simp),cQ]
    exact⟨h1,fun x hx=>⟨by omega,hup x hx⟩⟩
 exact(key l.length (bn _)).1
theorem Em: ∀{a b:List Int},a.Pairwise (· < ·)→b.Pairwise (· < ·)→(∀x,x∈a↔x∈b)→a=b
 | [],[],_,_,_=>rfl
 | [],y::b,_,_,h=>by have:=(h y).2 (by simp);simp at this
 |x::a,[],_,_,h=>by have:=(h x).1 (by simp);simp at this
 |x::a,y::b,ha,hb,h=>by
  rw[gK]at ha hb
  have exy:x=y:=by
   have h1:=(h x).1 (by simp)
   have h2:=(h y).2 (by simp)
   rcases aM.1 h1 with h1|h1
   ·exact h1
   ·rcases aM.1 h2 with h2|h2
    ·exact h2.symm
    ·have:=hb.1 x h1;have:=ha.1 y h2;omega
  subst exy
  rw[Em ha.2 hb.2 (fun z=>⟨fun hz=>by
   rcases aM.1 ((h z).1 (aI _ hz)) with e|e
   ·have:=ha.1 z hz;omega
   ·exact e,fun hz=>by
   rcases aM.1 ((h z).2 (aI _ hz)) with e|e
   ·have:=hb.1 z hz;omega
   ·exact e⟩)]
theorem O6{b:Int}: ∀{l:List Int},l.Pairwise (· < ·)→(Ad l b).Pairwise (· < ·)∧ ∀x,x∈Ad l b↔x∈l∨x=b
 | [],_=>by simp[Ad]
 |y::r,h=>by
  rw[gK]at h
  obtain⟨h1,h2⟩:=O6 (b:=b) h.2
  unfold Ad
  split
  ·rename_i hy
   refine⟨gK.2 ⟨fun z hz=> ?_,h1⟩,fun x=> ?_⟩
   ·rcases (h2 z).1 hz with h3|h3
    ·exact h.1 z h3
    ·rw[h3];exact hy
   ·rw[aM,h2,aM];exact(or_assoc).symm
  ·split
   ·rename_i hy e
    subst e
    exact⟨gK.2 h,fun x=>⟨.inl,fun hx=>hx.elim id fun e=>by simp[e]⟩⟩
   ·rename_i hy e
    refine⟨gK.2 ⟨fun z hz=> ?_,gK.2 h⟩,fun x=> ?_⟩
    ·rcases aM.1 hz with rfl|hz
     ·omega
     ·have:=h.1 z hz;omega
    ·rw[aM];exact or_comm
theorem qi: ∀{v o:List Int},o.Pairwise (· < ·)→(v.foldl Ad o).Pairwise (· < ·)∧ ∀x,x∈v.foldl Ad o↔x∈o∨x∈v
 | [],o,h=>⟨h,by simp⟩
 |y::r,o,h=>by
  obtain⟨h1,h2⟩:=O6 (b:=y) h
  obtain⟨h3,h4⟩:=qi (v:=r) h1
  refine⟨h3,fun x=> ?_⟩
  show x∈r.foldl Ad (Ad o y)↔_
  rw[h4,h2,aM,or_assoc]
theorem QZ{v l:List Int}{x:Int}:x∈Of v l↔x∈v∨x∈l:=by
 have h1:=qi (v:=v) (o:=[]) List.Pairwise.nil
 have h2:=qi (v:=l) h1.1
 show x∈l.foldl Ad (v.foldl Ad [])↔_
 rw[h2.2,h1.2];simp
theorem K5(v l:List Int):(JE v l).Pairwise (· < ·):=ET (zr _)
theorem IF(v l:List Int):(Of v l).Pairwise (· < ·):=(qi (qi (v:=v) (o:=[]) List.Pairwise.nil).1).1
theorem MR(v l:List Int):JE v l=Of v l:=Em (K5 v l) (IF v l) fun x=>by rw[Ky,QZ]
def aja(m:List Int)(t:Int)(n:Nat):List Int:=((List.range n).filter fun i=>decide (t≤m.getD i 0)).map fun i:Nat=>(i:Int)+1
def PV(m:List Int)(t:Int):List Int:=aja m t m.length
theorem Wk{m:List Int}{t s:Int}:s∈PV m t↔1≤s∧s≤m.length∧t≤m.getD (s-1).toNat 0:=by
 unfold PV aja
 simp only[bB,List.mem_filter,cW,bQ]
 constructor
 ·rintro⟨i,⟨h1,h2⟩,rfl⟩
  exact⟨by omega,by omega,by rw[show((i:Int)+1-1).toNat=i by omega];exact h2⟩
 ·rintro⟨h1,h2,h3⟩
  exact⟨(s-1).toNat,⟨by omega,h3⟩,by omega⟩
theorem YD{m:List Int}{t s:Int}(ht:0<t):s∈PV m t↔t≤ov m s:=by
 rw[Wk];unfold ov
 split
 ·rename_i h
  split
  ·exact⟨fun h'=>h'.2.2,fun h'=>⟨h.1,h.2,h'⟩⟩
  ·exact⟨fun h'=>by omega,fun h'=>by omega⟩
 ·rename_i h
  exact⟨fun h'=>absurd ⟨h'.1,h'.2.1⟩ h,fun h'=>by omega⟩
theorem ZI{v m:List Int}{t:Int}(ht:0<t):B4 v (PV m t)=(kT (v.map (ov m))).countP fun x=>decide (t≤x):=by
 rw[(No _).countP_eq,List.countP_map]
 unfold B4
 congr 1
 funext s
 simp only[Function.comp_apply]
 rw[dB,bQ,bQ,YD ht]
theorem ID{L:List Int}(hs:L.Pairwise (· ≤ ·))(fY:L≠ [])(t:Int):t≤L.getD ((L.length-1)/2) 0↔L.length<2*L.countP fun x=>decide (t≤x):=by
 have ir:0<L.length:=List.length_pos_iff.2 fY
 have hj:(L.length-1)/2<L.length:=by omega
 have C4:L.getD ((L.length-1)/2) 0=L[(L.length-1)/2] :=by rw[av,aW hj];rfl
 rw[C4]
 generalize hjj:(L.length-1)/2=j at hj
 have hle: ∀i k (hi:i<L.length) (hk:k<L.length),i≤k→L[i] ≤L[k] :=by
  intro i k hi hk PM
  rcases Nat.eq_or_lt_of_le PM with h|h
  ·subst h;exact cA _
  ·exact List.pairwise_iff_getElem.1 hs i k hi hk h
 constructor
 ·intro h
  have e:L.countP (fun x=>decide (t≤x))=(L.take j).countP (fun x=>decide (t≤x))+(L.drop j).countP (fun x=>decide (t≤x)):=by rw[←List.countP_append,ev]
  have hd:(L.drop j).countP (fun x=>decide (t≤x))=(L.drop j).length:=by
   rw[List.countP_eq_length]
   intro x hx
   obtain⟨i,hi,rfl⟩:=gw hx
   rw[bF]at hi
   rw[List.getElem_drop,bQ]
   exact Int.le_trans h (hle j (j+i) hj (by omega) (by omega))
  rw[bF]at hd
  omega
 ·intro h
  rcases Int.lt_or_le L[j] t with h'|h'
  ·exfalso
   have e:L.countP (fun x=>decide (t≤x))=(L.take (j+1)).countP (fun x=>decide (t≤x))+(L.drop (j+1)).countP (fun x=>decide (t≤x)):=by rw[←List.countP_append,ev]
   have hd:(L.take (j+1)).countP (fun x=>decide (t≤x))=0:=by
    rw[List.countP_eq_zero]
    intro x hx
    obtain⟨i,hi,rfl⟩:=gw hx
    rw[bj]at hi
    rw[List.getElem_take,bQ]
    have:=hle i j (by omega) hj (by omega)
    omega
   have h3:=List.countP_le_length (p:=fun x=>decide (t≤x)) (l:=L.drop (j+1))
   rw[bF]at h3
   omega
  ·exact h'
theorem Pc{v m:List Int}{t:Int}(ht:0<t):L2 v (PV m t)=decide (t≤xI v m):=by
 unfold L2 xI
 rw[ZI ht]
 by_cases hv:v=[]
 ·subst hv;simp[kT];omega
 ·rw[if_neg hv]
  have fY:kT (v.map (ov m))≠ [] :=fun e=>by
   have:=yY v m;rw[e]at this;exact hv (au this.symm)
  have:=ID (zr (v.map (ov m))) fY t
  rw[yY]at this
  rw[dB,bQ,bQ,this]
  omega
theorem EJ(v m:List Int):0≤xI v m∧(0<xI v m→ ∃i,i<m.length∧m.getD i 0=xI v m):=by
 unfold xI
 split
 ·exact⟨cA 0,fun h=>by omega⟩
 ·rename_i hv
  have ir:0<v.length:=List.length_pos_iff.2 hv
  have hj:(v.length-1)/2<(kT (v.map (ov m))).length:=by rw[yY];omega
  rw[av,aW hj,bL]
  have hm:(kT (v.map (ov m)))[(v.length-1)/2] ∈v.map (ov m):=AH.1 (aX hj)
  obtain⟨s,_,hs⟩:=bB.1 hm
  rw[←hs]
  unfold ov
  split
  ·rename_i h
   split
   ·rename_i h2
    exact⟨by omega,fun _=>⟨(s-1).toNat,by omega,rfl⟩⟩
   ·exact⟨cA 0,fun h=>by omega⟩
  ·exact⟨cA 0,fun h=>by omega⟩
def Hn(v m:List Int):Nat→Int
 |0=>0
 |k+1=>if L2 v (PV m (m.getD k 0))&&decide (Hn v m k<m.getD k 0) then m.getD k 0 else Hn v m k
theorem O2(v m:List Int): ∀k,0≤Hn v m k∧Hn v m k≤xI v m∧ ∀i,i<k→m.getD i 0≤xI v m→m.getD i 0≤Hn v m k
 |0=>⟨cA 0,(EJ v m).1,fun i h=>by omega⟩
 |k+1=>by
  obtain⟨h1,h2,h3⟩:=O2 v m k
  unfold Hn
  split
  ·rename_i hc
   simp only[bc,bQ]at hc
   have hm:=hc.1
   rw[Pc (by omega),bQ]at hm
   refine⟨by omega,hm,fun i hi Xi=> ?_⟩
   rcases Nat.lt_or_ge i k with h|h
   ·have:=h3 i h Xi;omega
   ·obtain rfl:i=k:=by omega
    exact cA _
  ·rename_i hc
   refine⟨h1,h2,fun i hi Xi=> ?_⟩
   rcases Nat.lt_or_ge i k with h|h
   ·exact h3 i h Xi
   ·obtain rfl:i=k:=by omega
    rcases Int.lt_or_le (Hn v m i) (m.getD i 0) with h'|h'
    ·exfalso
     apply hc
     rw[Pc (by omega)]
     rw[bc,bQ,bQ];exact⟨Xi,h'⟩
    ·exact h'
theorem Va(v m:List Int):Hn v m m.length=xI v m:=by
 obtain⟨h1,h2,h3⟩:=O2 v m m.length
 obtain⟨a1,a2⟩:=EJ v m
 rcases Int.lt_or_le 0 (xI v m) with h|h
 ·obtain⟨i,hi,he⟩:=a2 h
  have:=h3 i hi (by omega)
  omega
 ·omega
def MX:Int:=1099511627776
def ix(d:D):Int:=I d 0
def tm(d:D):Int:=I d 1
def yi:Int→Int→List D→Bool
 |_,_,[] =>true
 |i,t,x::r=>(ix x==i+1)&&decide (t≤tm x)&&decide (ix x≤MX)&&decide (tm x≤MX)&&yi (ix x) (tm x) r
def okB(i t:Int):Bool:=decide (0≤i)&&decide (i≤MX)&&decide (0≤t)&&decide (t≤MX)
def fN(i t:Int)(l:List D):Bool:=okB i t&&yi i t l
def fA:Int→List D→Int
 |t,[] =>t
 |_,x::r=>fA (tm x) r
theorem ma{i t:Int}:okB i t=true↔0≤i∧i≤MX∧0≤t∧t≤MX:=by simp[okB,and_assoc]
theorem kF{i t:Int}{x:D}{r:List D}:yi i t (x::r)=true↔ix x=i+1∧t≤tm x∧ix x≤MX∧tm x≤MX∧yi (ix x) (tm x) r=true:=by simp[yi,and_assoc]
theorem nZ: ∀{a b:List D} {i t:Int},yi i t (a++b)=true↔yi i t a=true∧yi (i+a.length) (fA t a) b=true
 | [],b,i,t=>by simp[yi,fA]
 |x::a,b,i,t=>by
  rw[er,kF,kF,nZ (a:=a)]
  constructor
  ·rintro⟨h1,h2,h3,h4,h5,h6⟩
   refine⟨⟨h1,h2,h3,h4,h5⟩,?_⟩
   simp only[fA,bM]
   rw[show i+((a.length+1:Nat):Int)=ix x+a.length by omega]
   exact h6
  ·rintro⟨⟨h1,h2,h3,h4,h5⟩,h6⟩
   refine⟨h1,h2,h3,h4,h5,?_⟩
   simp only[fA,bM]at h6
   rw[show i+((a.length+1:Nat):Int)=ix x+a.length by omega]at h6
   exact h6
theorem zA: ∀{a b:List D} {t:Int},fA t (a++b)=fA (fA t a) b
 | [],_,_=>rfl
 |x::a,b,t=>by simp only[er,fA,zA (a:=a)]
theorem wC: ∀{l:List D} {t:Int} {x:D},l[l.length-1]? =some x→fA t l=tm x
 | [],t,x,h=>by simp at h
 | [y],t,x,h=>by simp at h;subst h;rfl
 |y::z::r,t,x,h=>by
  have:=wC (l:=z::r) (t:=tm y) (x:=x) (by simpa using h)
  simpa [fA]using this
theorem ahg{l:List D}{i t:Int}{n:Nat}{x:D}(h:yi i t l=true)(hx:l[n]? =some x):ix x=i+n+1∧fA t (l.take n)≤tm x∧ix x≤MX∧tm x≤MX:=by
 have bP:=(aH.1 hx).1
 have e:l=l.take n++x::l.drop (n+1):=by
  have h1:=cY bP
  rw[(aH.1 hx).2]at h1
  rw[←h1,ev]
 rw[e,nZ,kF]at h
 obtain⟨_,h1,h2,h3,h4,_⟩:=h
 have hl:(l.take n).length=n:=by simp;omega
 rw[hl]at h1
 exact⟨h1,h2,h3,h4⟩
theorem NC{l:List D}{t:Int}{n:Nat}{x:D}(hx:l[n]? =some x):fA t (l.take (n+1))=tm x:=by
 rw[dj,hx,eY,zA];rfl
theorem Iu{l:List D}{i t:Int}(n:Nat)(h:yi i t l=true):yi i t (l.take n)=true:=by
 rw[←ev n l,nZ]at h;exact h.1
theorem ZL{l:List D}{i t:Int}(n:Nat)(hn:n≤l.length)(h:yi i t l=true):yi (i+n) (fA t (l.take n)) (l.drop n)=true:=by
 rw[←ev n l,nZ]at h
 have:=h.2
 rwa [bj,Nat.min_eq_left hn]at this
theorem KC: ∀{l:List D} {i t:Int},yi i t l=true→t≤fA t l
 | [],_,_,_=>cA _
 |x::r,i,t,h=>by
  obtain⟨_,h2,_,_,h5⟩:=kF.1 h
  have:=KC h5
  simp only[fA];omega
theorem KB: ∀{l:List D} {i t:Int},t≤MX→yi i t l=true→fA t l≤MX
 | [],_,_,h,_=>h
 |x::r,i,t,_,h=>by
  obtain⟨_,_,_,h4,h5⟩:=kF.1 h
  exact KB (l:=r) h4 h5
theorem As: ∀{l:List D} {i t:Int},i≤MX→yi i t l=true→i+l.length≤MX
 | [],i,_,h,_=>by simpa using h
 |x::r,i,t,_,h=>by
  obtain⟨h1,_,h3,_,h5⟩:=kF.1 h
  have:=As h3 h5
  simp only[bM];omega
theorem iX{i t:Int}{l:List D}:fN i t l=true↔(0≤i∧i≤MX∧0≤t∧t≤MX)∧yi i t l=true:=by simp[fN,ma]
def jE(i t:Int)(l:List D)(k:Int):Int×Int:=
 if k<i then(0,23) else if k=i then(t,0) else match l[(k-i-1).toNat]? with
  |some x=>(tm x,0)
  |none=>(0,3)
def iS(i:Int)(l:List D)(f m:Int):List D:=if m<1∨f≤i then [] else(l.drop (f-i-1).toNat).take m.toNat
def MQ(i t:Int)(l:List D)(index term:Int):Bool:=decide (term>fA t l)||(decide (term=fA t l)&&decide (index≥i+l.length))
def kS:D:=.agg [.int .i64 0,.int .i64 0,.int .i64 0,.int .i64 0,.int .i64 0,.int .i64 0,.int .i64 0,.int .i64 0,.int .i64 0,.list [],.int .i64 0,.bool false,.int .i64 0,.int .i64 0,.int .i64 0,.bool false,.bool false,.int .i64 0,.int .i64 0,.int .i64 0,.list [],.int .i64 0,.int .i64 0,.int .i64 0,.list [],.list [],.bool false,.list [],.list []]
def Yc(i t:Int)(l:List D)(term:Int)(cmd:D):D:=.agg (.int .i64 (i+l.length+1):: .int .i64 term::cmd.aV)
def tY(i t:Int)(l:List D)(term:Int):Int:=if term<fA t l∨term<1∨MX<term then 1 else if MX≤i+l.length then 2 else 0
def Fk(i t:Int)(l:List D)(term:Int)(cmd:D):D:=if tY i t l term=0 then Yc i t l term cmd else kS
def wT(i t:Int)(l:List D)(term:Int)(cmd:D):List D:=if tY i t l term=0 then l++[Yc i t l term cmd] else l
def Gb(i:Int)(l:List D)(k:Int):Int:=if i+l.length<k then 3 else 0
def mz(i t:Int)(l:List D)(k:Int):Int×Int×List D:=if i+l.length<k∨k≤i then(i,t,l) else(k,(jE i t l k).1,l.drop (k-i).toNat)
def B1(i t:Int)(l:List D)(x:D):Bool:=(jE i t l (ix x)).2==0&&(jE i t l (ix x)).1==tm x
def yA(i t:Int)(l:List D):List D→Int×List D
 | [] =>(0,l)
 |x::r=>if B1 i t l x then yA i t l r else(ix x,l.take (ix x-i-1).toNat++x::r)
def nI(i t:Int)(l:List D)(pi pt:Int)(es:List D):Bool:=fN pi pt es&&(jE i t l pi).2==0&&(jE i t l pi).1==pt
def lH(i t:Int)(l:List D)(pi pt:Int)(es:List D):Int×List D:=if nI i t l pi pt es then yA i t l es else(0,l)
theorem uS{i t:Int}{l:List D}{k:Int}(h:(jE i t l k).2=0):i≤k∧k≤i+l.length∧(jE i t l k).1=fA t (l.take (k-i).toNat):=by
 unfold jE at h⊢
 split at h
 ·simp at h
 ·split at h
  ·rename_i h1 h2;subst h2;rw[if_neg (by omega),if_pos rfl];exact⟨by omega,by omega,by simp[fA]⟩
  ·rename_i h1 h2
   split at h
   ·rename_i x hx
    have bP:=(aH.1 hx).1
    rw[if_neg h1,if_neg h2]
    refine⟨by omega,by omega,?_⟩
    simp only[hx]
    rw[show(k-i).toNat=(k-i-1).toNat+1 by omega,NC hx]
   ·simp at h
theorem Px{i t:Int}{l:List D}(hl:yi i t l=true): ∀{es:List D} {n:Nat},n≤l.length→yi (i+n) (fA t (l.take n)) es=true→yi i t (yA i t l es).2=true∧(yA i t l es).2.length≤l.length+es.length∧
  (∀x r,es=x::r→B1 i t l x=false→ix x-i-1=n)
 | [],n,hn,h=>⟨hl,by simp[yA],by simp⟩
 |x::r,n,hn,h=>by
  obtain⟨h1,h2,h3,h4,h5⟩:=kF.1 h
  refine⟨?_,?_,fun y s e _=>by injection e with e1 e2;subst e1;omega⟩
  all_goals
   unfold yA
   by_cases hh:B1 i t l x=true
   ·rw[if_pos hh]
    simp only[B1,bc,beq_iff_eq]at hh
    obtain⟨k1,k2,k3⟩:=uS hh.1
    have hn1:n+1≤l.length:=by omega
    have e1:(ix x-i).toNat=n+1:=by omega
    rw[e1]at k3
    have hr:yi (i+((n+1:Nat):Int)) (fA t (l.take (n+1))) r=true:=by
     rw[←k3,hh.2,show i+((n+1:Nat):Int)=ix x by omega];exact h5
    have ih:=Px hl hn1 hr
    first
    |exact ih.1
    |(simp only[bM];have:=ih.2.1;omega)
   ·rw[if_neg hh]
    have e:(ix x-i-1).toNat=n:=by omega
    rw[e]
    first
    |(rw[nZ,bj,Nat.min_eq_left hn];exact⟨Iu n hl,h⟩)
    |(simp only[an,bj,bM];omega)
theorem WN{i t:Int}{l:List D}{s:Nat}{x:D}{r:List D}(hs:s≤l.length)(h:yi (i+s) (fA t (l.take s)) (x::r)=true)(hh:B1 i t l x=true):s+1≤l.length∧yi (i+((s+1:Nat):Int)) (fA t (l.take (s+1))) r=true:=by
 obtain⟨h1,h2,h3,h4,h5⟩:=kF.1 h
 simp only[B1,bc,beq_iff_eq]at hh
 obtain⟨k1,k2,k3⟩:=uS hh.1
 have e1:(ix x-i).toNat=s+1:=by omega
 rw[e1]at k3
 refine⟨by omega,?_⟩
 rw[←k3,hh.2,show i+((s+1:Nat):Int)=ix x by omega];exact h5
def AJ(i t:Int)(l es:List D)(xs:List D):Prop:= ∃n s:Nat,xs=[.int .i64 0,.bool false,.int .i64 n,.int .i64 i,.int .i64 t,.list l] ∧n≤es.length∧s≤l.length∧yi (i+s) (fA t (l.take s)) (es.drop n)=true∧yA i t l (es.drop n)=yA i t l es
theorem ZK{x:D}(h:Has C8 x): [x.aV[0]?.getD .top,x.aV[1]?.getD .top,x.aV[2]?.getD .top,x.aV[3]?.getD .top,x.aV[4]?.getD .top,x.aV[5]?.getD .top,x.aV[6]?.getD .top,x.aV[7]?.getD .top,x.aV[8]?.getD .top,x.aV[9]?.getD .top,x.aV[10]?.getD .top,x.aV[11]?.getD .top,x.aV[12]?.getD .top,x.aV[13]?.getD .top,x.aV[14]?.getD .top,x.aV[15]?.getD .top,x.aV[16]?.getD .top,x.aV[17]?.getD .top,x.aV[18]?.getD .top,x.aV[19]?.getD .top,x.aV[20]?.getD .top,x.aV[21]?.getD .top,x.aV[22]?.getD .top,x.aV[23]?.getD .top,x.aV[24]?.getD .top,x.aV[25]?.getD .top,x.aV[26]?.getD .top] =x.aV:=by
 obtain⟨_,rfl,_,_,rfl,_,_,_,rfl,_,_,_,rfl,_,_,_,rfl,_,_,_,rfl,_,_,_,rfl,_,_,_,rfl,_,_,_,rfl,_,_,_,rfl,_,_,_,rfl,_,_,_,rfl,_,_,_,rfl,_,_,_,rfl,_,_,_,rfl,_,_,_,rfl,_,_,_,rfl,_,_,_,rfl,_,_,_,rfl,_,_,_,rfl,_,_,_,rfl,_,_,_,rfl,_,_,_,rfl,_,_,_,rfl,_,_,_,rfl,_,_,_,rfl,_,_,_,rfl,_,_,_,rfl,_,rfl⟩:=h
 rfl
theorem qj:eP.bytes=320:=by kernel_rfl
def FM{α:Type}(l:List α)(k:Nat)(xs:List D):Nat:=l.length-(I (.list xs) k).toNat
def MJ(i t:Int)(l:List D)(xs:List D):Prop:= ∃(n:Nat) (j u:Int),xs=[.bool false,.int .i64 j,.int .i64 u,.int .i64 n] ∧n≤l.length∧okB j u=true∧yi j u (l.drop n)=yi i t l
def ue(n lo hi:Int):Bool:=decide (lo≤n)&&decide (n≤hi)
def yk(i t:Int)(l:List D):D:=.agg [.int .i64 i,.int .i64 t,.list l]
theorem H6{x:D}(h:Has eP x):x.aV[0]?.getD .top= .int .i64 (ix x)∧x.aV[1]?.getD .top= .int .i64 (tm x)∧oY .i64 (ix x)∧oY .i64 (tm x):=by
 obtain⟨_,rfl,_,_,rfl,⟨i,rfl,hi⟩,_,_,rfl,⟨t,rfl,ht⟩,_⟩:=h
 exact⟨rfl,rfl,hi,ht⟩
theorem vZ{i f m:Int}{l:List D}:(iS i l f m).length≤l.length:=by
 unfold iS;split
 ·simp
 ·simp;omega
theorem VV{i t:Int}{l:List D}{k:Int}(h1:i≤k)(h2:k≤i+l.length):(jE i t l k).2=0:=by
 unfold jE
 rw[if_neg (by omega)]
 split
 ·rfl
 ·have:(k-i-1).toNat<l.length:=by omega
  rw[aW this]
theorem V7{i t:Int}{l:List D}{m:Int}{c:D}(h:fN i t l=true):fN i t (wT i t l m c)=true∧(wT i t l m c).length≤l.length+1:=by
 obtain⟨hk,hc⟩:=iX.1 h
 unfold wT
 split
 ·rename_i hp
  unfold tY at hp
  split at hp
  ·simp at hp
  ·split at hp
   ·simp at hp
   ·refine⟨iX.2 ⟨hk,?_⟩,by simp⟩
    rw[nZ]
    refine⟨hc,kF.2 ⟨rfl,?_,?_,?_,rfl⟩⟩
    ·show fA t l≤m;omega
    ·show i+l.length+1≤MX;omega
    ·show m≤MX;omega
 ·exact⟨h,by omega⟩
theorem Rq{i t:Int}{l:List D}{k:Int}(h:fN i t l=true):fN (mz i t l k).1 (mz i t l k).2.1 (mz i t l k).2.2=true∧(mz i t l k).2.2.length≤l.length:=by
 obtain⟨⟨k1,k2,k3,k4⟩,hc⟩:=iX.1 h
 have Sg:=As k2 hc
 unfold mz
 split
 ·exact⟨h,bn _⟩
 ·rename_i hk
  obtain⟨q1,q2,q3⟩:=uS (VV (i:=i) (t:=t) (l:=l) (k:=k) (by omega) (by omega))
  refine⟨iX.2 ⟨⟨by omega,by omega,?_,?_⟩,?_⟩,by simp⟩
  ·show 0≤(jE i t l k).1
   rw[q3];have:=KC (Iu (k-i).toNat hc);omega
  ·show(jE i t l k).1≤MX
   rw[q3];exact KB k4 (Iu _ hc)
  ·show yi k (jE i t l k).1 (l.drop (k-i).toNat)=true
   rw[q3]
   have:=ZL (k-i).toNat (by omega) hc
   rwa [show i+(((k-i).toNat:Nat):Int)=k by omega]at this
theorem WU{i t:Int}{l:List D}{pi pt:Int}{es:List D}(h:fN i t l=true):fN i t (lH i t l pi pt es).2=true∧(lH i t l pi pt es).2.length≤l.length+es.length:=by
 obtain⟨hk,hc⟩:=iX.1 h
 unfold lH
 split
 ·rename_i hA
  simp only[nI,bc,beq_iff_eq]at hA
  obtain⟨⟨h1,h2⟩,h3⟩:=hA
  obtain⟨q1,q2,q3⟩:=uS h2
  obtain⟨_,RP⟩:=iX.1 h1
  have:=Px hc (es:=es) (n:=(pi-i).toNat) (by omega) (by rw[←q3,h3,show i+(((pi-i).toNat:Nat):Int)=pi by omega];exact RP)
  exact⟨iX.2 ⟨hk,this.1⟩,this.2.1⟩
 ·exact⟨h,by simp⟩
theorem Ke{Φ:Nat→List D→D}{Pre:Nat→List D→Prop}{R:D→Prop}{ρ:Nat→D}{gk:List (List D→Prop)}{w:Nat}:(VC.stuck w).holds Φ Pre R ρ gk=False:=rfl
def cD(j:Nat)(d:D):D:=d.aV.getD j .top
def lkD:List (Nat×D)→Nat→Option D
 | [],_=>none
 |(k,v)::r,j=>if k=j then some v else lkD r j
def aN(n:Nat)(b:D)(l:List (Nat×D)):D:=.agg ((List.range n).map fun j=>match lkD l j with|some d=>d|none=>cD j b)
def bT(x y:Int):Int:=if y<x then y else x
def bV(x y:Int):Int:=if y>x then y else x
def JQ:D:=.agg [.int .i64 0,.int .i64 0,.int .i64 0,.int .i64 0,.int .i64 0,.int .i64 0,.int .i64 0,.list [],.int .i64 0,.bool false,.int .i64 0,.int .i64 0,.int .i64 0,.bool false,.bool false,.int .i64 0,.int .i64 0,.int .i64 0,.list [],.int .i64 0,.int .i64 0,.int .i64 0,.list [],.list [],.bool false,.list [],.list []]
def j4:D:=.agg [.int .i64 0,.int .i64 0,.int .i64 0,.int .i64 0,.int .i64 0,.int .i64 0,.int .i64 0,.bool false,.int .i64 0,.int .i64 0,.int .i64 0,.int .i64 0,.list [],.list [],.list [],.list [],.int .i64 0,.int .i64 0,.int .i64 0,.int .i64 0,.int .i64 0,.int .i64 0,.int .i64 0,.list [],.int .i64 0,.bool false,.int .i64 0,.int .i64 0,.int .i64 0,.bool false,.bool false,.int .i64 0,.int .i64 0,.int .i64 0,.list [],.int .i64 0,.int .i64 0,.int .i64 0,.list [],.list [],.bool false,.list [],.list [],.int .i64 0,.int .i64 0,.list []]
@[ext] structure RS where
 save:Bool
 Oo:Int
 On:Int
 dS:List D
 jG:D
 msgs:List D
 cb:List D
 iZ:List D
 id:Int
 fv:List D
 fl:List D
 term:Int
 vote:Int
 nL:Int
 kB:Int
 sv:List D
 sl:List D
 bk:List D
 aZ:Int
 role:Int
 bR:Int
 wait:Int
 end_ : Int
 bJ:List D
 Ja:Int
 yc:Int
 BP:Int
 Cf:Int
 xu:Int
 BO:Int
 BN:Int
 xr:Int
 BM:Int
 BL:Int
 xq:Int
 BK:Int
 BJ:Int
 xp:Int
 BI:Int
 BH:Int
 xn:Int
 BG:Int
 round:Int
 reads:List D
 jr:Int
 js:Int
 gR:Int
 mK:Int
 gP:Int
 dp:List D
 li:Int
 lt:Int
 le:List D
def cR(s:RS):List D:=[.bool s.save,.int .i64 s.Oo,.int .i64 s.On,.list s.dS,s.jG,.list s.msgs,.list s.cb,.list s.iZ,.int .i64 s.id,.list s.fv,.list s.fl,.int .i64 s.term,.int .i64 s.vote,.ptr [],.int .i64 s.nL,.int .i64 s.kB,.list s.sv,.list s.sl,.list s.bk,.int .i64 s.aZ,.int .i64 s.role,.int .i64 s.bR,.int .i64 s.wait,.int .i64 s.end_,.list s.bJ,.int .i64 s.Ja,.int .i64 s.yc,.int .i64 s.BP,.int .i64 s.Cf,.int .i64 s.xu,.int .i64 s.BO,.int .i64 s.BN,.int .i64 s.xr,.int .i64 s.BM,.int .i64 s.BL,.int .i64 s.xq,.int .i64 s.BK,.int .i64 s.BJ,.int .i64 s.xp,.int .i64 s.BI,.int .i64 s.BH,.int .i64 s.xn,.int .i64 s.BG,.int .i64 s.round,.list s.reads,.int .i64 s.jr,.int .i64 s.js,.int .i64 s.gR,.int .i64 s.mK,.int .i64 s.gP,.list s.dp]
def cL(s:RS):List D:=[.int .i64 s.li,.int .i64 s.lt,.list s.le]
def encS(s:RS):List D:=cR s++cL s
def Hy(s:RS):D:=.ptr [.bool s.save,.int .i64 s.Oo,.int .i64 s.On,.list s.dS,s.jG,.list s.msgs,.list s.cb,.list s.iZ,.int .i64 s.id,.list s.fv,.list s.fl,.int .i64 s.term,.int .i64 s.vote,.ptr (cL s),.int .i64 s.nL,.int .i64 s.kB,.list s.sv,.list s.sl,.list s.bk,.int .i64 s.aZ,.int .i64 s.role,.int .i64 s.bR,.int .i64 s.wait,.int .i64 s.end_,.list s.bJ,.int .i64 s.Ja,.int .i64 s.yc,.int .i64 s.BP,.int .i64 s.Cf,.int .i64 s.xu,.int .i64 s.BO,.int .i64 s.BN,.int .i64 s.xr,.int .i64 s.BM,.int .i64 s.BL,.int .i64 s.xq,.int .i64 s.BK,.int .i64 s.BJ,.int .i64 s.xp,.int .i64 s.BI,.int .i64 s.BH,.int .i64 s.xn,.int .i64 s.BG,.int .i64 s.round,.list s.reads,.int .i64 s.jr,.int .i64 s.js,.int .i64 s.gR,.int .i64 s.mK,.int .i64 s.gP,.list s.dp]
def jw(l:List D):RS:=⟨(l.getD 0 .top).gV,(l.getD 1 .top).aq,(l.getD 2 .top).aq,(l.getD 3 .top).aV,(l.getD 4 .top),(l.getD 5 .top).aV,(l.getD 6 .top).aV,(l.getD 7 .top).aV,(l.getD 8 .top).aq,(l.getD 9 .top).aV,(l.getD 10 .top).aV,(l.getD 11 .top).aq,(l.getD 12 .top).aq,(l.getD 14 .top).aq,(l.getD 15 .top).aq,(l.getD 16 .top).aV,(l.getD 17 .top).aV,(l.getD 18 .top).aV,(l.getD 19 .top).aq,(l.getD 20 .top).aq,(l.getD 21 .top).aq,(l.getD 22 .top).aq,(l.getD 23 .top).aq,(l.getD 24 .top).aV,(l.getD 25 .top).aq,(l.getD 26 .top).aq,(l.getD 27 .top).aq,(l.getD 28 .top).aq,(l.getD 29 .top).aq,(l.getD 30 .top).aq,(l.getD 31 .top).aq,(l.getD 32 .top).aq,(l.getD 33 .top).aq,(l.getD 34 .top).aq,(l.getD 35 .top).aq,(l.getD 36 .top).aq,(l.getD 37 .top).aq,(l.getD 38 .top).aq,(l.getD 39 .top).aq,(l.getD 40 .top).aq,(l.getD 41 .top).aq,(l.getD 42 .top).aq,(l.getD 43 .top).aq,(l.getD 44 .top).aV,(l.getD 45 .top).aq,(l.getD 46 .top).aq,(l.getD 47 .top).aq,(l.getD 48 .top).aq,(l.getD 49 .top).aq,(l.getD 50 .top).aV,(l.getD 51 .top).aq,(l.getD 52 .top).aq,(l.getD 53 .top).aV⟩
def wV(d:D):RS:=
 let l:=d.aV
 let g:=(l.getD 13 .top).aV
 ⟨(l.getD 0 .top).gV,(l.getD 1 .top).aq,(l.getD 2 .top).aq,(l.getD 3 .top).aV,(l.getD 4 .top),(l.getD 5 .top).aV,(l.getD 6 .top).aV,(l.getD 7 .top).aV,(l.getD 8 .top).aq,(l.getD 9 .top).aV,(l.getD 10 .top).aV,(l.getD 11 .top).aq,(l.getD 12 .top).aq,(l.getD 14 .top).aq,(l.getD 15 .top).aq,(l.getD 16 .top).aV,(l.getD 17 .top).aV,(l.getD 18 .top).aV,(l.getD 19 .top).aq,(l.getD 20 .top).aq,(l.getD 21 .top).aq,(l.getD 22 .top).aq,(l.getD 23 .top).aq,(l.getD 24 .top).aV,(l.getD 25 .top).aq,(l.getD 26 .top).aq,(l.getD 27 .top).aq,(l.getD 28 .top).aq,(l.getD 29 .top).aq,(l.getD 30 .top).aq,(l.getD 31 .top).aq,(l.getD 32 .top).aq,(l.getD 33 .top).aq,(l.getD 34 .top).aq,(l.getD 35 .top).aq,(l.getD 36 .top).aq,(l.getD 37 .top).aq,(l.getD 38 .top).aq,(l.getD 39 .top).aq,(l.getD 40 .top).aq,(l.getD 41 .top).aq,(l.getD 42 .top).aq,(l.getD 43 .top).aq,(l.getD 44 .top).aV,(l.getD 45 .top).aq,(l.getD 46 .top).aq,(l.getD 47 .top).aq,(l.getD 48 .top).aq,(l.getD 49 .top).aq,(l.getD 50 .top).aV,(g.getD 0 .top).aq,(g.getD 1 .top).aq,(g.getD 2 .top).aV⟩
def dR:RS:=⟨false,0,0,[],.top,[],[],[],0,[],[],0,0,0,0,[],[],[],0,0,0,0,0,[],0,0,0,0,0,0,0,0,0,0,0,0,0,0,0,0,0,0,0,[],0,0,0,0,0,[],0,0,[]⟩
def jv(s:RS):D:=.fx [.fx [],.agg (cR s),.agg (cL s)]
def OQ(x:Bool×RS):D:=.fx [.bool x.1,.agg (cR x.2),.agg (cL x.2)]
def JP(x:D×RS):D:=.fx [x.1,.agg (cR x.2),.agg (cL x.2)]
def OP(x:(D×Int)×RS):D:=.fx [.fx [x.1.1,.int .i64 x.1.2],.agg (cR x.2),.agg (cL x.2)]
def H7(x:(D×Int×D)×RS):D:=.fx [.fx [x.1.1,.int .i64 x.1.2.1,x.1.2.2],.agg (cR x.2),.agg (cL x.2)]
def Sv(d:D):RS:=jw ((cD 1 d).aV++(cD 2 d).aV)
def qx(d:D):RS:=Sv d
def abT(d:D):Bool×RS:=((cD 0 d).gV,Sv d)
def Yx(d:D):D×RS:=(cD 0 d,Sv d)
def aoS(d:D):(D×Int)×RS:=((cD 0 (cD 0 d),(cD 1 (cD 0 d)).aq),Sv d)
def VL(d:D):(D×Int×D)×RS:=((cD 0 (cD 0 d),(cD 1 (cD 0 d)).aq,cD 2 (cD 0 d)),Sv d)
def Me(s:RS):List D:=[.bool s.save,.int .i64 s.Oo,.int .i64 s.On,.list s.dS,s.jG,.list s.msgs,.list s.cb,.list s.iZ,.int .i64 s.id,.list s.fv,.list s.fl,.int .i64 s.term,.int .i64 s.vote,.int .i64 s.nL,.int .i64 s.kB,.list s.sv,.list s.sl,.list s.bk,.int .i64 s.aZ,.int .i64 s.role,.int .i64 s.bR,.int .i64 s.wait,.int .i64 s.end_,.list s.bJ,.int .i64 s.Ja,.int .i64 s.yc,.int .i64 s.BP,.int .i64 s.Cf,.int .i64 s.xu,.int .i64 s.BO,.int .i64 s.BN,.int .i64 s.xr,.int .i64 s.BM,.int .i64 s.BL,.int .i64 s.xq,.int .i64 s.BK,.int .i64 s.BJ,.int .i64 s.xp,.int .i64 s.BI,.int .i64 s.BH,.int .i64 s.xn,.int .i64 s.BG,.int .i64 s.round,.list s.reads,.int .i64 s.jr,.int .i64 s.js,.int .i64 s.gR,.int .i64 s.mK,.int .i64 s.gP,.list s.dp,.int .i64 s.li,.int .i64 s.lt,.list s.le]
def ub(l:List D):RS:=⟨(l.getD 0 .top).gV,(l.getD 1 .top).aq,(l.getD 2 .top).aq,(l.getD 3 .top).aV,(l.getD 4 .top),(l.getD 5 .top).aV,(l.getD 6 .top).aV,(l.getD 7 .top).aV,(l.getD 8 .top).aq,(l.getD 9 .top).aV,(l.getD 10 .top).aV,(l.getD 11 .top).aq,(l.getD 12 .top).aq,(l.getD 13 .top).aq,(l.getD 14 .top).aq,(l.getD 15 .top).aV,(l.getD 16 .top).aV,(l.getD 17 .top).aV,(l.getD 18 .top).aq,(l.getD 19 .top).aq,(l.getD 20 .top).aq,(l.getD 21 .top).aq,(l.getD 22 .top).aq,(l.getD 23 .top).aV,(l.getD 24 .top).aq,(l.getD 25 .top).aq,(l.getD 26 .top).aq,(l.getD 27 .top).aq,(l.getD 28 .top).aq,(l.getD 29 .top).aq,(l.getD 30 .top).aq,(l.getD 31 .top).aq,(l.getD 32 .top).aq,(l.getD 33 .top).aq,(l.getD 34 .top).aq,(l.getD 35 .top).aq,(l.getD 36 .top).aq,(l.getD 37 .top).aq,(l.getD 38 .top).aq,(l.getD 39 .top).aq,(l.getD 40 .top).aq,(l.getD 41 .top).aq,(l.getD 42 .top).aq,(l.getD 43 .top).aV,(l.getD 44 .top).aq,(l.getD 45 .top).aq,(l.getD 46 .top).aq,(l.getD 47 .top).aq,(l.getD 48 .top).aq,(l.getD 49 .top).aV,(l.getD 50 .top).aq,(l.getD 51 .top).aq,(l.getD 52 .top).aV⟩
def gC(a:D):Bool:=CZ (vo a) (lr a)
def nQ(a:D)(b:Int):Bool:=decide (b∈vo a)
def kE(a:D):List D:=(Of (vo a) (lr a)).map (D.int .i64)
def mD(a b:D):Bool:=L2 (vo a) (jR b)
def px(a b:D):Int:=Hn (vo a) (jR b) (jR b).length
def Ph(a b:D):Bool:=LS (vo a) (lr a) (vo b) (lr b)
def rm(x:D):Bool:=(cD 2 x).aq==2
def cfE(x:D):D:=.agg [cD 27 x,cD 28 x]
def fm(l:List D):Bool:= !(l.any fun x=>rm x&& !gC (cfE x))
def gp(a:D):D:=a
def pe(l:List D):List D:=l
def ua(a:D):D:=.agg [cD 0 a,cD 1 a,cD 2 a,cD 3 a,cD 4 a]
def Ri(l:List D)(b:Int):Bool:=decide (b∈l.map D.aq)
def Ah(f:D)(x:D):Bool:=match f with
 |.fn k _=>if k=84 then rm x else rm x&& !gC (cfE x)
 |_=>false
def ni(l:List D)(f:D):Bool:=l.any (Ah f)
def nu(i t:Int):D:=if okB i t=true∧(i=0↔t=0) then .fx [.fx [],yk i t []] else .fx [.gW]
def YM:List D→D
 | [.ptr c,f,m] =>.list (iS (c.getD 0 .top).aq (c.getD 2 .top).aV f.aq m.aq)
 | [f,m,i,t,l] =>.fx [.list (iS i.aq l.aV f.aq m.aq),yk i.aq t.aq l.aV]
 |_=>.top
def auq:List D→Prop
 | [.ptr c,_,_] =>okB (c.getD 0 .top).aq (c.getD 1 .top).aq=true
 | [_,_,i,t,_] =>okB i.aq t.aq=true
 |_=>False
def Mf(a b:D):Bool:=((((((decide (vo (.agg [cD 25 a,cD 26 a])=vo (.agg [cD 25 b,cD 26 b]))&&decide (lr (.agg [cD 25 a,cD 26 a])=lr (.agg [cD 25 b,cD 26 b])))&&((cD 0 a).aq==(cD 0 b).aq))&&((cD 1 a).aq==(cD 1 b).aq))&&((cD 2 a).aq==(cD 2 b).aq))&&((cD 3 a).aq==(cD 3 b).aq))&&((cD 8 a).aq==(cD 8 b).aq))
def yD(a b:Int):Int:=if a<0 then(i64.wrap (0-(i64.wrap (a+1)))).tmod b else a.tmod b
def iK(i t:Int)(_:List D):Int×Int:=(i,t)
def gn(i t:Int)(l:List D):Int×Int:=(i+l.length,fA t l)
def jM(i t:Int)(l:List D)(k:Int):Int×Int:=jE i t l k
def MT(i t:Int)(l:List D)(a b:Int):Bool:=MQ i t l a b
def fk(i t:Int)(l:List D)(f m:Int):List D:=iS i l f m
def X8(i t:Int)(l:List D)(term:Int)(c:D):(D×Int)×Int×Int×List D:=((Fk i t l term c,tY i t l term),i,t,wT i t l term c)
def Pa(i t:Int)(l:List D)(a b:Int)(es:List D):(Int×Bool)×Int×Int×List D:=(((lH i t l a b es).1,nI i t l a b es),i,t,(lH i t l a b es).2)
def oR(i t:Int)(l:List D)(k:Int):Int×Int×Int×List D:=(Gb i l k,mz i t l k)
def ij(s:RS):RS:=
 ({s with save:=true}:RS)
def qc(s:RS)(x7:Int×Int):D:=
 if decide (x7.1>0) then(
  let x28:=(gp (D.agg [D.list s.sv,D.list s.sl]))
  aN 2 x28 [])
 else(
  let wK:=(gp (D.agg [D.list s.fv,D.list s.fl]))
  aN 2 wK [])
def qb(s:RS)(x7:Int×Int)(i15:Int)(W7:List D)(W6:List D):(Int×List D×List D)⊕(D):=
 if decide (i15>x7.1) then(
  let NX:=(fk s.li s.lt s.le i15 1)
  if((((NX:List D).length:Int)==1)&&(((cD 2 ((NX).getD (0:Int).toNat .top)).aq)==2)) then(
   let x44:=(gp (D.agg ((((NX).getD (0:Int).toNat .top).aV.drop 27).take 2)))
   .inr (aN 2 x44 []))
  else(
   .inl ((i64.wrap (i15-1)),W7,W6)))
 else .inr (qc s x7)
def Kr(s:RS)(x7:Int×Int)(i15:Int)(W7:List D)(W6:List D):Nat:=(i15-x7.1).toNat
def uW(s:RS)(x7:Int×Int)(i15:Int)(W7:List D)(W6:List D):D:=ik (fun a:Int×List D×List D=>qb s x7 a.1 a.2.1 a.2.2) .top (Kr s x7 i15 W7 W6+1) (i15,W7,W6)
def Dc(x:Int)(s:RS):D:=
 let x7:=(iK s.li s.lt s.le)
 uW s x7 x [] []
def fO(s:RS):D:=
 let x6:=(gn s.li s.lt s.le)
 let x14:=(Dc x6.1 s)
 aN 2 x14 []
def QH(i9:List D):List D:=
 i9
def lB(s:RS)(x6:List D)(i9:List D)(j9:Int):(List D×Int)⊕(List D):=
 if decide (j9<((x6:List D).length:Int)) then(
  if(((((x6).getD (j9:Int).toNat .top)).aq) !=s.id) then(
   .inl ((i9++([((x6).getD (j9:Int).toNat .top)] :List D)),(i64.wrap (j9+1))))
  else(
   .inl (i9,(i64.wrap (j9+1)))))
 else .inr (QH i9)
def Gs(s:RS)(x6:List D)(i9:List D)(j9:Int):Nat:=x6.length-j9.toNat
def rY(s:RS)(x6:List D)(i9:List D)(j9:Int):List D:=ik (fun a:List D×Int=>lB s x6 a.1 a.2) [] (Gs s x6 i9 j9+1) (i9,j9)
def iM(x:D)(s:RS):List D:=
 let x6:=(kE (aN 2 x []))
 rY s x6 [] 0
def vP(x:Int)(s:RS):Bool:=
 let x4:=(fO s)
 let x5:=(kE (aN 2 x4 []))
 let x7:=(Ri x5 x)
 x7
def IJ:Bool:=
 false
def tq(wK:List D)(i30:Bool)(RF:Int):(Bool×Int)⊕(Bool):=
 if decide (RF<((wK:List D).length:Int)) then(
  if(((cD 2 ((wK).getD (RF:Int).toNat .top)).aq)==2) then(
   .inr (true))
  else(
   .inl (i30,(i64.wrap (RF+1)))))
 else .inr (IJ)
def zw(wK:List D)(i30:Bool)(RF:Int):Nat:=wK.length-RF.toNat
def tu(wK:List D)(i30:Bool)(RF:Int):Bool:=ik (fun a:Bool×Int=>tq wK a.1 a.2) false (zw wK i30 RF+1) (i30,RF)
def wv(s:RS):Bool:=
 let x6:=(gn s.li s.lt s.le)
 let wK:=(fk s.li s.lt s.le (i64.wrap (s.aZ+1)) (i64.wrap (x6.1-s.aZ)))
 tu wK false 0
def ze(s:RS):Bool:=
 let x10:=(jM s.li s.lt s.le s.aZ)
 ((x10.2==0)&&(x10.1==s.term))
def Fj(x:D)(s:RS):Int:=
 if(s.role !=2) then(
  20)
 else(
  if((cD 0 x).aq==1) then(
   1)
  else(
   if((cD 0 x).aq !=2) then(
    0)
   else(
    let x19:=(ze s)
    let x23:=(wv s)
    if((!x19)||x23) then(
     21)
    else(
     let wK:=(fO s)
     let x30:=(Ph (aN 2 wK []) (D.agg [(cD 25 x),(cD 26 x)]))
     if(!x30) then(
      22)
     else(
      0)))))
def O3(s:RS):D:=
 let x6:=(iK s.li s.lt s.le)
 let x16:=(gn s.li s.lt s.le)
 let x41:=(fO s)
 D.agg [D.int .i64 s.role,D.int .i64 s.bR,(cD 0 (D.agg [D.int .i64 s.term,D.int .i64 s.vote])),(cD 1 (D.agg [D.int .i64 s.term,D.int .i64 s.vote])),D.int .i64 s.aZ,D.int .i64 x16.1,D.int .i64 x6.1,(cD 0 x41),(cD 1 x41)]
def nF(s:RS):RS:=
 ({s with wait:=0,end_:=0}:RS)
def fT(x:D)(s:RS):RS:=
 ({s with msgs:=(s.msgs++([aN 46 x [(1,D.int .i64 s.id),(3,D.int .i64 s.term)]] :List D))}:RS)
def l6(x:Int)(y:Int)(s:RS):RS:=
 if decide (x>s.term) then(
  let s72:=ij ({s with term:=x,vote:=0}:RS)
  ({s72 with role:=0,bR:=y,bJ:=[],reads:=[]}:RS))
 else(
  ({s with role:=0,bR:=y,bJ:=[],reads:=[]}:RS))
def fj(s:RS):D×RS:=
 (D.agg [D.bool s.save,D.int .i64 s.term,D.int .i64 s.vote,D.list s.dS,s.jG,D.list s.msgs,D.list s.cb,D.list s.iZ],({s with save:=false,Oo:=0,On:=0,dS:=[],jG:=D.gW,msgs:=[],cb:=[],iZ:=[]}:RS))
def wS(x:D)(s:RS):(D×Int)×RS:=
 let AR:=X8 s.li s.lt s.le s.term (aN 27 x [])
 if(AR.1.2==0) then(
  let s80:=ij ({s with li:=AR.2.1,lt:=AR.2.2.1,le:=AR.2.2.2}:RS)
  ((aN 29 AR.1.1 [],AR.1.2),({s80 with dS:=(s80.dS++([aN 29 AR.1.1 []] :List D))}:RS)))
 else(
  ((aN 29 AR.1.1 [],AR.1.2),({s with li:=AR.2.1,lt:=AR.2.2.1,le:=AR.2.2.2}:RS)))
def gE(x:Int)(s:RS):RS:=
 if(x==0) then(
  let tS:=(iK s.li s.lt s.le)
  if decide (s.yc≤tS.1) then(
   let pU:=(gp (D.agg [D.list s.sv,D.list s.sl]))
   let uv:=(pe ((s.bk.take ((bT (i64.wrap ((bT (bV 0 s.BP) (s.bk.length:Int))+256)) (s.bk.length:Int)):Int).toNat).drop ((bT (bV 0 s.BP) (s.bk.length:Int)):Int).toNat))
   let CU:=fT (aN 46 j4 [(0,D.int .i64 5),(4,D.int .i64 s.nL),(5,D.int .i64 s.kB),(9,D.int .i64 (bT (bV 0 s.BP) (s.bk.length:Int))),(10,D.int .i64 (s.bk.length:Int)),(13,(cD 0 pU)),(14,(cD 1 pU)),(15,D.list uv)]) ({s with BP:=(bT (bV 0 s.BP) (s.bk.length:Int))}:RS)
   CU)
  else(
   let CE:=(jM s.li s.lt s.le (i64.wrap (s.yc-1)))
   let uw:=fk s.li s.lt s.le s.yc 8
   let mi:=fT (aN 46 j4 [(0,D.int .i64 3),(4,D.int .i64 (i64.wrap (s.yc-1))),(5,D.int .i64 CE.1),(6,D.int .i64 s.aZ),(8,D.int .i64 s.round),(12,D.list uw)]) s
   mi))
 else(
  if(x==1) then(
   let tS:=(iK s.li s.lt s.le)
   if decide (s.xu≤tS.1) then(
    let pU:=(gp (D.agg [D.list s.sv,D.list s.sl]))
    let uv:=(pe ((s.bk.take ((bT (i64.wrap ((bT (bV 0 s.BO) (s.bk.length:Int))+256)) (s.bk.length:Int)):Int).toNat).drop ((bT (bV 0 s.BO) (s.bk.length:Int)):Int).toNat))
    let CU:=fT (aN 46 j4 [(0,D.int .i64 5),(2,D.int .i64 1),(4,D.int .i64 s.nL),(5,D.int .i64 s.kB),(9,D.int .i64 (bT (bV 0 s.BO) (s.bk.length:Int))),(10,D.int .i64 (s.bk.length:Int)),(13,(cD 0 pU)),(14,(cD 1 pU)),(15,D.list uv)]) ({s with BO:=(bT (bV 0 s.BO) (s.bk.length:Int))}:RS)
    CU)
   else(
    let CE:=(jM s.li s.lt s.le (i64.wrap (s.xu-1)))
    let uw:=fk s.li s.lt s.le s.xu 8
    let mi:=fT (aN 46 j4 [(0,D.int .i64 3),(2,D.int .i64 1),(4,D.int .i64 (i64.wrap (s.xu-1))),(5,D.int .i64 CE.1),(6,D.int .i64 s.aZ),(8,D.int .i64 s.round),(12,D.list uw)]) s
    mi))
  else(
   if(x==2) then(
    let tS:=(iK s.li s.lt s.le)
    if decide (s.xr≤tS.1) then(
     let pU:=(gp (D.agg [D.list s.sv,D.list s.sl]))
     let uv:=(pe ((s.bk.take ((bT (i64.wrap ((bT (bV 0 s.BM) (s.bk.length:Int))+256)) (s.bk.length:Int)):Int).toNat).drop ((bT (bV 0 s.BM) (s.bk.length:Int)):Int).toNat))
     let CU:=fT (aN 46 j4 [(0,D.int .i64 5),(2,D.int .i64 2),(4,D.int .i64 s.nL),(5,D.int .i64 s.kB),(9,D.int .i64 (bT (bV 0 s.BM) (s.bk.length:Int))),(10,D.int .i64 (s.bk.length:Int)),(13,(cD 0 pU)),(14,(cD 1 pU)),(15,D.list uv)]) ({s with BM:=(bT (bV 0 s.BM) (s.bk.length:Int))}:RS)
     CU)
    else(
     let CE:=(jM s.li s.lt s.le (i64.wrap (s.xr-1)))
     let uw:=fk s.li s.lt s.le s.xr 8
     let mi:=fT (aN 46 j4 [(0,D.int .i64 3),(2,D.int .i64 2),(4,D.int .i64 (i64.wrap (s.xr-1))),(5,D.int .i64 CE.1),(6,D.int .i64 s.aZ),(8,D.int .i64 s.round),(12,D.list uw)]) s
     mi))
   else(
    if(x==3) then(
     let tS:=(iK s.li s.lt s.le)
     if decide (s.xq≤tS.1) then(
      let pU:=(gp (D.agg [D.list s.sv,D.list s.sl]))
      let uv:=(pe ((s.bk.take ((bT (i64.wrap ((bT (bV 0 s.BK) (s.bk.length:Int))+256)) (s.bk.length:Int)):Int).toNat).drop ((bT (bV 0 s.BK) (s.bk.length:Int)):Int).toNat))
      let CU:=fT (aN 46 j4 [(0,D.int .i64 5),(2,D.int .i64 3),(4,D.int .i64 s.nL),(5,D.int .i64 s.kB),(9,D.int .i64 (bT (bV 0 s.BK) (s.bk.length:Int))),(10,D.int .i64 (s.bk.length:Int)),(13,(cD 0 pU)),(14,(cD 1 pU)),(15,D.list uv)]) ({s with BK:=(bT (bV 0 s.BK) (s.bk.length:Int))}:RS)
      CU)
     else(
      let CE:=(jM s.li s.lt s.le (i64.wrap (s.xq-1)))
      let uw:=fk s.li s.lt s.le s.xq 8
      let mi:=fT (aN 46 j4 [(0,D.int .i64 3),(2,D.int .i64 3),(4,D.int .i64 (i64.wrap (s.xq-1))),(5,D.int .i64 CE.1),(6,D.int .i64 s.aZ),(8,D.int .i64 s.round),(12,D.list uw)]) s
      mi))
    else(
     if(x==4) then(
      let tS:=(iK s.li s.lt s.le)
      if decide (s.xp≤tS.1) then(
       let pU:=(gp (D.agg [D.list s.sv,D.list s.sl]))
       let uv:=(pe ((s.bk.take ((bT (i64.wrap ((bT (bV 0 s.BI) (s.bk.length:Int))+256)) (s.bk.length:Int)):Int).toNat).drop ((bT (bV 0 s.BI) (s.bk.length:Int)):Int).toNat))
       let CU:=fT (aN 46 j4 [(0,D.int .i64 5),(2,D.int .i64 4),(4,D.int .i64 s.nL),(5,D.int .i64 s.kB),(9,D.int .i64 (bT (bV 0 s.BI) (s.bk.length:Int))),(10,D.int .i64 (s.bk.length:Int)),(13,(cD 0 pU)),(14,(cD 1 pU)),(15,D.list uv)]) ({s with BI:=(bT (bV 0 s.BI) (s.bk.length:Int))}:RS)
       CU)
      else(
       let CE:=(jM s.li s.lt s.le (i64.wrap (s.xp-1)))
       let uw:=fk s.li s.lt s.le s.xp 8
       let mi:=fT (aN 46 j4 [(0,D.int .i64 3),(2,D.int .i64 4),(4,D.int .i64 (i64.wrap (s.xp-1))),(5,D.int .i64 CE.1),(6,D.int .i64 s.aZ),(8,D.int .i64 s.round),(12,D.list uw)]) s
       mi))
     else(
      if(x==5) then(
       let tS:=(iK s.li s.lt s.le)
       if decide (s.xn≤tS.1) then(
        let pU:=(gp (D.agg [D.list s.sv,D.list s.sl]))
        let uv:=(pe ((s.bk.take ((bT (i64.wrap ((bT (bV 0 s.BG) (s.bk.length:Int))+256)) (s.bk.length:Int)):Int).toNat).drop ((bT (bV 0 s.BG) (s.bk.length:Int)):Int).toNat))
        let CU:=fT (aN 46 j4 [(0,D.int .i64 5),(2,D.int .i64 5),(4,D.int .i64 s.nL),(5,D.int .i64 s.kB),(9,D.int .i64 (bT (bV 0 s.BG) (s.bk.length:Int))),(10,D.int .i64 (s.bk.length:Int)),(13,(cD 0 pU)),(14,(cD 1 pU)),(15,D.list uv)]) ({s with BG:=(bT (bV 0 s.BG) (s.bk.length:Int))}:RS)
        CU)
       else(
        let CE:=(jM s.li s.lt s.le (i64.wrap (s.xn-1)))
        let uw:=fk s.li s.lt s.le s.xn 8
        let mi:=fT (aN 46 j4 [(0,D.int .i64 3),(2,D.int .i64 5),(4,D.int .i64 (i64.wrap (s.xn-1))),(5,D.int .i64 CE.1),(6,D.int .i64 s.aZ),(8,D.int .i64 s.round),(12,D.list uw)]) s
        mi))
      else(
       dR))))))
def jS(x:Int)(s:RS):Bool×RS:=
 if decide (x≤s.aZ) then(
  (false,s))
 else(
  let x77:=fk s.li s.lt s.le (i64.wrap (s.aZ+1)) (i64.wrap (x-s.aZ))
  let x99:=(ni x77 (D.fn 84 []))
  (x99,({s with cb:=(s.cb++x77),aZ:=x}:RS)))
def nT(s:RS)(jm:Int×Int)(i69:List D):RS:=
 let x82:=(fO s)
 let ud:=(px (aN 2 x82 []) (D.list ((i69.take ((i64.wrap (s.id-1)):Int).toNat)++(D.int .i64 jm.1::((i69.drop ((i64.wrap (s.id-1)):Int).toNat).drop (1:Int).toNat)))))
 let Xp:=(jM s.li s.lt s.le ud)
 if(((decide (ud≤s.aZ))||(Xp.2 !=0))||(Xp.1 !=s.term)) then(
  s)
 else(
  let mi:=jS ud s
  let adC:=(fO mi.2)
  let adB:=(nQ (aN 2 adC []) mi.2.id)
  if(mi.1&&(!adB)) then(
   let aem:=l6 mi.2.term 0 mi.2
   let ael:=nF aem
   ael)
  else(
   mi.2))
def je(s:RS)(jm:Int×Int)(i69:List D)(qA:Int):(List D×Int)⊕(RS):=
 if decide (qA<((([D.int .i64 0,D.int .i64 0,D.int .i64 0,D.int .i64 0,D.int .i64 0] :List D):List D).length:Int)) then(
  if(qA==0) then(
   .inl (((i69.take (0:Int).toNat)++(D.int .i64 s.Cf::((i69.drop (0:Int).toNat).drop (1:Int).toNat))),(i64.wrap (qA+1))))
  else(
   if(qA==1) then(
    .inl (((i69.take (1:Int).toNat)++(D.int .i64 s.BN::((i69.drop (1:Int).toNat).drop (1:Int).toNat))),(i64.wrap (qA+1))))
   else(
    if(qA==2) then(
     .inl (((i69.take (2:Int).toNat)++(D.int .i64 s.BL::((i69.drop (2:Int).toNat).drop (1:Int).toNat))),(i64.wrap (qA+1))))
    else(
     if(qA==3) then(
      .inl (((i69.take (3:Int).toNat)++(D.int .i64 s.BJ::((i69.drop (3:Int).toNat).drop (1:Int).toNat))),(i64.wrap (qA+1))))
     else(
      if(qA==4) then(
       .inl (((i69.take (4:Int).toNat)++(D.int .i64 s.BH::((i69.drop (4:Int).toNat).drop (1:Int).toNat))),(i64.wrap (qA+1))))
      else(
       .inr dR))))))
 else .inr (nT s jm i69)
def nS(s:RS)(jm:Int×Int)(i69:List D)(qA:Int):Nat:=5-qA.toNat
def rX(s:RS)(jm:Int×Int)(i69:List D)(qA:Int):RS:=ik (fun a:List D×Int=>je s jm a.1 a.2) dR (nS s jm i69 qA+1) (i69,qA)
def ji(s:RS):RS:=
 let jm:=(gn s.li s.lt s.le)
 rX s jm ([D.int .i64 0,D.int .i64 0,D.int .i64 0,D.int .i64 0,D.int .i64 0] :List D) 0
def AD(t153:RS):RS:=
 let SB:=ji t153
 SB
def pI(kQ:List D)(i153:Int)(t153:RS):(Int×RS)⊕(RS):=
 if decide (i153<((kQ:List D).length:Int)) then(
  let atV:=gE ((((kQ).getD (i153:Int).toNat .top)).aq) t153
  .inl ((i64.wrap (i153+1)),atV))
 else .inr (AD t153)
def Gr(kQ:List D)(i153:Int)(t153:RS):Nat:=kQ.length-i153.toNat
def wo(kQ:List D)(i153:Int)(t153:RS):RS:=ik (fun a:Int×RS=>pI kQ a.1 a.2) dR (Gr kQ i153 t153+1) (i153,t153)
def rR(t89:RS):RS:=
 let uz:=wS (aN 27 JQ [(0,D.int .i64 1)]) t89
 let CS:=(fO uz.2)
 let kQ:=(iM (aN 2 CS []) uz.2)
 wo kQ 0 uz.2
def kD(jm:Int×Int)(i89:Int)(t89:RS):(Int×RS)⊕(RS):=
 if decide (i89<6) then(
  if(i89==0) then(
   .inl ((i64.wrap (i89+1)),({t89 with Ja:=0,yc:=(i64.wrap (jm.1+1)),BP:=0}:RS)))
  else(
   if(i89==1) then(
    .inl ((i64.wrap (i89+1)),({t89 with Cf:=0,xu:=(i64.wrap (jm.1+1)),BO:=0}:RS)))
   else(
    if(i89==2) then(
     .inl ((i64.wrap (i89+1)),({t89 with BN:=0,xr:=(i64.wrap (jm.1+1)),BM:=0}:RS)))
    else(
     if(i89==3) then(
      .inl ((i64.wrap (i89+1)),({t89 with BL:=0,xq:=(i64.wrap (jm.1+1)),BK:=0}:RS)))
     else(
      if(i89==4) then(
       .inl ((i64.wrap (i89+1)),({t89 with BJ:=0,xp:=(i64.wrap (jm.1+1)),BI:=0}:RS)))
      else(
       if(i89==5) then(
        .inl ((i64.wrap (i89+1)),({t89 with BH:=0,xn:=(i64.wrap (jm.1+1)),BG:=0}:RS)))
       else(
        .inr dR)))))))
 else .inr (rR t89)
def ng(jm:Int×Int)(i89:Int)(t89:RS):Nat:=6-i89.toNat
def uV(jm:Int×Int)(i89:Int)(t89:RS):RS:=ik (fun a:Int×RS=>kD jm a.1 a.2) dR (ng jm i89 t89+1) (i89,t89)
def tL(s:RS):RS:=
 let jm:=(gn s.li s.lt s.le)
 uV jm 0 ({s with role:=2,bR:=s.id,wait:=0,round:=0,reads:=[]}:RS)
def Nn(t113:RS):RS:=
 t113
def th(x:D)(rK:Int×Int)(lO:List D)(i113:Int)(t113:RS):(Int×RS)⊕(RS):=
 if decide (i113<((lO:List D).length:Int)) then(
  let adA:=(nQ (aN 2 x []) ((((lO).getD (i113:Int).toNat .top)).aq))
  if adA then(
   let atW:=fT (aN 46 j4 [(0,D.int .i64 1),(2,((lO).getD (i113:Int).toNat .top)),(4,D.int .i64 rK.1),(5,D.int .i64 rK.2)]) t113
   .inl ((i64.wrap (i113+1)),atW))
  else(
   .inl ((i64.wrap (i113+1)),t113)))
 else .inr (Nn t113)
def Eu(x:D)(rK:Int×Int)(lO:List D)(i113:Int)(t113:RS):Nat:=lO.length-i113.toNat
def qh(x:D)(rK:Int×Int)(lO:List D)(i113:Int)(t113:RS):RS:=ik (fun a:Int×RS=>th x rK lO a.1 a.2) dR (Eu x rK lO i113 t113+1) (i113,t113)
def rj(x:D)(s:RS):RS:=
 let tB:=ij ({s with term:=(i64.wrap (s.term+1)),vote:=s.id}:RS)
 let x97:=(mD (aN 2 x []) (D.list ([D.int .i64 tB.id] :List D)))
 if x97 then(
  let Xt:=tL ({tB with role:=1,bR:=0,bJ:=([D.int .i64 tB.id] :List D)}:RS)
  Xt)
 else(
  let rK:=(gn tB.li tB.lt tB.le)
  let lO:=(iM (aN 2 x []) ({tB with role:=1,bR:=0,bJ:=([D.int .i64 tB.id] :List D)}:RS))
  qh x rK lO 0 ({tB with role:=1,bR:=0,bJ:=([D.int .i64 tB.id] :List D)}:RS))
def Cr(x:D)(s:RS):RS:=
 let oX:=(gn s.li s.lt s.le)
 if((cD 0 x).aq==1) then(
  let tB:=fT (aN 46 j4 [(0,D.int .i64 2),(2,(cD 1 x)),(7,D.bool true)]) s
  tB)
 else(
  if((cD 0 x).aq==3) then(
   let pS:=fT (aN 46 j4 [(0,D.int .i64 4),(2,(cD 1 x)),(4,D.int .i64 oX.1),(7,D.bool true)]) s
   pS)
  else(
   if((cD 0 x).aq==5) then(
    let s80:=fT (aN 46 j4 [(0,D.int .i64 6),(2,(cD 1 x)),(4,(cD 4 x)),(7,D.bool true),(10,D.int .i64 1)]) s
    s80)
   else(
    s)))
def Oh(x:D)(s:RS):RS:=
 let x88:=(MT s.li s.lt s.le (cD 4 x).aq (cD 5 x).aq)
 if((((s.vote==0)||(s.vote==(cD 1 x).aq))&&(s.role !=2))&&x88) then(
  if(s.vote==0) then(
   let aeo:=ij ({s with vote:=(cD 1 x).aq}:RS)
   let aen:=nF aeo
   let X6:=fT (aN 46 j4 [(0,D.int .i64 2),(2,(cD 1 x)),(7,D.bool (!((((s.vote==0)||(s.vote==(cD 1 x).aq))&&(s.role !=2))&&x88)))]) aen
   X6)
  else(
   let Xt:=nF s
   let aep:=fT (aN 46 j4 [(0,D.int .i64 2),(2,(cD 1 x)),(7,D.bool (!((((s.vote==0)||(s.vote==(cD 1 x).aq))&&(s.role !=2))&&x88)))]) Xt
   aep))
 else(
  let s98:=fT (aN 46 j4 [(0,D.int .i64 2),(2,(cD 1 x)),(7,D.bool (!((((s.vote==0)||(s.vote==(cD 1 x).aq))&&(s.role !=2))&&x88)))]) s
  s98)
def HJ(x:D)(s:RS):RS:=
 if((s.role !=1)||(cD 7 x).gV) then(
  s)
 else(
  let Lu:=(fO ({s with bJ:=(s.bJ++([(cD 1 x)] :List D))}:RS))
  let x83:=(mD (aN 2 Lu []) (D.list (s.bJ++([(cD 1 x)] :List D))))
  if x83 then(
   let Pz:=tL ({s with bJ:=(s.bJ++([(cD 1 x)] :List D))}:RS)
   Pz)
  else(
   ({s with bJ:=(s.bJ++([(cD 1 x)] :List D))}:RS)))
def nO(x:D)(s:RS):Bool×RS:=
 if(s.role==2) then(
  (false,s))
 else(
  let im:=l6 s.term (cD 1 x).aq s
  let s72:=nF im
  (true,s72))
def Cs(x:D)(s:RS):RS:=
 let dw:=nO (aN 46 x []) s
 if(!dw.1) then(
  dw.2)
 else(
  if decide ((cD 4 x).aq<dw.2.aZ) then(
   let pS:=fT (aN 46 j4 [(0,D.int .i64 4),(2,(cD 1 x)),(4,D.int .i64 dw.2.aZ),(8,(cD 8 x))]) dw.2
   pS)
  else(
   let pS:=Pa dw.2.li dw.2.lt dw.2.le (cD 4 x).aq (cD 5 x).aq (cD 12 x).aV
   if(!pS.1.2) then(
    let x89:=(gn pS.2.1 pS.2.2.1 pS.2.2.2)
    let aep:=fT (aN 46 j4 [(0,D.int .i64 4),(2,(cD 1 x)),(4,D.int .i64 (bT x89.1 (i64.wrap ((cD 4 x).aq-1)))),(7,D.bool true),(8,(cD 8 x))]) ({dw.2 with li:=pS.2.1,lt:=pS.2.2.1,le:=pS.2.2.2}:RS)
    aep)
   else(
    if decide (pS.1.1>0) then(
     let zJ:=ij ({dw.2 with li:=pS.2.1,lt:=pS.2.2.1,le:=pS.2.2.2}:RS)
     let XZ:=fk zJ.li zJ.lt zJ.le pS.1.1 (i64.wrap ((cD 4 x).aq+(((cD 12 x).aV:List D).length:Int)))
     let P1:=jS (bT (cD 6 x).aq (i64.wrap ((cD 4 x).aq+(((cD 12 x).aV:List D).length:Int)))) ({zJ with dS:=XZ}:RS)
     let atZ:=fT (aN 46 j4 [(0,D.int .i64 4),(2,(cD 1 x)),(4,D.int .i64 (i64.wrap ((cD 4 x).aq+(((cD 12 x).aV:List D).length:Int)))),(8,(cD 8 x))]) P1.2
     atZ)
    else(
     let Xt:=jS (bT (cD 6 x).aq (i64.wrap ((cD 4 x).aq+(((cD 12 x).aV:List D).length:Int)))) ({dw.2 with li:=pS.2.1,lt:=pS.2.2.1,le:=pS.2.2.2}:RS)
     let wR:=fT (aN 46 j4 [(0,D.int .i64 4),(2,(cD 1 x)),(4,D.int .i64 (i64.wrap ((cD 4 x).aq+(((cD 12 x).aV:List D).length:Int)))),(8,(cD 8 x))]) Xt.2
     wR))))
def IH(i67:List D)(t67:RS):RS:=
 ({t67 with reads:=i67}:RS)
def pB(x:D)(s:RS)(G0:D)(i67:List D)(CG:Int)(t67:RS):(List D×Int×RS)⊕(RS):=
 if decide (CG<(s.reads.length:Int)) then(
  if((decide ((cD 8 x).aq≥((cD 2 ((s.reads).getD (CG:Int).toNat .top)).aq)))&&(decide ((cD 8 x).aq≤t67.round))) then(
   .inr dR)
  else(
   let XY:=(mD (aN 2 G0 []) (cD 3 ((s.reads).getD (CG:Int).toNat .top)))
   if XY then(
    .inl (i67,(i64.wrap (CG+1)),({t67 with iZ:=(t67.iZ++([aN 2 ((s.reads).getD (CG:Int).toNat .top) []] :List D))}:RS)))
   else(
    .inl ((i67++([aN 4 ((s.reads).getD (CG:Int).toNat .top) []] :List D)),(i64.wrap (CG+1)),t67))))
 else .inr (IH i67 t67)
def zv(x:D)(s:RS)(G0:D)(i67:List D)(CG:Int)(t67:RS):Nat:=s.reads.length-CG.toNat
def pC(x:D)(s:RS)(G0:D)(i67:List D)(CG:Int)(t67:RS):RS:=ik (fun a:List D×Int×RS=>pB x s G0 a.1 a.2.1 a.2.2) dR (zv x s G0 i67 CG t67+1) (i67,CG,t67)
def nR(x:D)(s:RS):RS:=
 let G0:=(fO s)
 pC x s G0 [] 0 s
def Ho(x:Int)(y:Int)(s:RS):RS:=
 let oX:=(gn s.li s.lt s.le)
 if(x==0) then(
  let iD:=ji ({s with Ja:=(bV s.Ja (bT y oX.1)),yc:=(bV s.yc (i64.wrap ((bV s.Ja (bT y oX.1))+1))),BP:=0}:RS)
  if((iD.role==2)&&(decide (iD.yc≤oX.1))) then(
   let CV:=gE 0 iD
   CV)
  else(
   iD))
 else(
  if(x==1) then(
   let iD:=ji ({s with Cf:=(bV s.Cf (bT y oX.1)),xu:=(bV s.xu (i64.wrap ((bV s.Cf (bT y oX.1))+1))),BO:=0}:RS)
   if((iD.role==2)&&(decide (iD.xu≤oX.1))) then(
    let CV:=gE 1 iD
    CV)
   else(
    iD))
  else(
   if(x==2) then(
    let iD:=ji ({s with BN:=(bV s.BN (bT y oX.1)),xr:=(bV s.xr (i64.wrap ((bV s.BN (bT y oX.1))+1))),BM:=0}:RS)
    if((iD.role==2)&&(decide (iD.xr≤oX.1))) then(
     let CV:=gE 2 iD
     CV)
    else(
     iD))
   else(
    if(x==3) then(
     let iD:=ji ({s with BL:=(bV s.BL (bT y oX.1)),xq:=(bV s.xq (i64.wrap ((bV s.BL (bT y oX.1))+1))),BK:=0}:RS)
     if((iD.role==2)&&(decide (iD.xq≤oX.1))) then(
      let CV:=gE 3 iD
      CV)
     else(
      iD))
    else(
     if(x==4) then(
      let iD:=ji ({s with BJ:=(bV s.BJ (bT y oX.1)),xp:=(bV s.xp (i64.wrap ((bV s.BJ (bT y oX.1))+1))),BI:=0}:RS)
      if((iD.role==2)&&(decide (iD.xp≤oX.1))) then(
       let CV:=gE 4 iD
       CV)
      else(
       iD))
     else(
      if(x==5) then(
       let iD:=ji ({s with BH:=(bV s.BH (bT y oX.1)),xn:=(bV s.xn (i64.wrap ((bV s.BH (bT y oX.1))+1))),BG:=0}:RS)
       if((iD.role==2)&&(decide (iD.xn≤oX.1))) then(
        let CV:=gE 5 iD
        CV)
       else(
        iD))
      else(
       dR))))))
def wq(x:D)(s:RS):RS:=
 let tS:=(vP (cD 1 x).aq s)
 if((s.role !=2)||(!tS)) then(
  s)
 else(
  let im:=nR (aN 46 x []) s
  if((cD 1 x).aq==0) then(
   if(cD 7 x).gV then(
    let ud:=(gn im.li im.lt im.le)
    let CW:=gE 0 ({im with yc:=(bV (i64.wrap (im.Ja+1)) (bT (i64.wrap (im.yc-1)) (i64.wrap ((bT (bV 0 (cD 4 x).aq) ud.1)+1))))}:RS)
    CW)
   else(
    let Pz:=Ho 0 (cD 4 x).aq im
    Pz))
  else(
   if((cD 1 x).aq==1) then(
    if(cD 7 x).gV then(
     let ud:=(gn im.li im.lt im.le)
     let CW:=gE 1 ({im with xu:=(bV (i64.wrap (im.Cf+1)) (bT (i64.wrap (im.xu-1)) (i64.wrap ((bT (bV 0 (cD 4 x).aq) ud.1)+1))))}:RS)
     CW)
    else(
     let Pz:=Ho 1 (cD 4 x).aq im
     Pz))
   else(
    if((cD 1 x).aq==2) then(
     if(cD 7 x).gV then(
      let ud:=(gn im.li im.lt im.le)
      let CW:=gE 2 ({im with xr:=(bV (i64.wrap (im.BN+1)) (bT (i64.wrap (im.xr-1)) (i64.wrap ((bT (bV 0 (cD 4 x).aq) ud.1)+1))))}:RS)
      CW)
     else(
      let Pz:=Ho 2 (cD 4 x).aq im
      Pz))
    else(
     if((cD 1 x).aq==3) then(
      if(cD 7 x).gV then(
       let ud:=(gn im.li im.lt im.le)
       let CW:=gE 3 ({im with xq:=(bV (i64.wrap (im.BL+1)) (bT (i64.wrap (im.xq-1)) (i64.wrap ((bT (bV 0 (cD 4 x).aq) ud.1)+1))))}:RS)
       CW)
      else(
       let Pz:=Ho 3 (cD 4 x).aq im
       Pz))
     else(
      if((cD 1 x).aq==4) then(
       if(cD 7 x).gV then(
        let ud:=(gn im.li im.lt im.le)
        let CW:=gE 4 ({im with xp:=(bV (i64.wrap (im.BJ+1)) (bT (i64.wrap (im.xp-1)) (i64.wrap ((bT (bV 0 (cD 4 x).aq) ud.1)+1))))}:RS)
        CW)
       else(
        let Pz:=Ho 4 (cD 4 x).aq im
        Pz))
      else(
       if((cD 1 x).aq==5) then(
        if(cD 7 x).gV then(
         let ud:=(gn im.li im.lt im.le)
         let CW:=gE 5 ({im with xn:=(bV (i64.wrap (im.BH+1)) (bT (i64.wrap (im.xn-1)) (i64.wrap ((bT (bV 0 (cD 4 x).aq) ud.1)+1))))}:RS)
         CW)
        else(
         let Pz:=Ho 5 (cD 4 x).aq im
         Pz))
       else(
        dR)))))))
def zd(x:D)(s:RS):RS:=
 let tS:=(vP (cD 1 x).aq s)
 if((s.role !=2)||(!tS)) then(
  s)
 else(
  if((!(cD 7 x).gV)&&((cD 10 x).aq==0)) then(
   let s82:=Ho (cD 1 x).aq (cD 4 x).aq s
   s82)
  else(
   if((cD 4 x).aq==s.nL) then(
    if((cD 1 x).aq==0) then(
     let wR:=gE 0 ({s with BP:=(bT (bV 0 (cD 9 x).aq) (s.bk.length:Int))}:RS)
     wR)
    else(
     if((cD 1 x).aq==1) then(
      let wR:=gE 1 ({s with BO:=(bT (bV 0 (cD 9 x).aq) (s.bk.length:Int))}:RS)
      wR)
     else(
      if((cD 1 x).aq==2) then(
       let wR:=gE 2 ({s with BM:=(bT (bV 0 (cD 9 x).aq) (s.bk.length:Int))}:RS)
       wR)
      else(
       if((cD 1 x).aq==3) then(
        let wR:=gE 3 ({s with BK:=(bT (bV 0 (cD 9 x).aq) (s.bk.length:Int))}:RS)
        wR)
       else(
        if((cD 1 x).aq==4) then(
         let wR:=gE 4 ({s with BI:=(bT (bV 0 (cD 9 x).aq) (s.bk.length:Int))}:RS)
         wR)
        else(
         if((cD 1 x).aq==5) then(
          let wR:=gE 5 ({s with BG:=(bT (bV 0 (cD 9 x).aq) (s.bk.length:Int))}:RS)
          wR)
         else(
          dR)))))))
   else(
    s)))
def Oi(x:D)(s:RS):RS:=
 let dw:=nO (aN 46 x []) s
 if(!dw.1) then(
  dw.2)
 else(
  if decide ((cD 4 x).aq≤dw.2.aZ) then(
   let ZZ:=fT (aN 46 j4 [(0,D.int .i64 6),(2,(cD 1 x)),(4,D.int .i64 dw.2.aZ)]) dw.2
   ZZ)
  else(
   if((!(((((dw.2.jr==(cD 3 x).aq)&&(dw.2.js==(cD 1 x).aq))&&(dw.2.gR==(cD 4 x).aq))&&(dw.2.mK==(cD 5 x).aq))&&(dw.2.gP==(cD 10 x).aq)))||((cD 9 x).aq==0)) then(
    let XW:=(ue (cD 10 x).aq 1 1048576)
    if((((cD 9 x).aq==(([] :List D).length:Int))&&(decide ((((cD 15 x).aV:List D).length:Int)≤(i64.wrap ((cD 10 x).aq-(([] :List D).length:Int))))))&&XW) then(
     let Ff:=(nu (cD 4 x).aq (cD 5 x).aq)
     if(cD 0 Ff).ic then(
      let PW:=(gC (D.agg [(cD 13 x),(cD 14 x)]))
      let aeh:=fT (aN 46 j4 [(0,D.int .i64 6),(2,(cD 1 x)),(4,(cD 4 x)),(9,D.int .i64 ((([] ++(cD 15 x).aV):List D).length:Int)),(10,D.int .i64 (bV 1 (cD 10 x).aq))]) ({dw.2 with jr:=(cD 3 x).aq,js:=(cD 1 x).aq,gR:=(cD 4 x).aq,mK:=(cD 5 x).aq,gP:=(cD 10 x).aq,dp:=([] ++(cD 15 x).aV)}:RS)
      aeh)
     else(
      let PW:=(gC (D.agg [(cD 13 x),(cD 14 x)]))
      if((((((([] ++(cD 15 x).aV):List D).length:Int) !=(cD 10 x).aq)||(decide ((cD 10 x).aq<1)))&&true)||(!PW)) then(
       let aeh:=fT (aN 46 j4 [(0,D.int .i64 6),(2,(cD 1 x)),(4,(cD 4 x)),(9,D.int .i64 ((([] ++(cD 15 x).aV):List D).length:Int)),(10,D.int .i64 (bV 1 (cD 10 x).aq))]) ({dw.2 with jr:=(cD 3 x).aq,js:=(cD 1 x).aq,gR:=(cD 4 x).aq,mK:=(cD 5 x).aq,gP:=(cD 10 x).aq,dp:=([] ++(cD 15 x).aV)}:RS)
       aeh)
      else(
       let o4:=(gp (D.agg [(cD 13 x),(cD 14 x)]))
       let LO:=(jM dw.2.li dw.2.lt dw.2.le (cD 4 x).aq)
       if((LO.2==0)&&(LO.1==(cD 5 x).aq)) then(
        let LU:=oR dw.2.li dw.2.lt dw.2.le (cD 4 x).aq
        let CK:=(ua (D.agg [(cD 4 x),(cD 5 x),(cD 0 o4),(cD 1 o4),D.list ([] ++(cD 15 x).aV)]))
        let aeb:=ij ({dw.2 with jG:=(D.ptr [(cD 0 CK),(cD 1 CK),(cD 2 CK),(cD 3 CK),(cD 4 CK)]),nL:=(cD 4 x).aq,kB:=(cD 5 x).aq,sv:=(cD 0 o4).aV,sl:=(cD 1 o4).aV,bk:=([] ++(cD 15 x).aV),aZ:=(cD 4 x).aq,jr:=0,js:=0,gR:=0,mK:=0,gP:=0,dp:=[],li:=LU.2.1,lt:=LU.2.2.1,le:=LU.2.2.2}:RS)
        let atO:=fT (aN 46 j4 [(0,D.int .i64 6),(2,(cD 1 x)),(4,(cD 4 x))]) aeb
        atO)
       else(
        let CL:=(ua (D.agg [(cD 4 x),(cD 5 x),(cD 0 o4),(cD 1 o4),D.list ([] ++(cD 15 x).aV)]))
        let aec:=ij ({dw.2 with jG:=(D.ptr [(cD 0 CL),(cD 1 CL),(cD 2 CL),(cD 3 CL),(cD 4 CL)]),nL:=(cD 4 x).aq,kB:=(cD 5 x).aq,sv:=(cD 0 o4).aV,sl:=(cD 1 o4).aV,bk:=([] ++(cD 15 x).aV),aZ:=(cD 4 x).aq,jr:=0,js:=0,gR:=0,mK:=0,gP:=0,dp:=[],li:=((cD 0 (cD 1 Ff)).aq),lt:=((cD 1 (cD 1 Ff)).aq),le:=((cD 2 (cD 1 Ff)).aV)}:RS)
        let atP:=fT (aN 46 j4 [(0,D.int .i64 6),(2,(cD 1 x)),(4,(cD 4 x))]) aec
        atP))))
    else(
     let Fh:=(nu (cD 4 x).aq (cD 5 x).aq)
     if(cD 0 Fh).ic then(
      let PY:=(gC (D.agg [(cD 13 x),(cD 14 x)]))
      let SB:=fT (aN 46 j4 [(0,D.int .i64 6),(2,(cD 1 x)),(4,(cD 4 x)),(9,D.int .i64 (([] :List D).length:Int)),(10,D.int .i64 (bV 1 (cD 10 x).aq))]) ({dw.2 with jr:=(cD 3 x).aq,js:=(cD 1 x).aq,gR:=(cD 4 x).aq,mK:=(cD 5 x).aq,gP:=(cD 10 x).aq,dp:=[]}:RS)
      SB)
     else(
      let PY:=(gC (D.agg [(cD 13 x),(cD 14 x)]))
      if(((((([] :List D).length:Int) !=(cD 10 x).aq)||(decide ((cD 10 x).aq<1)))&&true)||(!PY)) then(
       let SB:=fT (aN 46 j4 [(0,D.int .i64 6),(2,(cD 1 x)),(4,(cD 4 x)),(9,D.int .i64 (([] :List D).length:Int)),(10,D.int .i64 (bV 1 (cD 10 x).aq))]) ({dw.2 with jr:=(cD 3 x).aq,js:=(cD 1 x).aq,gR:=(cD 4 x).aq,mK:=(cD 5 x).aq,gP:=(cD 10 x).aq,dp:=[]}:RS)
       SB)
      else(
       let um:=(gp (D.agg [(cD 13 x),(cD 14 x)]))
       let LQ:=(jM dw.2.li dw.2.lt dw.2.le (cD 4 x).aq)
       if((LQ.2==0)&&(LQ.1==(cD 5 x).aq)) then(
        let LW:=oR dw.2.li dw.2.lt dw.2.le (cD 4 x).aq
        let CO:=(ua (D.agg [(cD 4 x),(cD 5 x),(cD 0 um),(cD 1 um),D.list []]))
        let aed:=ij ({dw.2 with jG:=(D.ptr [(cD 0 CO),(cD 1 CO),(cD 2 CO),(cD 3 CO),(cD 4 CO)]),nL:=(cD 4 x).aq,kB:=(cD 5 x).aq,sv:=(cD 0 um).aV,sl:=(cD 1 um).aV,bk:=[],aZ:=(cD 4 x).aq,jr:=0,js:=0,gR:=0,mK:=0,gP:=0,dp:=[],li:=LW.2.1,lt:=LW.2.2.1,le:=LW.2.2.2}:RS)
        let Sz:=fT (aN 46 j4 [(0,D.int .i64 6),(2,(cD 1 x)),(4,(cD 4 x))]) aed
        Sz)
       else(
        let CP:=(ua (D.agg [(cD 4 x),(cD 5 x),(cD 0 um),(cD 1 um),D.list []]))
        let aee:=ij ({dw.2 with jG:=(D.ptr [(cD 0 CP),(cD 1 CP),(cD 2 CP),(cD 3 CP),(cD 4 CP)]),nL:=(cD 4 x).aq,kB:=(cD 5 x).aq,sv:=(cD 0 um).aV,sl:=(cD 1 um).aV,bk:=[],aZ:=(cD 4 x).aq,jr:=0,js:=0,gR:=0,mK:=0,gP:=0,dp:=[],li:=((cD 0 (cD 1 Fh)).aq),lt:=((cD 1 (cD 1 Fh)).aq),le:=((cD 2 (cD 1 Fh)).aV)}:RS)
        let SA:=fT (aN 46 j4 [(0,D.int .i64 6),(2,(cD 1 x)),(4,(cD 4 x))]) aee
        SA)))))
   else(
    let XX:=(ue (cD 10 x).aq 1 1048576)
    if((((cD 9 x).aq==((dw.2.dp:List D).length:Int))&&(decide ((((cD 15 x).aV:List D).length:Int)≤(i64.wrap ((cD 10 x).aq-((dw.2.dp:List D).length:Int))))))&&XX) then(
     let Fg:=(nu (cD 4 x).aq (cD 5 x).aq)
     if(cD 0 Fg).ic then(
      let PX:=(gC (D.agg [(cD 13 x),(cD 14 x)]))
      let aei:=fT (aN 46 j4 [(0,D.int .i64 6),(2,(cD 1 x)),(4,(cD 4 x)),(9,D.int .i64 (((dw.2.dp++(cD 15 x).aV):List D).length:Int)),(10,D.int .i64 (bV 1 (cD 10 x).aq))]) ({dw.2 with dp:=(dw.2.dp++(cD 15 x).aV)}:RS)
      aei)
     else(
      let PX:=(gC (D.agg [(cD 13 x),(cD 14 x)]))
      if(((((((dw.2.dp++(cD 15 x).aV):List D).length:Int) !=(cD 10 x).aq)||(decide ((cD 10 x).aq<1)))&&true)||(!PX)) then(
       let aei:=fT (aN 46 j4 [(0,D.int .i64 6),(2,(cD 1 x)),(4,(cD 4 x)),(9,D.int .i64 (((dw.2.dp++(cD 15 x).aV):List D).length:Int)),(10,D.int .i64 (bV 1 (cD 10 x).aq))]) ({dw.2 with dp:=(dw.2.dp++(cD 15 x).aV)}:RS)
       aei)
      else(
       let uk:=(gp (D.agg [(cD 13 x),(cD 14 x)]))
       let LP:=(jM dw.2.li dw.2.lt dw.2.le (cD 4 x).aq)
       if((LP.2==0)&&(LP.1==(cD 5 x).aq)) then(
        let LV:=oR dw.2.li dw.2.lt dw.2.le (cD 4 x).aq
        let CM:=(ua (D.agg [(cD 4 x),(cD 5 x),(cD 0 uk),(cD 1 uk),D.list (dw.2.dp++(cD 15 x).aV)]))
        let Sz:=ij ({dw.2 with jG:=(D.ptr [(cD 0 CM),(cD 1 CM),(cD 2 CM),(cD 3 CM),(cD 4 CM)]),nL:=(cD 4 x).aq,kB:=(cD 5 x).aq,sv:=(cD 0 uk).aV,sl:=(cD 1 uk).aV,bk:=(dw.2.dp++(cD 15 x).aV),aZ:=(cD 4 x).aq,jr:=0,js:=0,gR:=0,mK:=0,gP:=0,dp:=[],li:=LV.2.1,lt:=LV.2.2.1,le:=LV.2.2.2}:RS)
        let atQ:=fT (aN 46 j4 [(0,D.int .i64 6),(2,(cD 1 x)),(4,(cD 4 x))]) Sz
        atQ)
       else(
        let CN:=(ua (D.agg [(cD 4 x),(cD 5 x),(cD 0 uk),(cD 1 uk),D.list (dw.2.dp++(cD 15 x).aV)]))
        let SA:=ij ({dw.2 with jG:=(D.ptr [(cD 0 CN),(cD 1 CN),(cD 2 CN),(cD 3 CN),(cD 4 CN)]),nL:=(cD 4 x).aq,kB:=(cD 5 x).aq,sv:=(cD 0 uk).aV,sl:=(cD 1 uk).aV,bk:=(dw.2.dp++(cD 15 x).aV),aZ:=(cD 4 x).aq,jr:=0,js:=0,gR:=0,mK:=0,gP:=0,dp:=[],li:=((cD 0 (cD 1 Fg)).aq),lt:=((cD 1 (cD 1 Fg)).aq),le:=((cD 2 (cD 1 Fg)).aV)}:RS)
        let atS:=fT (aN 46 j4 [(0,D.int .i64 6),(2,(cD 1 x)),(4,(cD 4 x))]) SA
        atS))))
    else(
     let Fi:=(nu (cD 4 x).aq (cD 5 x).aq)
     if(cD 0 Fi).ic then(
      let PZ:=(gC (D.agg [(cD 13 x),(cD 14 x)]))
      let aej:=fT (aN 46 j4 [(0,D.int .i64 6),(2,(cD 1 x)),(4,(cD 4 x)),(9,D.int .i64 ((dw.2.dp:List D).length:Int)),(10,D.int .i64 (bV 1 (cD 10 x).aq))]) dw.2
      aej)
     else(
      let PZ:=(gC (D.agg [(cD 13 x),(cD 14 x)]))
      if((((((dw.2.dp:List D).length:Int) !=(cD 10 x).aq)||(decide ((cD 10 x).aq<1)))&&true)||(!PZ)) then(
       let aej:=fT (aN 46 j4 [(0,D.int .i64 6),(2,(cD 1 x)),(4,(cD 4 x)),(9,D.int .i64 ((dw.2.dp:List D).length:Int)),(10,D.int .i64 (bV 1 (cD 10 x).aq))]) dw.2
       aej)
      else(
       let ur:=(gp (D.agg [(cD 13 x),(cD 14 x)]))
       let o4:=(jM dw.2.li dw.2.lt dw.2.le (cD 4 x).aq)
       if((o4.2==0)&&(o4.1==(cD 5 x).aq)) then(
        let LX:=oR dw.2.li dw.2.lt dw.2.le (cD 4 x).aq
        let CQ:=(ua (D.agg [(cD 4 x),(cD 5 x),(cD 0 ur),(cD 1 ur),D.list dw.2.dp]))
        let aef:=ij ({dw.2 with jG:=(D.ptr [(cD 0 CQ),(cD 1 CQ),(cD 2 CQ),(cD 3 CQ),(cD 4 CQ)]),nL:=(cD 4 x).aq,kB:=(cD 5 x).aq,sv:=(cD 0 ur).aV,sl:=(cD 1 ur).aV,bk:=dw.2.dp,aZ:=(cD 4 x).aq,jr:=0,js:=0,gR:=0,mK:=0,gP:=0,dp:=[],li:=LX.2.1,lt:=LX.2.2.1,le:=LX.2.2.2}:RS)
        let atT:=fT (aN 46 j4 [(0,D.int .i64 6),(2,(cD 1 x)),(4,(cD 4 x))]) aef
        atT)
       else(
        let CR:=(ua (D.agg [(cD 4 x),(cD 5 x),(cD 0 ur),(cD 1 ur),D.list dw.2.dp]))
        let aeg:=ij ({dw.2 with jG:=(D.ptr [(cD 0 CR),(cD 1 CR),(cD 2 CR),(cD 3 CR),(cD 4 CR)]),nL:=(cD 4 x).aq,kB:=(cD 5 x).aq,sv:=(cD 0 ur).aV,sl:=(cD 1 ur).aV,bk:=dw.2.dp,aZ:=(cD 4 x).aq,jr:=0,js:=0,gR:=0,mK:=0,gP:=0,dp:=[],li:=((cD 0 (cD 1 Fi)).aq),lt:=((cD 1 (cD 1 Fi)).aq),le:=((cD 2 (cD 1 Fi)).aV)}:RS)
        let atU:=fT (aN 46 j4 [(0,D.int .i64 6),(2,(cD 1 x)),(4,(cD 4 x))]) aeg
        atU)))))))
def pg(x:D)(s:RS):D×RS:=
 let x76:=(ue (cD 1 x).aq 1 5)
 let se:=(ue (cD 3 x).aq 1 1099511627776)
 let adD:=(fm (cD 12 x).aV)
 if(((decide ((cD 5 x).aq>(cD 3 x).aq))||((decide ((((cD 12 x).aV:List D).length:Int)>0))&&(decide (((cD 1 (((cD 12 x).aV).getD ((i64.wrap ((((cD 12 x).aV:List D).length:Int)-1)):Int).toNat .top)).aq)>(cD 3 x).aq))))||(!adD)) then(
  let akD:=fj s
  (aN 8 akD.1 [],akD.2))
 else(
  if(((!(((((cD 2 x).aq==s.id)&&((cD 1 x).aq !=s.id))&&x76)&&se))||(decide ((cD 0 x).aq<1)))||(decide ((cD 0 x).aq>6))) then(
   let akE:=fj s
   (aN 8 akE.1 [],akE.2))
  else(
   if decide ((cD 3 x).aq>s.term) then(
    let q9:=l6 (cD 3 x).aq 0 s
    if decide ((cD 3 x).aq<q9.term) then(
     let aek:=Cr (aN 46 x []) q9
     let LZ:=fj aek
     (aN 8 LZ.1 [],LZ.2))
    else(
     if((cD 0 x).aq==1) then(
      let P0:=Oh (aN 46 x []) q9
      let Hm:=fj P0
      (aN 8 Hm.1 [],Hm.2))
     else(
      if((cD 0 x).aq==2) then(
       let Hm:=HJ (aN 46 x []) q9
       let Hl:=fj Hm
       (aN 8 Hl.1 [],Hl.2))
      else(
       if((cD 0 x).aq==3) then(
        let Hl:=Cs (aN 46 x []) q9
        let Hk:=fj Hl
        (aN 8 Hk.1 [],Hk.2))
       else(
        if((cD 0 x).aq==4) then(
         let Hk:=wq (aN 46 x []) q9
         let LY:=fj Hk
         (aN 8 LY.1 [],LY.2))
        else(
         if((cD 0 x).aq==5) then(
          let LY:=Oi (aN 46 x []) q9
          let X5:=fj LY
          (aN 8 X5.1 [],X5.2))
         else(
          if((cD 0 x).aq==6) then(
           let X5:=zd (aN 46 x []) q9
           let akx:=fj X5
           (aN 8 akx.1 [],akx.2))
          else(
           let aky:=fj q9
           (aN 8 aky.1 [],aky.2)))))))))
   else(
    if decide ((cD 3 x).aq<s.term) then(
     let atX:=Cr (aN 46 x []) s
     let akA:=fj atX
     (aN 8 akA.1 [],akA.2))
    else(
     if((cD 0 x).aq==1) then(
      let aek:=Oh (aN 46 x []) s
      let LZ:=fj aek
      (aN 8 LZ.1 [],LZ.2))
     else(
      if((cD 0 x).aq==2) then(
       let LZ:=HJ (aN 46 x []) s
       let P0:=fj LZ
       (aN 8 P0.1 [],P0.2))
      else(
       if((cD 0 x).aq==3) then(
        let P0:=Cs (aN 46 x []) s
        let Hm:=fj P0
        (aN 8 Hm.1 [],Hm.2))
       else(
        if((cD 0 x).aq==4) then(
         let Hm:=wq (aN 46 x []) s
         let Hl:=fj Hm
         (aN 8 Hl.1 [],Hl.2))
        else(
         if((cD 0 x).aq==5) then(
          let Hl:=Oi (aN 46 x []) s
          let Hk:=fj Hl
          (aN 8 Hk.1 [],Hk.2))
         else(
          if((cD 0 x).aq==6) then(
           let Hk:=zd (aN 46 x []) s
           let LY:=fj Hk
           (aN 8 LY.1 [],LY.2))
          else(
           let akz:=fj s
           (aN 8 akz.1 [],akz.2)))))))))))
def V5(t84:RS):D×RS:=
 let akC:=fj t84
 (aN 8 akC.1 [],akC.2)
def DU(se:List D)(i84:Int)(t84:RS):(Int×RS)⊕(D×RS):=
 if decide (i84<((se:List D).length:Int)) then(
  let atY:=gE ((((se).getD (i84:Int).toNat .top)).aq) t84
  .inl ((i64.wrap (i84+1)),atY))
 else .inr (V5 t84)
def Kq(se:List D)(i84:Int)(t84:RS):Nat:=se.length-i84.toNat
def zc(se:List D)(i84:Int)(t84:RS):D×RS:=ik (fun a:Int×RS=>DU se a.1 a.2) (.top,dR) (Kq se i84 t84+1) (i84,t84)
def fW(x:Int)(s:RS):D×RS:=
 if(s.role==2) then(
  if decide ((i64.wrap (s.wait+1))≥2) then(
   let RW:=(fO ({s with wait:=0}:RS))
   let se:=(iM (aN 2 RW []) ({s with wait:=0}:RS))
   zc se 0 ({s with wait:=0}:RS))
  else(
   let ZZ:=fj ({s with wait:=(i64.wrap (s.wait+1))}:RS)
   (aN 8 ZZ.1 [],ZZ.2)))
 else(
  if(s.end_==0) then(
   if decide (x<0) then(
    if decide ((i64.wrap (s.wait+1))≥(i64.wrap (10+((i64.wrap (0-(i64.wrap (x+1)))).tmod 10)))) then(
     let zJ:=nF ({s with wait:=(i64.wrap (s.wait+1)),end_:=(i64.wrap (10+((i64.wrap (0-(i64.wrap (x+1)))).tmod 10)))}:RS)
     let x99:=(fO zJ)
     let adE:=(nQ (aN 2 x99 []) zJ.id)
     if(adE&&(decide (zJ.term<1099511627776))) then(
      let mi:=rj (aN 2 x99 []) zJ
      let akF:=fj mi
      (aN 8 akF.1 [],akF.2))
     else(
      let X6:=fj zJ
      (aN 8 X6.1 [],X6.2)))
    else(
     let zJ:=fj ({s with wait:=(i64.wrap (s.wait+1)),end_:=(i64.wrap (10+((i64.wrap (0-(i64.wrap (x+1)))).tmod 10)))}:RS)
     (aN 8 zJ.1 [],zJ.2)))
   else(
    if decide ((i64.wrap (s.wait+1))≥(i64.wrap (10+(x.tmod 10)))) then(
     let Lx:=nF ({s with wait:=(i64.wrap (s.wait+1)),end_:=(i64.wrap (10+(x.tmod 10)))}:RS)
     let x95:=(fO Lx)
     let adF:=(nQ (aN 2 x95 []) Lx.id)
     if(adF&&(decide (Lx.term<1099511627776))) then(
      let at0:=rj (aN 2 x95 []) Lx
      let P1:=fj at0
      (aN 8 P1.1 [],P1.2))
     else(
      let akG:=fj Lx
      (aN 8 akG.1 [],akG.2)))
    else(
     let Lx:=fj ({s with wait:=(i64.wrap (s.wait+1)),end_:=(i64.wrap (10+(x.tmod 10)))}:RS)
     (aN 8 Lx.1 [],Lx.2))))
  else(
   if decide ((i64.wrap (s.wait+1))≥s.end_) then(
    let I9:=nF ({s with wait:=(i64.wrap (s.wait+1))}:RS)
    let CE:=(fO I9)
    let x94:=(nQ (aN 2 CE []) I9.id)
    if(x94&&(decide (I9.term<1099511627776))) then(
     let at1:=rj (aN 2 CE []) I9
     let wR:=fj at1
     (aN 8 wR.1 [],wR.2))
    else(
     let akH:=fj I9
     (aN 8 akH.1 [],akH.2)))
   else(
    let I9:=fj ({s with wait:=(i64.wrap (s.wait+1))}:RS)
    (aN 8 I9.1 [],I9.2))))
def vn(np:(D×Int)×RS)(t82:RS):(D×Int×D)×RS:=
 let q9:=ji t82
 let akB:=fj q9
 ((aN 29 np.1.1 [],0,aN 8 akB.1 []),akB.2)
def oV(np:(D×Int)×RS)(kL:List D)(i82:Int)(t82:RS):(Int×RS)⊕((D×Int×D)×RS):=
 if decide (i82<((kL:List D).length:Int)) then(
  if(((((kL).getD (i82:Int).toNat .top)).aq)==0) then(
   if(t82.yc==((cD 0 np.1.1).aq)) then(
    let CT:=gE 0 t82
    .inl ((i64.wrap (i82+1)),CT))
   else(
    .inl ((i64.wrap (i82+1)),t82)))
  else(
   if(((((kL).getD (i82:Int).toNat .top)).aq)==1) then(
    if(t82.xu==((cD 0 np.1.1).aq)) then(
     let CT:=gE 1 t82
     .inl ((i64.wrap (i82+1)),CT))
    else(
     .inl ((i64.wrap (i82+1)),t82)))
   else(
    if(((((kL).getD (i82:Int).toNat .top)).aq)==2) then(
     if(t82.xr==((cD 0 np.1.1).aq)) then(
      let CT:=gE 2 t82
      .inl ((i64.wrap (i82+1)),CT))
     else(
      .inl ((i64.wrap (i82+1)),t82)))
    else(
     if(((((kL).getD (i82:Int).toNat .top)).aq)==3) then(
      if(t82.xq==((cD 0 np.1.1).aq)) then(
       let CT:=gE 3 t82
       .inl ((i64.wrap (i82+1)),CT))
      else(
       .inl ((i64.wrap (i82+1)),t82)))
     else(
      if(((((kL).getD (i82:Int).toNat .top)).aq)==4) then(
       if(t82.xp==((cD 0 np.1.1).aq)) then(
        let CT:=gE 4 t82
        .inl ((i64.wrap (i82+1)),CT))
       else(
        .inl ((i64.wrap (i82+1)),t82)))
      else(
       if(((((kL).getD (i82:Int).toNat .top)).aq)==5) then(
        if(t82.xn==((cD 0 np.1.1).aq)) then(
         let CT:=gE 5 t82
         .inl ((i64.wrap (i82+1)),CT))
        else(
         .inl ((i64.wrap (i82+1)),t82)))
       else(
        .inr ((.top,0,.top),dR))))))))
 else .inr (vn np t82)
def Bi(np:(D×Int)×RS)(kL:List D)(i82:Int)(t82:RS):Nat:=kL.length-i82.toNat
def qS(np:(D×Int)×RS)(kL:List D)(i82:Int)(t82:RS):(D×Int×D)×RS:=ik (fun a:Int×RS=>oV np kL a.1 a.2) ((.top,0,.top),dR) (Bi np kL i82 t82+1) (i82,t82)
def cG(x:D)(s:RS):(D×Int×D)×RS:=
 let Xq:=(Fj (aN 27 x []) s)
 if(Xq !=0) then(
  let AR:=fj s
  ((aN 29 kS [],Xq,aN 8 AR.1 []),AR.2))
 else(
  let np:=wS (aN 27 x []) s
  if(np.1.2 !=0) then(
   let s79:=fj np.2
   ((aN 29 kS [],np.1.2,aN 8 s79.1 []),s79.2))
  else(
   let Lu:=(fO np.2)
   let kL:=(iM (aN 2 Lu []) np.2)
   qS np kL 0 np.2))
theorem gM{l:List D}(h:dK (.dJ fq) l): ∃s:RS,l=encS s:=by
 obtain⟨_,_,rfl,⟨v0,rfl⟩,h1⟩:=aj.1 h
 obtain⟨_,_,rfl,⟨v1,rfl,_⟩,h2⟩:=aj.1 h1
 obtain⟨_,_,rfl,⟨v2,rfl,_⟩,h3⟩:=aj.1 h2
 obtain⟨_,_,rfl,⟨v3,rfl,_,_⟩,h4⟩:=aj.1 h3
 obtain⟨v4,_,rfl,_,h5⟩:=aj.1 h4
 obtain⟨_,_,rfl,⟨v5,rfl,_,_⟩,h6⟩:=aj.1 h5
 obtain⟨_,_,rfl,⟨v6,rfl,_,_⟩,h7⟩:=aj.1 h6
 obtain⟨_,_,rfl,⟨v7,rfl,_,_⟩,h8⟩:=aj.1 h7
 obtain⟨_,_,rfl,⟨v8,rfl,_⟩,h9⟩:=aj.1 h8
 obtain⟨_,_,rfl,⟨v9,rfl,_,_⟩,RR⟩:=aj.1 h9
 obtain⟨_,_,rfl,⟨v10,rfl,_,_⟩,XS⟩:=aj.1 RR
 obtain⟨_,_,rfl,⟨v11,rfl,_⟩,h12⟩:=aj.1 XS
 obtain⟨_,_,rfl,⟨v12,rfl,_⟩,RQ⟩:=aj.1 h12
 obtain⟨_,_,rfl,⟨_,rfl,rfl⟩,h14⟩:=aj.1 RQ
 obtain⟨_,_,rfl,⟨v14,rfl,_⟩,h15⟩:=aj.1 h14
 obtain⟨_,_,rfl,⟨v15,rfl,_⟩,h16⟩:=aj.1 h15
 obtain⟨_,_,rfl,⟨v16,rfl,_,_⟩,h17⟩:=aj.1 h16
 obtain⟨_,_,rfl,⟨v17,rfl,_,_⟩,h18⟩:=aj.1 h17
 obtain⟨_,_,rfl,⟨v18,rfl,_,_⟩,h19⟩:=aj.1 h18
 obtain⟨_,_,rfl,⟨v19,rfl,_⟩,h20⟩:=aj.1 h19
 obtain⟨_,_,rfl,⟨v20,rfl,_⟩,h21⟩:=aj.1 h20
 obtain⟨_,_,rfl,⟨v21,rfl,_⟩,h22⟩:=aj.1 h21
 obtain⟨_,_,rfl,⟨v22,rfl,_⟩,h23⟩:=aj.1 h22
 obtain⟨_,_,rfl,⟨v23,rfl,_⟩,h24⟩:=aj.1 h23
 obtain⟨_,_,rfl,⟨v24,rfl,_,_⟩,h25⟩:=aj.1 h24
 obtain⟨_,_,rfl,⟨v25,rfl,_⟩,h26⟩:=aj.1 h25
 obtain⟨_,_,rfl,⟨v26,rfl,_⟩,h27⟩:=aj.1 h26
 obtain⟨_,_,rfl,⟨v27,rfl,_⟩,h28⟩:=aj.1 h27
 obtain⟨_,_,rfl,⟨v28,rfl,_⟩,h29⟩:=aj.1 h28
 obtain⟨_,_,rfl,⟨v29,rfl,_⟩,h30⟩:=aj.1 h29
 obtain⟨_,_,rfl,⟨v30,rfl,_⟩,h31⟩:=aj.1 h30
 obtain⟨_,_,rfl,⟨v31,rfl,_⟩,h32⟩:=aj.1 h31
 obtain⟨_,_,rfl,⟨v32,rfl,_⟩,h33⟩:=aj.1 h32
 obtain⟨_,_,rfl,⟨v33,rfl,_⟩,h34⟩:=aj.1 h33
 obtain⟨_,_,rfl,⟨v34,rfl,_⟩,h35⟩:=aj.1 h34
 obtain⟨_,_,rfl,⟨v35,rfl,_⟩,h36⟩:=aj.1 h35
 obtain⟨_,_,rfl,⟨v36,rfl,_⟩,h37⟩:=aj.1 h36
 obtain⟨_,_,rfl,⟨v37,rfl,_⟩,h38⟩:=aj.1 h37
 obtain⟨_,_,rfl,⟨v38,rfl,_⟩,h39⟩:=aj.1 h38
 obtain⟨_,_,rfl,⟨v39,rfl,_⟩,h40⟩:=aj.1 h39
 obtain⟨_,_,rfl,⟨v40,rfl,_⟩,h41⟩:=aj.1 h40
 obtain⟨_,_,rfl,⟨v41,rfl,_⟩,h42⟩:=aj.1 h41
 obtain⟨_,_,rfl,⟨v42,rfl,_⟩,h43⟩:=aj.1 h42
 obtain⟨_,_,rfl,⟨v43,rfl,_⟩,h44⟩:=aj.1 h43
 obtain⟨_,_,rfl,⟨v44,rfl,_,_⟩,h45⟩:=aj.1 h44
 obtain⟨_,_,rfl,⟨v45,rfl,_⟩,h46⟩:=aj.1 h45
 obtain⟨_,_,rfl,⟨v46,rfl,_⟩,h47⟩:=aj.1 h46
 obtain⟨_,_,rfl,⟨v47,rfl,_⟩,h48⟩:=aj.1 h47
 obtain⟨_,_,rfl,⟨v48,rfl,_⟩,h49⟩:=aj.1 h48
 obtain⟨_,_,rfl,⟨v49,rfl,_⟩,h50⟩:=aj.1 h49
 obtain⟨_,_,rfl,⟨v50,rfl,_,_⟩,h51⟩:=aj.1 h50
 obtain⟨_,_,rfl,⟨v51,rfl,_⟩,h52⟩:=aj.1 h51
 obtain⟨_,_,rfl,⟨v52,rfl,_⟩,h53⟩:=aj.1 h52
 obtain⟨_,_,rfl,⟨v53,rfl,_,_⟩,h54⟩:=aj.1 h53
 obtain rfl:=dr.1 h54
 exact⟨⟨v0,v1,v2,v3,v4,v5,v6,v7,v8,v9,v10,v11,v12,v14,v15,v16,v17,v18,v19,v20,v21,v22,v23,v24,v25,v26,v27,v28,v29,v30,v31,v32,v33,v34,v35,v36,v37,v38,v39,v40,v41,v42,v43,v44,v45,v46,v47,v48,v49,v50,v51,v52,v53⟩,rfl⟩
@[irreducible] def G (k:Nat):Nat:=k*4194304
theorem Ia(k:Nat):G (k+1)=G k+4194304:=by unfold G;rw[cw,Nat.one_mul]
theorem amd{j k:Nat}(h:j≤k):G j≤G k:=by unfold G;exact az _ h
structure fy(C:Nat)(s:RS)(k:Nat):Prop where
 may:fN s.li s.lt s.le=true
 G9:1≤s.id
 G8:s.id≤5
 BR:s.le.length+k≤4194304
 nm:s.msgs.length+k≤4294967296
 ne:s.dS.length+k≤4294967296
 nc:s.cb.length+G k≤C
 nv:s.bJ.length+k≤4294967296
 cf:gC (.agg [.list s.fv,.list s.fl])=true
 cs:0<s.li→gC (.agg [.list s.sv,.list s.sl])=true
 cl:fm s.le=true
 tm:0≤s.term
 tx:s.term≤MX
 rd:s.reads=[]
abbrev Ok(s:RS)(k:Nat):Prop:=fy 274877906944 s k
theorem oQ{d:D}(h:Has wZ d): ∃s:RS,d=Hy s:=by
 obtain⟨_,rfl,h0⟩:=jH.1 h
 obtain⟨_,_,rfl,⟨v0,rfl⟩,h1⟩:=aj.1 h0
 obtain⟨_,_,rfl,⟨v1,rfl,_⟩,h2⟩:=aj.1 h1
 obtain⟨_,_,rfl,⟨v2,rfl,_⟩,h3⟩:=aj.1 h2
 obtain⟨_,_,rfl,⟨v3,rfl,_,_⟩,h4⟩:=aj.1 h3
 obtain⟨v4,_,rfl,_,h5⟩:=aj.1 h4
 obtain⟨_,_,rfl,⟨v5,rfl,_,_⟩,h6⟩:=aj.1 h5
 obtain⟨_,_,rfl,⟨v6,rfl,_,_⟩,h7⟩:=aj.1 h6
 obtain⟨_,_,rfl,⟨v7,rfl,_,_⟩,h8⟩:=aj.1 h7
 obtain⟨_,_,rfl,⟨v8,rfl,_⟩,h9⟩:=aj.1 h8
 obtain⟨_,_,rfl,⟨v9,rfl,_,_⟩,RR⟩:=aj.1 h9
 obtain⟨_,_,rfl,⟨v10,rfl,_,_⟩,XS⟩:=aj.1 RR
 obtain⟨_,_,rfl,⟨v11,rfl,_⟩,h12⟩:=aj.1 XS
 obtain⟨_,_,rfl,⟨v12,rfl,_⟩,RQ⟩:=aj.1 h12
 obtain⟨_,_,rfl,⟨_,rfl,⟨_,_,rfl,⟨w0,rfl,_⟩,_,_,rfl,⟨w1,rfl,_⟩,_,_,rfl,⟨w2,rfl,_,_⟩,rfl⟩⟩,h14⟩:=aj.1 RQ
 obtain⟨_,_,rfl,⟨v14,rfl,_⟩,h15⟩:=aj.1 h14
 obtain⟨_,_,rfl,⟨v15,rfl,_⟩,h16⟩:=aj.1 h15
 obtain⟨_,_,rfl,⟨v16,rfl,_,_⟩,h17⟩:=aj.1 h16
 obtain⟨_,_,rfl,⟨v17,rfl,_,_⟩,h18⟩:=aj.1 h17
 obtain⟨_,_,rfl,⟨v18,rfl,_,_⟩,h19⟩:=aj.1 h18
 obtain⟨_,_,rfl,⟨v19,rfl,_⟩,h20⟩:=aj.1 h19
 obtain⟨_,_,rfl,⟨v20,rfl,_⟩,h21⟩:=aj.1 h20
 obtain⟨_,_,rfl,⟨v21,rfl,_⟩,h22⟩:=aj.1 h21
 obtain⟨_,_,rfl,⟨v22,rfl,_⟩,h23⟩:=aj.1 h22
 obtain⟨_,_,rfl,⟨v23,rfl,_⟩,h24⟩:=aj.1 h23
 obtain⟨_,_,rfl,⟨v24,rfl,_,_⟩,h25⟩:=aj.1 h24
 obtain⟨_,_,rfl,⟨v25,rfl,_⟩,h26⟩:=aj.1 h25
 obtain⟨_,_,rfl,⟨v26,rfl,_⟩,h27⟩:=aj.1 h26
 obtain⟨_,_,rfl,⟨v27,rfl,_⟩,h28⟩:=aj.1 h27
 obtain⟨_,_,rfl,⟨v28,rfl,_⟩,h29⟩:=aj.1 h28
 obtain⟨_,_,rfl,⟨v29,rfl,_⟩,h30⟩:=aj.1 h29
 obtain⟨_,_,rfl,⟨v30,rfl,_⟩,h31⟩:=aj.1 h30
 obtain⟨_,_,rfl,⟨v31,rfl,_⟩,h32⟩:=aj.1 h31
 obtain⟨_,_,rfl,⟨v32,rfl,_⟩,h33⟩:=aj.1 h32
 obtain⟨_,_,rfl,⟨v33,rfl,_⟩,h34⟩:=aj.1 h33
 obtain⟨_,_,rfl,⟨v34,rfl,_⟩,h35⟩:=aj.1 h34
 obtain⟨_,_,rfl,⟨v35,rfl,_⟩,h36⟩:=aj.1 h35
 obtain⟨_,_,rfl,⟨v36,rfl,_⟩,h37⟩:=aj.1 h36
 obtain⟨_,_,rfl,⟨v37,rfl,_⟩,h38⟩:=aj.1 h37
 obtain⟨_,_,rfl,⟨v38,rfl,_⟩,h39⟩:=aj.1 h38
 obtain⟨_,_,rfl,⟨v39,rfl,_⟩,h40⟩:=aj.1 h39
 obtain⟨_,_,rfl,⟨v40,rfl,_⟩,h41⟩:=aj.1 h40
 obtain⟨_,_,rfl,⟨v41,rfl,_⟩,h42⟩:=aj.1 h41
 obtain⟨_,_,rfl,⟨v42,rfl,_⟩,h43⟩:=aj.1 h42
 obtain⟨_,_,rfl,⟨v43,rfl,_⟩,h44⟩:=aj.1 h43
 obtain⟨_,_,rfl,⟨v44,rfl,_,_⟩,h45⟩:=aj.1 h44
 obtain⟨_,_,rfl,⟨v45,rfl,_⟩,h46⟩:=aj.1 h45
 obtain⟨_,_,rfl,⟨v46,rfl,_⟩,h47⟩:=aj.1 h46
 obtain⟨_,_,rfl,⟨v47,rfl,_⟩,h48⟩:=aj.1 h47
 obtain⟨_,_,rfl,⟨v48,rfl,_⟩,h49⟩:=aj.1 h48
 obtain⟨_,_,rfl,⟨v49,rfl,_⟩,h50⟩:=aj.1 h49
 obtain⟨_,_,rfl,⟨v50,rfl,_,_⟩,h51⟩:=aj.1 h50
 obtain rfl:=dr.1 h51
 exact⟨⟨v0,v1,v2,v3,v4,v5,v6,v7,v8,v9,v10,v11,v12,v14,v15,v16,v17,v18,v19,v20,v21,v22,v23,v24,v25,v26,v27,v28,v29,v30,v31,v32,v33,v34,v35,v36,v37,v38,v39,v40,v41,v42,v43,v44,v45,v46,v47,v48,v49,v50,w0,w1,w2⟩,rfl⟩
def cF(f:Nat)(ds:List D):D:=
 let a:=ds.getD 0 .top;let b:=ds.getD 1 .top;let c:=ds.getD 2 .top;let d:=ds.getD 3 .top
 match f with
 |79=>.int .i64 (findF (fun y=>y==b.aq) (jR a) 0)
 |56=>.bool (decide (b.aq∈jR a))
 |61=>zo ds
 |82=>Cp ds
 |83=>CA ds
 |55=>.bool (uA 0 (jR a))
 |21=>.bool (CZ (vo a) (lr a))
 |36=>.bool (decide (b.aq∈vo a))
 |63=>.list (kE a)
 |66=>.bool (L2 (vo a) (jR b))
 |72=>.int .i64 (px a b)
 |70=>.bool (LS (vo a) (lr a) (vo b) (lr b))
 |20=>.bool (ue a.aq b.aq c.aq)
 |52=>a
 |60=>.bool (Ah (.fn 0 []) a)
 |80=>.int .i64 (findF (Ah b) a.aV 0)
 |59=>.bool (ni a.aV b)
 |24=>.bool (fm a.aV)
 |26=>a
 |28=>.fx [.int .i64 (iK (cD 0 (ds.getD 0 .top)).aq (cD 1 (ds.getD 0 .top)).aq (cD 2 (ds.getD 0 .top)).aV).1,.int .i64 (iK (cD 0 (ds.getD 0 .top)).aq (cD 1 (ds.getD 0 .top)).aq (cD 2 (ds.getD 0 .top)).aV).2]
 |25=>.fx [.int .i64 (gn (cD 0 (ds.getD 0 .top)).aq (cD 1 (ds.getD 0 .top)).aq (cD 2 (ds.getD 0 .top)).aV).1,.int .i64 (gn (cD 0 (ds.getD 0 .top)).aq (cD 1 (ds.getD 0 .top)).aq (cD 2 (ds.getD 0 .top)).aV).2]
 |50=>.fx [.int .i64 (jM (cD 0 (ds.getD 0 .top)).aq (cD 1 (ds.getD 0 .top)).aq (cD 2 (ds.getD 0 .top)).aV (ds.getD 1 .top).aq).1,.int .i64 (jM (cD 0 (ds.getD 0 .top)).aq (cD 1 (ds.getD 0 .top)).aq (cD 2 (ds.getD 0 .top)).aV (ds.getD 1 .top).aq).2]
 |74=>.bool (MT (cD 0 (ds.getD 0 .top)).aq (cD 1 (ds.getD 0 .top)).aq (cD 2 (ds.getD 0 .top)).aV (ds.getD 1 .top).aq (ds.getD 2 .top).aq)
 |65=>YM ds
 |49=>(Dc (ds.getD 1 .top).aq (wV (ds.getD 0 .top)))
 |29=>(fO (wV (ds.getD 0 .top)))
 |32=>.list (iM (ds.getD 1 .top) (wV (ds.getD 0 .top)))
 |76=>.bool (vP (ds.getD 1 .top).aq (wV (ds.getD 0 .top)))
 |69=>.bool (wv (wV (ds.getD 0 .top)))
 |68=>.bool (ze (wV (ds.getD 0 .top)))
 |38=>.int .i64 (Fj (ds.getD 1 .top) (wV (ds.getD 0 .top)))
 |12=>(O3 (wV (ds.getD 0 .top)))
 |57=>.bool (ue a.aq b.aq c.aq)
 |58=>.bool (fN a.aq b.aq c.aV)
 |23=>.fx [.fx [.int .i64 (lH (ds.getD 3 .top).aq (ds.getD 4 .top).aq (ds.getD 5 .top).aV a.aq b.aq c.aV).1,.bool (nI (ds.getD 3 .top).aq (ds.getD 4 .top).aq (ds.getD 5 .top).aV a.aq b.aq c.aV)],yk (ds.getD 3 .top).aq (ds.getD 4 .top).aq (lH (ds.getD 3 .top).aq (ds.getD 4 .top).aq (ds.getD 5 .top).aV a.aq b.aq c.aV).2]
 |71=>.fx [.fx [Fk (ds.getD 2 .top).aq (ds.getD 3 .top).aq (ds.getD 4 .top).aV a.aq b,.int .i64 (tY (ds.getD 2 .top).aq (ds.getD 3 .top).aq (ds.getD 4 .top).aV a.aq)],yk (ds.getD 2 .top).aq (ds.getD 3 .top).aq (wT (ds.getD 2 .top).aq (ds.getD 3 .top).aq (ds.getD 4 .top).aV a.aq b)]
 |51=>.fx [.int .i64 (Gb (ds.getD 1 .top).aq (ds.getD 3 .top).aV a.aq),yk (mz (ds.getD 1 .top).aq (ds.getD 2 .top).aq (ds.getD 3 .top).aV a.aq).1 (mz (ds.getD 1 .top).aq (ds.getD 2 .top).aq (ds.getD 3 .top).aV a.aq).2.1 (mz (ds.getD 1 .top).aq (ds.getD 2 .top).aq (ds.getD 3 .top).aV a.aq).2.2]
 |53=>jv (ij (jw (ds.drop 0)))
 |35=>jv (nF (jw (ds.drop 0)))
 |64=>jv (fT (ds.getD 0 .top) (jw (ds.drop 1)))
 |41=>jv (l6 (ds.getD 0 .top).aq (ds.getD 1 .top).aq (jw (ds.drop 2)))
 |34=>JP (fj (jw (ds.drop 0)))
 |39=>OP (wS (ds.getD 0 .top) (jw (ds.drop 1)))
 |33=>jv (gE (ds.getD 0 .top).aq (jw (ds.drop 1)))
 |84=>.bool (rm a)
 |73=>OQ (jS (ds.getD 0 .top).aq (jw (ds.drop 1)))
 |40=>jv (ji (jw (ds.drop 0)))
 |67=>jv (tL (jw (ds.drop 0)))
 |37=>jv (rj (ds.getD 0 .top) (jw (ds.drop 1)))
 |42=>jv (Cr (ds.getD 0 .top) (jw (ds.drop 1)))
 |43=>jv (Oh (ds.getD 0 .top) (jw (ds.drop 1)))
 |44=>jv (HJ (ds.getD 0 .top) (jw (ds.drop 1)))
 |75=>OQ (nO (ds.getD 0 .top) (jw (ds.drop 1)))
 |45=>jv (Cs (ds.getD 0 .top) (jw (ds.drop 1)))
 |77=>jv (nR (ds.getD 0 .top) (jw (ds.drop 1)))
 |78=>jv (Ho (ds.getD 0 .top).aq (ds.getD 1 .top).aq (jw (ds.drop 2)))
 |46=>jv (wq (ds.getD 0 .top) (jw (ds.drop 1)))
 |48=>jv (zd (ds.getD 0 .top) (jw (ds.drop 1)))
 |27=>ua a
 |47=>jv (Oi (ds.getD 0 .top) (jw (ds.drop 1)))
 |17=>JP (pg (ds.getD 0 .top) (jw (ds.drop 1)))
 |15=>JP (fW (ds.getD 0 .top).aq (jw (ds.drop 1)))
 |81=>.bool (decide (jR a=jR b))
 |62=>.bool (decide (vo a=vo b)&&decide (lr a=lr b))
 |31=>.bool (Mf a b)
 |8=>.int .i64 (yD a.aq b.aq)
 |22=>nu a.aq b.aq
 |_=>.bool true
def pre(f:Nat)(ds:List D):Prop:=
 let a:=ds.getD 0 .top;let b:=ds.getD 1 .top;let c:=ds.getD 2 .top;let d:=ds.getD 3 .top
 match f with
 |63=>((vo a).length+(lr a).length)*8≤140737488355328
 |25=>fN (cD 0 a).aq (cD 1 a).aq (cD 2 a).aV=true
 |50=>fN (cD 0 a).aq (cD 1 a).aq (cD 2 a).aV=true
 |74=>fN (cD 0 a).aq (cD 1 a).aq (cD 2 a).aV=true
 |65=>auq ds
 |49=>Ok (wV a) 0
 |29=>Ok (wV a) 0
 |32=>Ok (wV a) 0∧gC b=true
 |76=>Ok (wV a) 0
 |69=>Ok (wV a) 0
 |68=>Ok (wV a) 0
 |38=>Ok (wV a) 0
 |12=>Ok (wV a) 0
 |23=>fN (ds.getD 3 .top).aq (ds.getD 4 .top).aq (ds.getD 5 .top).aV=true∧(ds.getD 5 .top).aV.length<4294967296∧(ds.getD 2 .top).aV.length<4294967296
 |71=>fN (ds.getD 2 .top).aq (ds.getD 3 .top).aq (ds.getD 4 .top).aV=true∧(ds.getD 4 .top).aV.length<4294967296
 |51=>fN (ds.getD 1 .top).aq (ds.getD 2 .top).aq (ds.getD 3 .top).aV=true
 |64=>Ok (jw (ds.drop 1)) 1
 |39=>Ok (jw (ds.drop 1)) 1
 |33=>Ok (jw (ds.drop 1)) 1∧0≤a.aq∧a.aq≤5
 |73=>Ok (jw (ds.drop 1)) 1
 |40=>Ok (jw (ds.drop 0)) 1
 |67=>Ok (jw (ds.drop 0)) 13
 |37=>Ok (jw (ds.drop 1)) 14∧gC a=true∧(jw (ds.drop 1)).term<MX
 |42=>Ok (jw (ds.drop 1)) 1
 |43=>Ok (jw (ds.drop 1)) 1
 |44=>Ok (jw (ds.drop 1)) 15
 |45=>Ok (jw (ds.drop 1)) (4+(cD 12 a).aV.length)∧(cD 12 a).aV.length≤2147483648∧fm (cD 12 a).aV=true
 |77=>Ok (jw (ds.drop 1)) 0
 |78=>Ok (jw (ds.drop 2)) 2∧0≤a.aq∧a.aq≤5
 |46=>Ok (jw (ds.drop 1)) 4∧0≤(cD 1 a).aq∧(cD 1 a).aq≤5
 |48=>Ok (jw (ds.drop 1)) 4∧0≤(cD 1 a).aq∧(cD 1 a).aq≤5
 |47=>Ok (jw (ds.drop 1)) 2
 |17=>Ok (jw (ds.drop 1)) (20+(cD 12 a).aV.length)∧(cD 12 a).aV.length≤2147483648
 |15=>Ok (jw (ds.drop 1)) 20
 |8=>b.aq≠0
 |_=>True
def akK:List Nat:=[8,12,15,17,23,25,29,32,33,37,38,39,40,42,43,44,45,46,47,48,49,50,51,63,64,65,67,68,69,71,73,74,76,77,78]
theorem mix:Try.prog.follows .mixedOrders=true:=by kernel_rfl
section
variable(l r v w:List Int)(b:Int)
theorem afv:cF 56 [.list (l.map (D.int .i64)),.int .i64 b] = .bool (decide (b∈l)):=by simp[cF,eX,bZ]
theorem awp:cF 61 [.list (l.map (D.int .i64))] = .list (l.map (D.int .i64)):=rfl
theorem alY:cF 82 [.list (l.map (D.int .i64))] = .list ((kT l).map (D.int .i64)):=by simp[cF,Cp,eX]
theorem aoH:cF 82 [.list (l.map (D.int .i64)++r.map (D.int .i64))] = .list ((kT (l++r)).map (D.int .i64)):=by rw[←cz];exact alY _
theorem awo:cF 83 [.list (l.map (D.int .i64))] = .list ((Lib.compact l).map (D.int .i64)):=by simp[cF,CA,eX]
theorem awj:cF 55 [.list (l.map (D.int .i64))] = .bool (uA 0 l):=by simp[cF,eX]
theorem al1:cF 21 [.agg [.list (v.map (D.int .i64)),.list (l.map (D.int .i64))]] = .bool (CZ v l):=by simp[cF,AW,JX]
theorem alX:cF 36 [.agg [.list (v.map (D.int .i64)),.list (l.map (D.int .i64))],.int .i64 b] = .bool (decide (b∈v)):=by simp[cF,AW,bZ]
theorem awl:cF 63 [.agg [.list (v.map (D.int .i64)),.list (l.map (D.int .i64))]] = .list ((JE v l).map (D.int .i64)):=by simp[cF,kE,MR,AW,JX]
theorem awm:cF 66 [.agg [.list (v.map (D.int .i64)),.list (l.map (D.int .i64))],.list (r.map (D.int .i64))] = .bool (L2 v r):=by simp[cF,AW,eX]
theorem awr:cF 72 [.agg [.list (v.map (D.int .i64)),.list (l.map (D.int .i64))],.list (r.map (D.int .i64))] = .int .i64 (xI v r):=by simp[cF,px,Va,AW,eX]
theorem awh:cF 70 [.agg [.list (v.map (D.int .i64)),.list (l.map (D.int .i64))],.agg [.list (w.map (D.int .i64)),.list (r.map (D.int .i64))]] = .bool (LS v l w r):=by simp[cF,AW,JX]
theorem awn:cF 81 [.list (l.map (D.int .i64)),.list (r.map (D.int .i64))] = .bool (decide (l=r)):=by simp[cF,eX]
theorem aoK:cF 62 [.agg [.list (v.map (D.int .i64)),.list (l.map (D.int .i64))],.agg [.list (w.map (D.int .i64)),.list (r.map (D.int .i64))]] = .bool (decide (v=w)&&decide (l=r)):=by simp[cF,AW,JX]
end
def triv(f:Nat):Bool:= !(akK.contains f)
theorem l3: ∀f a,triv f=true→pre f a:=by
 intro f a h
 unfold pre
 split<;>first|trivial|(simp[triv,akK]at h)
end Go.Proofs.Ytjhmkaninmgilaa
namespace Go.Proofs.Ytjhmkaninmgilaa
open Go Go.dV Go.Proofs Go.Shelf
def IT:Go.Shelf.Ren:=⟨fun|189=>82|125=>86|257=>85|128=>96|129=>97|294=>87|295=>88|296=>89|297=>90|298=>91|299=>92|216=>93|300=>94|301=>95|328=>98|329=>99|330=>100|331=>101|332=>102|215=>103|343=>104|n=>n,fun|28=>29|3=>3|46=>156|0=>0|51=>165|53=>167|4=>4|183=>159|182=>158|131=>92|5=>5|9=>9|218=>168|222=>172|228=>174|229=>95|n=>n,fun|n=>n⟩
theorem Wo:Go.Proofs.Lays.n189 Try.prog IT:={
 mixed:=by kernel_rfl,
 f125:=Try.func86.trans (congrArg some (by kernel_rfl)),
 f128:=Try.func96.trans (congrArg some (by kernel_rfl)),
 f129:=Try.func97.trans (congrArg some (by kernel_rfl)),
 f189:=Try.func82.trans (congrArg some (by kernel_rfl)),
 f215:=Try.func103.trans (congrArg some (by kernel_rfl)),
 f216:=Try.func93.trans (congrArg some (by kernel_rfl)),
 f257:=Try.func85.trans (congrArg some (by kernel_rfl)),
 f294:=Try.func87.trans (congrArg some (by kernel_rfl)),
 f295:=Try.func88.trans (congrArg some (by kernel_rfl)),
 f296:=Try.func89.trans (congrArg some (by kernel_rfl)),
 f297:=Try.func90.trans (congrArg some (by kernel_rfl)),
 f298:=Try.func91.trans (congrArg some (by kernel_rfl)),
 f299:=Try.func92.trans (congrArg some (by kernel_rfl)),
 f300:=Try.func94.trans (congrArg some (by kernel_rfl)),
 f301:=Try.func95.trans (congrArg some (by kernel_rfl)),
 f328:=Try.func98.trans (congrArg some (by kernel_rfl)),
 f329:=Try.func99.trans (congrArg some (by kernel_rfl)),
 f330:=Try.func100.trans (congrArg some (by kernel_rfl)),
 f331:=Try.func101.trans (congrArg some (by kernel_rfl)),
 f332:=Try.func102.trans (congrArg some (by kernel_rfl)),
 f343:=Try.func104.trans (congrArg some (by kernel_rfl)),
 t0:=Try.underlying0,
 a0:=Try.isAgg0,
 z0:=Try.sizeOf0,
 v0:=Try.zeroValue0,
 t3:=Try.underlying3,
 a3:=Try.isAgg3,
 z3:=Try.sizeOf3,
 v3:=Try.zeroValue3,
 t4:=Try.underlying4,
 a4:=Try.isAgg4,
 z4:=Try.sizeOf4,
 v4:=Try.zeroValue4,
 t5:=Try.underlying5,
 a5:=Try.isAgg5,
 z5:=Try.sizeOf5,
 v5:=Try.zeroValue5,
 t9:=Try.underlying9,
 a9:=Try.isAgg9,
 z9:=Try.sizeOf9,
 v9:=Try.zeroValue9,
 t28:=Try.underlying29,
 a28:=Try.isAgg29,
 z28:=Try.sizeOf29,
 v28:=Try.zeroValue29,
 t46:=Try.underlying156,
 a46:=Try.isAgg156,
 z46:=Try.sizeOf156,
 v46:=Try.zeroValue156,
 t51:=Try.underlying165,
 a51:=Try.isAgg165,
 z51:=Try.sizeOf165,
 v51:=Try.zeroValue165,
 t53:=Try.underlying167,
 a53:=Try.isAgg167,
 z53:=Try.sizeOf167,
 v53:=Try.zeroValue167,
 t131:=Try.underlying92,
 a131:=Try.isAgg92,
 z131:=Try.sizeOf92,
 v131:=Try.zeroValue92,
 t182:=Try.underlying158,
 a182:=Try.isAgg158,
 z182:=Try.sizeOf158,
 v182:=Try.zeroValue158,
 t183:=Try.underlying159,
 a183:=Try.isAgg159,
 z183:=Try.sizeOf159,
 v183:=Try.zeroValue159,
 t218:=Try.underlying168,
 a218:=Try.isAgg168,
 z218:=Try.sizeOf168,
 v218:=Try.zeroValue168,
 t222:=Try.underlying172,
 a222:=Try.isAgg172,
 z222:=Try.sizeOf172,
 v222:=Try.zeroValue172,
 t228:=Try.underlying174,
 a228:=Try.isAgg174,
 z228:=Try.sizeOf174,
 v228:=Try.zeroValue174,
 t229:=Try.underlying95,
 a229:=Try.isAgg95,
 z229:=Try.sizeOf95,
 v229:=Try.zeroValue95}
def Ce:Go.Shelf.Ren:=⟨fun|20=>83|n=>n,fun|22=>29|3=>3|4=>4|0=>0|n=>n,fun|n=>n⟩
theorem K9:Go.Proofs.Lays2.n20 Try.prog Ce:={
 mixed:=by kernel_rfl,
 f20:=Try.func83.trans (congrArg some (by kernel_rfl)),
 t0:=Try.underlying0,
 a0:=Try.isAgg0,
 z0:=Try.sizeOf0,
 v0:=Try.zeroValue0,
 t3:=Try.underlying3,
 a3:=Try.isAgg3,
 z3:=Try.sizeOf3,
 v3:=Try.zeroValue3,
 t4:=Try.underlying4,
 a4:=Try.isAgg4,
 z4:=Try.sizeOf4,
 v4:=Try.zeroValue4,
 t22:=Try.underlying29,
 a22:=Try.isAgg29,
 z22:=Try.sizeOf29,
 v22:=Try.zeroValue29,
 i3:=by kernel_rfl}
def FK:Go.Shelf.Ren:=⟨fun|15=>61|n=>n,fun|22=>29|3=>3|4=>4|n=>n,fun|n=>n⟩
theorem Q5:Go.Proofs.Lays2.n15 Try.prog FK:={
 mixed:=by kernel_rfl,
 f15:=Try.func61.trans (congrArg some (by kernel_rfl)),
 t3:=Try.underlying3,
 a3:=Try.isAgg3,
 z3:=Try.sizeOf3,
 v3:=Try.zeroValue3,
 t4:=Try.underlying4,
 a4:=Try.isAgg4,
 z4:=Try.sizeOf4,
 v4:=Try.zeroValue4,
 t22:=Try.underlying29,
 a22:=Try.isAgg29,
 z22:=Try.sizeOf29,
 v22:=Try.zeroValue29,
 i3:=by kernel_rfl}
end Go.Proofs.Ytjhmkaninmgilaa
namespace Go.Proofs.Ytjhmkaninmgilaa
open Go Go.RowKit Go.dV Go.Proofs
variable{C:Nat}
theorem fy.le{s:RS}{k j:Nat}(h:fy C s k)(hj:j≤k):fy C s j:=
 ⟨h.may,h.G9,h.G8,by have:=h.BR;omega,by have:=h.nm;omega,by have:=h.ne;omega,by have:=h.nc;have:=amd hj;omega,by have:=h.nv;omega,h.cf,h.cs,h.cl,h.tm,h.tx,h.rd⟩
structure JT(s t:RS):Prop where
 li:t.li=s.li
 lt:t.lt=s.lt
 le:t.le=s.le
 id:t.id=s.id
 msgs:t.msgs=s.msgs
 dS:t.dS=s.dS
 cb:t.cb=s.cb
 bJ:t.bJ=s.bJ
 fv:t.fv=s.fv
 fl:t.fl=s.fl
 sv:t.sv=s.sv
 sl:t.sl=s.sl
 term:t.term=s.term
 reads:t.reads=s.reads
abbrev Tz(s:RS):=(s.li,s.lt,s.le,s.id,s.msgs,s.dS,s.cb,s.bJ,s.fv,s.fl,s.sv,s.sl,s.term,s.reads)
theorem ig{s t:RS}(h:Tz t=Tz s:=by rfl):JT s t:=by
 unfold Tz at h;simp only[ai]at h;obtain⟨a0,a1,a2,a3,a4,a5,a6,a7,a8,a9,a10,a11,a12,a13⟩:=h
 exact⟨a0,a1,a2,a3,a4,a5,a6,a7,a8,a9,a10,a11,a12,a13⟩
theorem fy.same{s t:RS}{k:Nat}(h:fy C s k)(e:JT s t):fy C t k:=by
 obtain⟨e1,e2,e3,e4,e5,e6,e7,e8,e9,e10,e11,e12,e13,e14⟩:=e
 refine⟨?_,?_,?_,?_,?_,?_,?_,?_,?_,?_,?_,?_,?_,?_⟩
 all_goals first
  |(rw[e1,e2,e3];exact h.may)
  |(rw[e4];first|exact h.G9|exact h.G8)
  |(rw[e3];first|exact h.BR|exact h.cl)
  |(rw[e5];exact h.nm)
  |(rw[e6];exact h.ne)
  |(rw[e7];exact h.nc)
  |(rw[e8];exact h.nv)
  |(rw[e9,e10];exact h.cf)
  |(rw[e1,e11,e12];exact h.cs)
  |(rw[e13];first|exact h.tm|exact h.tx)
  |(rw[e14];exact h.rd)
theorem fy.send{s:RS}{k:Nat}{x:D}(h:fy C s (k+1)):fy C (fT x s) k:=by
 refine⟨h.may,h.G9,h.G8,by have:=h.BR;show s.le.length+k≤_;omega,?_,by have:=h.ne;show s.dS.length+_≤_;omega,by have:=h.nc;have:=Ia k;show s.cb.length+_≤_;omega,by have:=h.nv;show s.bJ.length+k≤_;omega,h.cf,h.cs,h.cl,h.tm,h.tx,h.rd⟩
 have:=h.nm
 simp only[fT,an,bG]
 omega
theorem fy.saved{s:RS}{k:Nat}(h:fy C s k):fy C (ij s) k:=h.same ig
theorem fy.U9{s:RS}{k:Nat}(h:fy C s k):fy C (nF s) k:=h.same ig
theorem fy.follow{s:RS}{k:Nat}{x y:Int}(h:fy C s k)(h0:0≤x)(h1:x≤MX):fy C (l6 x y s) k:=by
 have hv:([] :List D).length+k≤4294967296:=by have:=h.nv;simp;omega
 unfold l6
 split
 ·exact⟨h.may,h.G9,h.G8,h.BR,h.nm,h.ne,h.nc,hv,h.cf,h.cs,h.cl,h0,h1,rfl⟩
 ·exact⟨h.may,h.G9,h.G8,h.BR,h.nm,h.ne,h.nc,hv,h.cf,h.cs,h.cl,h.tm,h.tx,rfl⟩
theorem fy.done{s:RS}{k:Nat}(h:fy C s k):fy C (fj s).2 k:=
 ⟨h.may,h.G9,h.G8,h.BR,by have:=h.nm;show([] :List D).length+k≤_;simp;omega,by have:=h.ne;show([] :List D).length+_≤_;simp;omega,by have:=h.nc;show([] :List D).length+_≤_;simp;omega,h.nv,h.cf,h.cs,h.cl,h.tm,h.tx,h.rd⟩
theorem fy.SJ{s:RS}{k:Nat}(h:fy C s k):okB s.li s.lt=true:=by
 have:=h.may
 unfold fN at this
 exact(bc _ _▸this).1
theorem fy.li{s:RS}{k:Nat}(h:fy C s k):0≤s.li∧s.li+s.le.length≤MX:=by
 obtain⟨⟨h1,h2,_,_⟩,h3⟩:=iX.1 h.may
 exact⟨h1,As h2 h3⟩
theorem Gk{i f m:Int}{l:List D}{x:D}(h:x∈iS i l f m):x∈l:=by
 unfold iS at h
 split at h
 ·simp at h
 ·exact eL (eK h)
theorem fy.cb{s:RS}{k:Nat}{x:Int}(h:fy C s (k+1)):fy C (jS x s).2 k:=by
 have e:jS x s=if decide (x≤s.aZ) then(false,s) else(ni (fk s.li s.lt s.le (i64.wrap (s.aZ+1)) (i64.wrap (x-s.aZ))) (D.fn 84 []),{s with cb:=s.cb++fk s.li s.lt s.le (i64.wrap (s.aZ+1)) (i64.wrap (x-s.aZ)),aZ:=x}):=rfl
 rw[e]
 by_cases hq:decide (x≤s.aZ)=true
 ·rw[if_pos hq];exact h.le (by omega)
 ·rw[if_neg hq]
  refine⟨h.may,h.G9,h.G8,by have:=h.BR;show s.le.length+k≤_;omega,by have:=h.nm;show s.msgs.length+_≤_;omega,by have:=h.ne;show s.dS.length+_≤_;omega,?_,by have:=h.nv;show s.bJ.length+k≤_;omega,h.cf,h.cs,h.cl,h.tm,h.tx,h.rd⟩
  have h1:=h.nc
  have hG:=Ia k
  have h2:=h.BR
  have h3:=vZ (i:=s.li) (f:=i64.wrap (s.aZ+1)) (m:=i64.wrap (x-s.aZ)) (l:=s.le)
  show(s.cb++iS _ _ _ _).length+_≤_
  rw[an]
  omega
theorem iA{l:List D}:fm l=true↔ ∀x∈l,rm x=true→gC (cfE x)=true:=by
 unfold fm
 rw[gj,List.any_eq_false]
 constructor
 ·intro h x hx h1
  have:=h x hx
  rw[h1]at this
  simpa using this
 ·intro h x hx h1
  rw[bc]at h1
  rw[h x hx h1.1]at h1
  simp at h1
theorem IX{l r:List D}(h:fm l=true)(hs: ∀x∈r,x∈l):fm r=true:=iA.2 fun x hx=>iA.1 h x (hs x hx)
theorem IY{l r:List D}(h:fm l=true)(h2:fm r=true):fm (l++r)=true:=iA.2 fun x hx=>(aS.1 hx).elim (iA.1 h x) (iA.1 h2 x)
theorem fy.put{s:RS}{k:Nat}{c:D}(h:fy C s (k+1))(hc:(cD 0 c).aq=2→gC (.agg [cD 25 c,cD 26 c])=true):fy C (wS c s).2 k:=by
 obtain⟨p1,p2⟩:=V7 (m:=s.term) (c:=aN 27 c []) h.may
 have jY:fm (wT s.li s.lt s.le s.term (aN 27 c []))=true:=by
  unfold wT
  split
  ·refine IY h.cl (iA.2 fun x hx hq=> ?_)
   rw[aA]at hx
   subst hx
   exact hc (eq_of_beq (show((cD 0 c).aq==2)=true from hq))
  ·exact h.cl
 have h1:=h.BR
 have h2:=h.nm
 have h3:=h.ne
 have h4:=h.nc
 have h5:=h.nv
 have hG:=Ia k
 have e:wS c s=if(tY s.li s.lt s.le s.term==0) then((aN 29 (Fk s.li s.lt s.le s.term (aN 27 c [])) [],tY s.li s.lt s.le s.term),{ij {s with li:=s.li,lt:=s.lt,le:=wT s.li s.lt s.le s.term (aN 27 c [])} with dS:=s.dS++[aN 29 (Fk s.li s.lt s.le s.term (aN 27 c [])) []]})
  else((aN 29 (Fk s.li s.lt s.le s.term (aN 27 c [])) [],tY s.li s.lt s.le s.term),{s with li:=s.li,lt:=s.lt,le:=wT s.li s.lt s.le s.term (aN 27 c [])}):=rfl
 rw[e]
 by_cases hq:(tY s.li s.lt s.le s.term==0)=true
 ·rw[if_pos hq]
  refine⟨p1,h.G9,h.G8,?_,?_,?_,?_,?_,h.cf,h.cs,jY,h.tm,h.tx,h.rd⟩
  ·show(wT _ _ _ _ _).length+k≤_;omega
  ·show s.msgs.length+k≤_;omega
  ·show(s.dS++[_]).length+k≤_;rw[an,bG];omega
  ·show s.cb.length+_≤_;omega
  ·show s.bJ.length+k≤_;omega
 ·rw[if_neg hq]
  refine⟨p1,h.G9,h.G8,?_,?_,?_,?_,?_,h.cf,h.cs,jY,h.tm,h.tx,h.rd⟩
  ·show(wT _ _ _ _ _).length+k≤_;omega
  ·show s.msgs.length+k≤_;omega
  ·show s.dS.length+_≤_;omega
  ·show s.cb.length+_≤_;omega
  ·show s.bJ.length+k≤_;omega
theorem Q7{s:RS}{x:Int}(h0:0≤x)(h5:x≤5): ∃m t,JT s t∧gE x s=fT m t:=by
 have hx:x=0∨x=1∨x=2∨x=3∨x=4∨x=5:=by omega
 rcases hx with rfl|rfl|rfl|rfl|rfl|rfl
 ·unfold gE
  rw[if_pos (by decide)]
  by_cases hq:decide (s.yc≤(iK s.li s.lt s.le).1)=true
  ·dsimp only
   rw[if_pos hq]
   refine⟨_,_,?_,rfl⟩
   exact ig
  ·dsimp only
   rw[if_neg hq]
   refine⟨_,_,?_,rfl⟩
   exact ig
 ·unfold gE
  rw[if_neg (by decide),if_pos (by decide)]
  by_cases hq:decide (s.xu≤(iK s.li s.lt s.le).1)=true
  ·dsimp only
   rw[if_pos hq]
   refine⟨_,_,?_,rfl⟩
   exact ig
  ·dsimp only
   rw[if_neg hq]
   refine⟨_,_,?_,rfl⟩
   exact ig
 ·unfold gE
  rw[if_neg (by decide),if_neg (by decide),if_pos (by decide)]
  by_cases hq:decide (s.xr≤(iK s.li s.lt s.le).1)=true
  ·dsimp only
   rw[if_pos hq]
   refine⟨_,_,?_,rfl⟩
   exact ig
  ·dsimp only
   rw[if_neg hq]
   refine⟨_,_,?_,rfl⟩
   exact ig
 ·unfold gE
  rw[if_neg (by decide),if_neg (by decide),if_neg (by decide),if_pos (by decide)]
  by_cases hq:decide (s.xq≤(iK s.li s.lt s.le).1)=true
  ·dsimp only
   rw[if_pos hq]
   refine⟨_,_,?_,rfl⟩
   exact ig
  ·dsimp only
   rw[if_neg hq]
   refine⟨_,_,?_,rfl⟩
   exact ig
 ·unfold gE
  rw[if_neg (by decide),if_neg (by decide),if_neg (by decide),if_neg (by decide),if_pos (by decide)]
  by_cases hq:decide (s.xp≤(iK s.li s.lt s.le).1)=true
  ·dsimp only
   rw[if_pos hq]
   refine⟨_,_,?_,rfl⟩
   exact ig
  ·dsimp only
   rw[if_neg hq]
   refine⟨_,_,?_,rfl⟩
   exact ig
 ·unfold gE
  rw[if_neg (by decide),if_neg (by decide),if_neg (by decide),if_neg (by decide),if_neg (by decide),if_pos (by decide)]
  by_cases hq:decide (s.xn≤(iK s.li s.lt s.le).1)=true
  ·dsimp only
   rw[if_pos hq]
   refine⟨_,_,?_,rfl⟩
   exact ig
  ·dsimp only
   rw[if_neg hq]
   refine⟨_,_,?_,rfl⟩
   exact ig
theorem fy.JF{s:RS}{k:Nat}{x:Int}(h:fy C s (k+1))(h0:0≤x)(h5:x≤5):fy C (gE x s) k:=by
 obtain⟨m,t,e,e2⟩:=Q7 (s:=s) h0 h5
 rw[e2];exact(h.same e).send
theorem fy.abG{s:RS}{k:Nat}{x:D}(h:fy C s k):fy C (nO x s).2 k:=by
 unfold nO
 split
 ·exact h
 ·exact(h.follow h.tm h.tx).U9
theorem I0(x:D):gC (D.agg ((x.aV.drop 27).take 2))=gC (cfE x):=by
 have e: ∀j,j<2→((x.aV.drop 27).take 2).getD j .top=x.aV.getD (27+j) .top:=by
  intro j hj
  rw[av,av,aG,if_pos hj,aO]
 unfold gC vo lr
 show CZ (jR (((x.aV.drop 27).take 2).getD 0 .top)) (jR (((x.aV.drop 27).take 2).getD 1 .top))=_
 rw[e 0 (by omega),e 1 (by omega)];rfl
theorem QG{s:RS}{k:Nat}{x:Int}(h:fy C s k)(hx:x≤9223372036854775807):gC (Dc x s)=true:=by
 obtain⟨l0,l1⟩:=h.li
 unfold Dc uW
 refine mC (fun a:Int×List D×List D=>a.1≤9223372036854775807) (fun d=>gC d=true) (fun a=>(a.1-s.li).toNat) ?_ _ _ hx (fb _)
 intro a ha
 have e:qb s (iK s.li s.lt s.le) a.1 a.2.1 a.2.2=if decide (a.1>s.li) then
   (if(decide (((fk s.li s.lt s.le a.1 1).length:Int)=1))&&((cD 2 ((fk s.li s.lt s.le a.1 1).getD 0 .top)).aq==2) then .inr (aN 2 (D.agg ((((fk s.li s.lt s.le a.1 1).getD 0 .top).aV.drop 27).take 2)) [])
    else .inl (IntKind.wrap .i64 (a.1-1),a.2.1,a.2.2)) else .inr (qc s (iK s.li s.lt s.le)):=rfl
 rw[e]
 by_cases Si:decide (a.1>s.li)=true
 ·rw[if_pos Si]
  rw[bQ]at Si
  generalize hc:((decide (((fk s.li s.lt s.le a.1 1).length:Int)=1))&&((cD 2 ((fk s.li s.lt s.le a.1 1).getD 0 .top)).aq==2))=c
  cases c with
  |true=>
   simp only[bc,bQ,beq_iff_eq]at hc
   show gC (D.agg ((((fk s.li s.lt s.le a.1 1).getD 0 .top).aV.drop 27).take 2))=true
   rw[I0]
   obtain⟨qZ,wP⟩:=hc
   have hl:(fk s.li s.lt s.le a.1 1).length=1:=by omega
   obtain⟨y,hy⟩:=bO.1 hl
   rw[hy]at wP⊢
   have hm:y∈s.le:=Gk (i:=s.li) (f:=a.1) (m:=1) (by show y∈fk s.li s.lt s.le a.1 1;rw[hy];simp)
   exact iA.1 h.cl y hm (by unfold rm;rw[beq_iff_eq];exact wP)
  |false=>
   show IntKind.wrap .i64 (a.1-1)≤_∧(IntKind.wrap .i64 (a.1-1)-s.li).toNat<_
   rw[wrap64 (by omega) (by omega)]
   exact⟨by omega,by omega⟩
 ·rw[if_neg Si]
  show gC (qc s (iK s.li s.lt s.le))=true
  have e2:qc s (iK s.li s.lt s.le)=if decide (s.li>0) then aN 2 (D.agg [.list s.sv,.list s.sl]) [] else aN 2 (D.agg [.list s.fv,.list s.fl]) [] :=rfl
  rw[e2]
  by_cases h1:decide (s.li>0)=true
  ·rw[if_pos h1];exact h.cs (by simpa using h1)
  ·rw[if_neg h1];exact h.cf
theorem mA{s:RS}{k:Nat}(h:fy C s k):gC (fO s)=true:=by
 obtain⟨l0,l1⟩:=h.li
 show gC (Dc (s.li+s.le.length) s)=true
 refine QG h ?_
 simp only[MX]at l1
 omega
theorem IQ{c y:D}(hc:gC c=true)(hy:y∈kE c):1≤y.aq∧y.aq≤5:=by
 unfold kE at hy
 rw[←MR]at hy
 obtain⟨n,hn,rfl⟩:=bB.1 hy
 obtain⟨h1,h2,_,_⟩:=Kz.1 hc
 rcases Ky.1 hn with h|h
 ·exact DS h1 n h
 ·exact DS h2 n h
theorem D9{c:D}(hc:gC c=true):(vo c).length≤5∧(lr c).length≤5:=by
 obtain⟨h1,h2,_,_⟩:=Kz.1 hc
 have a:=DT (cA 0) h1
 have b:=DT (cA 0) h2
 omega
theorem zD{c:D}(hc:gC c=true):(kE c).length≤10:=by
 obtain⟨a,b⟩:=D9 hc
 have h:(JE (vo c) (lr c)).length≤(vo c++lr c).length:=by
  unfold JE
  exact aR (Lib.compact_length_le _) (by rw[rW];exact bn _)
 unfold kE
 rw[←MR,aw]
 simp only[an]at h
 omega
theorem mr{c:D}{s:RS}(hc:gC c=true):(iM c s).length≤10∧ ∀y∈iM c s,1≤y.aq∧y.aq≤5:=by
 have Hi:gC (aN 2 c [])=true:=hc
 have hlen:=zD Hi
 unfold iM rY
 generalize PD:kE (aN 2 c [])=x6 at hlen
 have hm: ∀y∈x6,1≤y.aq∧y.aq≤5:=fun y hy=>IQ Hi (PD▸hy)
 refine mC (fun a:List D×Int=>0≤a.2∧a.1.length≤a.2.toNat∧a.2.toNat≤x6.length∧ ∀y∈a.1,1≤y.aq∧y.aq≤5) (fun(l:List D)=>l.length≤10∧ ∀y∈l,1≤y.aq∧y.aq≤5) (fun a=>x6.length-a.2.toNat) ?_ _ _ ⟨by show(0:Int)≤0;omega,by simp,by simp,by simp⟩ (fb _)
 rintro⟨l,j⟩ ⟨h0,h1,h2,h3⟩
 simp only at h0 h1 h2 h3
 unfold lB
 by_cases bP:decide (j<(x6.length:Int))=true
 ·rw[if_pos bP]
  rw[bQ]at bP
  have hw:IntKind.wrap .i64 (j+1)=j+1:=wrap64 (by omega) (by omega)
  have lZ:j.toNat<x6.length:=by omega
  by_cases fY:((x6.getD j.toNat .top).aq !=s.id)=true
  ·rw[if_pos fY,hw]
   refine⟨⟨by show 0≤j+1;omega,?_,by show(j+1).toNat≤_;omega,?_⟩,by show x6.length-(j+1).toNat<x6.length-j.toNat;omega⟩
   ·show(l++[_]).length≤(j+1).toNat
    rw[an,bG];omega
   intro y hy
   rcases aS.1 hy with hy|hy
   ·exact h3 y hy
   ·rw[aA]at hy
    subst hy
    rw[av,aW lZ,bL]
    exact hm _ (aX lZ)
  ·rw[if_neg fY,hw]
   exact⟨⟨by show 0≤j+1;omega,by show l.length≤(j+1).toNat;omega,by show(j+1).toNat≤_;omega,h3⟩,by show x6.length-(j+1).toNat<x6.length-j.toNat;omega⟩
 ·rw[if_neg bP]
  exact⟨by show l.length≤10;omega,h3⟩
theorem V9(o:Int)(n:Nat)(hn:n≤140737488355328):(decide (0≤bT (bV 0 o) n)&&(decide (bT (bV 0 o) n≤bT (i64.wrap (bT (bV 0 o) n+256)) n)&&decide (bT (i64.wrap (bT (bV 0 o) n+256)) n≤n)))=true:=by
 have h1:0≤bT (bV 0 o) n∧bT (bV 0 o) n≤n:=by
  unfold bT bV
  split<;>split<;>omega
 obtain⟨a,b⟩:=h1
 generalize bT (bV 0 o) n=m at a b
 rw[wrap64 (by omega) (by omega)]
 simp only[bc,bQ]
 unfold bT
 split<;>omega
theorem QD{s:RS}(hs:dK (.dJ fq) (encS s)):s.bk.length≤140737488355328:=by
 obtain⟨x,hx,hh⟩:=dY hs 18 (.list (.int .u8)) (by rw[Ty.fa];rfl)
 have e:(encS s)[18]? =some (.list s.bk):=rfl
 rw[e]at hx
 injection hx with hx
 subst hx
 obtain⟨l,hl,h1,_⟩:=bK.1 hh
 injection hl with hl
 subst hl
 have h2:=h1.2
 have h3:(Ty.int .u8).bytes=1:=rfl
 rw[h3,cd]at h2
 exact h2
theorem fy.alike{s t:RS}{k j:Nat}(h:fy C s k)(hj:j≤k)(e:JT s t):fy C t j:=(h.same e).le hj
variable{C:Nat}
theorem fy.ahp{s:RS}{k:Nat}{a:Int×Int}{l:List D}(h:fy C s (k+1)):fy C (nT s a l) k:=by
 unfold nT
 dsimp only
 split
 ·exact h.le (by omega)
 ·split
  ·have hc:=h.cb (x:=px (aN 2 (fO s) []) (.list (l.take (i64.wrap (s.id-1)).toNat++(.int .i64 a.1::(l.drop (i64.wrap (s.id-1)).toNat).drop (1:Int).toNat))))
   exact(hc.follow hc.tm hc.tx).U9
  ·exact h.cb
theorem fy.agree{s:RS}{k:Nat}(h:fy C s (k+1)):fy C (ji s) k:=by
 unfold ji rX
 refine mC (fun a:List D×Int=>0≤a.2∧a.2≤5) (fun t=>fy C t k) (fun a=>5-a.2.toNat) ?_ _ _ ⟨by show(0:Int)≤0;omega,by show(0:Int)≤5;omega⟩ (fb _)
 intro a ha
 revert ha
 generalize a.2=j
 generalize a.1=l
 rintro⟨h0,h5⟩
 unfold je
 have hj:j=0∨j=1∨j=2∨j=3∨j=4∨j=5:=by omega
 rcases hj with rfl|rfl|rfl|rfl|rfl|rfl
 ·rw[if_pos (by decide),if_pos (by decide)];refine⟨⟨?_,?_⟩,?_⟩<;>(dsimp only;decide)
 ·rw[if_pos (by decide),if_neg (by decide),if_pos (by decide)];refine⟨⟨?_,?_⟩,?_⟩<;>(dsimp only;decide)
 ·rw[if_pos (by decide),if_neg (by decide),if_neg (by decide),if_pos (by decide)];refine⟨⟨?_,?_⟩,?_⟩<;>(dsimp only;decide)
 ·rw[if_pos (by decide),if_neg (by decide),if_neg (by decide),if_neg (by decide),if_pos (by decide)];refine⟨⟨?_,?_⟩,?_⟩<;>(dsimp only;decide)
 ·rw[if_pos (by decide),if_neg (by decide),if_neg (by decide),if_neg (by decide),if_neg (by decide),if_pos (by decide)];refine⟨⟨?_,?_⟩,?_⟩<;>(dsimp only;decide)
 ·rw[if_neg (by decide)];exact h.ahp
theorem Ey{B:Type}{x:List D}{step:Int→RS→(Int×RS)⊕B}{ex:RS→B}{bad:B}{m:Int→RS→Nat}{Q:B→Prop}{k:Nat}{s:RS}(hx:x.length≤10∧ ∀y∈x,1≤y.aq∧y.aq≤5)
  (oZ: ∀i t,step i t=if decide (i<(x.length:Int)) then .inl (i64.wrap (i+1),gE ((x.getD i.toNat .top).aq) t) else .inr (ex t)) (hm: ∀i t,m i t=x.length-i.toNat) (hs:fy C s (k+10)) (hQ: ∀t,fy C t k→Q (ex t)):
  Q (ik (fun a:Int×RS=>step a.1 a.2) bad (m 0 s+1) (0,s)):=by
 refine mC (fun a:Int×RS=>0≤a.1∧a.1≤x.length∧fy C a.2 (k+(10-a.1.toNat))) Q (fun a=>m a.1 a.2) ?_ _ _ ⟨cA 0,gL _,hs⟩ (fb _)
 rintro⟨i,t⟩ ⟨h0,h1,h2⟩
 simp only at h0 h1 h2
 obtain⟨hl,hr⟩:=hx
 rw[oZ]
 by_cases bP:decide (i<(x.length:Int))=true
 ·rw[if_pos bP]
  rw[bQ]at bP
  have iJ:i.toNat<x.length:=by omega
  have hy:=hr _ (aX iJ)
  have hg:x.getD i.toNat .top=x[i.toNat] :=by rw[av,aW iJ];rfl
  rw[hg,wrap64 (by omega) (by omega)]
  refine⟨⟨by show 0≤i+1;omega,by show i+1≤_;omega,?_⟩,by show m (i+1) _<m i t;rw[hm,hm];omega⟩
  show fy C (gE _ t) (k+(10-(i+1).toNat))
  refine fy.JF (h2.le ?_) (by omega) hy.2
  omega
 ·rw[if_neg bP]
  exact hQ t (h2.le (by omega))
theorem fy.an3{s:RS}{k:Nat}(h:fy C s (k+12)):fy C (rR s) k:=by
 unfold rR
 dsimp only
 have hp:fy C (wS (aN 27 JQ [(0,.int .i64 1)]) s).2 (k+11):=h.put (by intro hq;exact absurd hq (by decide))
 exact Ey (k:=k+1) (Q:=fun t=>fy C t k) (mr (c:=aN 2 (fO _) []) (mA hp)) (fun _ _=>rfl) (fun _ _=>rfl) hp (fun t ht=>ht.agree)
theorem fy.lead{s:RS}{k:Nat}(h:fy C s (k+12)):fy C (tL s) k:=by
 unfold tL uV
 refine mC (fun a:Int×RS=>0≤a.1∧a.1≤6∧fy C a.2 (k+12)) (fun t=>fy C t k) (fun a=>6-a.1.toNat) ?_ _ _ ⟨by show(0:Int)≤0;omega,by show(0:Int)≤6;omega,⟨h.may,h.G9,h.G8,h.BR,h.nm,h.ne,h.nc,h.nv,h.cf,h.cs,h.cl,h.tm,h.tx,rfl⟩⟩ (fb _)
 intro a ha
 revert ha
 generalize a.2=t
 generalize a.1=j
 rintro⟨h0,h5,ht⟩
 unfold kD
 have hj:j=0∨j=1∨j=2∨j=3∨j=4∨j=5∨j=6:=by omega
 rcases hj with rfl|rfl|rfl|rfl|rfl|rfl|rfl
 ·rw[if_pos (by decide),if_pos (by decide)];refine⟨⟨?_,?_,ht.same ig⟩,?_⟩<;>(dsimp only;decide)
 ·rw[if_pos (by decide),if_neg (by decide),if_pos (by decide)];refine⟨⟨?_,?_,ht.same ig⟩,?_⟩<;>(dsimp only;decide)
 ·rw[if_pos (by decide),if_neg (by decide),if_neg (by decide),if_pos (by decide)];refine⟨⟨?_,?_,ht.same ig⟩,?_⟩<;>(dsimp only;decide)
 ·rw[if_pos (by decide),if_neg (by decide),if_neg (by decide),if_neg (by decide),if_pos (by decide)];refine⟨⟨?_,?_,ht.same ig⟩,?_⟩<;>(dsimp only;decide)
 ·rw[if_pos (by decide),if_neg (by decide),if_neg (by decide),if_neg (by decide),if_neg (by decide),if_pos (by decide)];refine⟨⟨?_,?_,ht.same ig⟩,?_⟩<;>(dsimp only;decide)
 ·rw[if_pos (by decide),if_neg (by decide),if_neg (by decide),if_neg (by decide),if_neg (by decide),if_neg (by decide),if_pos (by decide)];refine⟨⟨?_,?_,ht.same ig⟩,?_⟩<;>(dsimp only;decide)
 ·rw[if_neg (by decide)];exact ht.an3
theorem KV{c:D}{p:Int×Int}{x:List D}{t0:RS}{k:Nat}(hx:x.length≤10)(h:fy C t0 (k+10)):fy C (qh c p x 0 t0) k:=by
 unfold qh
 refine mC (fun a:Int×RS=>0≤a.1∧a.1≤x.length∧fy C a.2 (k+(10-a.1.toNat))) (fun t=>fy C t k) (fun a=>x.length-a.1.toNat) ?_ _ _ ⟨cA 0,gL _,h⟩ (fb _)
 intro a ha
 revert ha
 generalize a.2=t
 generalize a.1=i
 rintro⟨i0,i1,i2⟩
 unfold th
 dsimp only
 by_cases bP:decide (i<(x.length:Int))=true
 ·rw[if_pos bP]
  rw[bQ]at bP
  have Z9:IntKind.wrap .i64 (i+1)=i+1:=wrap64 (by omega) (by omega)
  rw[Z9]
  by_cases hv:nQ (aN 2 c []) ((x.getD i.toNat .top).aq)=true
  ·rw[if_pos hv]
   refine⟨⟨by show 0≤i+1;omega,by show i+1≤_;omega,?_⟩,by show x.length-(i+1).toNat<x.length-i.toNat;omega⟩
   show fy C (fT _ t) (k+(10-(i+1).toNat))
   exact fy.send (i2.le (by omega))
  ·rw[if_neg hv]
   exact⟨⟨by show 0≤i+1;omega,by show i+1≤_;omega,i2.le (by show k+(10-(i+1).toNat)≤_;omega)⟩,by show x.length-(i+1).toNat<x.length-i.toNat;omega⟩
 ·rw[if_neg bP]
  exact i2.le (by omega)
theorem fy.UY{s:RS}{k:Nat}(h:fy C s k)(ht:s.term<MX):fy C ({ij ({s with term:=i64.wrap (s.term+1),vote:=s.id}:RS) with role:=1,bR:=0,bJ:=[.int .i64 s.id]}:RS) k:=by
 have hw:IntKind.wrap .i64 (s.term+1)=s.term+1:=wrap64 (by have:=h.tm;omega) (by simp only[MX]at ht;omega)
 have h1:=h.tm
 have h2:=h.BR
 refine⟨h.may,h.G9,h.G8,h.BR,h.nm,h.ne,h.nc,?_,h.cf,h.cs,h.cl,?_,?_,h.rd⟩
 ·show([D.int .i64 s.id] :List D).length+k≤_
  simp only[bG];omega
 ·show 0≤IntKind.wrap .i64 (s.term+1)
  rw[hw];omega
 ·show IntKind.wrap .i64 (s.term+1)≤MX
  rw[hw];omega
theorem fy.amg{s:RS}{k:Nat}{c:D}(h:fy C s (k+13))(hc:gC c=true)(ht:s.term<MX):fy C (rj c s) k:=by
 have h0:=h.UY ht
 unfold rj
 dsimp only
 split
 ·exact(h0.le (by omega:k+12≤k+13)).lead
 ·exact KV (mr hc).1 (h0.le (by omega))
variable{C:Nat}
theorem fy.au1{α:Type}{k:Nat}{c:Prop}[Decidable c]{a b:α×RS}(h1:c→fy C a.2 k)(h2: ¬c→fy C b.2 k):fy C (if c then a else b).2 k:=by
 split
 ·exact h1 (by assumption)
 ·exact h2 (by assumption)
theorem fy.WQ{s:RS}{k:Nat}{x:D}(h:fy C s k):fy C (nR x s) k:=by
 unfold nR pC
 dsimp only
 unfold ik pB
 rw[if_neg (by rw[h.rd];exact(by decide: ¬decide ((0:Int)<(([] :List D).length:Int))=true))]
 exact⟨h.may,h.G9,h.G8,h.BR,h.nm,h.ne,h.nc,h.nv,h.cf,h.cs,h.cl,h.tm,h.tx,rfl⟩
theorem KS{i t:Int}{l:List D}{y:D}: ∀{es:List D},y∈(yA i t l es).2→y∈l∨y∈es
 | [],h=>.inl h
 |x::r,h=>by
  unfold yA at h
  split at h
  ·exact(KS h).imp id (aI _)
  ·rcases aS.1 h with h|h
   ·exact .inl (eK h)
   ·exact .inr h
theorem WT{i t:Int}{l es:List D}{pi pt:Int}{y:D}(h:y∈(lH i t l pi pt es).2):y∈l∨y∈es:=by
 unfold lH at h
 split at h
 ·exact KS h
 ·exact .inl h
theorem fy.log{s t:RS}{k j:Nat}(h:fy C s k)(N6:j≤k)(hm:fN t.li t.lt t.le=true)(hl:t.le.length+j≤4194304)(jY:fm t.le=true)(kP:0<t.li→gC (.agg [.list t.sv,.list t.sl])=true)
  (he:t.id=s.id∧t.msgs=s.msgs∧t.dS=s.dS∧t.cb=s.cb∧t.bJ=s.bJ∧t.fv=s.fv∧t.fl=s.fl∧t.term=s.term∧t.reads=s.reads):fy C t j:=by
 obtain⟨e4,e5,e6,e7,e8,e9,e10,e13,e14⟩:=he
 have h':=h.le N6
 refine⟨hm,by rw[e4];exact h.G9,by rw[e4];exact h.G8,hl,by rw[e5];exact h'.nm,by rw[e6];exact h'.ne,by rw[e7];exact h'.nc,by rw[e8];exact h'.nv,by rw[e9,e10];exact h.cf,kP,jY,by rw[e13];exact h.tm,by rw[e13];exact h.tx,by rw[e14];exact h.rd⟩
theorem fy.accept{s:RS}{k:Nat}{pi pt:Int}{es:List D}(h:fy C s (k+es.length))(rI:fm es=true):fy C ({s with li:=s.li,lt:=s.lt,le:=(lH s.li s.lt s.le pi pt es).2}:RS) k:=by
 obtain⟨h1,h2⟩:=WU (pi:=pi) (pt:=pt) (es:=es) h.may
 have h3:=h.BR
 refine h.log (by omega) h1 ?_ ?_ h.cs ⟨rfl,rfl,rfl,rfl,rfl,rfl,rfl,rfl,rfl⟩
 ·show(lH s.li s.lt s.le pi pt es).2.length+k≤_
  omega
 ·refine iA.2 fun y hy=> ?_
  rcases WT hy with hy|hy
  ·exact iA.1 h.cl y hy
  ·exact iA.1 rI y hy
theorem fy.dS{s:RS}{k:Nat}{f m:Int}(h:fy C s k):fy C ({ij s with dS:=fk s.li s.lt s.le f m}:RS) k:=by
 have h1:=h.BR
 have h2:=vZ (i:=s.li) (f:=f) (m:=m) (l:=s.le)
 refine⟨h.may,h.G9,h.G8,h.BR,h.nm,?_,h.nc,h.nv,h.cf,h.cs,h.cl,h.tm,h.tx,h.rd⟩
 show(iS s.li s.le f m).length+k≤_
 omega
theorem Wc{a b:Bool}(h: ¬(a|| !b)=true):b=true:=by cases a<;>cases b<;>simp_all
theorem Rp{i t:Int}{l:List D}{k:Int}{y:D}(h:y∈(mz i t l k).2.2):y∈l:=by
 unfold mz at h
 split at h
 ·exact h
 ·exact eL h
theorem ZA{i t:Int}(h: ¬(cD 0 (nu i t)).ic=true):okB i t=true∧cD 1 (nu i t)=yk i t [] :=by
 unfold nu at h⊢
 split
 ·rename_i h1;exact⟨h1.1,rfl⟩
 ·rename_i h1;rw[if_neg h1]at h;exact absurd rfl h
theorem fy.ami{s t:RS}{k j:Nat}{c:Int}(h:fy C s k)(N6:j≤k)(hl:(t.li,t.lt,t.le)=mz s.li s.lt s.le c)(hc:gC (.agg [.list t.sv,.list t.sl])=true)
  (he:t.id=s.id∧t.msgs=s.msgs∧t.dS=s.dS∧t.cb=s.cb∧t.bJ=s.bJ∧t.fv=s.fv∧t.fl=s.fl∧t.term=s.term∧t.reads=s.reads):fy C t j:=by
 obtain⟨h1,h2⟩:=Rq (k:=c) h.may
 have h3:=h.BR
 rw[←hl]at h1 h2
 simp only at h1 h2
 refine h.log N6 h1 (by omega) (IX h.cl fun y hy=>Rp (i:=s.li) (t:=s.lt) (k:=c) ?_) (fun _=>hc) he
 rw[←hl];exact hy
theorem fy.amh{s t:RS}{k j:Nat}{i m:Int}(h:fy C s k)(N6:j≤k)(hn: ¬(cD 0 (nu i m)).ic=true)(hl:(t.li,t.lt,t.le)=((cD 0 (cD 1 (nu i m))).aq,(cD 1 (cD 1 (nu i m))).aq,(cD 2 (cD 1 (nu i m))).aV))(hc:gC (.agg [.list t.sv,.list t.sl])=true)
  (he:t.id=s.id∧t.msgs=s.msgs∧t.dS=s.dS∧t.cb=s.cb∧t.bJ=s.bJ∧t.fv=s.fv∧t.fl=s.fl∧t.term=s.term∧t.reads=s.reads):fy C t j:=by
 obtain⟨h1,h2⟩:=ZA hn
 have h3:=h.BR
 rw[h2]at hl
 injection hl with e1 e2
 injection e2 with e2 e3
 replace e1:t.li=i:=e1
 replace e2:t.lt=m:=e2
 replace e3:t.le=[] :=e3
 refine h.log N6 ?_ (by rw[e3];simp;omega) (by rw[e3];rfl) (fun _=>hc) he
 rw[e1,e2,e3]
 exact iX.2 ⟨ma.1 h1,rfl⟩
theorem fy.tick{s:RS}{k:Nat}{x:Int}(h:fy C s (k+13)):fy C (fW x s).2 k:=by
 unfold fW
 dsimp only
 have hq: ∀t:RS,JT s t→fy C (fj t).2 k:=fun t e=>((h.same e).le (by omega:k≤k+13)).done
 have oZ: ∀t:RS,JT s t→t.term<1099511627776→fy C (fj (rj (aN 2 (fO t) []) t)).2 k:=fun t e ht=>((h.same e).amg (mA (h.same e)) ht).done
 have MW:fy C (zc (iM (aN 2 (fO ({s with wait:=0}:RS)) []) ({s with wait:=0}:RS)) 0 ({s with wait:=0}:RS)).2 k:=by
  have h0:fy C ({s with wait:=0}:RS) (k+13):=h.same ⟨rfl,rfl,rfl,rfl,rfl,rfl,rfl,rfl,rfl,rfl,rfl,rfl,rfl,rfl⟩
  exact Ey (k:=k) (Q:=fun t:D×RS=>fy C t.2 k) (mr (c:=aN 2 (fO _) []) (mA h0)) (fun _ _=>rfl) (fun _ _=>rfl) (h0.le (by omega)) (fun t ht=>ht.done)
 (repeat' (first|(with_reducible refine fy.ite (fun _=> ?_) (fun _=> ?_))|(with_reducible refine fy.au1 (fun _=> ?_) (fun _=> ?_))))
 all_goals (try dsimp only)
 all_goals first
  |with_reducible exact MW
  |(with_reducible refine hq _ ?_;exact⟨rfl,rfl,rfl,rfl,rfl,rfl,rfl,rfl,rfl,rfl,rfl,rfl,rfl,rfl⟩)
  |(rename_i hz;simp only[bc,bQ]at hz;with_reducible refine oZ _ ?_ hz.2;exact⟨rfl,rfl,rfl,rfl,rfl,rfl,rfl,rfl,rfl,rfl,rfl,rfl,rfl,rfl⟩)
theorem La(x:D)(s:RS):(nO x s).2.dp.length≤s.dp.length:=by
 unfold nO l6
 by_cases h:(s.role==2)=true
 ·rw[if_pos h];exact bn _
 ·rw[if_neg h]
  by_cases h2:decide (s.term>s.term)=true
  ·rw[if_pos h2];exact bn _
  ·rw[if_neg h2];exact bn _
theorem QL{s:RS}(hs:dK (.dJ fq) (encS s)):s.dp.length≤140737488355328:=by
 obtain⟨x,hx,hh⟩:=dY hs 50 (.list (.int .u8)) (by rw[Ty.fa];rfl)
 have e:(encS s)[50]? =some (.list s.dp):=rfl
 rw[e]at hx
 injection hx with hx
 subst hx
 obtain⟨l,hl,h1,_⟩:=bK.1 hh
 injection hl with hl
 subst hl
 have h2:=h1.2
 have h3:(Ty.int .u8).bytes=1:=rfl
 rw[h3,cd]at h2
 exact h2
theorem zF{f:Nat}{fn:Func}{sig:dQ}{pW:List D→Prop}{xm:List D→D}{cs:List (Nat×dQ)}{v:VC}(iF:kr Try.prog pre cF cs)(hf:Try.prog.funcs[f]? =some fn)(hc: ∀ds,dK (.dJ sig.params) ds→pW ds→v.holds cF pre (fun d=>d=xm ds) (fun i=>ds.getD i .top) [])(hB:fnB fn sig=true:=by kernel_rfl)(hv:Qh Try.prog cs [] sig fn=v:=by kernel_rfl)(qp:SG sig.res=true:=by rfl):bh Try.prog f sig pW xm:=K0 (given:=[]) mix iF hf hB hv hc qp
theorem zO{f:Nat}{fn:Func}{sig:dQ}{ob:Ob}{pW:List D→Prop}{xm:List D→D}{cs:List (Nat×dQ)}{v:VC}(iF:kr Try.prog pre cF cs)(hf:Try.prog.funcs[f]? =some fn)(hc: ∀ds,dK (.dJ sig.params) ds→pW ds→v.holds cF pre (fun d=>d=xm ds) (fun i=>ds.getD i .top) [])(fX:sig.ob=some ob:=by rfl)(hB:obB fn sig ob=true:=by kernel_rfl)(hv:qw Try.prog cs [] sig fn=v:=by kernel_rfl)(Sb:SF cs=true:=by rfl):bh Try.prog f sig pW xm:=jk (given:=[]) mix iF hf fX hB hv hc Sb
section
variable{v:VC}{ρ:Nat→D}{L:VC→(Nat→D)→Prop}{β B:Type}{gk:List (List D→Prop)}
theorem zE{β:Prop}(p:β)(h:v.BU cF pre triv L ρ=β:=by kernel_rfl):v.BU cF pre triv L ρ:=Eq.mpr h p
theorem zK(h:v.quiet triv=true:=by kernel_rfl):v.BU cF pre triv L ρ:=VC.Nw h
theorem zL(dec:D→B)(enc:B→D)(bad:B)(lp:Nat→(Nat→D)→List D→B){y:B}(ho:v.BU cF pre triv (VC.Jk cF pre enc lp gk) ρ)(hf:v.flat false=true:=by kernel_rfl)(hr:(v.sj cF ρ).map (fun d=>enc (dec d))=v.sj cF ρ:=by kernel_rfl)(hv:v.Ls cF dec (fun _ _=>bad) lp bad ρ=y:=by kernel_rfl):v.holds cF pre (fun d=>d=enc y) ρ gk:=VC.KG l3 hf ho hr hv
theorem zH(dec:D→B)(enc:B→D)(bad:B){y:B}(ho:v.BU cF pre triv (VC.Jk cF pre enc (fun _ _ _=>bad) gk) ρ)(hf:v.flat false=true:=by kernel_rfl)(hr:(v.sj cF ρ).map (fun d=>enc (dec d))=v.sj cF ρ:=by kernel_rfl)(hv:v.Ls cF dec (fun _ _=>bad) (fun _ _ _=>bad) bad ρ=y:=by kernel_rfl):v.holds cF pre (fun d=>d=enc y) ρ gk:=VC.KG l3 hf ho hr hv
end
theorem c79:bh Try.prog 79 s79 (pre 79) (cF 79):=by
 refine zF (yU (Φ:=cF) (Pre:=pre)) Try.func79 (v:=ajf) ?_
 intro ds h hp
 obtain⟨_,_,rfl,gl,_,_,rfl,gb,rfl⟩:=h
 obtain⟨l,rfl,hl,hkl⟩:=yH gl
 obtain⟨b,rfl,hb⟩:=dA.1 gb
 rw[xd]at hb
 have hR:cF 79 [.list (l.map (D.int .i64)),.int .i64 b] = .int .i64 (findF (fun y=>y==b) l 0):=by simp[cF,eX,bZ]
 simp[ajf,fG,eE,eC,cM,eD,dE,fF,fI,fH,gJ,den,U.den,B.den,fU,aU,db,eH,eF,eG,fV,bZ,cU,ah,aP,bL,aw,pre,hR]
 refine m7.intro (fun xs=> ∃n:Nat,xs=[.int .i64 0,.int .i64 n] ∧n≤l.length∧findF (fun y=>y==b) (l.drop n) n=findF (fun y=>y==b) l 0) (fun xs=>l.length-(I (.list xs) 1).toNat) ⟨0,rfl,bf _,by simp⟩ ?_
 intro xs tF hJ
 obtain⟨n,rfl,hle,tV⟩:=hJ
 clear tF
 rcases hx:l[n]? with _|x
 ·have ou:=vW hx
  have bP: ¬((n:Int)<l.length):=by omega
  rw[ck ou,findF]at tV
  simp[bZ,bP,←tV]
 ·have bP:=vT hx
  have lP:(n:Int)<l.length:=by omega
  have Jd:=ca hx
  have lY:IntKind.wrap .i64 ((n:Int)+1)=(n:Int)+1:=wrap64 (by omega) (by omega)
  rw[GL hx,findF]at tV
  simp[bZ,hx,lP,lY,Nat.not_le.2 bP]
  refine⟨fun h=> ?_,fun h=>⟨⟨n+1,by simp,bP,?_⟩,?_⟩⟩
  ·rw[←tV,if_pos (by simp[h])]
  ·rw[←tV,if_neg (by simp;exact fun e=>h e.symm)];congr 1
  ·show l.length-((n:Int)+1).toNat<l.length-(n:Int).toNat
   omega
theorem abY:kr Try.prog pre cF ajW:=aL c79 yU
theorem c56:bh Try.prog 56 s56 (pre 56) (cF 56):=by
 refine zF abY Try.func56 (v:=ajt) ?_
 intro ds h hp
 obtain⟨_,_,rfl,gl,_,_,rfl,gb,rfl⟩:=h
 obtain⟨l,rfl,hl,hkl⟩:=yH gl
 obtain⟨b,rfl,hb⟩:=dA.1 gb
 rw[xd]at hb
 have hR:cF 56 [.list (l.map (D.int .i64)),.int .i64 b] = .bool (decide (b∈l)):=by simp[cF,eX,bZ]
 have hI:cF 79 [.list (l.map (D.int .i64)),.int .i64 b] = .int .i64 (findF (fun y=>y==b) l 0):=by simp[cF,eX,bZ]
 simp[ajt,fG,eE,eC,cM,eD,dE,fF,fI,fH,gJ,den,U.den,B.den,fU,aU,db,eH,eF,eG,fV,bZ,cU,ah,aP,bL,aw,pre,hR,hI]
 rcases Bs (fun y=>y==b) l 0 with⟨h1,h2⟩|⟨n,y,h1,h2,h3,_⟩
 ·have:b∉l:=fun h=>by have:=h2 b h;simp at this
  simp[h1,this]
 ·have hm:=ca h2
  rw[beq_iff_eq]at h3;subst h3
  simp only[h1,hm,iff_true];omega
theorem aoW:kr Try.prog pre cF aj9:=aL c56 abY
theorem c61:bh Try.prog 61 s61 (pre 61) (cF 61):=NT Q5 Try.func61 (by kernel_rfl)
theorem aoV:kr Try.prog pre cF aj5:=aL c61 aoW
theorem c82:bh Try.prog 82 s82 (pre 82) (cF 82):=Qz Wo Try.func82 (by kernel_rfl)
theorem aoU:kr Try.prog pre cF ajV:=aL c82 aoV
theorem c83:bh Try.prog 83 s83 (pre 83) (cF 83):=I3 K9 Try.func83 (by kernel_rfl)
theorem abW:kr Try.prog pre cF ajU:=aL c83 aoU
theorem c55:bh Try.prog 55 s55 (pre 55) (cF 55):=by
 refine zF abW Try.func55 (v:=aju) ?_
 intro ds h hp
 obtain⟨_,_,rfl,gl,rfl⟩:=h
 obtain⟨l,rfl,hl,hkl⟩:=yH gl
 have hR:cF 55 [.list (l.map (D.int .i64))] = .bool (uA 0 l):=by simp[cF,eX]
 simp[aju,fG,eE,eC,cM,eD,dE,fF,fI,fH,gJ,den,U.den,B.den,fU,aU,db,eH,eF,eG,fV,bZ,cU,ah,aP,bL,aw,pre,hR]
 obtain⟨J,zS⟩: ∃J:List D→Prop,∀xs,J xs↔ ∃n:Nat,xs=[.bool false,.int .i64 n] ∧n≤l.length∧uA (yF 0 (l.take n)) (l.drop n)=uA 0 l:=⟨_,fun _=>dD⟩
 obtain⟨M,E6⟩: ∃M:List D→Nat,∀xs,M xs=l.length-(I (.list xs) 1).toNat:=⟨_,fun _=>rfl⟩
 refine m7.intro J M ((zS _).2 ⟨0,rfl,bf _,by simp[yF]⟩) ?_
 intro xs tF hJ
 obtain⟨n,rfl,hle,hf⟩:=(zS _).1 hJ
 clear hJ
 clear tF
 rcases hx:l[n]? with _|x
 ·have ou:=vW hx
  have bP: ¬((n:Int)<l.length):=by omega
  rw[ck ou,uA]at hf
  simp[bZ,bP,←hf]
 ·have bP:=vT hx
  have lP:(n:Int)<l.length:=by omega
  have Jd:=ca hx
  have lY:IntKind.wrap .i64 ((n:Int)+1)=(n:Int)+1:=wrap64 (by omega) (by omega)
  have ht:l.take (n+1)=l.take n++[x] :=by rw[dj,hx,eY]
  have mS:yF 0 (l.take (n+1))=x:=by rw[ht,tw];rfl
  obtain⟨p,hp⟩: ∃p,p=yF 0 (l.take n):=⟨_,rfl⟩
  rw[←hp,GL hx,uA]at hf
  have jt:1≤x→x≤5→p<x→J [.bool false,.int .i64 ((n:Int)+1)] ∧M [.bool false,.int .i64 ((n:Int)+1)] <M [.bool false,.int .i64 (n:Int)] :=by
   intro h1 h2 h3
   refine⟨(zS _).2 ⟨n+1,rfl,bP,?_⟩,?_⟩
   ·rw[mS,←hf];simp[h1,h2,h3]
   ·rw[E6,E6]
    show l.length-((n:Int)+1).toNat<l.length-(n:Int).toNat
    omega
  have C5: ¬(1≤x∧x≤5∧p<x)→uA 0 l=false:=by
   intro hc
   rw[←hf]
   have:(decide (1≤x)&&decide (x≤5)&&decide (p<x))=false:=by
    rw[dF];intro h
    simp only[bc,bQ]at h
    exact hc ⟨h.1.1,h.1.2,h.2⟩
   rw[this,Bool.false_and]
  by_cases hn:n=0
  ·have hp0:p=0:=by rw[hp,hn];rfl
   have Sb: ¬0<n:=by omega
   simp[bZ,hx,lP,lY,Nat.not_le.2 bP,Sb]
   refine⟨fun h=>C5 (by omega),fun h1 h2=>jt h1 h2 (by omega)⟩
  ·obtain⟨y,hy⟩: ∃y,l[n-1]? =some y:=⟨_,aW (by omega)⟩
   have hpy:p=y:=by
    rw[hp]
    have e:n=n-1+1:=by omega
    rw[e,dj,hy,eY,tw];rfl
   have hwm:IntKind.wrap .i64 ((n:Int)-1)=((n-1:Nat):Int):=by rw[wrap64 (by omega) (by omega)];omega
   have avF:((n-1:Nat):Int)<l.length:=by omega
   have Sb:0<n:=by omega
   simp[bZ,hx,hy,lP,lY,hwm,avF,Nat.not_le.2 bP,Sb]
   exact⟨fun h=>C5 (by omega),fun h1 h2 h3=>jt h1 h2 (by omega)⟩
theorem ack:kr Try.prog pre cF aka:=aL c55 abW
theorem c21:bh Try.prog 21 s21 (pre 21) (cF 21):=by
 refine zF ack Try.func21 (v:=ajP) ?_
 intro ds h hp
 obtain⟨_,_,rfl,ga,rfl⟩:=h
 obtain⟨va,la,rfl,me,P9,j6,Qa⟩:=yM ga
 simp[ajP,fG,eE,eC,cM,eD,dE,fF,fI,fH,gJ,den,U.den,B.den,fU,aU,db,eH,eF,eG,fV,bZ,cU,ah,aP,bL,aw,pre,awj,al1]
 refine⟨fun h=> ?_,fun h1 h2 h3=> ?_⟩
 ·simp only[CZ,Bool.and_eq_false_iff]
  rcases h with(h|h)|h
  ·exact .inl (.inl (.inl h))
  ·exact .inl (.inl (.inr h))
  ·exact .inl (.inr (by simp[h]))
 have hm:CZ va la=decide (∀x∈la,x∉va):=by simp[CZ,h1,h2,h3]
 obtain⟨J,zS⟩: ∃J:List D→Prop,∀xs,J xs↔ ∃n:Nat,xs=[.bool false,.int .i64 n] ∧n≤la.length∧ ∀y∈la.take n,y∉va:=⟨_,fun _=>dD⟩
 obtain⟨M,E6⟩: ∃M:List D→Nat,∀xs,M xs=la.length-(I (.list xs) 1).toNat:=⟨_,fun _=>rfl⟩
 refine m7.intro J M ((zS _).2 ⟨0,rfl,bf _,by simp⟩) ?_
 intro xs tF hJ
 obtain⟨n,rfl,hle,tV⟩:=(zS _).1 hJ
 clear hJ
 clear tF
 rcases hx:la[n]? with _|x
 ·have ou:=vW hx
  have bP: ¬((n:Int)<la.length):=by omega
  have e:n=la.length:=by omega
  subst e
  rw[fS]at tV
  simp[bZ,hm]
  exact tV
 ·have bP:=vT hx
  have lP:(n:Int)<la.length:=by omega
  have Jd:=ca hx
  have lY:IntKind.wrap .i64 ((n:Int)+1)=(n:Int)+1:=wrap64 (by omega) (by omega)
  have ht:la.take (n+1)=la.take n++[x] :=by rw[dj,hx,eY]
  simp[bZ,cU,hx,lP,lY,Nat.not_le.2 bP,afv,hm]
  refine⟨fun h=>⟨x,Jd,h⟩,fun h=>⟨(zS _).2 ⟨n+1,rfl,bP,?_⟩,?_⟩⟩
  ·intro y hy
   rw[ht]at hy
   rcases aS.1 hy with hy|hy
   ·exact tV y hy
   ·rw[aA]at hy;rw[hy];exact h
  ·rw[E6,E6]
   show la.length-((n:Int)+1).toNat<la.length-(n:Int).toNat
   omega
theorem acO:kr Try.prog pre cF akr:=aL c21 ack
theorem c36:bh Try.prog 36 s36 (pre 36) (cF 36):=by
 refine zF acO Try.func36 (v:=ajI) ?_
 intro ds h hp
 obtain⟨_,_,rfl,ga,_,_,rfl,gb,rfl⟩:=h
 obtain⟨va,la,rfl,me,P9,j6,Qa⟩:=yM ga
 obtain⟨b,rfl,hb⟩:=dA.1 gb
 rw[xd]at hb
 simp[ajI,fG,eE,eC,cM,eD,dE,fF,fI,fH,gJ,den,U.den,B.den,fU,aU,db,eH,eF,eG,fV,bZ,cU,ah,aP,bL,aw,pre,afv,alX]
theorem acC:kr Try.prog pre cF aki:=aL c36 acO
theorem c63:bh Try.prog 63 s63 (pre 63) (cF 63):=by
 refine zF acC Try.func63 (v:=ajp) ?_
 intro ds h hp
 obtain⟨_,_,rfl,ga,rfl⟩:=h
 obtain⟨va,la,rfl,me,P9,j6,Qa⟩:=yM ga
 replace hp:(va.length+la.length)*8≤140737488355328:=by
  have h0:((vo (.agg [.list (va.map (D.int .i64)),.list (la.map (D.int .i64))])).length+(lr (.agg [.list (va.map (D.int .i64)),.list (la.map (D.int .i64))])).length)*8≤140737488355328:=hp
  rwa [AW,JX]at h0
 simp[ajp,fG,eE,eC,cM,eD,dE,fF,fI,fH,gJ,den,U.den,B.den,fU,aU,db,eH,eF,eG,fV,bZ,cU,ah,aP,bL,aw,pre,awp,aoH,awo,awl,JE]
 exact⟨aR (show _≤140737488355328 by omega) (by decide),hp⟩
theorem acf:kr Try.prog pre cF aj4:=aL c63 acC
theorem c66:bh Try.prog 66 s66 (pre 66) (cF 66):=by
 refine zF acf Try.func66 (v:=ajn) ?_
 intro ds h hp
 obtain⟨_,_,rfl,ga,_,_,rfl,gy,rfl⟩:=h
 obtain⟨va,la,rfl,me,P9,j6,Qa⟩:=yM ga
 obtain⟨y,rfl,hy,hky⟩:=yH gy
 simp[ajn,fG,eE,eC,cM,eD,dE,fF,fI,fH,gJ,den,U.den,B.den,fU,aU,db,eH,eF,eG,fV,bZ,cU,ah,aP,bL,aw,pre,awm]
 obtain⟨J,zS⟩: ∃J:List D→Prop,∀xs,J xs↔ ∃n:Nat,xs=[.int .i64 (B4 (va.take n) y),.int .i64 n] ∧n≤va.length:=⟨_,fun _=>dD⟩
 obtain⟨M,E6⟩: ∃M:List D→Nat,∀xs,M xs=va.length-(I (.list xs) 1).toNat:=⟨_,fun _=>rfl⟩
 refine m7.intro J M ((zS _).2 ⟨0,rfl,bf _⟩) ?_
 intro xs tF hJ
 obtain⟨n,rfl,hle⟩:=(zS _).1 hJ
 clear hJ
 have jY:=ZJ (va.take n) y
 rw[bj]at jY
 clear tF
 rcases hx:va[n]? with _|x
 ·have ou:=vW hx
  have bP: ¬((n:Int)<va.length):=by omega
  have e:n=va.length:=by omega
  subst e
  rw[fS]at jY⊢
  have jn:IntKind.wrap .i64 (2*(B4 va y:Int))=2*(B4 va y:Int):=wrap64 (by omega) (by omega)
  simp[bZ,jn,L2]
 ·have bP:=vT hx
  have lP:(n:Int)<va.length:=by omega
  have Jd:=ca hx
  have lY:IntKind.wrap .i64 ((n:Int)+1)=(n:Int)+1:=wrap64 (by omega) (by omega)
  have Ju:=Rr (y:=y) hx
  have jn:IntKind.wrap .i64 ((B4 (va.take n) y:Int)+1)=(B4 (va.take n) y:Int)+1:=wrap64 (by omega) (by omega)
  have hme:va.length-((n:Int)+1).toNat<va.length-(n:Int).toNat:=by omega
  simp[bZ,cU,hx,lP,lY,jn,Nat.not_le.2 bP,afv]
  refine⟨fun h=>⟨(zS _).2 ⟨n+1,?_,bP⟩,?_⟩,fun h=>⟨(zS _).2 ⟨n+1,?_,bP⟩,?_⟩⟩
  ·rw[Ju,if_pos h];rfl
  ·rw[E6,E6];exact hme
  ·rw[Ju,if_neg h];rfl
  ·rw[E6,E6];exact hme
theorem acb:kr Try.prog pre cF aj3:=aL c66 acf
theorem c72:bh Try.prog 72 s72 (pre 72) (cF 72):=by
 refine zF acb Try.func72 (v:=ajk) ?_
 intro ds h hp
 obtain⟨_,_,rfl,ga,_,_,rfl,gm,rfl⟩:=h
 obtain⟨va,la,rfl,me,P9,j6,Qa⟩:=yM ga
 obtain⟨m,rfl,hm,hkm⟩:=yH gm
 simp[ajk,fG,eE,eC,cM,eD,dE,fF,fI,fH,gJ,den,U.den,B.den,fU,aU,db,eH,eF,eG,fV,bZ,cU,ah,aP,bL,aw,pre,awr]
 obtain⟨J,zS⟩: ∃J:List D→Prop,∀xs,J xs↔ ∃n:Nat,xs=[.list (((va.take n).map (ov m)).map (D.int .i64)),.int .i64 n] ∧n≤va.length:=⟨_,fun _=>dD⟩
 obtain⟨M,E6⟩: ∃M:List D→Nat,∀xs,M xs=va.length-(I (.list xs) 1).toNat:=⟨_,fun _=>rfl⟩
 refine m7.intro J M ((zS _).2 ⟨0,rfl,bf _⟩) ?_
 intro xs tF hJ
 obtain⟨n,rfl,hle⟩:=(zS _).1 hJ
 clear hJ
 clear tF
 rcases hx:va[n]? with _|x
 ·have ou:=vW hx
  have bP: ¬((n:Int)<va.length):=by omega
  have e:n=va.length:=by omega
  subst e
  rw[fS]
  cases me:va with
  |nil=>simp[bZ,db,xI]
  |cons q r=>
   rw[←me]
   have hlen:=yY va m
   have ir:0<va.length:=by rw[me];simp
   have jn:IntKind.wrap .i64 ((va.length:Int)-1)=((va.length-1:Nat):Int):=by rw[wrap64 (by omega) (by omega)];omega
   have hq:Int.tdiv ((va.length-1:Nat):Int) 2=(((va.length-1)/2:Nat):Int):=by rw[Int.tdiv_eq_ediv_of_nonneg (by omega)];omega
   have tG:IntKind.wrap .i64 (((va.length-1)/2:Nat):Int)=(((va.length-1)/2:Nat):Int):=wrap64 (by omega) (by omega)
   have fY:va≠ [] :=by rw[me];simp
   obtain⟨z,hz⟩: ∃z,(kT (va.map (ov m)))[(va.length-1)/2]? =some z:=⟨_,aW (by rw[hlen];omega)⟩
   have ha:xI va m=z:=by unfold xI;rw[if_neg fY,av,hz];rfl
   have Ft:(((va.length-1)/2:Nat):Int)<va.length:=by omega
   simp[-List.map_map,-Int.natCast_ediv,bZ,db,alY,hlen,jn,hq,tG,hz,ha,fY]
   omega
 ·have bP:=vT hx
  have lP:(n:Int)<va.length:=by omega
  have Jd:=ca hx
  have lY:IntKind.wrap .i64 ((n:Int)+1)=(n:Int)+1:=wrap64 (by omega) (by omega)
  have Ju:(va.take (n+1)).map (ov m)=(va.take n).map (ov m)++[ov m x] :=by rw[dj,hx,eY,cz];rfl
  have hme:va.length-((n:Int)+1).toNat<va.length-(n:Int).toNat:=by omega
  have CI: ∀q:Int,q=ov m x→J [.list (((va.map (ov m)).map (D.int .i64)).take n++[.int .i64 q]),.int .i64 ((n:Int)+1)] ∧M [.list (((va.map (ov m)).map (D.int .i64)).take n++[.int .i64 q]),.int .i64 ((n:Int)+1)] <M [.list (((va.map (ov m)).map (D.int .i64)).take n),.int .i64 (n:Int)] :=by
   rintro q rfl
   refine⟨(zS _).2 ⟨n+1,?_,bP⟩,?_⟩
   ·rw[Ju,cz,←List.map_take,←List.map_take];rfl
   ·rw[E6,E6];exact hme
  have xg:(min n va.length+1)≤maxLen∧(min n va.length+1)*8≤140737488355328:=⟨aR (show _≤140737488355328 by omega) (by decide),by omega⟩
  by_cases hc:1≤x∧x≤m.length
  ·have jn:IntKind.wrap .i64 (x-1)=x-1:=wrap64 (by omega) (by omega)
   obtain⟨y,hy⟩: ∃y,m[(x-1).toNat]? =some y:=⟨_,aW (by omega)⟩
   have hv:ov m x=if 0<y then y else 0:=by unfold ov;rw[if_pos hc,av,hy];rfl
   have qZ:(0:Int)≤x-1:=by omega
   have wP:x-1<(m.length:Int):=by omega
   have om:m[x.toNat-1]? =some y:=by rw[show x.toNat-1=(x-1).toNat by omega];exact hy
   simp[-List.map_map,bZ,db,hx,lP,lY,jn,om,hc.1,hc.2,qZ,wP,Nat.not_le.2 bP]
   exact⟨⟨xg,CI _ hv.symm⟩,fun hq=>by omega⟩
  ·have hv:ov m x=0:=by unfold ov;rw[if_neg hc]
   simp[-List.map_map,bZ,db,hx,lP,lY,Nat.not_le.2 bP]
   exact⟨fun h1 h2=>absurd ⟨h1,h2⟩ hc,fun _=>⟨xg,CI 0 hv.symm⟩⟩
theorem ab5:kr Try.prog pre cF ajZ:=aL c72 acb
theorem c70:bh Try.prog 70 im (pre 70) (cF 70):=by
 refine zF ab5 Try.func70 (v:=ajm) ?_
 intro ds h hp
 obtain⟨_,_,rfl,ga,_,_,rfl,gb,rfl⟩:=h
 obtain⟨va,la,rfl,me,P9,j6,Qa⟩:=yM ga
 obtain⟨vb,lb,rfl,hvb,avO,hlb,avP⟩:=yM gb
 simp[ajm,fG,eE,eC,cM,eD,dE,fF,fI,fH,gJ,den,U.den,B.den,fU,aU,db,eH,eF,eG,fV,bZ,cU,ah,aP,bL,aw,pre,al1,awh]
 refine⟨fun h=> ?_,fun h1 h2=> ?_⟩
 ·simp only[LS,Bool.and_eq_false_iff]
  rcases h with h|h
  ·exact .inl (.inl h)
  ·exact .inl (.inr h)
 have hm:LS va la vb lb=decide (B3 va vb 6≤1):=by simp[LS,h1,h2]
 obtain⟨J,zS⟩: ∃J:List D→Prop,∀xs,J xs↔ ∃n:Nat,xs=[.int .i64 (B3 va vb n),.int .i64 n] ∧n≤6:=⟨_,fun _=>dD⟩
 obtain⟨M,E6⟩: ∃M:List D→Nat,∀xs,M xs=6-(I (.list xs) 1).toNat:=⟨_,fun _=>rfl⟩
 refine m7.intro J M ((zS _).2 ⟨0,rfl,bf _⟩) ?_
 intro xs tF hJ
 obtain⟨n,rfl,hle⟩:=(zS _).1 hJ
 clear hJ tF
 have wN:=ZG va vb n
 by_cases hn:n=6
 ·subst hn
  simp[bZ,hm]
  omega
 ·have lP:(n:Int)<6:=by omega
  have lY:IntKind.wrap .i64 ((n:Int)+1)=(n:Int)+1:=wrap64 (by omega) (by omega)
  have jn:IntKind.wrap .i64 ((B3 va vb n:Int)+1)=(B3 va vb n:Int)+1:=wrap64 (by omega) (by omega)
  have hme:6-((n:Int)+1).toNat<6-(n:Int).toNat:=by omega
  have qC:=Rl va vb n
  have hn6: ¬(6:Int)≤n:=by omega
  have CI: ∀q:Int,q=B3 va vb (n+1)→J [.int .i64 q,.int .i64 ((n:Int)+1)] ∧M [.int .i64 q,.int .i64 ((n:Int)+1)] <M [.int .i64 (B3 va vb n),.int .i64 (n:Int)] :=by
   rintro q rfl
   exact⟨(zS _).2 ⟨n+1,rfl,by omega⟩,by rw[E6,E6];exact hme⟩
  simp[bZ,cU,lP,lY,jn,alX,hn6]
  refine⟨fun h=>CI _ ?_,fun h=>CI _ ?_⟩
  ·have hb:(decide ((n:Int)∈va) !=decide ((n:Int)∈vb))=true:=by simpa using h
   rw[qC,if_pos hb];rfl
  ·have hb: ¬(decide ((n:Int)∈va) !=decide ((n:Int)∈vb))=true:=by simpa using h
   rw[qC,if_neg hb];rfl
theorem ab7:kr Try.prog pre cF aj1:=aL c70 ab5
theorem c20:bh Try.prog 20 s20 (pre 20) (cF 20):=by
 refine zF ab7 Try.func20 (v:=ajQ) ?_
 intro ds h hp
 obtain⟨a,_,rfl,⟨a,rfl,ha⟩,b,_,rfl,⟨b,rfl,hb⟩,c,_,rfl,⟨c,rfl,hc⟩,rfl⟩:=h
 simp[ajQ,fG,eE,eC,cM,eD,dE,fF,fI,fH,den,B.den,cF,ue,bZ,cU]
theorem acP:kr Try.prog pre cF aks:=aL c20 ab7
theorem Rt{t:Ty}{n:Nat}{l:List D}(hl:HZ 140737488355328 t l.length)(hb:t.bytes=n):(l=[] → ∀(d:D),Has Ty.bool d→(d.gV=true→l=[])∧(d.gV=false→l.length≤maxLen∧l.length*n≤140737488355328))∧
  (¬l=[] → ∀(d:D),Has Ty.bool d→l.length≤maxLen∧l.length*n≤140737488355328):=by
 subst hb
 exact⟨fun h _ _=>⟨fun _=>h,fun _=>hl⟩,fun _ _ _=>hl⟩
theorem c52:bh Try.prog 52 s52 (pre 52) (cF 52):=by
 refine zF acP Try.func52 (v:=ajv) ?_
 intro ds h hp
 obtain⟨_,_,rfl,⟨l,rfl,hl,hg⟩,rfl⟩:=h
 have hR:cF 52 [.list l] = .list l:=rfl
 simp[ajv,fG,eE,eC,cM,eD,dE,fF,fI,fH,gJ,den,U.den,B.den,fU,aU,db,eH,eF,eG,fV,bZ,cU,pre,hR,fU]
 have:=Rt (n:=1) hl rfl
 simpa using this
theorem acn:kr Try.prog pre cF akc:=aL c52 acP
theorem c60:bh Try.prog 60 s60 (pre 60) (cF 60):=by
 refine zF acn Try.func60 (v:=atw) ?_
 intro ds h hp
 obtain⟨x,_,rfl,hx,rfl⟩:=h
 refine zH D.gV D.bool false (y:=(rm x&& !gC (cfE x))) zK
theorem ach:kr Try.prog pre cF aj6:=aL c60 acn
theorem acR:bh Try.prog 80 Tw (pre 80) (cF 80):=by
 refine zF ach Try.func80 (v:=UP) ?_
 intro ds h hp
 obtain⟨_,_,rfl,⟨l,rfl,hlen,hL⟩,_,_,rfl,⟨_,rfl,rfl⟩,rfl⟩:=h
 have qq:=hlen.1
 simp only[maxLen]at qq
 have hR:cF 80 [.list l,.fn 60 []] = .int .i64 (findF (Ah (.fn 60 [])) l 0):=rfl
 rw[hR]
 have hc: ∀x,cF 60 [x] = .bool (Ah (.fn 60 []) x):=fun _=>rfl
 simp[UP,fG,eE,eC,cM,eD,dE,fF,fI,fH,gJ,den,U.den,B.den,fU,aU,db,eH,eF,eG,fV,bZ,cU,pre,hc]
 obtain⟨J,zS⟩: ∃J:List D→Prop,∀xs,J xs↔ ∃n:Nat,∃y:Int,xs=[.int .i64 y,.int .i64 n] ∧n≤l.length∧findF (Ah (.fn 60 [])) (l.drop n) n=findF (Ah (.fn 60 [])) l 0:=⟨_,fun _=>dD⟩
 obtain⟨M,E6⟩: ∃M:List D→Nat,∀xs,M xs=l.length-((xs.getD 1 .top).aq).toNat:=⟨_,fun _=>rfl⟩
 refine m7.intro J M ((zS _).2 ⟨0,0,rfl,bf _,by simp⟩) ?_
 intro xs tF hJ
 obtain⟨n,y,rfl,hle,ss⟩:=(zS _).1 hJ
 clear hJ tF
 simp[fG,eE,eC,cM,eD,dE,fF,fI,fH,gJ,den,U.den,B.den,fU,aU,db,eH,eF,eG,fV,bZ,cU]
 refine⟨fun bP=> ?_,fun ou=> ?_⟩
 ·have hx:l[n]? =some l[n] :=aW bP
  have hd:l.drop n=l[n] ::l.drop (n+1):=cY bP
  rw[hd]at ss
  simp only[findF]at ss
  rw[hx,bL]
  refine⟨by omega,fun hb=> ?_,fun hb=> ?_⟩
  ·rw[if_pos hb]at ss;exact ss
  ·rw[wrap64 (by omega) (by omega)]
   refine⟨(zS _).2 ⟨n+1,y,by simp,bP,?_⟩,?_⟩
   ·rw[if_neg (by rw[hb];simp)]at ss
    rw[←ss];simp
   ·rw[E6,E6];simp[bZ];omega
 ·have:l.drop n=[] :=ck ou
  rw[this]at ss
  exact ss
theorem Pr:kr Try.prog pre cF UW:=aL acR ach
theorem AK(p:D→Bool): ∀(l:List D) (k:Int),0≤k→(l.any p=true↔0≤findF p l k)
 | [],k,hk=>by simp[findF]
 |x::r,k,hk=>by
  simp only[findF,List.any_cons]
  cases hp:p x with
  |true=>simp;exact hk
  |false=>
   simp only[Bool.false_or,ak,if_false]
   exact AK p r (k+1) (by omega)
theorem acS:bh Try.prog 59 Tx (pre 59) (cF 59):=by
 refine zF Pr Try.func59 (v:=UR) ?_
 intro ds h hp
 obtain⟨_,_,rfl,⟨l,rfl,hlen,hL⟩,_,_,rfl,⟨_,rfl,rfl⟩,rfl⟩:=h
 have hR:cF 59 [.list l,.fn 60 []] = .bool (ni l (.fn 60 [])):=rfl
 have hI:cF 80 [.list l,.fn 60 []] = .int .i64 (findF (Ah (.fn 60 [])) l 0):=rfl
 rw[hR]
 simp[UR,fG,eE,eC,cM,eD,dE,fF,fI,fH,gJ,den,U.den,B.den,fU,aU,db,eH,eF,eG,fV,bZ,cU,pre,hI]
 rw[dB,bQ]
 exact(AK _ l 0 (cA 0)).symm
theorem Pt:kr Try.prog pre cF UX:=aL acS Pr
theorem c24:bh Try.prog 24 s24 (pre 24) (cF 24):=by
 refine zF Pt Try.func24 (v:=ajN) ?_
 intro ds h hp
 obtain⟨_,_,rfl,⟨l,rfl,hlen,hL⟩,rfl⟩:=h
 have hR:cF 24 [.list l] = .bool (fm l):=rfl
 have hI:cF 59 [.list l,.fn 60 []] = .bool (ni l (.fn 60 [])):=rfl
 rw[hR]
 simp[ajN,fG,eE,eC,cM,eD,dE,fF,fI,fH,gJ,den,U.den,B.den,fU,aU,db,eH,eF,eG,fV,bZ,cU,pre,hI]
 unfold fm ni
 rw[Bool.not_not]
 rfl
theorem acM:kr Try.prog pre cF akp:=aL c24 Pt
theorem c26:bh Try.prog 26 s26 (pre 26) (cF 26):=by
 refine zF acM Try.func26 (v:=ajL) ?_
 intro ds h hp
 obtain⟨_,_,rfl,⟨_,rfl,_,_,rfl,⟨v,rfl,_,_⟩,_,_,rfl,⟨l,rfl,_,_⟩,rfl⟩,rfl⟩:=h
 simp[ajL,fG,eE,eC,cM,eD,dE,fF,fI,fH,gJ,den,U.den,B.den,fU,aU,db,eH,eF,eG,fV,bZ,cU,pre,cF,zo]
theorem acK:kr Try.prog pre cF akn:=aL c26 acM
theorem c28:bh Try.prog 28 s28 (pre 28) (cF 28):=by
 refine zF acK Try.func28 (v:=ajK) ?_
 intro ds h hp
 obtain⟨_,_,rfl,⟨_,rfl,_,_,rfl,⟨i,rfl,hi⟩,_,_,rfl,⟨t,rfl,ht⟩,_,_,rfl,⟨l,rfl,hlen,hL⟩,rfl⟩,rfl⟩:=h
 simp[ajK,fG,eE,eC,cM,eD,dE,fF,fI,fH,gJ,den,U.den,B.den,fU,aU,db,eH,eF,eG,fV,bZ,cU,pre,cF,iK,cD]
theorem acI:kr Try.prog pre cF akm:=aL c28 acK
theorem c25:bh Try.prog 25 s25 (pre 25) (cF 25):=by
 refine zF acI Try.func25 (v:=ajM) ?_
 intro ds h hp
 obtain⟨_,_,rfl,⟨_,rfl,_,_,rfl,⟨i,rfl,hi⟩,_,_,rfl,⟨t,rfl,ht⟩,_,_,rfl,⟨l,rfl,hlen,hL⟩,rfl⟩,rfl⟩:=h
 replace hp:fN i t l=true:=hp
 have hb:cF 28 [.ptr [.int .i64 i,.int .i64 t,.list l]] = .fx [.int .i64 i,.int .i64 t] :=rfl
 have hR:cF 25 [.ptr [.int .i64 i,.int .i64 t,.list l]] = .fx [.int .i64 (i+l.length),.int .i64 (fA t l)] :=rfl
 simp[ajM,fG,eE,eC,cM,eD,dE,fF,fI,fH,gJ,den,U.den,B.den,fU,aU,db,eH,eF,eG,fV,bZ,cU,pre,hb,hR]
 obtain⟨⟨k1,k2,k3,k4⟩,hc⟩:=iX.1 hp
 have qq:=hlen.1
 simp only[maxLen]at qq
 constructor
 ·rintro rfl;simp[fA]
 ·intro fY
  have ir:0<l.length:=List.length_pos_iff.2 fY
  rw[wrap64 (by omega) (by omega),show((l.length:Int)-1).toNat=l.length-1 by omega]
  obtain⟨x,hx⟩: ∃x,l[l.length-1]? =some x:=⟨_,aW (by omega)⟩
  obtain⟨e0,e1,_,_⟩:=H6 (hL x (ca hx))
  have hg:=ahg hc hx
  rw[hx,bL,e0,e1,wC hx,hg.1]
  refine⟨by omega,?_,rfl⟩
  congr 1;omega
theorem acL:kr Try.prog pre cF ako:=aL c25 acI
theorem c50:bh Try.prog 50 s50 (pre 50) (cF 50):=by
 refine zF acL Try.func50 (v:=ajx) ?_
 intro ds h hp
 obtain⟨_,_,rfl,⟨_,rfl,_,_,rfl,⟨i,rfl,hi⟩,_,_,rfl,⟨t,rfl,ht⟩,_,_,rfl,⟨l,rfl,hlen,hL⟩,rfl⟩,_,_,rfl,⟨k,rfl,hk⟩,rfl⟩:=h
 replace hp:fN i t l=true:=hp
 have hR:cF 50 [.ptr [.int .i64 i,.int .i64 t,.list l],.int .i64 k] = .fx [.int .i64 (jE i t l k).1,.int .i64 (jE i t l k).2] :=rfl
 simp[ajx,fG,eE,eC,cM,eD,dE,fF,fI,fH,gJ,den,U.den,B.den,fU,aU,db,eH,eF,eG,fV,bZ,cU,pre,hR]
 rw[xd]at hk
 obtain⟨⟨k1,k2,k3,k4⟩,hc⟩:=iX.1 hp
 have qq:=hlen.1
 simp only[maxLen,MX]at qq k2
 refine⟨fun h=>by simp[jE,h],fun h=>⟨fun h2=>by subst h2;simp[jE],fun h2=> ?_⟩⟩
 rw[wrap64 (by omega) (by omega)]
 have h0: ¬k<i:=by omega
 refine⟨fun h3=> ?_,fun h3=> ?_⟩
 ·have:l[(k-i-1).toNat]? =none:=by rw[eO];omega
  unfold jE;rw[if_neg h0,if_neg h2,this];exact⟨rfl,rfl⟩
 ·rw[wrap64 (by omega) (by omega)]
  obtain⟨x,hx⟩: ∃x,l[(k-i-1).toNat]? =some x:=⟨_,aW (by omega)⟩
  obtain⟨e0,e1,_,_⟩:=H6 (hL x (ca hx))
  refine⟨by omega,?_,?_⟩
  ·rw[hx,bL,e1];unfold jE;rw[if_neg h0,if_neg h2,hx]
  ·unfold jE;rw[if_neg h0,if_neg h2,hx]
theorem aco:kr Try.prog pre cF ake:=aL c50 acL
theorem c74:bh Try.prog 74 tB (pre 74) (cF 74):=by
 refine zF aco Try.func74 (v:=aji) ?_
 intro ds h hp
 obtain⟨_,_,rfl,⟨_,rfl,_,_,rfl,⟨i,rfl,hi⟩,_,_,rfl,⟨t,rfl,ht⟩,_,_,rfl,⟨l,rfl,hlen,hL⟩,rfl⟩,_,_,rfl,⟨x,rfl,hx⟩,_,_,rfl,⟨y,rfl,hy⟩,rfl⟩:=h
 replace hp:fN i t l=true:=hp
 have hl:cF 25 [.ptr [.int .i64 i,.int .i64 t,.list l]] = .fx [.int .i64 (i+l.length),.int .i64 (fA t l)] :=rfl
 have xw:pre 25 [.ptr [.int .i64 i,.int .i64 t,.list l]] :=hp
 have hR:cF 74 [.ptr [.int .i64 i,.int .i64 t,.list l],.int .i64 x,.int .i64 y] = .bool (MQ i t l x y):=rfl
 simp[aji,fG,eE,eC,cM,eD,dE,fF,fI,fH,gJ,den,U.den,B.den,fU,aU,db,eH,eF,eG,fV,bZ,cU,hl,hR,xw,MQ]
 rw[dB]
 simp
theorem ab3:kr Try.prog pre cF ajY:=aL c74 aco
theorem c65:bh Try.prog 65 s65 (pre 65) (cF 65):=by
 refine zF ab3 Try.func65 (v:=ajo) ?_
 intro ds h hp
 obtain⟨_,_,rfl,⟨_,rfl,_,_,rfl,⟨i,rfl,hi⟩,_,_,rfl,⟨t,rfl,ht⟩,_,_,rfl,⟨l,rfl,hlen,hL⟩,rfl⟩,_,_,rfl,⟨f,rfl,hf⟩,_,_,rfl,⟨m,rfl,hm⟩,rfl⟩:=h
 have hR:cF 65 [.ptr [.int .i64 i,.int .i64 t,.list l],.int .i64 f,.int .i64 m] = .list (iS i l f m):=rfl
 simp[ajo,fG,eE,eC,cM,eD,dE,fF,fI,fH,gJ,den,U.den,B.den,fU,aU,db,eH,eF,eG,fV,bZ,cU,pre,hR]
 replace hp:okB i t=true:=hp
 rw[xd]at hf hm
 obtain⟨k1,k2,_,_⟩:=ma.1 hp
 have qq:=hlen.1
 have hb:=hlen.2
 rw[qj]at hb
 simp only[maxLen,MX]at qq k2⊢
 refine⟨?_,fun h1 h2=> ?_⟩
 ·intro h
  unfold iS
  by_cases hc:m<1∨f≤i
  ·rw[if_pos hc]
  ·rw[if_neg hc]
   have h':=h.resolve_left hc
   rw[wrap64 (n:=f-i) (by omega) (by omega),wrap64 (by omega) (by omega)]at h'
   rw[ck (by omega)];simp
 ·rw[wrap64 (n:=f-i) (by omega) (by omega),wrap64 (n:=f-i-1) (by omega) (by omega)]
  intro h3
  rw[wrap64 (n:=(l.length:Int)-(f-i-1)) (by omega) (by omega)]
  have es:iS i l f m=(l.drop (f-i-1).toNat).take m.toNat:=by unfold iS;rw[if_neg (by omega)]
  refine⟨fun h4=> ?_,fun h4=> ?_⟩
  ·rw[wrap64 (n:=f-i-1+m) (by omega) (by omega)]
   refine⟨by omega,⟨by omega,aR (az 320 (by omega)) hb⟩,?_⟩
   rw[es,List.drop_take];congr 1;omega
  ·refine⟨by omega,⟨by omega,aR (az 320 (by omega)) hb⟩,?_⟩
   rw[es,eM (by rw[bF];omega)]
theorem acd:kr Try.prog pre cF adT:=aL c65 ab3
def auA(x:Int)(s:RS):Prop:=
 (True)∧(
 let x7:=(iK s.li s.lt s.le)
 VC.Jk cF pre (fun d=>d) (fun _ _ l=>uW s x7 (l.getD 0 .top).aq (l.getD 1 .top).aV (l.getD 2 .top).aV) [] (VC.lp 15 adI) (fU (fun i=> [Hy s,D.int .i64 x].getD i .top) 7 (D.fx [D.int .i64 x7.1,D.int .i64 x7.2])))
def anJ(s:RS)(x7:Int×Int)(i15:Int):Prop:=
 ((decide (i15>x7.1)=true→
  ((true=true→okB s.li s.lt=true))∧(
  let NX:=(fk s.li s.lt s.le i15 1)
  ((((((NX:List D).length:Int)==1)==true)&&true)=true→((decide (0≤0))&&(decide (0<((NX:List D).length:Int))))=true)∧(
  ((((((NX:List D).length:Int)==1)&&(((cD 2 ((NX).getD (0:Int).toNat .top)).aq)==2))=true→
   (true=true→((decide (0≤0))&&(decide (0<((NX:List D).length:Int))))=true)∧(
   True)))∧(True)))))∧(True)
def DV(s:RS)(x7:Int×Int)(i15:Int)(W7:List D)(W6:List D):(Int×List D×List D)⊕(D):=
 if decide (i15>x7.1) then(
  let NX:=(fk s.li s.lt s.le i15 1)
  if((((NX:List D).length:Int)==1)&&(((cD 2 ((NX).getD (0:Int).toNat .top)).aq)==2)) then(
   let x44:=(gp (D.agg ((((NX).getD (0:Int).toNat .top).aV.drop 27).take 2)))
   .inr (aN 2 x44 []))
  else(
   .inl ((i64.wrap (i15-1)),W7,W6)))
 else(
  if decide (x7.1>0) then(
   let x28:=(gp (D.agg [D.list s.sv,D.list s.sl]))
   .inr (aN 2 x28 []))
  else(
   let wK:=(gp (D.agg [D.list s.fv,D.list s.fl]))
   .inr (aN 2 wK [])))
theorem KZ(s:RS)(x7:Int×Int)(i15:Int)(W7:List D)(W6:List D):DV s x7 i15 W7 W6=qb s x7 i15 W7 W6:=by
 unfold DV qb qc
 dsimp only
 repeat (first|rfl|split)
theorem Y0(x:Int)(s:RS)(hx:oY .i64 x)(h:Ok (s) 0):auA x s:=by
 refine⟨trivial,?_⟩
 intro x7
 have Z6:x7.1=s.li:=rfl
 clear_value x7
 obtain⟨l0,l1⟩:=h.li
 refine VC.kH 15 (by kernel_rfl) ?_
 refine VC.jc (Φ:=cF) (Pre:=pre) (triv:=triv) (v0:=15) (decL:=fun l=>((l.getD 0 .top).aq,(l.getD 1 .top).aV,(l.getD 2 .top).aV)) (encL:=fun a:Int×List D×List D=>([D.int .i64 a.1,D.list a.2.1,D.list a.2.2])) (dec:=(fun d=>d)) (enc:=(fun d=>d)) (lp:=fun _ _ _ _=>D.top) (bad:=.inr D.top) (bd:=D.top) (by kernel_rfl) (fun a:Int×List D×List D=>qb s x7 a.1 a.2.1 a.2.2) (fun a:Int×List D×List D=>a.1≤9223372036854775807) (fun a:Int×List D×List D=>Kr s x7 a.1 a.2.1 a.2.2) (x,[],[]) l3 (by kernel_rfl) ?Z2 (fun a=>rfl) ?R5 (by kernel_rfl) (fun a ha=>Eq.trans (b:=DV s x7 a.1 a.2.1 a.2.2) (by kernel_rfl) (KZ s x7 a.1 a.2.1 a.2.2)) (fun a=>by kernel_rfl) (fun a=>by kernel_rfl) (fun a ha jA=>zE (β:=anJ s x7 a.1) ?C2) (by kernel_rfl)
 ·exact hx.2
 ·rintro⟨i,l,r⟩ h0
  replace h0:i≤9223372036854775807:=h0
  unfold qb
  by_cases Si:decide (i>x7.1)=true
  ·rw[if_pos Si]
   rw[bQ,Z6]at Si
   dsimp only
   generalize ((((fk s.li s.lt s.le i 1).length:Int)==1)&&((cD 2 ((fk s.li s.lt s.le i 1).getD (0:Int).toNat .top)).aq==2))=c
   cases c with
   |true=>trivial
   |false=>
    show IntKind.wrap .i64 (i-1)≤_∧(IntKind.wrap .i64 (i-1)-x7.1).toNat<(i-x7.1).toNat
    rw[wrap64 (by omega) (by omega)]
    refine⟨by omega,?_⟩
    omega
  ·rw[if_neg Si];trivial
 ·refine⟨fun Si=>⟨fun _=>h.SJ,?_⟩,trivial⟩
  intro NX
  refine⟨fun hc=> ?_,fun hc=>⟨fun _=> ?_,trivial⟩,trivial⟩
  ·simp only[bc,beq_iff_eq,and_true]at hc
   rw[hc];rfl
  ·simp only[bc,beq_iff_eq]at hc
   rw[hc.1];rfl
theorem c49:bh Try.prog 49 s49 (pre 49) (cF 49):=by
 refine zF acd Try.func49 (v:=adI) ?_
 intro ds h hp
 obtain⟨d,_,rfl,hd,h1⟩:=aj.1 h
 obtain⟨s,rfl⟩:=oQ hd
 obtain⟨_,_,rfl,⟨x,rfl,hx⟩,h2⟩:=aj.1 h1
 obtain rfl:=dr.1 h2
 refine zL (fun d=>d) (fun d=>d) D.top (fun _ _ l=>(let x7:=(iK s.li s.lt s.le);uW s x7 (l.getD 0 .top).aq (l.getD 1 .top).aV (l.getD 2 .top).aV)) (y:=Dc x s) (zE (Y0 x s hx hp))
theorem acp:kr Try.prog pre cF akf:=aL c49 acd
def auO(s:RS):Prop:=
 ((true=true→fN s.li s.lt s.le=true))∧(
 let x6:=(gn s.li s.lt s.le)
 ((true=true→Ok s 0))∧(
 True))
theorem Ze(s:RS)(h:Ok (s) 0):auO s:=by
 exact⟨fun _=>h.may,fun _=>h,trivial⟩
theorem c29:bh Try.prog 29 s29 (pre 29) (cF 29):=by
 refine zF acp Try.func29 (v:=atB) ?_
 intro ds h hp
 obtain⟨d,_,rfl,hd,h1⟩:=aj.1 h
 obtain⟨s,rfl⟩:=oQ hd
 obtain rfl:=dr.1 h1
 refine zH (fun d=>d) (fun d=>d) .top (y:=fO s) (zE (Ze s hp))
theorem acH:kr Try.prog pre cF ad6:=aL c29 acp
def auN(x:D)(s:RS):Prop:=
 ((true=true→((vo (aN 2 x [])).length+(lr (aN 2 x [])).length)*8≤140737488355328))∧(
 let x6:=(kE (aN 2 x []))
 VC.Jk cF pre D.list (fun _ _ l=>rY s x6 (l.getD 0 .top).aV (l.getD 1 .top).aq) [] (VC.lp 9 adL) (fU (fun i=> [Hy s,x].getD i .top) 6 (D.list x6)))
def anM(s:RS)(x6:List D)(i9:List D)(j9:Int):Prop:=
 ((decide (j9<((x6:List D).length:Int))=true→
  (true=true→((decide (0≤j9))&&(decide (j9<((x6:List D).length:Int))))=true)∧(
  (((((((x6).getD (j9:Int).toNat .top)).aq) !=s.id)=true→
   (true=true→((i9++([((x6).getD (j9:Int).toNat .top)] :List D)):List D).length≤maxLen∧((i9++([((x6).getD (j9:Int).toNat .top)] :List D)):List D).length*8≤140737488355328)∧(
   True)))∧(True))))∧(True)
theorem Zd(x:D)(s:RS)(h:Ok (s) 0∧gC x=true):auN x s:=by
 obtain⟨h,hc⟩:=h
 refine⟨fun _=> ?_,?_⟩
 ·have:=D9 (c:=aN 2 x []) hc
  omega
 intro x6
 have PD:x6.length≤10:=zD (c:=aN 2 x []) hc
 clear_value x6
 refine VC.kH 9 (by kernel_rfl) ?_
 refine VC.jc (Φ:=cF) (Pre:=pre) (triv:=triv) (v0:=9) (decL:=fun l=>((l.getD 0 .top).aV,(l.getD 1 .top).aq)) (encL:=fun a:List D×Int=>([D.list a.1,D.int .i64 a.2])) (dec:=D.aV) (enc:=D.list) (lp:=fun _ _ _ _=>([] :List D)) (bad:=.inr ([] :List D)) (bd:=([] :List D)) (by kernel_rfl) (fun a:List D×Int=>lB s x6 a.1 a.2) (fun a:List D×Int=>0≤a.2∧a.1.length≤a.2.toNat∧a.2.toNat≤x6.length) (fun a:List D×Int=>Gs s x6 a.1 a.2) ([],0) l3 (by kernel_rfl) ?Z2 (fun a=>rfl) ?R5 (by kernel_rfl) (fun a ha=>by kernel_rfl) (fun a=>by kernel_rfl) (fun a=>by kernel_rfl) (fun a ha jA=>zE (β:=anM s x6 a.1 a.2) ?C2) (by kernel_rfl)
 ·exact⟨cA 0,bf _,bf _⟩
 ·rintro⟨l,j⟩ ⟨h0,h1,h2⟩
  simp only at h0 h1 h2
  unfold lB
  by_cases bP:decide (j<(x6.length:Int))=true
  ·rw[if_pos bP]
   rw[bQ]at bP
   have hw:IntKind.wrap .i64 (j+1)=j+1:=wrap64 (by omega) (by omega)
   by_cases fY:((x6.getD j.toNat .top).aq !=s.id)=true
   ·rw[if_pos fY,hw]
    refine⟨⟨by show 0≤j+1;omega,?_,by show(j+1).toNat≤_;omega⟩,by show x6.length-(j+1).toNat<x6.length-j.toNat;omega⟩
    show(l++[_]).length≤(j+1).toNat
    rw[an,bG];omega
   ·rw[if_neg fY,hw]
    exact⟨⟨by show 0≤j+1;omega,by show l.length≤(j+1).toNat;omega,by show(j+1).toNat≤_;omega⟩,by show x6.length-(j+1).toNat<x6.length-j.toNat;omega⟩
  ·rw[if_neg bP];trivial
 ·obtain⟨l,j⟩:=a
  obtain⟨h0,h1,h2⟩:=ha
  simp only at h0 h1 h2
  refine⟨fun bP=>⟨fun _=> ?_,fun _=>⟨fun _=> ?_,trivial⟩,trivial⟩,trivial⟩
  ·rw[bQ]at bP
   rw[bc,bQ,bQ]
   exact⟨h0,bP⟩
  ·simp only[an,bG,maxLen]
   omega
theorem c32:bh Try.prog 32 s32 (pre 32) (cF 32):=by
 refine zF acH Try.func32 (v:=adL) ?_
 intro ds h hp
 obtain⟨d,_,rfl,hd,h1⟩:=aj.1 h
 obtain⟨s,rfl⟩:=oQ hd
 obtain⟨x,_,rfl,hx,h2⟩:=aj.1 h1
 obtain rfl:=dr.1 h2
 refine zL D.aV D.list ([] :List D) (fun _ _ l=>(let x6:=(kE (aN 2 x []));rY s x6 (l.getD 0 .top).aV (l.getD 1 .top).aq)) (y:=iM x s) (zE (Zd x s hp))
theorem acG:kr Try.prog pre cF akl:=aL c32 acH
def aut(x:Int)(s:RS):Prop:=
 ((true=true→Ok s 0))∧(
 let x4:=(fO s)
 ((true=true→((vo (aN 2 x4 [])).length+(lr (aN 2 x4 [])).length)*8≤140737488355328))∧(
 True))
theorem YU(x:Int)(s:RS)(hx:oY .i64 x)(h:Ok (s) 0):aut x s:=by
 refine⟨fun _=>h,fun _=> ?_,trivial⟩
 have:=D9 (mA h)
 show((vo (fO s)).length+(lr (fO s)).length)*8≤_
 omega
theorem c76:bh Try.prog 76 s76 (pre 76) (cF 76):=by
 refine zF acG Try.func76 (v:=att) ?_
 intro ds h hp
 obtain⟨d,_,rfl,hd,h1⟩:=aj.1 h
 obtain⟨s,rfl⟩:=oQ hd
 obtain⟨_,_,rfl,⟨x,rfl,hx⟩,h2⟩:=aj.1 h1
 obtain rfl:=dr.1 h2
 refine zH D.gV D.bool false (y:=vP x s) (zE (YU x s hx hp))
theorem ab1:kr Try.prog pre cF adP:=aL c76 acG
def auv(s:RS):Prop:=
 ((true=true→fN s.li s.lt s.le=true))∧(
 let x6:=(gn s.li s.lt s.le)
 ((true=true→okB s.li s.lt=true))∧(
 let wK:=(fk s.li s.lt s.le (i64.wrap (s.aZ+1)) (i64.wrap (x6.1-s.aZ)))
 VC.Jk cF pre D.bool (fun _ _ l=>tu wK (l.getD 0 .top).gV (l.getD 1 .top).aq) [] (VC.lp 30 adH) (fU (fU (fun i=> [Hy s].getD i .top) 6 (D.fx [D.int .i64 x6.1,D.int .i64 x6.2])) 27 (D.list wK))))
def anG(wK:List D)(RF:Int):Prop:=
 ((decide (RF<((wK:List D).length:Int))=true→
  (true=true→((decide (0≤RF))&&(decide (RF<((wK:List D).length:Int))))=true)∧(
  True)))∧(True)
theorem YW(s:RS)(h:Ok (s) 0):auv s:=by
 refine⟨fun _=>h.may,fun _=>h.SJ,?_⟩
 intro wK
 have aBz:wK.length≤2147483648:=aR (vZ (l:=s.le)) (aR h.BR (by decide))
 clear_value wK
 refine VC.kH 30 (by kernel_rfl) ?_
 refine VC.jc (Φ:=cF) (Pre:=pre) (triv:=triv) (v0:=30) (decL:=fun l=>((l.getD 0 .top).gV,(l.getD 1 .top).aq)) (encL:=fun a:Bool×Int=>([D.bool a.1,D.int .i64 a.2])) (dec:=D.gV) (enc:=D.bool) (lp:=fun _ _ _ _=>false) (bad:=.inr false) (bd:=false) (by kernel_rfl) (fun a:Bool×Int=>tq wK a.1 a.2) (fun a:Bool×Int=>0≤a.2) (fun a:Bool×Int=>zw wK a.1 a.2) (false,0) l3 (by kernel_rfl) ?Z2 (fun a=>rfl) ?R5 (by kernel_rfl) (fun a ha=>by kernel_rfl) (fun a=>by kernel_rfl) (fun a=>by kernel_rfl) (fun a ha jA=>zE (β:=anG wK a.2) ?C2) (by kernel_rfl)
 ·exact cA 0
 ·rintro⟨b,j⟩ h0
  replace h0:0≤j:=h0
  unfold tq
  by_cases bP:decide (j<(wK.length:Int))=true
  ·rw[if_pos bP]
   rw[bQ]at bP
   by_cases hq:((cD 2 (wK.getD j.toNat .top)).aq==2)=true
   ·rw[if_pos hq];trivial
   ·rw[if_neg hq,wrap64 (by omega) (by omega)]
    refine⟨by show 0≤j+1;omega,?_⟩
    show wK.length-(j+1).toNat<wK.length-j.toNat
    omega
  ·rw[if_neg bP];trivial
 ·obtain⟨b,j⟩:=a
  replace ha:0≤j:=ha
  refine⟨fun bP=>⟨fun _=> ?_,trivial⟩,trivial⟩
  rw[bQ]at bP
  rw[bc,bQ,bQ]
  exact⟨ha,bP⟩
theorem c69:bh Try.prog 69 s69 (pre 69) (cF 69):=by
 refine zF ab1 Try.func69 (v:=adH) ?_
 intro ds h hp
 obtain⟨d,_,rfl,hd,h1⟩:=aj.1 h
 obtain⟨s,rfl⟩:=oQ hd
 obtain rfl:=dr.1 h1
 refine zL D.gV D.bool false (fun _ _ l=>(let x6:=(gn s.li s.lt s.le);let wK:=(fk s.li s.lt s.le (i64.wrap (s.aZ+1)) (i64.wrap (x6.1-s.aZ)));tu wK (l.getD 0 .top).gV (l.getD 1 .top).aq)) (y:=wv s) (zE (YW s hp))
theorem ab8:kr Try.prog pre cF aj2:=aL c69 ab1
def auw(s:RS):Prop:=
 ((true=true→fN s.li s.lt s.le=true))∧(
 True)
theorem YX(s:RS)(h:Ok (s) 0):auw s:=by
 exact⟨fun _=>h.may,trivial⟩
theorem c68:bh Try.prog 68 AR (pre 68) (cF 68):=by
 refine zF ab8 Try.func68 (v:=atu) ?_
 intro ds h hp
 obtain⟨d,_,rfl,hd,h1⟩:=aj.1 h
 obtain⟨s,rfl⟩:=oQ hd
 obtain rfl:=dr.1 h1
 refine zH D.gV D.bool false (y:=ze s) (zE (YX s hp))
theorem ab9:kr Try.prog pre cF adR:=aL c68 ab8
def auK(x:D)(s:RS):Prop:=
 (True)∧(((s.role !=2)=false→
  (True)∧((((cD 0 x).aq==1)=false→
   (True)∧((((cD 0 x).aq !=2)=false→
    ((true=true→Ok s 0))∧(
    let x19:=(ze s)
    (((((!x19)==false)&&true)=true→Ok s 0))∧(
    let x23:=(wv s)
    (True)∧((((!x19)||x23)=false→
     ((true=true→Ok s 0))∧(
     True)))))))))))
theorem Za(x:D)(s:RS)(h:Ok (s) 0):auK x s:=by
 (repeat' (first|exact trivial|apply And.intro|intro _))
 all_goals exact h
theorem c38:bh Try.prog 38 s38 (pre 38) (cF 38):=by
 refine zF ab9 Try.func38 (v:=ajH) ?_
 intro ds h hp
 obtain⟨d,_,rfl,hd,h1⟩:=aj.1 h
 obtain⟨s,rfl⟩:=oQ hd
 obtain⟨x,_,rfl,hx,h2⟩:=aj.1 h1
 obtain rfl:=dr.1 h2
 refine zH D.aq (D.int .i64) 0 (y:=Fj x s) (zE (Za x s hp))
theorem aoX:kr Try.prog pre cF atH:=aL c38 ab9
def auS(s:RS):Prop:=
 (True)∧(
 let x6:=(iK s.li s.lt s.le)
 ((true=true→fN s.li s.lt s.le=true))∧(
 let x16:=(gn s.li s.lt s.le)
 ((true=true→Ok s 0))∧(
 True)))
theorem Zi(s:RS)(h:Ok (s) 0):auS s:=by
 exact⟨trivial,fun _=>h.may,fun _=>h,trivial⟩
theorem c12:bh Try.prog 12 s12 (pre 12) (cF 12):=by
 refine zF aoX Try.func12 (v:=atD) ?_
 intro ds h hp
 obtain⟨d,_,rfl,hd,h1⟩:=aj.1 h
 obtain⟨s,rfl⟩:=oQ hd
 obtain rfl:=dr.1 h1
 refine zH (fun d=>d) (fun d=>d) .top (y:=O3 s) (zE (Zi s hp))
end Go.Proofs.Ytjhmkaninmgilaa
