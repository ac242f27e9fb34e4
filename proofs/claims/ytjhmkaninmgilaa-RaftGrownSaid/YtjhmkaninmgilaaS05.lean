/- Part 5 of the proof of RaftGrown; no condition. -/
import Derived.Test.YtjhmkaninmgilaaS04
import Derived.Test.YtjhmkaninmgilaaS03
import Derived.Test.YtjhmkaninmgilaaProg
set_option linter.defProp false
set_option linter.unusedVariables false
set_option linter.unusedSimpArgs false
set_option maxHeartbeats 4000000
open Go.IntKind (i64)
namespace Go.Proofs.Ytjhmkaninmgilaa
open Go Go.RowKit Go.dG Go.Proofs
variable{C M K:Nat}{N:Int}{z s t:RS}
structure mj(N:Int)(m:D):Prop where
 n8:(cD 12 m).V.length<=8
 tN:(cD 12 m).V≠[]->(cD 4 m).J+(cD 12 m).V.length<=N
 snp:(cD 0 m).J=5->(cD 4 m).J<=N
 pos:∀e∈(cD 12 m).V,1<=tm e
structure Bs(N:Int)(s:RS):Prop where
 hd:s.wR=s.li/\s.vi=s.lt
 zz:s.li=0↔s.lt=0
 mI:s.li<=s.bH/\s.bH<=s.li+s.le.length
 gz:0<s.li->1<=s.iI.length/\s.iI.length<=1048576
 Qc:s.fK.length<=1048576
 Vd:eJ s.lt s.le<=s.term
 tL:0<=s.vote/\s.vote<=MX
 top:s.li+s.le.length<=N
 pos:∀e∈s.le,1<=tm e
def zT(es:Tah)(f:Int):Tah:=es.filter fun e=>decide ((cD 0 e).J<f)
def An(es:Tah)(i:Int):Tah:=es.filter fun e=>decide ((cD 0 e).J>i)
def DU(E o:Tah):Tah:=if o=[] then E else zT E (cD 0 (o.getD 0 .top)).J++o
def abg(s:RS):D:=.ptr [.int i64 s.li,.int i64 s.lt,.list s.sv,.list s.sl,.list s.iI]
structure Inv(z:RS)(N:Int)(s:RS):Prop extends Bs N s where
 lg:(s.il=.gv/\s.li=z.li/\s.lt=z.lt/\s.sv=z.sv/\s.sl=z.sl/\s.iI=z.iI/\DU z.le s.dB=s.le)\/(s.il=abg s/\s.dB=[]/\s.save=true/\(s.le=[] \/An z.le s.li=s.le))
 ns:s.save=false->s.dB=[]/\s.il=.gv/\s.term=z.term/\s.vote=z.vote
 msg:∀m∈s.msgs,mj N m
 L4:∀e∈s.aW,0<=(cD 0 e).J/\(cD 0 e).J<=N
def iJ(s:RS):=(s.wR,s.vi,s.sv,s.sl,s.iI,s.li,s.lt,s.le,s.bH,s.term,s.vote,s.save,s.dB,s.il,s.msgs,s.aW)
def Inv.pd(h:Inv z N s)(a:t.fK.length<=1048576)(e:iJ t=iJ s:=by rfl):Inv z N t:=by cases s;cases t;simp only[iJ,ae]at e;obtain⟨rfl,rfl,rfl,rfl,rfl,rfl,rfl,rfl,rfl,rfl,rfl,rfl,rfl,rfl,rfl,rfl⟩:=e;exact⟨⟨h.hd,h.zz,h.mI,h.gz,a,h.Vd,h.tL,h.top,h.pos⟩,h.lg,h.ns,h.msg,h.L4⟩
def Inv.same(h:Inv z N s)(e:iJ t=iJ s:=by rfl)(a:t.fK=s.fK:=by rfl):Inv z N t:=h.pd (by rw[a];exact h.Qc) e
def mj.mono{m:D}{N':Int}(h:mj N m)(b:N<=N'):mj N' m:=⟨h.n8,fun a=>fm (h.tN a) b,fun a=>fm (h.snp a) b,h.pos⟩
def Bs.mono{N':Int}(h:Bs N s)(a:N<=N'):Bs N' s:=⟨h.hd,h.zz,h.mI,h.gz,h.Qc,h.Vd,h.tL,fm h.top a,h.pos⟩
def Inv.mono{N':Int}(h:Inv z N s)(a:N<=N'):Inv z N' s:=⟨h.toBs.mono a,h.lg,h.ns,fun m c=>(h.msg m c).mono a,fun e b=>⟨(h.L4 e b).1,fm (h.L4 e b).2 a⟩⟩
def aaO{m:D}(h:(cD 12 m).V=[])(c:(cD 0 m).J=5->(cD 4 m).J<=N):mj N m:=⟨by rw[h];exact aB _,fun a=>absurd h a,c,by rw[h];intro e b;cases b⟩
def Inv.send{m:D}(h:Inv z N s)(b:mj N m):Inv z N (gH m s):=by
 refine⟨⟨h.hd,h.zz,h.mI,h.gz,h.Qc,h.Vd,h.tL,h.top,h.pos⟩,h.lg,h.ns,fun y a=>?_,h.L4⟩;rcases aQ.1 (show y∈s.msgs++[_] from a) with a|a
 .exact h.msg y a
 rw[aG.1 a];exact⟨b.n8,b.tN,b.snp,b.pos⟩
def Inv.ou{m:D}(h:Inv z N s)(c:(cD 12 m).V=[]:=by rfl)(b:((cD 0 m).J==5)=false:=by rfl):Inv z N (gH m s):=h.send (aaO c fun a=>by rw[a]at b;cases b)
def Inv.Wp{T V:Int}(h:Inv z N s)(d:s.term<=T)(c:0<=V)(b:V<=MX):Inv z N (gI {s with term:=T,vote:=V}):=
 ⟨⟨h.hd,h.zz,h.mI,h.gz,h.Qc,fm h.Vd d,⟨c,b⟩,h.top,h.pos⟩,h.lg.imp id (fun a=>⟨a.1,a.2.1,rfl,a.2.2.2⟩),fun a=>absurd (show true=false from a) (by decide),h.msg,h.L4⟩
def Inv.follow{x y:Int}(h:Inv z N s):Inv z N (fQ x y s):=by
 unfold fQ;split
 .rename_i a;rw[bg]at a;exact(h.Wp (T:=x) (V:=0) (by omega) (by decide) (by decide)).same
 exact h.same
def As{l:Tah}{i t:Int}{e:D}(h:qW i t l=true)(b:e∈l):i<ix e/\ix e<=i+l.length:=by obtain⟨j,a⟩:=au b;have d:=(H0 h a).1;have c:=(aD.1 a).1;omega
def CY{l:Tah}{i t f:Int}{n:Nat}(h:qW i t l=true)(b:n<=l.length)(d:f=i+n+1):zT l f=l.take n:=by
 have e:=dE n l;have g:(l.take n).length=n:=by rw[aO];omega
 conv=>lhs;rw[<-e]
 unfold zT;rw[List.filter_append,List.filter_eq_self.2,List.filter_eq_nil_iff.2,aX]
 .intro x a;have c:=(As (Eh n b h) a).1;rw[bg];show¬ix x<f;omega
 intro x a;have c:=(As (vJ n h) a).2;rw[bg];show ix x<f;omega
def ID{l:Tah}{i t k:Int}(h:qW i t l=true)(d:i<=k)(c:k<=i+l.length):An l k=l.drop (k-i).toNat:=by
 have e:=dE (k-i).toNat l
 conv=>lhs;rw[<-e]
 unfold An;rw[List.filter_append,List.filter_eq_nil_iff.2,List.filter_eq_self.2,eL]
 .intro x a;have b:=(As (Eh (k-i).toNat (by omega) h) a).1;rw[bg];show ix x>k;omega
 intro x a;have b:=(As (vJ (k-i).toNat h) a).2;rw[aO]at b;rw[bg];show¬ix x>k;omega
def PU{E o l:Tah}{e:D}{i t:Int}(h:DU E o=l)(c:qW i t l=true)(b:ix e=i+l.length+1):DU E (o++[e])=l++[e]:=by
 cases o with
 |nil=>
  have d:E=l:=h;subst d;show zT E (ix e)++[e]=E++[e];rw[CY c (aM _) b,cH]
 |cons a r=>
  have f:zT E (ix a)++a::r=l:=h;show zT E (ix a)++(a::r++[e])=l++[e];rw[<-f,cX]
def IG{l:Tah}{t:Int}(n:Nat):eJ (eJ t (l.take n)) (l.drop n)=eJ t l:=by rw[<-lj,dE]
def Dh{i t:Int}{l:Tah}(f:qW i t l=true):∀{es:Tah} {n:Nat},n<=l.length->qW (i+n) (eJ t (l.take n)) es=true->
  (qZ i t l es=(0,l)/\n+es.length<=l.length)\/∃(m:Nat) (x:D) (r:Tah),n<=m/\m<=l.length/\qZ i t l es=(i+m+1,l.take m++x::r)/\(∀y∈x::r,y∈es)/\eJ t (l.take m++x::r)=eJ (eJ t (l.take n)) es/\i+m+(x::r).length=i+n+es.length
 |[],n,hn,h=>.inl ⟨rfl,by simpa using hn⟩
 |x::r,n,hn,h=>by
  unfold qZ;by_cases a:wV i t l x=true
  .rw[if_pos a];obtain⟨j,g⟩:=Ga hn h a;rcases Dh f j g with⟨h3,h4⟩|⟨m,y,q,h8,h3,h4,h5,h6,h7⟩
   .exact .inl ⟨h3,by simp only[bu];omega⟩
   refine .inr ⟨m,y,q,by omega,h3,h4,fun u b=>ao _ (h5 u b),?_,?_⟩
   .rw[h6];simp only[wV,aP,beq_iff_eq]at a;obtain⟨p,o,c⟩:=kZ a.1;obtain⟨d,_⟩:=im.1 h;have k:(ix x-i).toNat=n+1:=by omega
    rw[k]at c;rw[<-c,a.2];rfl
   simp only[bu]at h7⊢;omega
  rw[if_neg a];obtain⟨d,_⟩:=im.1 h;have e:(ix x-i-1).toNat=n:=by omega
  rw[e];refine .inr ⟨n,x,r,aM _,hn,by rw[d],fun u b=>b,by rw[lj],rfl⟩
def LX{i t pi pt:Int}{l es:Tah}(q:gn i t l=true)(k:jt i t l pi pt es=true):(iv i t l pi pt es=(0,l)/\pi+es.length<=i+l.length)\/∃(m:Nat) (x:D) (r:Tah),pi<=i+m/\m<=l.length/\iv i t l pi pt es=(i+m+1,l.take m++x::r)/\(∀y∈x::r,y∈es)/\eJ t (l.take m++x::r)=eJ pt es/\i+m+(x::r).length=pi+es.length:=by
 unfold iv;rw[if_pos k];obtain⟨E,u⟩:=eS.1 q;simp only[jt,aP,beq_iff_eq]at k;obtain⟨⟨w,v⟩,p⟩:=k;obtain⟨B,A,o⟩:=kZ v;obtain⟨_,j⟩:=eS.1 w;have e:i+(((pi-i).toNat:Nat):Int)=pi:=by omega
 rcases Dh u (es:=es) (n:=(pi-i).toNat) (by omega) (by rw[<-o,p,e];exact j) with⟨h,h'⟩|⟨m,x,r,g,a,b,c,d,f⟩
 .exact .inl ⟨h,by omega⟩
 exact .inr ⟨m,x,r,by omega,a,b,c,by rw[d,<-o,p],by rw[f,e]⟩
def Inv.put{c:D}(h:Inv z N s)(k:cP C M s K)(p:s.il=.gv):Inv z (N+1) (oc c s).2:=by
 obtain⟨v,n⟩:=eS.1 k.may
 have e:oc c s=if(nq s.li s.lt s.le s.term==0) then((aE 29 (ui s.li s.lt s.le s.term (aE 27 c [])) [],nq s.li s.lt s.le s.term),{gI {s with li:=s.li,lt:=s.lt,le:=pb s.li s.lt s.le s.term (aE 27 c [])} with dB:=s.dB++[aE 29 (ui s.li s.lt s.le s.term (aE 27 c [])) []]})
  else((aE 29 (ui s.li s.lt s.le s.term (aE 27 c [])) [],nq s.li s.lt s.le s.term),{s with li:=s.li,lt:=s.lt,le:=pb s.li s.lt s.le s.term (aE 27 c [])}):=rfl
 rw[e];have g:N<=N+1:=by omega
 by_cases b:nq s.li s.lt s.le s.term=0
 .rw[if_pos (beq_iff_eq.2 b)];have u:ui s.li s.lt s.le s.term (aE 27 c [])=wT s.li s.lt s.le s.term (aE 27 c []):=if_pos b;have i:pb s.li s.lt s.le s.term (aE 27 c [])=s.le++[wT s.li s.lt s.le s.term (aE 27 c [])]:=if_pos b;rw[u,i];have r:aE 29 (wT s.li s.lt s.le s.term (aE 27 c [])) []=wT s.li s.lt s.le s.term (aE 27 c []):=rfl;rw[r]
  have A:1<=s.term:=by
   unfold nq at b;split at b
   .cases b
   rename_i w;omega
  generalize j:wT s.li s.lt s.le s.term (aE 27 c [])=x;have f:ix x=s.li+s.le.length+1:=by rw[<-j];rfl
  have o:tm x=s.term:=by rw[<-j];rfl
  rcases h.lg with⟨l1,l2,l3,l4,l5,l6,l7⟩|⟨l1,_⟩
  .refine⟨⟨h.hd,h.zz,⟨h.mI.1,?_⟩,h.gz,h.Qc,?_,h.tL,?_,?_⟩,.inl ⟨l1,l2,l3,l4,l5,l6,PU l7 n f⟩,fun a=>absurd (show true=false from a) (by decide),fun m q=>(h.msg m q).mono g,fun e l=>⟨(h.L4 e l).1,fm (h.L4 e l).2 g⟩⟩
   .show s.bH<=s.li+((s.le++[x]).length:Int);have:=h.mI.2;rw[ah,ba];omega
   .show eJ s.lt (s.le++[x])<=s.term;rw[lj];show tm x<=s.term;omega
   .show s.li+((s.le++[x]).length:Int)<=N+1;have:=h.top;rw[ah,ba];omega
   intro y d;rcases aQ.1 (show y∈s.le++[x] from d) with d|d
   .exact h.pos y d
   rw[aG.1 d];omega
  rw[p]at l1;cases l1
 rw[if_neg (by simpa using b)];have i:pb s.li s.lt s.le s.term (aE 27 c [])=s.le:=if_neg b;rw[i];exact(h.mono g).same
def Inv.aW{x:Int}(h:Inv z N s)(k:cP C M s K)(d:x<=s.li+s.le.length):Inv z N (gK x s).2:=by
 have e:gK x s=if decide (x<=s.bH) then(false,s) else(mw (fi s.li s.lt s.le (i64.wrap (s.bH+1)) (i64.wrap (x-s.bH))) (D.fn 84 []),{s with aW:=s.aW++fi s.li s.lt s.le (i64.wrap (s.bH+1)) (i64.wrap (x-s.bH)),bH:=x}):=rfl
 rw[e];obtain⟨⟨f,_⟩,c⟩:=eS.1 k.may;by_cases b:decide (x<=s.bH)=true
 .rw[if_pos b];exact h
 rw[if_neg b];rw[bg]at b;refine⟨⟨h.hd,h.zz,⟨?_,d⟩,h.gz,h.Qc,h.Vd,h.tL,h.top,h.pos⟩,h.lg,h.ns,h.msg,?_⟩
 .show s.li<=x;have:=h.mI.1;omega
 intro y a;rcases aQ.1 (show y∈s.aW++fi s.li s.lt s.le _ _ from a) with a|a
 .exact h.L4 y a
 obtain⟨j,g⟩:=As c (xq (i:=s.li) a);have:=h.top;show 0<=ix y/\ix y<=N;omega
def Inv.lD{x:Int}(h:Inv z N s)(k:cP C M s K)(u:0<=x)(l:x<=5):Inv z N (fx x s):=by
 obtain⟨y,d⟩:=k.li;have hs:∀(m:D) (t:RS),mj N m->iJ t=iJ s->t.fK=s.fK->Inv z N (gH m t):=fun m t f e v=>(h.same e v).send f;have r:∀m:D,(cD 12 m).V=[]->(cD 4 m).J=s.wR->mj N m:=fun m a b=>aaO a fun _=>by rw[b,h.hd.1];have:=h.top;omega
 have q:∀(m:D) (p:Int),(cD 12 m).V=fi s.li s.lt s.le p 8->(cD 4 m).J=i64.wrap (p-1)->(cD 0 m).J=3->mj N m:=by
  intro m p a b c;refine⟨?_,?_,fun a=>(by rw[c]at a;cases a),?_⟩
  .rw[a];unfold fi fG;split
   .exact aB _
   exact List.length_take_le _ _
  .rw[a,b];unfold fi fG;split
   .intro a;exact absurd rfl a
   rename_i A;intro a
   have B:(p-s.li-1).toNat<s.le.length:=by
    by_cases g:(p-s.li-1).toNat<s.le.length
    .exact g
    exact absurd (by rw[bQ (by omega),List.take_nil]) a
   simp only[MX]at d;rw[wrap64 (by omega) (by omega),aO,bh];have:=h.top;omega
  rw[a];intro e j;exact h.pos e (xq (i:=s.li) j)
 refine Bo (P:=Inv z N) u l fun m n o w _ e _=>?_;unfold L7;split
 .exact hs _ _ (r _ rfl rfl) (congrArg iJ e:) (congrArg RS.fK e:)
 exact hs _ _ (q _ _ rfl rfl rfl) rfl rfl
def Inv.agree(h:Inv z N s)(k:cP C M s (K+1)):Inv z N (jn s):=by
 unfold jn pW;refine gO (fun a:Tah×Int=>0<=a.2/\a.2<=5) (fun t=>Inv z N t) (fun a=>5-a.2.toNat) ?_ _ _ ⟨by show(0:Int)<=0;omega,by show(0:Int)<=5;omega⟩ (du _);intro a e;revert e;generalize a.2=j;generalize a.1=l;rintro⟨g,f⟩;unfold lK;have d:j=0\/j=1\/j=2\/j=3\/j=4\/j=5:=by omega
 rcases d with rfl|rfl|rfl|rfl|rfl|rfl<;>(repeat (first|rw[if_pos (by decide)] |rw[if_neg (by decide)]))
 all_goals first
  |(refine⟨⟨?_,?_⟩,?_⟩<;>(dsimp only;decide))
  |(show Inv z N (kC _ _ _)
    unfold kC;dsimp only;split
    .exact h
    rename_i b;simp only[bI,not_or,bne_iff_ne,ne_eq,Decidable.not_not]at b;have c:=h.aW k (kZ b.1.2).2.1;split
    .exact c.follow.same
    exact c)
def C0{B:Type}{x:Tah}{step:Int->RS->(Int×RS)⊕B}{ex:RS->B}{bad:B}{m:Int->RS->Nat}{Q:B->Prop}(j:x.length<=10/\∀y∈x,1<=y.J/\y.J<=5)(e:∀i t,step i t=if decide (i<(x.length:Int)) then .inl (i64.wrap (i+1),fx ((x.getD i.toNat .top).J) t) else .inr (ex t))(h:∀i t,m i t=x.length-i.toNat)(hs:Inv z N s/\cP C M s (K+10))(n:∀t,Inv z N t->cP C M t K->Q (ex t)):
  Q (gY (fun a:Int×RS=>step a.1 a.2) bad (m 0 s+1) (0,s)):=by
 refine gO (fun a:Int×RS=>0<=a.1/\a.1<=x.length/\Inv z N a.2/\cP C M a.2 (K+(10-a.1.toNat))) Q (fun a=>m a.1 a.2) ?_ _ _ ⟨aJ 0,eB _,hs⟩ (du _);rintro⟨i,t⟩ ⟨p,o,f,d⟩;simp only at p o d f;obtain⟨q,k⟩:=j;rw[e];by_cases b:decide (i<(x.length:Int))=true
 .rw[if_pos b];rw[bg]at b;have c:i.toNat<x.length:=by omega
  have g:=k _ (aF c);have l:x.getD i.toNat .top=x[i.toNat]:=by rw[ag,aR c];rfl
  rw[l,wrap64 (by omega) (by omega)];refine⟨⟨by show 0<=i+1;omega,by show i+1<=_;omega,f.lD d (by omega) g.2,?_⟩,by show m (i+1) _<m i t;rw[h,h];omega⟩;show cP C M (fx _ t) (K+(10-(i+1).toNat));exact cP.lD (d.le (by omega)) (by omega) g.2
 rw[if_neg b];exact n t f (d.le (by omega))
def Inv.lead(h:Inv z N s)(k:cP C M s (K+12))(e:s.il=.gv):Inv z (N+1) (xR s):=by
 have m:∀t,Inv z N t->cP C M t (K+12)->t.il=.gv->Inv z (N+1) (rO t):=by intro t d b e;unfold rO;dsimp only;have f:cP C M (oc (aE 27 Kz [(0,.int i64 1)]) t).2 (K+11):=b.put (by intro g;exact absurd g (by decide));exact C0 (K:=K+1) (Q:=fun t=>Inv z (N+1) t) (iy (c:=aE 2 (dU _) []) (iQ f)) (fun _ _=>rfl) (fun _ _=>rfl) ⟨d.put b e,f⟩ (fun t d b=>d.agree b)
 unfold xR rN;refine gO (fun a:Int×RS=>0<=a.1/\a.1<=6/\Inv z N a.2/\cP C M a.2 (K+12)/\a.2.il=.gv) (fun t=>Inv z (N+1) t) (fun a=>6-a.1.toNat) ?_ _ _ ⟨by show(0:Int)<=0;omega,by show(0:Int)<=6;omega,h.same,⟨k.may,k.yM,k.yL,k.tM,k.nm,k.ne,k.nc,k.nv,k.cf,k.cs,k.cl,k.tm,k.tx,rfl⟩,e⟩ (du _);intro a l;revert l;generalize a.2=t;generalize a.1=j;rintro⟨o,n,d,b,e⟩;unfold rM;have i:j=0\/j=1\/j=2\/j=3\/j=4\/j=5\/j=6:=by omega
 rcases i with rfl|rfl|rfl|rfl|rfl|rfl|rfl<;>(repeat (first|rw[if_pos (by decide)] |rw[if_neg (by decide)]))
 all_goals first
  |exact m t d b e
  |(refine⟨⟨?_,?_,d.same,b.same jh,e⟩,?_⟩<;>(dsimp only;decide))
def Inv.MG{c:D}(h:Inv z N s)(k:cP C M s (K+13))(q:gp c=true)(g:s.term<MX)(p:s.il=.gv):Inv z (N+1) (lG c s):=by
 have m:=k.Hl g;have o:IntKind.wrap i64 (s.term+1)=s.term+1:=wrap64 (by have:=k.tm;omega) (by simp only[MX]at g;omega)
 have l:Inv z N ({gI ({s with term:=i64.wrap (s.term+1),vote:=s.id}:RS) with role:=1,br:=0,aT:=[.int i64 s.id]}:RS):=
  (h.Wp (T:=i64.wrap (s.term+1)) (V:=s.id) (by rw[o];omega) (by have:=k.yM;omega) (by have:=k.yL;simp only[MX];omega)).same
 unfold lG;dsimp only;split
 .exact l.lead (m.le (by omega:K+12<=K+13)) p
 generalize n:gq _ _=x;have e:x.length<=10:=by rw[<-n];exact(iy (c:=aE 2 c []) q).1
 unfold lQ;refine gO (fun a:Int×RS=>0<=a.1/\a.1<=x.length/\Inv z N a.2) (fun t=>Inv z (N+1) t) (fun a=>x.length-a.1.toNat) ?_ _ _ ⟨aJ 0,eB _,l⟩ (du _);intro a r;revert r;generalize a.2=t;generalize a.1=i;rintro⟨v,u,d⟩;unfold nR;dsimp only;by_cases b:decide (i<(x.length:Int))=true
 .rw[if_pos b];rw[bg]at b;rw[wrap64 (by omega) (by omega)];have j:x.length-(i+1).toNat<x.length-i.toNat:=by omega
  by_cases f:jo (aE 2 c []) ((x.getD i.toNat .top).J)=true
  .rw[if_pos f];exact⟨⟨by show 0<=i+1;omega,by show i+1<=_;omega,Inv.ou d⟩,j⟩
  rw[if_neg f];exact⟨⟨by show 0<=i+1;omega,by show i+1<=_;omega,d⟩,j⟩
 rw[if_neg b];exact d.mono (by omega)
variable{C M K:Nat}{N:Int}{z s t:RS}{x:D}
def Inv.ite{c:Prop}[Decidable c]{a b:RS}(e:c->Inv z N a)(d:¬c->Inv z N b):Inv z N (if c then a else b):=by
 split
 .exact e (by assumption)
 exact d (by assumption)
def Inv.refuse(h:Inv z N s):Inv z N (qq x s):=by
 unfold qq;dsimp only
 repeat' split
 all_goals first
  |exact h.ou
  |exact h
def Inv.vote(h:Inv z N s)(c:0<=(cD 1 x).J)(b:(cD 1 x).J<=MX):Inv z N (xP x s):=by
 unfold xP;dsimp only;split
 .split
  .have a:Inv z N (ib (gI ({s with vote:=(cD 1 x).J}:RS))):=(h.Wp (T:=s.term) (aJ _) c b).same;exact a.ou
  have a:Inv z N (ib s):=h.same;exact a.ou
 exact h.ou
def Inv.MC(h:Inv z N s)(k:cP C M s (K+13))(d:s.il=.gv):Inv z (N+1) (rE x s):=by
 have e:=k.nv
 have c:cP C M ({s with aT:=s.aT++[cD 1 x]}:RS) (K+12):=by have a:=k.le (by omega:K+12<=K+13);refine⟨a.may,a.yM,a.yL,a.tM,a.nm,a.ne,a.nc,?_,a.cf,a.cs,a.cl,a.tm,a.tx,a.rd⟩;show(s.aT++[cD 1 x]).length+(K+12)<=_;rw[ah,ba];omega
 have b:Inv z N ({s with aT:=s.aT++[cD 1 x]}:RS):=h.same;unfold rE;dsimp only;refine Inv.ite (fun _=>h.mono (by omega)) fun _=>Inv.ite (fun _=>b.lead c d) fun _=>b.mono (by omega)
def Bq:(gJ x s=(false,s))\/∃u,gJ x s=(true,u)/\iJ u=iJ s/\u.fK=s.fK/\u.pJ=s.pJ:=by
 unfold gJ;dsimp only;split
 .exact .inl rfl
 refine .inr ⟨_,rfl,?_⟩;unfold fQ;rw[if_neg (by simp)];exact⟨rfl,rfl,rfl⟩
def Inv.left(h:Inv z N s)(a:s.il=.gv):s.li=z.li/\s.lt=z.lt/\s.sv=z.sv/\s.sl=z.sl/\s.iI=z.iI/\DU z.le s.dB=s.le:=by
 rcases h.lg with h|h
 .exact h.2
 rw[a]at h;cases h.1
def Lq{l:Tah}{i:Int}(h:(decide ((l.length:Int)>0)&&decide ((cD 1 (l.getD (i64.wrap ((l.length:Int)-1)).toNat .top)).J>i))=false)(c:l.length<=4611686018427387904){p:Int}(b:p<=i):eJ p l<=i:=by
 by_cases a:l=[]
 .subst a;exact b
 have d:0<l.length:=eX.2 a;rw[wrap64 (by omega) (by omega)]at h;have e:((l.length:Int)-1).toNat=l.length-1:=by omega
 rw[e,ag,aR (by omega),bq]at h;rw[tF (aR (by omega))];rw[bY]at h;rcases h with h|h
 .rw[decide_eq_false_iff_not]at h;omega
 rw[decide_eq_false_iff_not]at h;show(cD 1 _).J<=i;omega
def Inv.append(h:Inv z N s)(k:cP C M s (K+3+(cD 12 x).V.length))(J:eF (cD 12 x).V=true)(H:mj N x)(S:s.il=.gv)(ho:s.dB=[])(hl:∀p≤s.term,eJ p (cD 12 x).V<=s.term)(h5:(cD 5 x).J<=s.term):Inv z N (kW x s):=by
 have R:(cD 12 (aE 46 x []))=cD 12 x:=rfl;unfold kW;rcases Bq (x:=aE 46 x []) (s:=s) with B|⟨u,B,T,e2,e3⟩
 .rw[B];exact h
 have A:cP C M u (K+3+(cD 12 x).V.length):=by have:=k.Ct (x:=aE 46 x []);rw[B]at this;exact this
 have d:=h.same T e2;have v:=T;simp only[iJ,ae]at v;obtain⟨_,_,_,_,_,f6,f7,f8,_,P,_,_,O,q,_⟩:=v;rw[B];dsimp only;rw[if_neg (by decide)];refine Inv.ite (fun _=>d.ou) fun L=>?_;have b:=cP.accept (pi:=(cD 4 x).J) (pt:=(cD 5 x).J) A J;obtain⟨Y,X,W,V,U,w⟩:=d.left (by rw[q];exact S);rw[O,ho]at w;have w:z.le=u.le:=w;obtain⟨⟨k1,k2,_⟩,Q⟩:=eS.1 A.may;have I:=uE k2 Q;simp only[MX]at I;generalize c:iv u.li u.lt u.le (cD 4 x).J (cD 5 x).J (cD 12 x).V=acc at b;have eo:oK u.li u.lt u.le (cD 4 x).J (cD 5 x).J (cD 12 x).V=((acc.1,jt u.li u.lt u.le (cD 4 x).J (cD 5 x).J (cD 12 x).V),u.li,u.lt,acc.2):=by unfold oK;rw[c]
 rw[eo];dsimp only;refine Inv.ite (fun i=>?_) fun i=>?_
 .have j:acc=(0,u.le):=by rw[<-c];unfold iv;rw[if_neg (by simpa using i)]
  subst j;exact Inv.ou d
 have g:jt u.li u.lt u.le (cD 4 x).J (cD 5 x).J (cD 12 x).V=true:=by simpa using i
 have a0:=H.n8;rcases LX (pi:=(cD 4 x).J) (pt:=(cD 5 x).J) (es:=(cD 12 x).V) A.may g with⟨j,ag7⟩|⟨m,y,r,hm0,hm1,j,hm3,hm4,hm5⟩
 .rw[c]at j;subst j;rw[if_neg (by simp)]
  have E:i64.wrap ((cD 4 x).J+((cD 12 x).V.length:Int))<=u.li+u.le.length:=by simp only[jt,aP]at g;obtain⟨⟨p0,_⟩,_⟩:=eS.1 g.1.1;rw[wrap64 (by omega) (by omega)];exact ag7
  exact Inv.ou (Inv.aW (s:={u with li:=u.li,lt:=u.lt,le:=u.le}) d A (by show jy _ _<=_;unfold jy;split<;>omega))
 rw[c]at j;subst j;have G:(cD 12 x).V≠[]:=fun e=>by have:=hm3 y aZ;rw[e]at this;cases this
 have a1:=H.tN G;have l:(u.le.take m).length=m:=by rw[aO];omega
 rw[bg]at L;have f:(((u.le.take m++y::r).length:Nat):Int)=m+(y::r).length:=by rw[ah,l];omega
 have hB:Inv z N ({gI ({u with li:=u.li,lt:=u.lt,le:=u.le.take m++y::r}:RS) with dB:=y::r}:RS):=by
  refine⟨⟨d.hd,d.zz,⟨d.mI.1,?_⟩,d.gz,d.Qc,?_,d.tL,?_,?_⟩,.inl ⟨show u.il=.gv by rw[q];exact S,Y,X,W,V,U,?_⟩,fun a=>absurd (show true=false from a) (by decide),d.msg,d.L4⟩
  .show u.bH<=u.li+((u.le.take m++y::r).length:Int);rw[f];omega
  .show eJ u.lt (u.le.take m++y::r)<=u.term;rw[hm4,P];exact hl _ h5
  .show u.li+((u.le.take m++y::r).length:Int)<=N;rw[f];omega
  .intro e o;rcases aQ.1 (show e∈u.le.take m++y::r from o) with o|o
   .exact d.pos e (cV o)
   exact H.pos e (hm3 e o)
  show zT z.le (ix y)++y::r=u.le.take m++y::r;obtain⟨_,D⟩:=eS.1 b.may;have hy:ix y=u.li+m+1:=(H0 D (n:=m) (x:=y) (by show(u.le.take m++y::r)[m]?=some y;rw[ay (by omega),l,Nat.sub_self];rfl)).1;rw[w,CY Q hm1 hy]
 rw[if_pos (decide_eq_true (by omega))];have E:i64.wrap ((cD 4 x).J+((cD 12 x).V.length:Int))=u.li+m+(y::r).length:=by rw[<-hm5];exact wrap64 (by simp only[bu]at hm5;omega) (by omega)
 have hs:fi (gI ({u with li:=u.li,lt:=u.lt,le:=u.le.take m++y::r}:RS)).li (gI ({u with li:=u.li,lt:=u.lt,le:=u.le.take m++y::r}:RS)).lt (gI ({u with li:=u.li,lt:=u.lt,le:=u.le.take m++y::r}:RS)).le (u.li+(m:Int)+1) (i64.wrap ((cD 4 x).J+((cD 12 x).V.length:Int)))=y::r:=by show fG u.li (u.le.take m++y::r) (u.li+(m:Int)+1) _=_;rw[E];unfold fG;rw[if_neg (by simp only[bu];omega),show(u.li+(m:Int)+1-u.li-1).toNat=m by omega,List.drop_append_of_le_length (by omega),bQ (by omega),eL];exact dz (by omega)
 rw[hs]
 have Z:cP C M ({gI ({u with li:=u.li,lt:=u.lt,le:=u.le.take m++y::r}:RS) with dB:=y::r}:RS) (K+3):=by have F:(u.le.take m++y::r).length+(K+3)<=_:=b.tM;exact⟨b.may,b.yM,b.yL,b.tM,b.nm,(by show(y::r).length+(K+3)<=_;rw[ah]at F;omega),b.nc,b.nv,b.cf,b.cs,b.cl,b.tm,b.tx,b.rd⟩
 refine Inv.ou (hB.aW Z ?_);show jy _ _<=u.li+((u.le.take m++y::r).length:Int);rw[f,E];unfold jy;split<;>omega
def Inv.rY(h:Inv z N s)(k:cP C M s K):Inv z N (gx x s):=by unfold gx jN;dsimp only;unfold gY jM;rw[if_neg (by rw[k.rd];exact(by decide:¬decide ((0:Int)<(([]:Tah).length:Int))=true))];exact h.same
def Inv.has{a b:Int}(h:Inv z N s)(k:cP C M s (K+2))(i:0<=a)(g:a<=5):Inv z N (mL a b s):=by refine C4 (P:=Inv z N) i g fun m n t c _ e _=>?_;have f:Inv z N t:=h.same (congrArg iJ e:) (congrArg RS.fK e:);have d:cP C M t (K+2):=k.same (kV e);exact Inv.ite (fun _=>(f.agree (K:=K+1) d).lD (cP.agree (k:=K+1) d) i g) fun _=>f.agree d
def Inv.appended(h:Inv z N s)(k:cP C M s (K+2))(b:0<=(cD 1 x).J)(a:(cD 1 x).J<=5):Inv z N (gk x s):=by have d:Inv z N (gx (aE 46 x []) s):=h.rY k;have c:cP C M (gx (aE 46 x []) s) (K+2):=k.rY;exact sW (P:=Inv z N) rfl b a h (fun _ _ _ t _ e _=>Inv.lD (s:=t) (d.same (congrArg iJ e:) (congrArg RS.fK e:)) (c.same (kV e)) b a) fun _ _=>d.has c b a
def Inv.D4(h:Inv z N s)(k:cP C M s (K+2))(b:0<=(cD 1 x).J)(a:(cD 1 x).J<=5):Inv z N (mq x s):=
 ub (P:=Inv z N) b a h (fun _ _ _=>h.has k b a) fun _ t e _=>Inv.lD (s:=t) (h.same (congrArg iJ e:) (congrArg RS.fK e:)) (k.same (kV e)) b a
def DZ{ts:Tam}{j:Nat}{t:Ty}{x:D}(h:Has (.agg (.Y ts)) x)(c:ts[j]?=some t):Has t (cD j x):=by
 obtain⟨l,rfl,b⟩:=eA.1 h;obtain⟨y,a,d⟩:=dh b j t (by rw[Ty.dT];exact c);have:cD j (.agg l)=y:=by show l.getD j .top=y;rw[ag,a];rfl
 rw[this];exact d
def Inv.abf{u r:RS}{pd:Tah}(h:Inv z N u)(k:cP C M u K)(B:Inv z N r)(O:u.il=.gv)(o:u.dB=[])(L:pd.length<=1048576)(hc:¬(cD 4 x).J<=u.bH)(Q:(cD 5 x).J<=u.term)(hN:(cD 4 x).J<=N)(l:Has iC x):Inv z N (xN x u pd r):=by
 obtain⟨X,W,V,U,T,i⟩:=h.left O;rw[o]at i;have i:z.le=u.le:=i;obtain⟨⟨k1,Z,Y,k4⟩,J⟩:=eS.1 k.may;have A:=h.mI.1;obtain⟨_,n,_⟩:=DZ (j:=4) l rfl;obtain⟨_,m,_⟩:=DZ (j:=5) l rfl;obtain⟨_,d,_⟩:=DZ (j:=13) l rfl;obtain⟨_,c,_⟩:=DZ (j:=14) l rfl;have n:cD 4 x=.int i64 (cD 4 x).J:=by rw[n];rfl
 have m:cD 5 x=.int i64 (cD 5 x).J:=by rw[m];rfl
 have d:cD 13 x=.list (cD 13 x).V:=by rw[d];rfl
 have c:cD 14 x=.list (cD 14 x).V:=by rw[c];rfl
 unfold xN;dsimp only;refine Inv.ite (fun _=>B.ou) fun b=>Inv.ite (fun _=>B.ou) fun y=>?_;obtain⟨S,I⟩:=J2 b
 have v:(cD 4 x).J=0↔(cD 5 x).J=0:=by
  unfold lE at b;split at b
  .rename_i P;exact P.2
  exact absurd rfl b
 have f:1<=pd.length/\pd.length<=1048576:=by simp only[Bool.and_true,bI,not_or,bne_iff_ne,ne_eq,Decidable.not_not,bg]at y;obtain⟨⟨H,G⟩,_⟩:=y;omega
 refine Inv.ite (fun w=>Inv.ou ?_) fun _=>Inv.ou ?_
 .simp only[aP,beq_iff_eq]at w;obtain⟨E,q⟩:=w;obtain⟨H,G,F⟩:=kZ E
  have R:pP u.li u.lt u.le (cD 4 x).J=(z6 u.li u.le (cD 4 x).J,(cD 4 x).J,(cD 5 x).J,u.le.drop ((cD 4 x).J-u.li).toNat):=by unfold pP jR;rw[if_neg (by omega)];have g:(gA u.li u.lt u.le (cD 4 x).J).1=(cD 5 x).J:=q;rw[g]
  rw[R];dsimp only;refine⟨⟨⟨rfl,rfl⟩,v,⟨aJ _,?_⟩,fun _=>f,aB _,?_,h.tL,?_,?_⟩,.inr ⟨?_,o,rfl,.inr ?_⟩,fun a=>absurd (show true=false from a) (by decide),h.msg,h.L4⟩
  .show(cD 4 x).J<=(cD 4 x).J+((u.le.drop _).length:Int);omega
  .show eJ (cD 5 x).J (u.le.drop _)<=u.term;have g:(gA u.li u.lt u.le (cD 4 x).J).1=(cD 5 x).J:=q;rw[<-g,F,IG];exact h.Vd
  .show(cD 4 x).J+((u.le.drop ((cD 4 x).J-u.li).toNat).length:Int)<=N;have:=h.top;rw[bh];omega
  .intro e p;exact h.pos e (dx (show e∈u.le.drop _ from p))
  .show D.ptr [cD 4 x,cD 5 x,cD 13 x,cD 14 x,.list pd]=.ptr [.int i64 (cD 4 x).J,.int i64 (cD 5 x).J,.list (cD 13 x).V,.list (cD 14 x).V,.list pd];rw[<-n,<-m,<-d,<-c]
  show An z.le (cD 4 x).J=u.le.drop ((cD 4 x).J-u.li).toNat;rw[i];exact ID J (by omega) (by omega)
 rw[I];refine⟨⟨⟨rfl,rfl⟩,v,⟨aJ _,?_⟩,fun _=>f,aB _,Q,h.tL,?_,?_⟩,.inr ⟨?_,o,rfl,.inl rfl⟩,fun a=>absurd (show true=false from a) (by decide),h.msg,h.L4⟩
 .show(cD 4 x).J<=(cD 4 x).J+((([]:Tah).length:Nat):Int);omega
 .show(cD 4 x).J+((([]:Tah).length:Nat):Int)<=N;simp only[fC];omega
 .intro e p;cases (show e∈([]:Tah) from p)
 show D.ptr [cD 4 x,cD 5 x,cD 13 x,cD 14 x,.list pd]=.ptr [.int i64 (cD 4 x).J,.int i64 (cD 5 x).J,.list (cD 13 x).V,.list (cD 14 x).V,.list pd];rw[<-n,<-m,<-d,<-c]
def Inv.snap(h:Inv z N s)(k:cP C M s K)(A:s.il=.gv)(y:s.dB=[])(F:(cD 5 x).J<=s.term)(B:(cD 4 x).J<=N)(w:Has iC x):Inv z N (xQ x s):=by
 unfold xQ;rcases Bq (x:=aE 46 x []) (s:=s) with f|⟨u,f,q,G,P⟩
 .rw[f];exact h
 have v:cP C M u K:=by have:=k.Ct (x:=aE 46 x []);rw[f]at this;exact this
 have c:=h.same q G;have e:=q;simp only[iJ,ae]at e;obtain⟨_,_,_,_,_,O,L,J,_,m,_,_,l,j,_⟩:=e;rw[f];dsimp only;rw[if_neg (by decide)];have d:=c.Qc;refine Inv.ite (fun _=>c.ou) fun o=>?_;rw[bg]at o;have g:∀(pd:Tah) (i:RS),pd.length<=1048576->Inv z N i->Inv z N (xN x u pd i):=fun pd i d E=>c.abf v E (by rw[j];exact A) (by rw[l];exact y) d o (by rw[m];exact F) B w
 have n:∀(p:Tah),p.length<=1048576->(decide (((cD 15 x).V.length:Int)<=i64.wrap ((cD 10 x).J-(p.length:Int)))&&nY (cD 10 x).J 1 1048576)=true->(p++(cD 15 x).V).length<=1048576:=by intro p d b;simp only[nY,aP,bg]at b;obtain⟨r,I,H⟩:=b;rw[wrap64 (by omega) (by omega)]at r;rw[ah];omega
 refine Inv.ite (fun _=>Inv.ite (fun b=>?_) fun _=>?_) fun _=>Inv.ite (fun b=>?_) fun _=>?_
 .have a:=n [] (aB _) (by simp only[aP]at b⊢;exact⟨b.1.2,b.2⟩);refine g _ _ a ?_;exact c.pd a
 .refine g _ _ (aB _) ?_;exact c.pd (aB _)
 .have a:=n u.fK d (by simp only[aP]at b⊢;exact⟨b.1.2,b.2⟩);refine g _ _ a ?_;exact c.pd a
 exact g _ _ d c
structure Idle(s:RS):Prop where
 save:s.save=false
 snap:s.il=.gv
 mI:s.aW=[]
 Mx:s.dB=[]
 msgs:s.msgs=[]
def Lt(t:RS):Idle (bk t).2:=⟨rfl,rfl,rfl,rfl,rfl⟩
end Go.Proofs.Ytjhmkaninmgilaa
namespace Go.Proofs.Ytjhmkaninmgilaa
open Go Go.dG Go.Proofs Go.Shelf
def EE:Go.Shelf.Ren:=⟨fun|189=>82|125=>86|257=>85|128=>96|129=>97|294=>87|295=>88|296=>89|297=>90|298=>91|299=>92|216=>93|300=>94|301=>95|328=>98|329=>99|330=>100|331=>101|332=>102|215=>103|343=>104|n=>n,fun|28=>29|3=>3|46=>156|0=>0|51=>165|53=>167|4=>4|183=>159|182=>158|131=>92|5=>5|9=>9|218=>168|222=>172|228=>174|229=>95|n=>n,fun|n=>n⟩
def Pz:Go.Proofs.Lays.n189 Try.prog EE:={
 mixed:=by kernel_rfl,
 f125:=Try.func86.trans (congrArg some (by kernel_rfl)),
 f128:=Try.func96.trans (congrArg some (by kernel_rfl)),
 f129:=Try.func97.trans (congrArg some (by kernel_rfl)),
 f189:=Try.func82.trans (congrArg some (by kernel_rfl)),
 f215:=Try.func103.trans (congrArg some (by kernel_rfl)),
 f216:=Try.func93.trans (congrArg some (by kernel_rfl)),
 f257:=Try.func85.trans (congrArg some (by kernel_rfl)),
 f294:=Try.func87.trans (congrArg some (by kernel_rfl)),
 f295:=Try.func88.trans (congrArg some (by kernel_rfl)),
 f296:=Try.func89.trans (congrArg some (by kernel_rfl)),
 f297:=Try.func90.trans (congrArg some (by kernel_rfl)),
 f298:=Try.func91.trans (congrArg some (by kernel_rfl)),
 f299:=Try.func92.trans (congrArg some (by kernel_rfl)),
 f300:=Try.func94.trans (congrArg some (by kernel_rfl)),
 f301:=Try.func95.trans (congrArg some (by kernel_rfl)),
 f328:=Try.func98.trans (congrArg some (by kernel_rfl)),
 f329:=Try.func99.trans (congrArg some (by kernel_rfl)),
 f330:=Try.func100.trans (congrArg some (by kernel_rfl)),
 f331:=Try.func101.trans (congrArg some (by kernel_rfl)),
 f332:=Try.func102.trans (congrArg some (by kernel_rfl)),
 f343:=Try.func104.trans (congrArg some (by kernel_rfl)),
 t0:=Try.underlying0,
 a0:=Try.isAgg0,
 z0:=Try.sizeOf0,
 v0:=Try.zeroValue0,
 t3:=Try.underlying3,
 a3:=Try.isAgg3,
 z3:=Try.sizeOf3,
 v3:=Try.zeroValue3,
 t4:=Try.underlying4,
 a4:=Try.isAgg4,
 z4:=Try.sizeOf4,
 v4:=Try.zeroValue4,
 t5:=Try.underlying5,
 a5:=Try.isAgg5,
 z5:=Try.sizeOf5,
 v5:=Try.zeroValue5,
 t9:=Try.underlying9,
 a9:=Try.isAgg9,
 z9:=Try.sizeOf9,
 v9:=Try.zeroValue9,
 t28:=Try.underlying29,
 a28:=Try.isAgg29,
 z28:=Try.sizeOf29,
 v28:=Try.zeroValue29,
 t46:=Try.underlying156,
 a46:=Try.isAgg156,
 z46:=Try.sizeOf156,
 v46:=Try.zeroValue156,
 t51:=Try.underlying165,
 a51:=Try.isAgg165,
 z51:=Try.sizeOf165,
 v51:=Try.zeroValue165,
 t53:=Try.underlying167,
 a53:=Try.isAgg167,
 z53:=Try.sizeOf167,
 v53:=Try.zeroValue167,
 t131:=Try.underlying92,
 a131:=Try.isAgg92,
 z131:=Try.sizeOf92,
 v131:=Try.zeroValue92,
 t182:=Try.underlying158,
 a182:=Try.isAgg158,
 z182:=Try.sizeOf158,
 v182:=Try.zeroValue158,
 t183:=Try.underlying159,
 a183:=Try.isAgg159,
 z183:=Try.sizeOf159,
 v183:=Try.zeroValue159,
 t218:=Try.underlying168,
 a218:=Try.isAgg168,
 z218:=Try.sizeOf168,
 v218:=Try.zeroValue168,
 t222:=Try.underlying172,
 a222:=Try.isAgg172,
 z222:=Try.sizeOf172,
 v222:=Try.zeroValue172,
 t228:=Try.underlying174,
 a228:=Try.isAgg174,
 z228:=Try.sizeOf174,
 v228:=Try.zeroValue174,
 t229:=Try.underlying95,
 a229:=Try.isAgg95,
 z229:=Try.sizeOf95,
 v229:=Try.zeroValue95}
def zd:Go.Shelf.Ren:=⟨fun|20=>83|n=>n,fun|22=>29|3=>3|4=>4|0=>0|n=>n,fun|n=>n⟩
def GF:Go.Proofs.Lays2.n20 Try.prog zd:={
 mixed:=by kernel_rfl,
 f20:=Try.func83.trans (congrArg some (by kernel_rfl)),
 t0:=Try.underlying0,
 a0:=Try.isAgg0,
 z0:=Try.sizeOf0,
 v0:=Try.zeroValue0,
 t3:=Try.underlying3,
 a3:=Try.isAgg3,
 z3:=Try.sizeOf3,
 v3:=Try.zeroValue3,
 t4:=Try.underlying4,
 a4:=Try.isAgg4,
 z4:=Try.sizeOf4,
 v4:=Try.zeroValue4,
 t22:=Try.underlying29,
 a22:=Try.isAgg29,
 z22:=Try.sizeOf29,
 v22:=Try.zeroValue29,
 i3:=by kernel_rfl}
def Cc:Go.Shelf.Ren:=⟨fun|15=>61|n=>n,fun|22=>29|3=>3|4=>4|n=>n,fun|n=>n⟩
def Ln:Go.Proofs.Lays2.n15 Try.prog Cc:={
 mixed:=by kernel_rfl,
 f15:=Try.func61.trans (congrArg some (by kernel_rfl)),
 t3:=Try.underlying3,
 a3:=Try.isAgg3,
 z3:=Try.sizeOf3,
 v3:=Try.zeroValue3,
 t4:=Try.underlying4,
 a4:=Try.isAgg4,
 z4:=Try.sizeOf4,
 v4:=Try.zeroValue4,
 t22:=Try.underlying29,
 a22:=Try.isAgg29,
 z22:=Try.sizeOf29,
 v22:=Try.zeroValue29,
 i3:=by kernel_rfl}
end Go.Proofs.Ytjhmkaninmgilaa
namespace Go.Proofs.Ytjhmkaninmgilaa
open Go Go.RowKit Go.dG Go.Proofs
def zF{f:Nat}{fn:Func}{a:dI}{b:Tah->Prop}{ze:Tah->D}{cs:List (Nat×dI)}{v:VC}(c:jf Try.prog pre cB cs)(j:Try.prog.funcs[f]?=some fn)(k:∀e,dr (.Y a.params) e->b e->v.holds cB pre (fun d=>d=ze e) (fun i=>e.getD i .top) [])(l:fnB fn a=true:=by kernel_rfl)(h:Ku Try.prog cs [] a fn=v:=by kernel_rfl)(g:Mp a.res=true:=by rfl):bn Try.prog f a b ze:=Gs (given:=[]) mix c j l h k g
def zO{f:Nat}{fn:Func}{a:dI}{ob:Ob}{b:Tah->Prop}{ze:Tah->D}{cs:List (Nat×dI)}{v:VC}(c:jf Try.prog pre cB cs)(k:Try.prog.funcs[f]?=some fn)(l:∀e,dr (.Y a.params) e->b e->v.holds cB pre (fun d=>d=ze e) (fun i=>e.getD i .top) [])(g:a.ob=some ob:=by rfl)(m:Vc fn a ob=true:=by kernel_rfl)(j:og Try.prog cs [] a fn=v:=by kernel_rfl)(h:Mo cs=true:=by rfl):bn Try.prog f a b ze:=hU (given:=[]) mix c k g m j l h
section
variable{v:VC}{ρ:Nat->D}{L:VC->(Nat->D)->Prop}{β B:Type}{kv:List (Tah->Prop)}
def zE{β:Prop}(p:β)(h:v.yR cB pre triv L ρ=β:=by kernel_rfl):v.yR cB pre triv L ρ:=Eq.mpr h p
def zK(h:v.quiet triv=true:=by kernel_rfl):v.yR cB pre triv L ρ:=VC.Iw h
def zL(dec:D->B)(enc:B->D)(bad:B)(lp:Nat->(Nat->D)->Tah->B){y:B}(c:v.yR cB pre triv (VC.E0 cB pre enc lp kv) ρ)(e:v.flat false=true:=by kernel_rfl)(b:(v.qf cB ρ).map (fun d=>enc (dec d))=v.qf cB ρ:=by kernel_rfl)(a:v.G0 cB dec (fun _ _=>bad) lp bad ρ=y:=by kernel_rfl):v.holds cB pre (fun d=>d=enc y) ρ kv:=VC.FY kf e c b a
def zH(dec:D->B)(enc:B->D)(bad:B){y:B}(c:v.yR cB pre triv (VC.E0 cB pre enc (fun _ _ _=>bad) kv) ρ)(e:v.flat false=true:=by kernel_rfl)(b:(v.qf cB ρ).map (fun d=>enc (dec d))=v.qf cB ρ:=by kernel_rfl)(a:v.G0 cB dec (fun _ _=>bad) (fun _ _ _=>bad) bad ρ=y:=by kernel_rfl):v.holds cB pre (fun d=>d=enc y) ρ kv:=VC.FY kf e c b a
end
def c79:bn Try.prog 79 YC (pre 79) (cB 79):=by
 refine zF (vI (Φ:=cB) (Pre:=pre)) Try.func79 (v:=Zk) ?_;intro z h u;obtain⟨_,_,rfl,s,_,_,rfl,t,rfl⟩:=h;obtain⟨l,rfl,w,o⟩:=vt s;obtain⟨b,rfl,p⟩:=dm.1 t;rw[tV]at p;have q:cB 79 [.list (l.map (D.int i64)),.int i64 b]=.int i64 (findF (fun y=>y==b) l 0):=by simp[cB,eW,bR]
 simp[Zk,fc,ep,dZ,cF,eh,dw,fb,fg,ff,fJ,den,U.den,B.den,fy,aV,cO,ez,ev,ew,fA,bR,cK,ab,aS,bq,aj,pre,q];refine kT.intro (fun f=>∃n:Nat,f=[.int i64 0,.int i64 n]/\n<=l.length/\findF (fun y=>y==b) (l.drop n) n=findF (fun y=>y==b) l 0) (fun f=>l.length-(I (.list f) 1).toNat) ⟨0,rfl,aB _,by simp⟩ ?_;intro f g r;obtain⟨n,rfl,m,a⟩:=r;clear g;rcases hx:l[n]? with _|x
 .have j:=tk hx;have c:¬((n:Int)<l.length):=by omega
  rw[bQ j,findF]at a;simp[bR,c,<-a]
 have c:=tg hx;have d:(n:Int)<l.length:=by omega
 have k:=bT hx;have i:IntKind.wrap i64 ((n:Int)+1)=(n:Int)+1:=wrap64 (by omega) (by omega);rw[C8 hx,findF]at a;simp[bR,hx,d,i,Nat.not_le.2 c];refine⟨fun h=>?_,fun h=>⟨⟨n+1,by simp,c,?_⟩,?_⟩⟩
 .rw[<-a,if_pos (by simp[h])]
 .rw[<-a,if_neg (by simp;exact fun e=>h e.symm)];congr 1
 show l.length-((n:Int)+1).toNat<l.length-(n:Int).toNat;omega
def Ud:jf Try.prog pre cB Z0:=aN c79 vI
def c56:bn Try.prog 56 s56 (pre 56) (cB 56):=by
 refine zF Ud Try.func56 (v:=Zy) ?_;intro m h j;obtain⟨_,_,rfl,g,_,_,rfl,i,rfl⟩:=h;obtain⟨l,rfl,k,c⟩:=vt g;obtain⟨b,rfl,d⟩:=dm.1 i;rw[tV]at d;have e:cB 56 [.list (l.map (D.int i64)),.int i64 b]=.bool (decide (b∈l)):=by simp[cB,eW,bR]
 have f:cB 79 [.list (l.map (D.int i64)),.int i64 b]=.int i64 (findF (fun y=>y==b) l 0):=by simp[cB,eW,bR]
 simp[Zy,fc,ep,dZ,cF,eh,dw,fb,fg,ff,fJ,den,U.den,B.den,fy,aV,cO,ez,ev,ew,fA,bR,cK,ab,aS,bq,aj,pre,e,f];rcases yx (fun y=>y==b) l 0 with⟨h1,h2⟩|⟨n,y,h1,h2,h3,_⟩
 .have:b∉l:=fun h=>by have:=h2 b h;simp at this
  simp[h1,this]
 have a:=bT h2;rw[beq_iff_eq]at h3;subst h3;simp only[h1,a,iff_true];omega
def adP:jf Try.prog pre cB aad:=aN c56 Ud
def c61:bn Try.prog 61 s61 (pre 61) (cB 61):=IX Ln Try.func61 (by kernel_rfl)
def adO:jf Try.prog pre cB Z9:=aN c61 adP
def c82:bn Try.prog 82 s82 (pre 82) (cB 82):=KQ Pz Try.func82 (by kernel_rfl)
def adN:jf Try.prog pre cB ZZ:=aN c82 adO
def c83:bn Try.prog 83 s83 (pre 83) (cB 83):=EO GF Try.func83 (by kernel_rfl)
def Ub:jf Try.prog pre cB ZY:=aN c83 adN
def c55:bn Try.prog 55 s55 (pre 55) (cB 55):=by
 refine zF Ub Try.func55 (v:=Zz) ?_;intro V h t;obtain⟨_,_,rfl,S,rfl⟩:=h;obtain⟨l,rfl,T,P⟩:=vt S;have R:cB 55 [.list (l.map (D.int i64))]=.bool (rm 0 l):=by simp[cB,eW]
 simp[Zz,fc,ep,dZ,cF,eh,dw,fb,fg,ff,fJ,den,U.den,B.den,fy,aV,cO,ez,ev,ew,fA,bR,cK,ab,aS,bq,aj,pre,R];obtain⟨J,i⟩:∃J:Tah->Prop,∀j,J j↔∃n:Nat,j=[.bool false,.int i64 n]/\n<=l.length/\rm (vp 0 (l.take n)) (l.drop n)=rm 0 l:=⟨_,fun _=>dt⟩;obtain⟨M,q⟩:∃M:Tah->Nat,∀j,M j=l.length-(I (.list j) 1).toNat:=⟨_,fun _=>rfl⟩;refine kT.intro J M ((i _).2 ⟨0,rfl,aB _,by simp[vp]⟩) ?_;intro j u C;obtain⟨n,rfl,O,o⟩:=(i _).1 C;clear C;clear u;rcases hx:l[n]? with _|x
 .have z:=tk hx;have b:¬((n:Int)<l.length):=by omega
  rw[bQ z,rm]at o;simp[bR,b,<-o]
 have b:=tg hx;have c:(n:Int)<l.length:=by omega
 have F:=bT hx;have k:IntKind.wrap i64 ((n:Int)+1)=(n:Int)+1:=wrap64 (by omega) (by omega);have G:l.take (n+1)=l.take n++[x]:=by rw[ca,hx,dQ]
 have g:vp 0 (l.take (n+1))=x:=by rw[G,qJ];rfl
 obtain⟨p,t⟩:∃p,p=vp 0 (l.take n):=⟨_,rfl⟩;rw[<-t,C8 hx,rm]at o
 have a:1<=x->x<=5->p<x->J [.bool false,.int i64 ((n:Int)+1)]/\M [.bool false,.int i64 ((n:Int)+1)] <M [.bool false,.int i64 (n:Int)]:=by
  intro s r E;refine⟨(i _).2 ⟨n+1,rfl,b,?_⟩,?_⟩
  .rw[g,<-o];simp[s,r,E]
  rw[q,q];show l.length-((n:Int)+1).toNat<l.length-(n:Int).toNat;omega
 have d:¬(1<=x/\x<=5/\p<x)->rm 0 l=false:=by
  intro Q;rw[<-o]
  have:(decide (1<=x)&&decide (x<=5)&&decide (p<x))=false:=by rw[dM];intro h;simp only[aP,bg]at h;exact Q ⟨h.1.1,h.1.2,h.2⟩
  rw[this,Bool.false_and]
 by_cases N:n=0
 .have K:p=0:=by rw[t,N];rfl
  have f:¬0<n:=by omega
  simp[bR,hx,c,k,Nat.not_le.2 b,f];refine⟨fun h=>d (by omega),fun s r=>a s r (by omega)⟩
 obtain⟨y,A⟩:∃y,l[n-1]?=some y:=⟨_,aR (by omega)⟩
 have H:p=y:=by
  rw[t];have e:n=n-1+1:=by omega
  rw[e,ca,A,dQ,qJ];rfl
 have w:IntKind.wrap i64 ((n:Int)-1)=((n-1:Nat):Int):=by rw[wrap64 (by omega) (by omega)];omega
 have m:((n-1:Nat):Int)<l.length:=by omega
 have f:0<n:=by omega
 simp[bR,hx,A,c,k,w,m,Nat.not_le.2 b,f];exact⟨fun h=>d (by omega),fun s r E=>a s r (by omega)⟩
def Uy:jf Try.prog pre cB aae:=aN c55 Ub
def YP:bn Try.prog 21 s21 (pre 21) (cB 21):=by
 refine zF Uy Try.func21 (v:=ZU) ?_;intro H h G;obtain⟨_,_,rfl,F,rfl⟩:=h;obtain⟨va,a,rfl,s,p,w,q⟩:=vz F;simp[ZU,fc,ep,dZ,cF,eh,dw,fb,fg,ff,fJ,den,U.den,B.den,fy,aV,cO,ez,ev,ew,fA,bR,cK,ab,aS,bq,aj,pre,ahb,aa5];refine⟨fun h=>?_,fun E C A=>?_⟩
 .simp only[zN,bY];rcases h with(h|h)|h
  .exact .inl (.inl (.inl h))
  .exact .inl (.inl (.inr h))
  exact .inl (.inr (by simp[h]))
 have o:zN va a=decide (∀x∈a,x∉va):=by simp[zN,E,C,A]
 obtain⟨J,f⟩:∃J:Tah->Prop,∀g,J g↔∃n:Nat,g=[.bool false,.int i64 n]/\n<=a.length/\∀y∈a.take n,y∉va:=⟨_,fun _=>dt⟩;obtain⟨M,j⟩:∃M:Tah->Nat,∀g,M g=a.length-(I (.list g) 1).toNat:=⟨_,fun _=>rfl⟩;refine kT.intro J M ((f _).2 ⟨0,rfl,aB _,by simp⟩) ?_;intro g k r;obtain⟨n,rfl,u,c⟩:=(f _).1 r;clear r;clear k;rcases hx:a[n]? with _|x
 .have z:=tk hx;have d:¬((n:Int)<a.length):=by omega
  have e:n=a.length:=by omega
  subst e;rw[cH]at c;simp[bR,o];exact c
 have d:=tg hx;have i:(n:Int)<a.length:=by omega
 have l:=bT hx;have m:IntKind.wrap i64 ((n:Int)+1)=(n:Int)+1:=wrap64 (by omega) (by omega);have t:a.take (n+1)=a.take n++[x]:=by rw[ca,hx,dQ]
 simp[bR,cK,hx,i,m,Nat.not_le.2 d,Wq,o];refine⟨fun h=>⟨x,l,h⟩,fun h=>⟨(f _).2 ⟨n+1,rfl,d,?_⟩,?_⟩⟩
 .intro y b;rw[t]at b;rcases aQ.1 b with b|b
  .exact c y b
  rw[aG]at b;rw[b];exact h
 rw[j,j];show a.length-((n:Int)+1).toNat<a.length-(n:Int).toNat;omega
def U1:jf Try.prog pre cB aav:=aN YP Uy
def c36:bn Try.prog 36 s36 (pre 36) (cB 36):=by refine zF U1 Try.func36 (v:=ZN) ?_;intro m h l;obtain⟨_,_,rfl,i,_,_,rfl,g,rfl⟩:=h;obtain⟨j,k,rfl,d,a,e,c⟩:=vz i;obtain⟨b,rfl,f⟩:=dm.1 g;rw[tV]at f;simp[ZN,fc,ep,dZ,cF,eh,dw,fb,fg,ff,fJ,den,U.den,B.den,fy,aV,cO,ez,ev,ew,fA,bR,cK,ab,aS,bq,aj,pre,Wq,aa3]
def UO:jf Try.prog pre cB aam:=aN c36 U1
def c63:bn Try.prog 63 s63 (pre 63) (cB 63):=by
 refine zF UO Try.func63 (v:=Zu) ?_;intro k h c;obtain⟨_,_,rfl,j,rfl⟩:=h;obtain⟨a,b,rfl,f,d,g,e⟩:=vz j
 replace c:(a.length+b.length)*8<=140737488355328:=by
  have i:((vo (.agg [.list (a.map (D.int i64)),.list (b.map (D.int i64))])).length+(lr (.agg [.list (a.map (D.int i64)),.list (b.map (D.int i64))])).length)*8<=140737488355328:=c
  rwa [vh,Fj]at i
 simp[Zu,fc,ep,dZ,cF,eh,dw,fb,fg,ff,fJ,den,U.den,B.den,fy,aV,cO,ez,ev,ew,fA,bR,cK,ab,aS,bq,aj,pre,ahh,adz,ahg,ahd,E4];exact⟨aY (show _<=140737488355328 by omega) (by decide),c⟩
def Ut:jf Try.prog pre cB Z8:=aN c63 UO
def c66:bn Try.prog 66 s66 (pre 66) (cB 66):=by
 refine zF Ut Try.func66 (v:=Zs) ?_;intro K h H;obtain⟨_,_,rfl,E,_,_,rfl,C,rfl⟩:=h;obtain⟨a,F,rfl,t,p,w,q⟩:=vz E;obtain⟨y,rfl,G,z⟩:=vt C;simp[Zs,fc,ep,dZ,cF,eh,dw,fb,fg,ff,fJ,den,U.den,B.den,fy,aV,cO,ez,ev,ew,fA,bR,cK,ab,aS,bq,aj,pre,ahe];obtain⟨J,d⟩:∃J:Tah->Prop,∀g,J g↔∃n:Nat,g=[.int i64 (yV (a.take n) y),.int i64 n]/\n<=a.length:=⟨_,fun _=>dt⟩;obtain⟨M,c⟩:∃M:Tah->Nat,∀g,M g=a.length-(I (.list g) 1).toNat:=⟨_,fun _=>rfl⟩;refine kT.intro J M ((d _).2 ⟨0,rfl,aB _⟩) ?_;intro g m r;obtain⟨n,rfl,u⟩:=(d _).1 r;clear r;have l:=RY (a.take n) y;rw[aO]at l;clear m;rcases hx:a[n]? with _|x
 .have A:=tk hx;have b:¬((n:Int)<a.length):=by omega
  have e:n=a.length:=by omega
  subst e;rw[cH]at l⊢;have f:IntKind.wrap i64 (2*(yV a y:Int))=2*(yV a y:Int):=wrap64 (by omega) (by omega);simp[bR,f,Ha]
 have b:=tg hx;have j:(n:Int)<a.length:=by omega
 have s:=bT hx;have o:IntKind.wrap i64 ((n:Int)+1)=(n:Int)+1:=wrap64 (by omega) (by omega);have k:=LM (y:=y) hx;have f:IntKind.wrap i64 ((yV (a.take n) y:Int)+1)=(yV (a.take n) y:Int)+1:=wrap64 (by omega) (by omega);have i:a.length-((n:Int)+1).toNat<a.length-(n:Int).toNat:=by omega
 simp[bR,cK,hx,j,o,f,Nat.not_le.2 b,Wq];refine⟨fun h=>⟨(d _).2 ⟨n+1,?_,b⟩,?_⟩,fun h=>⟨(d _).2 ⟨n+1,?_,b⟩,?_⟩⟩
 .rw[k,if_pos h];rfl
 .rw[c,c];exact i
 .rw[k,if_neg h];rfl
 rw[c,c];exact i
def Uq:jf Try.prog pre cB Z7:=aN c66 Ut
def c72:bn Try.prog 72 Vb (pre 72) (cB 72):=by
 refine zF Uq Try.func72 (v:=Zp) ?_;intro ds h hp;obtain⟨_,_,rfl,ga,_,_,rfl,gm,rfl⟩:=h;obtain⟨a,la,rfl,c,R,X,S⟩:=vz ga;obtain⟨m,rfl,hm,Y⟩:=vt gm;simp[Zp,fc,ep,dZ,cF,eh,dw,fb,fg,ff,fJ,den,U.den,B.den,fy,aV,cO,ez,ev,ew,fA,bR,cK,ab,aS,bq,aj,pre,ahi];obtain⟨J,j⟩:∃J:Tah->Prop,∀k,J k↔∃n:Nat,k=[.list (((a.take n).map (mK m)).map (D.int i64)),.int i64 n]/\n<=a.length:=⟨_,fun _=>dt⟩;obtain⟨M,t⟩:∃M:Tah->Nat,∀k,M k=a.length-(I (.list k) 1).toNat:=⟨_,fun _=>rfl⟩;refine kT.intro J M ((j _).2 ⟨0,rfl,aB _⟩) ?_;intro k w T;obtain⟨n,rfl,W⟩:=(j _).1 T;clear T;clear w;rcases hx:a[n]? with _|x
 .have Z:=tk hx;have d:¬((n:Int)<a.length):=by omega
  have e:n=a.length:=by omega
  subst e;rw[cH];cases c:a with
  |nil=>simp[bR,cO,vg]
  |cons q r=>
   rw[<-c];have g:=vM a m;have P:0<a.length:=by rw[c];simp
   have i:IntKind.wrap i64 ((a.length:Int)-1)=((a.length-1:Nat):Int):=by rw[wrap64 (by omega) (by omega)];omega
   have O:Int.tdiv ((a.length-1:Nat):Int) 2=(((a.length-1)/2:Nat):Int):=by rw[Int.tdiv_eq_ediv_of_nonneg (by omega)];omega
   have A:IntKind.wrap i64 (((a.length-1)/2:Nat):Int)=(((a.length-1)/2:Nat):Int):=wrap64 (by omega) (by omega);have o:a≠[]:=by rw[c];simp
   obtain⟨z,K⟩:∃z,(jP (a.map (mK m)))[(a.length-1)/2]?=some z:=⟨_,aR (by rw[g];omega)⟩;have ha:vg a m=z:=by unfold vg;rw[if_neg o,ag,K];rfl
   have Q:(((a.length-1)/2:Nat):Int)<a.length:=by omega
   simp[-List.map_map,-Int.natCast_ediv,bR,cO,aa4,g,i,O,A,K,ha,o];omega
 have d:=tg hx;have f:(n:Int)<a.length:=by omega
 have V:=bT hx;have l:IntKind.wrap i64 ((n:Int)+1)=(n:Int)+1:=wrap64 (by omega) (by omega);have F:(a.take (n+1)).map (mK m)=(a.take n).map (mK m)++[mK m x]:=by rw[ca,hx,dQ,bX];rfl
 have E:a.length-((n:Int)+1).toNat<a.length-(n:Int).toNat:=by omega
 have s:∀q:Int,q=mK m x->J [.list (((a.map (mK m)).map (D.int i64)).take n++[.int i64 q]),.int i64 ((n:Int)+1)]/\M [.list (((a.map (mK m)).map (D.int i64)).take n++[.int i64 q]),.int i64 ((n:Int)+1)] <M [.list (((a.map (mK m)).map (D.int i64)).take n),.int i64 (n:Int)]:=by
  rintro q rfl;refine⟨(j _).2 ⟨n+1,?_,d⟩,?_⟩
  .rw[F,bX,<-List.map_take,<-List.map_take];rfl
  rw[t,t];exact E
 have b:(min n a.length+1)<=maxLen/\(min n a.length+1)*8<=140737488355328:=⟨aY (show _<=140737488355328 by omega) (by decide),by omega⟩;by_cases p:1<=x/\x<=m.length
 .have i:IntKind.wrap i64 (x-1)=x-1:=wrap64 (by omega) (by omega);obtain⟨y,N⟩:∃y,m[(x-1).toNat]?=some y:=⟨_,aR (by omega)⟩;have C:mK m x=if 0<y then y else 0:=by unfold mK;rw[if_pos p,ag,N];rfl
  have H:(0:Int)<=x-1:=by omega
  have G:x-1<(m.length:Int):=by omega
  have u:m[x.toNat-1]?=some y:=by rw[show x.toNat-1=(x-1).toNat by omega];exact N
  simp[-List.map_map,bR,cO,hx,f,l,i,u,p.1,p.2,H,G,Nat.not_le.2 d];exact⟨⟨b,s _ C.symm⟩,fun O=>by omega⟩
 have C:mK m x=0:=by unfold mK;rw[if_neg p]
 simp[-List.map_map,bR,cO,hx,f,l,Nat.not_le.2 d];exact⟨fun h1 h2=>absurd ⟨h1,h2⟩ p,fun _=>⟨b,s 0 C.symm⟩⟩
def Uk:jf Try.prog pre cB Z3:=aN c72 Uq
def c70:bn Try.prog 70 YW (pre 70) (cB 70):=by
 refine zF Uk Try.func70 (v:=Zr) ?_;intro S h R;obtain⟨_,_,rfl,Q,_,_,rfl,P,rfl⟩:=h;obtain⟨b,y,rfl,A,s,H,u⟩:=vz Q;obtain⟨a,x,rfl,z,r,G,t⟩:=vz P;simp[Zr,fc,ep,dZ,cF,eh,dw,fb,fg,ff,fJ,den,U.den,B.den,fy,aV,cO,ez,ev,ew,fA,bR,cK,ab,aS,bq,aj,pre,aa5,aha];refine⟨fun h=>?_,fun O N=>?_⟩
 .simp only[G8,bY];rcases h with h|h
  .exact .inl (.inl h)
  exact .inl (.inr h)
 have E:G8 b y a x=decide (yU b a 6<=1):=by simp[G8,O,N]
 obtain⟨J,c⟩:∃J:Tah->Prop,∀d,J d↔∃n:Nat,d=[.int i64 (yU b a n),.int i64 n]/\n<=6:=⟨_,fun _=>dt⟩;obtain⟨M,i⟩:∃M:Tah->Nat,∀d,M d=6-(I (.list d) 1).toNat:=⟨_,fun _=>rfl⟩;refine kT.intro J M ((c _).2 ⟨0,rfl,aB _⟩) ?_;intro d j w;obtain⟨n,rfl,F⟩:=(c _).1 w;clear w j;have K:=RV b a n;by_cases C:n=6
 .subst C;simp[bR,E];omega
 have e:(n:Int)<6:=by omega
 have l:IntKind.wrap i64 ((n:Int)+1)=(n:Int)+1:=wrap64 (by omega) (by omega);have k:IntKind.wrap i64 ((yU b a n:Int)+1)=(yU b a n:Int)+1:=wrap64 (by omega) (by omega);have o:6-((n:Int)+1).toNat<6-(n:Int).toNat:=by omega
 have f:=LD b a n;have m:¬(6:Int)<=n:=by omega
 have g:∀q:Int,q=yU b a (n+1)->J [.int i64 q,.int i64 ((n:Int)+1)]/\M [.int i64 q,.int i64 ((n:Int)+1)] <M [.int i64 (yU b a n),.int i64 (n:Int)]:=by rintro q rfl;exact⟨(c _).2 ⟨n+1,rfl,by omega⟩,by rw[i,i];exact o⟩
 simp[bR,cK,e,l,k,aa3,m];refine⟨fun h=>g _ ?_,fun h=>g _ ?_⟩
 .have p:(decide ((n:Int)∈b) !=decide ((n:Int)∈a))=true:=by simpa using h
  rw[f,if_pos p];rfl
 have p:¬(decide ((n:Int)∈b) !=decide ((n:Int)∈a))=true:=by simpa using h
 rw[f,if_neg p];rfl
def Um:jf Try.prog pre cB Z5:=aN c70 Uk
def Vu:bn Try.prog 20 s20 (pre 20) (cB 20):=by refine zF Um Try.func20 (v:=ZV) ?_;intro i h d;obtain⟨a,_,rfl,⟨a,rfl,g⟩,b,_,rfl,⟨b,rfl,f⟩,c,_,rfl,⟨c,rfl,e⟩,rfl⟩:=h;simp[ZV,fc,ep,dZ,cF,eh,dw,fb,fg,ff,den,B.den,cB,nY,bR,cK]
def U2:jf Try.prog pre cB aaw:=aN Vu Um
def LP{t:Ty}{n:Nat}{l:Tah}(a:DT 140737488355328 t l.length)(b:t.bytes=n):(l=[]->∀(d:D),Has Ty.bool d->(d.Z=true->l=[])/\(d.Z=false->l.length<=maxLen/\l.length*n<=140737488355328))/\
  (¬l=[]->∀(d:D),Has Ty.bool d->l.length<=maxLen/\l.length*n<=140737488355328):=by subst b;exact⟨fun h _ _=>⟨fun _=>h,fun _=>a⟩,fun _ _ _=>a⟩
def c52:bn Try.prog 52 s52 (pre 52) (cB 52):=by refine zF U2 Try.func52 (v:=ZA) ?_;intro e h c;obtain⟨_,_,rfl,⟨l,rfl,a,d⟩,rfl⟩:=h;have b:cB 52 [.list l]=.list l:=rfl;simp[ZA,fc,ep,dZ,cF,eh,dw,fb,fg,ff,fJ,den,U.den,B.den,fy,aV,cO,ez,ev,ew,fA,bR,cK,pre,b,fy];have:=LP (n:=1) a rfl;simpa using this
def UA:jf Try.prog pre cB aag:=aN c52 U2
def c60:bn Try.prog 60 s60 (pre 60) (cB 60):=by refine zF UA Try.func60 (v:=afH) ?_;intro c h b;obtain⟨x,_,rfl,a,rfl⟩:=h;refine zH D.Z D.bool false (y:=(pv x&& !gp (SE x))) zK
def Uv:jf Try.prog pre cB aaa:=aN c60 UA
def U5:bn Try.prog 80 MH (pre 80) (cB 80):=by
 refine zF Uv Try.func80 (v:=Om) ?_;intro w h t;obtain⟨_,_,rfl,⟨l,rfl,e,u⟩,_,_,rfl,⟨_,rfl,rfl⟩,rfl⟩:=h;have i:=e.1;simp only[maxLen]at i;have s:cB 80 [.list l,.fn 60 []]=.int i64 (findF (wY (.fn 60 [])) l 0):=rfl;rw[s];have r:∀x,cB 60 [x]=.bool (wY (.fn 60 []) x):=fun _=>rfl;simp[Om,fc,ep,dZ,cF,eh,dw,fb,fg,ff,fJ,den,U.den,B.den,fy,aV,cO,ez,ev,ew,fA,bR,cK,pre,r];obtain⟨J,c⟩:∃J:Tah->Prop,∀d,J d↔∃n:Nat,∃y:Int,d=[.int i64 y,.int i64 n]/\n<=l.length/\findF (wY (.fn 60 [])) (l.drop n) n=findF (wY (.fn 60 [])) l 0:=⟨_,fun _=>dt⟩;obtain⟨M,f⟩:∃M:Tah->Nat,∀d,M d=l.length-((d.getD 1 .top).J).toNat:=⟨_,fun _=>rfl⟩;refine kT.intro J M ((c _).2 ⟨0,0,rfl,aB _,by simp⟩) ?_;intro d g m;obtain⟨n,y,rfl,p,a⟩:=(c _).1 m;clear m g;simp[fc,ep,dZ,cF,eh,dw,fb,fg,ff,fJ,den,U.den,B.den,fy,aV,cO,ez,ev,ew,fA,bR,cK];refine⟨fun b=>?_,fun j=>?_⟩
 .have o:l[n]?=some l[n]:=aR b;have q:l.drop n=l[n] ::l.drop (n+1):=bJ b;rw[q]at a;simp only[findF]at a;rw[o,bq];refine⟨by omega,fun k=>?_,fun k=>?_⟩
  .rw[if_pos k]at a;exact a
  rw[wrap64 (by omega) (by omega)];refine⟨(c _).2 ⟨n+1,y,by simp,b,?_⟩,?_⟩
  .rw[if_neg (by rw[k];simp)]at a;rw[<-a];simp
  rw[f,f];simp[bR];omega
 have:l.drop n=[]:=bQ j;rw[this]at a;exact a
def Ka:jf Try.prog pre cB Ov:=aN U5 Uv
def xE(p:D->Bool):∀(l:Tah) (k:Int),0<=k->(l.any p=true↔0<=findF p l k)
 |[],k,hk=>by simp[findF]
 |x::r,k,hk=>by
  simp only[findF,List.any_cons];cases hp:p x with
  |true=>simp;exact hk
  |false=>
   simp only[Bool.false_or,ai,if_false];exact xE p r (k+1) (by omega)
def U6:bn Try.prog 59 MK (pre 59) (cB 59):=by refine zF Ka Try.func59 (v:=Oo) ?_;intro f h d;obtain⟨_,_,rfl,⟨l,rfl,a,e⟩,_,_,rfl,⟨_,rfl,rfl⟩,rfl⟩:=h;have b:cB 59 [.list l,.fn 60 []]=.bool (mw l (.fn 60 [])):=rfl;have c:cB 80 [.list l,.fn 60 []]=.int i64 (findF (wY (.fn 60 [])) l 0):=rfl;rw[b];simp[Oo,fc,ep,dZ,cF,eh,dw,fb,fg,ff,fJ,den,U.den,B.den,fy,aV,cO,ez,ev,ew,fA,bR,cK,pre,c];rw[cT,bg];exact(xE _ l 0 (aJ 0)).symm
def Kc:jf Try.prog pre cB Ox:=aN U6 Ka
def c24:bn Try.prog 24 s24 (pre 24) (cB 24):=by refine zF Kc Try.func24 (v:=ZS) ?_;intro f h d;obtain⟨_,_,rfl,⟨l,rfl,a,e⟩,rfl⟩:=h;have b:cB 24 [.list l]=.bool (eF l):=rfl;have c:cB 59 [.list l,.fn 60 []]=.bool (mw l (.fn 60 [])):=rfl;rw[b];simp[ZS,fc,ep,dZ,cF,eh,dw,fb,fg,ff,fJ,den,U.den,B.den,fy,aV,cO,ez,ev,ew,fA,bR,cK,pre,c];unfold eF mw;rw[Bool.not_not];rfl
def UZ:jf Try.prog pre cB aat:=aN c24 Kc
def c26:bn Try.prog 26 s26 (pre 26) (cB 26):=by refine zF UZ Try.func26 (v:=ZQ) ?_;intro b h a;obtain⟨_,_,rfl,⟨_,rfl,_,_,rfl,⟨v,rfl,_,_⟩,_,_,rfl,⟨l,rfl,_,_⟩,rfl⟩,rfl⟩:=h;simp[ZQ,fc,ep,dZ,cF,eh,dw,fb,fg,ff,fJ,den,U.den,B.den,fy,aV,cO,ez,ev,ew,fA,bR,cK,pre,cB,wo]
def UX:jf Try.prog pre cB aar:=aN c26 UZ
def c28:bn Try.prog 28 s28 (pre 28) (cB 28):=by refine zF UX Try.func28 (v:=ZP) ?_;intro f h c;obtain⟨_,_,rfl,⟨_,rfl,_,_,rfl,⟨i,rfl,d⟩,_,_,rfl,⟨t,rfl,b⟩,_,_,rfl,⟨l,rfl,a,e⟩,rfl⟩,rfl⟩:=h;simp[ZP,fc,ep,dZ,cF,eh,dw,fb,fg,ff,fJ,den,U.den,B.den,fy,aV,cO,ez,ev,ew,fA,bR,cK,pre,cB,jZ,cD]
def UU:jf Try.prog pre cB aaq:=aN c28 UX
def c25:bn Try.prog 25 s25 (pre 25) (cB 25):=by
 refine zF UU Try.func25 (v:=ZR) ?_;intro y h c;obtain⟨_,_,rfl,⟨_,rfl,_,_,rfl,⟨i,rfl,w⟩,_,_,rfl,⟨t,rfl,u⟩,_,_,rfl,⟨l,rfl,a,n⟩,rfl⟩,rfl⟩:=h;replace c:gn i t l=true:=c;have k:cB 28 [.ptr [.int i64 i,.int i64 t,.list l]]=.fa [.int i64 i,.int i64 t]:=rfl;have m:cB 25 [.ptr [.int i64 i,.int i64 t,.list l]]=.fa [.int i64 (i+l.length),.int i64 (eJ t l)]:=rfl;simp[ZR,fc,ep,dZ,cF,eh,dw,fb,fg,ff,fJ,den,U.den,B.den,fy,aV,cO,ez,ev,ew,fA,bR,cK,pre,k,m];obtain⟨⟨s,r,q,k4⟩,j⟩:=eS.1 c;have e:=a.1;simp only[maxLen]at e;constructor
 .rintro rfl;simp[eJ]
 intro d;have f:0<l.length:=eX.2 d;rw[wrap64 (by omega) (by omega),show((l.length:Int)-1).toNat=l.length-1 by omega];obtain⟨x,b⟩:∃x,l[l.length-1]?=some x:=⟨_,aR (by omega)⟩;obtain⟨p,o,_,_⟩:=DV (n x (bT b));have g:=H0 j b;rw[b,bq,p,o,tF b,g.1];refine⟨by omega,?_,rfl⟩;congr 1;omega
def UY:jf Try.prog pre cB aas:=aN c25 UU
def c50:bn Try.prog 50 s50 (pre 50) (cB 50):=by
 refine zF UY Try.func50 (v:=ZC) ?_;intro z h d;obtain⟨_,_,rfl,⟨_,rfl,_,_,rfl,⟨i,rfl,u⟩,_,_,rfl,⟨t,rfl,s⟩,_,_,rfl,⟨l,rfl,a,n⟩,rfl⟩,_,_,rfl,⟨k,rfl,j⟩,rfl⟩:=h;replace d:gn i t l=true:=d;have m:cB 50 [.ptr [.int i64 i,.int i64 t,.list l],.int i64 k]=.fa [.int i64 (gA i t l k).1,.int i64 (gA i t l k).2]:=rfl;simp[ZC,fc,ep,dZ,cF,eh,dw,fb,fg,ff,fJ,den,U.den,B.den,fy,aV,cO,ez,ev,ew,fA,bR,cK,pre,m];rw[tV]at j;obtain⟨⟨r,g,q,k4⟩,w⟩:=eS.1 d;have e:=a.1;simp only[maxLen,MX]at e g;refine⟨fun h=>by simp[gA,h],fun h=>⟨fun b=>by subst b;simp[gA],fun b=>?_⟩⟩;rw[wrap64 (by omega) (by omega)];have f:¬k<i:=by omega
 refine⟨fun o=>?_,fun o=>?_⟩
 .have:l[(k-i-1).toNat]?=none:=by rw[dp];omega
  unfold gA;rw[if_neg f,if_neg b,this];exact⟨rfl,rfl⟩
 rw[wrap64 (by omega) (by omega)];obtain⟨x,c⟩:∃x,l[(k-i-1).toNat]?=some x:=⟨_,aR (by omega)⟩;obtain⟨y,p,_,_⟩:=DV (n x (bT c));refine⟨by omega,?_,?_⟩
 .rw[c,bq,p];unfold gA;rw[if_neg f,if_neg b,c]
 unfold gA;rw[if_neg f,if_neg b,c]
def UB:jf Try.prog pre cB aai:=aN c50 UY
def c74:bn Try.prog 74 qN (pre 74) (cB 74):=by refine zF UB Try.func74 (v:=Zn) ?_;intro n h b;obtain⟨_,_,rfl,⟨_,rfl,_,_,rfl,⟨i,rfl,k⟩,_,_,rfl,⟨t,rfl,j⟩,_,_,rfl,⟨l,rfl,c,m⟩,rfl⟩,_,_,rfl,⟨x,rfl,g⟩,_,_,rfl,⟨y,rfl,f⟩,rfl⟩:=h;replace b:gn i t l=true:=b;have d:cB 25 [.ptr [.int i64 i,.int i64 t,.list l]]=.fa [.int i64 (i+l.length),.int i64 (eJ t l)]:=rfl;have a:pre 25 [.ptr [.int i64 i,.int i64 t,.list l]]:=b;have e:cB 74 [.ptr [.int i64 i,.int i64 t,.list l],.int i64 x,.int i64 y]=.bool (HQ i t l x y):=rfl;simp[Zn,fc,ep,dZ,cF,eh,dw,fb,fg,ff,fJ,den,U.den,B.den,fy,aV,cO,ez,ev,ew,fA,bR,cK,d,e,a,HQ];rw[cT];simp
def Ui:jf Try.prog pre cB Z2:=aN c74 UB
def c65:bn Try.prog 65 s65 (pre 65) (cB 65):=by
 refine zF Ui Try.func65 (v:=Zt) ?_;intro C h b;obtain⟨_,_,rfl,⟨_,rfl,_,_,rfl,⟨i,rfl,w⟩,_,_,rfl,⟨t,rfl,u⟩,_,_,rfl,⟨l,rfl,a,x⟩,rfl⟩,_,_,rfl,⟨f,rfl,o⟩,_,_,rfl,⟨m,rfl,k⟩,rfl⟩:=h;have p:cB 65 [.ptr [.int i64 i,.int i64 t,.list l],.int i64 f,.int i64 m]=.list (fG i l f m):=rfl;simp[Zt,fc,ep,dZ,cF,eh,dw,fb,fg,ff,fJ,den,U.den,B.den,fy,aV,cO,ez,ev,ew,fA,bR,cK,pre,p];replace b:okB i t=true:=b;rw[tV]at o k;obtain⟨s,j,_,_⟩:=jL.1 b;have c:=a.1;have e:=a.2;rw[nT]at e;simp only[maxLen,MX]at c j⊢;refine⟨?_,fun A z=>?_⟩
 .intro h;unfold fG;by_cases d:m<1\/f<=i
  .rw[if_pos d]
  rw[if_neg d];have r:=h.resolve_left d;rw[wrap64 (n:=f-i) (by omega) (by omega),wrap64 (by omega) (by omega)]at r;rw[bQ (by omega)];simp
 rw[wrap64 (n:=f-i) (by omega) (by omega),wrap64 (n:=f-i-1) (by omega) (by omega)];intro y;rw[wrap64 (n:=(l.length:Int)-(f-i-1)) (by omega) (by omega)];have g:fG i l f m=(l.drop (f-i-1).toNat).take m.toNat:=by unfold fG;rw[if_neg (by omega)]
 refine⟨fun q=>?_,fun q=>?_⟩
 .rw[wrap64 (n:=f-i-1+m) (by omega) (by omega)];refine⟨by omega,⟨by omega,aY (aw 320 (by omega)) e⟩,?_⟩;rw[g,List.drop_take];congr 1;omega
 refine⟨by omega,⟨by omega,aY (aw 320 (by omega)) e⟩,?_⟩;rw[g,dz (by rw[bh];omega)]
def Ur:jf Try.prog pre cB VK:=aN c65 Ui
def agw(x:Int)(s:RS):Prop:=
 (True)/\(
 let a:=(jZ s.li s.lt s.le)
 VC.E0 cB pre (fun d=>d) (fun _ _ l=>rP s a (l.getD 0 .top).J (l.getD 1 .top).V (l.getD 2 .top).V) [] (VC.lp 15 Vy) (fy (fun i=>[Dv s,D.int i64 x].getD i .top) 7 (D.fa [D.int i64 a.1,D.int i64 a.2])))
def adb(s:RS)(c:Int×Int)(b:Int):Prop:=
 ((decide (b>c.1)=true->
  ((true=true->okB s.li s.lt=true))/\(
  let a:=(fi s.li s.lt s.le b 1)
  ((((((a:Tah).length:Int)==1)==true)&&true)=true->((decide (0<=0))&&(decide (0<((a:Tah).length:Int))))=true)/\(
  ((((((a:Tah).length:Int)==1)&&(((cD 2 ((a).getD (0:Int).toNat .top)).J)==2))=true->
   (true=true->((decide (0<=0))&&(decide (0<((a:Tah).length:Int))))=true)/\(
   True)))/\(True)))))/\(True)
def AI(s:RS)(h:Int×Int)(b:Int)(g:Tah)(f:Tah):(Int×Tah×Tah)⊕(D):=
 if decide (b>h.1) then(
  let a:=(fi s.li s.lt s.le b 1)
  if((((a:Tah).length:Int)==1)&&(((cD 2 ((a).getD (0:Int).toNat .top)).J)==2)) then(
   let c:=(qv (D.agg ((((a).getD (0:Int).toNat .top).V.drop 27).take 2)))
   .inr (aE 2 c []))
  else(
   .inl ((i64.wrap (b-1)),g,f)))
 else(
  if decide (h.1>0) then(
   let d:=(qv (D.agg [D.list s.sv,D.list s.sl]))
   .inr (aE 2 d []))
  else(
   let e:=(qv (D.agg [D.list s.fv,D.list s.fl]))
   .inr (aE 2 e [])))
def Gr(s:RS)(c:Int×Int)(b:Int)(a:Tah)(k15:Tah):AI s c b a k15=nL s c b a k15:=by
 unfold AI nL nN;dsimp only
 repeat (first|rfl|split)
def Q0(x:Int)(s:RS)(n:kL i64 x)(h:Ok (s) 0):agw x s:=by
 refine⟨trivial,?_⟩;intro e;have j:e.1=s.li:=rfl
 clear_value e
 obtain⟨t,q⟩:=h.li;refine VC.jk 15 (by kernel_rfl) ?_;refine VC.hH (Φ:=cB) (Pre:=pre) (triv:=triv) (v0:=15) (decL:=fun l=>((l.getD 0 .top).J,(l.getD 1 .top).V,(l.getD 2 .top).V)) (encL:=fun a:Int×Tah×Tah=>([D.int i64 a.1,D.list a.2.1,D.list a.2.2])) (dec:=(fun d=>d)) (enc:=(fun d=>d)) (lp:=fun _ _ _ _=>D.top) (bad:=.inr D.top) (bd:=D.top) (by kernel_rfl) (fun a:Int×Tah×Tah=>nL s e a.1 a.2.1 a.2.2) (fun a:Int×Tah×Tah=>a.1<=9223372036854775807) (fun a:Int×Tah×Tah=>AK s e a.1 a.2.1 a.2.2) (x,[],[]) kf (by kernel_rfl) ?Sv (fun a=>rfl) ?Sy (by kernel_rfl) (fun a p=>Eq.trans (b:=AI s e a.1 a.2.1 a.2.2) (by kernel_rfl) (Gr s e a.1 a.2.1 a.2.2)) (fun a=>by kernel_rfl) (fun a=>by kernel_rfl) (fun a p o=>zE (β:=adb s e a.1) ?E6) (by kernel_rfl)
 .exact n.2
 .rintro⟨i,l,r⟩ k;replace k:i<=9223372036854775807:=k;unfold nL;by_cases f:decide (i>e.1)=true
  .rw[if_pos f];rw[bg,j]at f;dsimp only;generalize ((((fi s.li s.lt s.le i 1).length:Int)==1)&&((cD 2 ((fi s.li s.lt s.le i 1).getD (0:Int).toNat .top)).J==2))=c;cases c with
   |true=>trivial
   |false=>
    show IntKind.wrap i64 (i-1)<=_/\(IntKind.wrap i64 (i-1)-e.1).toNat<(i-e.1).toNat;rw[wrap64 (by omega) (by omega)];refine⟨by omega,?_⟩;omega
  rw[if_neg f];trivial
 refine⟨fun f=>⟨fun _=>h.Mr,?_⟩,trivial⟩;intro m;refine⟨fun g=>?_,fun g=>⟨fun _=>?_,trivial⟩,trivial⟩
 .simp only[aP,beq_iff_eq,and_true]at g;rw[g];rfl
 simp only[aP,beq_iff_eq]at g;rw[g.1];rfl
def c49:bn Try.prog 49 s49 (pre 49) (cB 49):=by refine zF Ur Try.func49 (v:=Vy) ?_;intro i h c;obtain⟨d,_,rfl,e,g⟩:=aA.1 h;obtain⟨s,rfl⟩:=mo e;obtain⟨_,_,rfl,⟨x,rfl,b⟩,f⟩:=aA.1 g;obtain rfl:=dk.1 f;refine zL (fun d=>d) (fun d=>d) D.top (fun _ _ l=>(let a:=(jZ s.li s.lt s.le);rP s a (l.getD 0 .top).J (l.getD 1 .top).V (l.getD 2 .top).V)) (y:=xS x s) (zE (Q0 x s b c))
def UC:jf Try.prog pre cB aaj:=aN c49 Ur
def agJ(s:RS):Prop:=
 ((true=true->gn s.li s.lt s.le=true))/\(
 let a:=(fW s.li s.lt s.le)
 ((true=true->Ok s 0))/\(
 True))
def Rg(s:RS)(h:Ok (s) 0):agJ s:=by exact⟨fun _=>h.may,fun _=>h,trivial⟩
def c29:bn Try.prog 29 s29 (pre 29) (cB 29):=by refine zF UC Try.func29 (v:=afM) ?_;intro e h a;obtain⟨d,_,rfl,b,c⟩:=aA.1 h;obtain⟨s,rfl⟩:=mo b;obtain rfl:=dk.1 c;refine zH (fun d=>d) (fun d=>d) .top (y:=dU s) (zE (Rg s a))
def UT:jf Try.prog pre cB VX:=aN c29 UC
def agI(x:D)(s:RS):Prop:=
 ((true=true->((vo (aE 2 x [])).length+(lr (aE 2 x [])).length)*8<=140737488355328))/\(
 let a:=(iP (aE 2 x []))
 VC.E0 cB pre D.list (fun _ _ l=>tz s a (l.getD 0 .top).V (l.getD 1 .top).J) [] (VC.lp 9 VB) (fy (fun i=>[Dv s,x].getD i .top) 6 (D.list a)))
def adg(s:RS)(b:Tah)(c:Tah)(a:Int):Prop:=
 ((decide (a<((b:Tah).length:Int))=true->
  (true=true->((decide (0<=a))&&(decide (a<((b:Tah).length:Int))))=true)/\(
  (((((((b).getD (a:Int).toNat .top)).J) !=s.id)=true->
   (true=true->((c++([((b).getD (a:Int).toNat .top)]:Tah)):Tah).length<=maxLen/\((c++([((b).getD (a:Int).toNat .top)]:Tah)):Tah).length*8<=140737488355328)/\(
   True)))/\(True))))/\(True)
def Rf(x:D)(s:RS)(h:Ok (s) 0/\gp x=true):agI x s:=by
 obtain⟨h,m⟩:=h;refine⟨fun _=>?_,?_⟩
 .have:=AZ (c:=aE 2 x []) m;omega
 intro d;have o:d.length<=10:=wF (c:=aE 2 x []) m
 clear_value d
 refine VC.jk 9 (by kernel_rfl) ?_;refine VC.hH (Φ:=cB) (Pre:=pre) (triv:=triv) (v0:=9) (decL:=fun l=>((l.getD 0 .top).V,(l.getD 1 .top).J)) (encL:=fun a:Tah×Int=>([D.list a.1,D.int i64 a.2])) (dec:=D.V) (enc:=D.list) (lp:=fun _ _ _ _=>([]:Tah)) (bad:=.inr ([]:Tah)) (bd:=([]:Tah)) (by kernel_rfl) (fun a:Tah×Int=>tw s d a.1 a.2) (fun a:Tah×Int=>0<=a.2/\a.1.length<=a.2.toNat/\a.2.toNat<=d.length) (fun a:Tah×Int=>CN s d a.1 a.2) ([],0) kf (by kernel_rfl) ?Sv (fun a=>rfl) ?Sy (by kernel_rfl) (fun a n=>by kernel_rfl) (fun a=>by kernel_rfl) (fun a=>by kernel_rfl) (fun a n p=>zE (β:=adg s d a.1 a.2) ?E6) (by kernel_rfl)
 .exact⟨aJ 0,aB _,aB _⟩
 .rintro⟨l,j⟩ ⟨f,i,g⟩;simp only at f i g;unfold tw;by_cases b:decide (j<(d.length:Int))=true
  .rw[if_pos b];rw[bg]at b;have k:IntKind.wrap i64 (j+1)=j+1:=wrap64 (by omega) (by omega);by_cases e:((d.getD j.toNat .top).J !=s.id)=true
   .rw[if_pos e,k];refine⟨⟨by show 0<=j+1;omega,?_,by show(j+1).toNat<=_;omega⟩,by show d.length-(j+1).toNat<d.length-j.toNat;omega⟩;show(l++[_]).length<=(j+1).toNat;rw[ah,ba];omega
   rw[if_neg e,k];exact⟨⟨by show 0<=j+1;omega,by show l.length<=(j+1).toNat;omega,by show(j+1).toNat<=_;omega⟩,by show d.length-(j+1).toNat<d.length-j.toNat;omega⟩
  rw[if_neg b];trivial
 obtain⟨l,j⟩:=a;obtain⟨f,i,g⟩:=n;simp only at f i g;refine⟨fun b=>⟨fun _=>?_,fun _=>⟨fun _=>?_,trivial⟩,trivial⟩,trivial⟩
 .rw[bg]at b;rw[aP,bg,bg];exact⟨f,b⟩
 simp only[ah,ba,maxLen];omega
def c32:bn Try.prog 32 s32 (pre 32) (cB 32):=by refine zF UT Try.func32 (v:=VB) ?_;intro i h b;obtain⟨d,_,rfl,c,f⟩:=aA.1 h;obtain⟨s,rfl⟩:=mo c;obtain⟨x,_,rfl,g,e⟩:=aA.1 f;obtain rfl:=dk.1 e;refine zL D.V D.list ([]:Tah) (fun _ _ l=>(let a:=(iP (aE 2 x []));tz s a (l.getD 0 .top).V (l.getD 1 .top).J)) (y:=gq x s) (zE (Rf x s b))
def US:jf Try.prog pre cB aap:=aN c32 UT
def agq(x:Int)(s:RS):Prop:=
 ((true=true->Ok s 0))/\(
 let a:=(dU s)
 ((true=true->((vo (aE 2 a [])).length+(lr (aE 2 a [])).length)*8<=140737488355328))/\(
 True))
def QU(x:Int)(s:RS)(a:kL i64 x)(h:Ok (s) 0):agq x s:=by refine⟨fun _=>h,fun _=>?_,trivial⟩;have:=AZ (iQ h);show((vo (dU s)).length+(lr (dU s)).length)*8<=_;omega
def c76:bn Try.prog 76 s76 (pre 76) (cB 76):=by refine zF US Try.func76 (v:=afE) ?_;intro g h b;obtain⟨d,_,rfl,c,f⟩:=aA.1 h;obtain⟨s,rfl⟩:=mo c;obtain⟨_,_,rfl,⟨x,rfl,a⟩,e⟩:=aA.1 f;obtain rfl:=dk.1 e;refine zH D.Z D.bool false (y:=jv x s) (zE (QU x s a b))
def Ug:jf Try.prog pre cB VG:=aN c76 US
def ags(s:RS):Prop:=
 ((true=true->gn s.li s.lt s.le=true))/\(
 let b:=(fW s.li s.lt s.le)
 ((true=true->okB s.li s.lt=true))/\(
 let a:=(fi s.li s.lt s.le (i64.wrap (s.bH+1)) (i64.wrap (b.1-s.bH)))
 VC.E0 cB pre D.bool (fun _ _ l=>mV a (l.getD 0 .top).Z (l.getD 1 .top).J) [] (VC.lp 30 Vx) (fy (fy (fun i=>[Dv s].getD i .top) 6 (D.fa [D.int i64 b.1,D.int i64 b.2])) 27 (D.list a))))
def ac8(b:Tah)(a:Int):Prop:=
 ((decide (a<((b:Tah).length:Int))=true->
  (true=true->((decide (0<=a))&&(decide (a<((b:Tah).length:Int))))=true)/\(
  True)))/\(True)
def QW(s:RS)(h:Ok (s) 0):ags s:=by
 refine⟨fun _=>h.may,fun _=>h.Mr,?_⟩;intro c;have f:c.length<=2147483648:=aY (tq (l:=s.le)) (aY h.tM (by decide))
 clear_value c
 refine VC.jk 30 (by kernel_rfl) ?_;refine VC.hH (Φ:=cB) (Pre:=pre) (triv:=triv) (v0:=30) (decL:=fun l=>((l.getD 0 .top).Z,(l.getD 1 .top).J)) (encL:=fun a:Bool×Int=>([D.bool a.1,D.int i64 a.2])) (dec:=D.Z) (enc:=D.bool) (lp:=fun _ _ _ _=>false) (bad:=.inr false) (bd:=false) (by kernel_rfl) (fun a:Bool×Int=>mU c a.1 a.2) (fun a:Bool×Int=>0<=a.2) (fun a:Bool×Int=>qG c a.1 a.2) (false,0) kf (by kernel_rfl) ?Sv (fun a=>rfl) ?Sy (by kernel_rfl) (fun a e=>by kernel_rfl) (fun a=>by kernel_rfl) (fun a=>by kernel_rfl) (fun a e k=>zE (β:=ac8 c a.2) ?E6) (by kernel_rfl)
 .exact aJ 0
 .rintro⟨b,j⟩ i;replace i:0<=j:=i;unfold mU;by_cases d:decide (j<(c.length:Int))=true
  .rw[if_pos d];rw[bg]at d;by_cases g:((cD 2 (c.getD j.toNat .top)).J==2)=true
   .rw[if_pos g];trivial
   rw[if_neg g,wrap64 (by omega) (by omega)];refine⟨by show 0<=j+1;omega,?_⟩;show c.length-(j+1).toNat<c.length-j.toNat;omega
  rw[if_neg d];trivial
 obtain⟨b,j⟩:=a;replace e:0<=j:=e;refine⟨fun d=>⟨fun _=>?_,trivial⟩,trivial⟩;rw[bg]at d;rw[aP,bg,bg];exact⟨e,d⟩
def c69:bn Try.prog 69 s69 (pre 69) (cB 69):=by refine zF Ug Try.func69 (v:=Vx) ?_;intro g h c;obtain⟨d,_,rfl,e,f⟩:=aA.1 h;obtain⟨s,rfl⟩:=mo e;obtain rfl:=dk.1 f;refine zL D.Z D.bool false (fun _ _ l=>(let b:=(fW s.li s.lt s.le);let a:=(fi s.li s.lt s.le (i64.wrap (s.bH+1)) (i64.wrap (b.1-s.bH)));mV a (l.getD 0 .top).Z (l.getD 1 .top).J)) (y:=mZ s) (zE (QW s c))
def Un:jf Try.prog pre cB Z6:=aN c69 Ug
def agt(s:RS):Prop:=
 ((true=true->gn s.li s.lt s.le=true))/\(
 True)
def QX(s:RS)(h:Ok (s) 0):agt s:=by exact⟨fun _=>h.may,trivial⟩
def c68:bn Try.prog 68 xM (pre 68) (cB 68):=by refine zF Un Try.func68 (v:=afF) ?_;intro e h a;obtain⟨d,_,rfl,b,c⟩:=aA.1 h;obtain⟨s,rfl⟩:=mo b;obtain rfl:=dk.1 c;refine zH D.Z D.bool false (y:=pO s) (zE (QX s a))
def Uo:jf Try.prog pre cB VI:=aN c68 Un
def agF(x:D)(s:RS):Prop:=
 (True)/\(((s.role !=2)=false->
  (True)/\((((cD 0 x).J==1)=false->
   (True)/\((((cD 0 x).J !=2)=false->
    ((true=true->Ok s 0))/\(
    let a:=(pO s)
    (((((!a)==false)&&true)=true->Ok s 0))/\(
    let b:=(mZ s)
    (True)/\((((!a)||b)=false->
     ((true=true->Ok s 0))/\(
     True)))))))))))
def Rb(x:D)(s:RS)(h:Ok (s) 0):agF x s:=by
 (repeat' (first|exact trivial|apply And.intro|intro _))
 all_goals exact h
def c38:bn Try.prog 38 s38 (pre 38) (cB 38):=by refine zF Uo Try.func38 (v:=ZM) ?_;intro g h a;obtain⟨d,_,rfl,b,e⟩:=aA.1 h;obtain⟨s,rfl⟩:=mo b;obtain⟨x,_,rfl,f,c⟩:=aA.1 e;obtain rfl:=dk.1 c;refine zH D.J (D.int i64) 0 (y:=yO x s) (zE (Rb x s a))
def adQ:jf Try.prog pre cB afS:=aN c38 Uo
def agN(s:RS):Prop:=
 (True)/\(
 let b:=(jZ s.li s.lt s.le)
 ((true=true->gn s.li s.lt s.le=true))/\(
 let a:=(fW s.li s.lt s.le)
 ((true=true->Ok s 0))/\(
 True)))
def Rk(s:RS)(h:Ok (s) 0):agN s:=by exact⟨trivial,fun _=>h.may,fun _=>h,trivial⟩
def P9:bn Try.prog 12 s12 (pre 12) (cB 12):=by refine zF adQ Try.func12 (v:=afO) ?_;intro e h a;obtain⟨d,_,rfl,b,c⟩:=aA.1 h;obtain⟨s,rfl⟩:=mo b;obtain rfl:=dk.1 c;refine zH (fun d=>d) (fun d=>d) .top (y:=JN s) (zE (Rk s a))
def O1:jf Try.prog pre cB SO:=aN P9<|aN c38<|aN c68<|aN c69<|aN c76<|aN c32<|aN c29<|aN c49<|aN c65<|aN c74<|aN c50<|aN c25<|aN c28<|aN c26<|aN c24<|aN U6<|aN U5<|aN c60<|aN c52<|aN Vu<|aN c70<|aN c72<|aN c66<|aN c63<|aN c36<|aN YP<|aN c55<|aN c61<|aN c56<|aN c79<|vI
def c57:bn Try.prog 57 s57 (pre 57) (cB 57):=by refine zF O1 Try.func57 (v:=Zx) ?_;intro i h d;obtain⟨a,_,rfl,⟨a,rfl,g⟩,b,_,rfl,⟨b,rfl,f⟩,c,_,rfl,⟨c,rfl,e⟩,rfl⟩:=h;simp[Zx,fc,ep,dZ,cF,eh,dw,fb,fg,ff,den,B.den,cB,nY,bR,cK]
def Ux:jf Try.prog pre cB aac:=aN c57 O1
def c58:bn Try.prog 58 ln (pre 58) (cB 58):=by
 refine zF Ux Try.func58 (v:=Zw) ?_;intro ds h hp;obtain⟨_,_,rfl,⟨i,rfl,q⟩,_,_,rfl,⟨t,rfl,ht⟩,_,_,rfl,⟨l,rfl,f,R⟩,rfl⟩:=h;have p:=f.1;simp only[maxLen]at p;have Q:cB 58 [.int i64 i,.int i64 t,.list l]=.bool (gn i t l):=rfl;have s:∀n r q:Int,cB 57 [.int i64 n,.int i64 r,.int i64 q]=.bool (nY n r q):=fun _ _ _=>rfl;simp[Zw,fc,ep,dZ,cF,eh,dw,fb,fg,ff,fJ,den,U.den,B.den,fy,aV,cO,ez,ev,ew,fA,bR,cK,pre,cD,fl,vr,cr,rp,E.Y,List.range',Q,s,nY];refine⟨fun h=>?_,fun C A z y=>?_⟩
 .have:okB i t=false:=by rw[dM];intro c;obtain⟨M,k,L,k4⟩:=jL.1 c;simp only[MX]at k k4;omega
  simp[gn,this]
 refine kT.intro (MJ i t l) (FM l 3) ⟨0,i,t,rfl,aB _,jL.2 ⟨C,A,z,y⟩,rfl⟩ ?_;intro xs N S;obtain⟨n,j,u,rfl,O,m,g⟩:=S;obtain⟨M,k,L,k4⟩:=jL.1 m;simp only[MX]at k k4;rcases hx:l[n]? with _|x
 .have b:l.length<=n:=by rwa [dp]at hx
  rw[bQ b]at g;have a:¬((n:Int)<l.length):=by omega
  have o:gn i t l=true:=by simp[gn,jL.2 ⟨C,A,z,y⟩,<-g,qW]
  simp[bR,a,o]
 obtain⟨a,b⟩:=aD.1 hx;obtain⟨Z,Y,K,J⟩:=DV (R x (bT hx));rw[tV]at K J;rw[bJ a,b]at g;have e:(n:Int)<l.length:=by omega
 simp[bR,cK,hx,Z,Y,e,s,nY];by_cases c:ix x=j+1/\u<=tm x/\ix x<=MX/\tm x<=MX
 .obtain⟨X,W,V,T⟩:=c;simp only[MX]at V T;rw[wrap64 (n:=ix x-1) (by omega) (by omega),wrap64 (n:=(n:Int)+1) (by omega) (by omega)];refine⟨⟨fun w=>by omega,fun _ _ _ _ _ _=>⟨⟨n+1,ix x,tm x,rfl,a,jL.2 ⟨by omega,by simp only[MX];omega,by omega,by simp only[MX];omega⟩,?_⟩,?_⟩⟩,fun w=>by omega⟩
  .rw[<-g];simp[qW,X,W,MX,show j+1<=1099511627776 by omega,show tm x<=1099511627776 by omega]
  show l.length-((n:Int)+1).toNat<l.length-(n:Int).toNat;omega
 have o:gn i t l=false:=by simp only[gn,<-g,bY];right;rw[dM];intro P;obtain⟨a1,a2,a3,a4,_⟩:=im.1 P;exact c ⟨a1,a2,a3,a4⟩
 simp only[MX]at c;refine⟨⟨fun _=>o,fun I H G F w5 D=>?_⟩,fun w=>by omega⟩
 exact absurd ⟨by
  by_cases d:ix x=-9223372036854775808
  .rw[d]at G;omega
  rw[wrap64 (n:=ix x-1) (by omega) (by omega)]at I;omega,H,F,D⟩ c
def Uw:jf Try.prog pre cB aab:=aN c58 Ux
def c23:bn Try.prog 23 s23 (pre 23) (cB 23):=by
 refine zO Uw Try.func23 (v:=ZT) ?_;intro ds h j;obtain⟨_,_,rfl,⟨c,rfl,Q⟩,_,_,rfl,⟨e,rfl,P⟩,_,_,rfl,⟨a,rfl,C,D⟩,_,_,rfl,⟨i,rfl,hi⟩,_,_,rfl,⟨t,rfl,ht⟩,_,_,rfl,⟨l,rfl,I,hL⟩,rfl⟩:=h;obtain⟨j,p,q⟩:=j;replace j:gn i t l=true:=j;replace p:l.length<4294967296:=p;replace q:a.length<4294967296:=q;obtain⟨⟨k1,H,k3,k4⟩,S⟩:=eS.1 j;have z:=uE H S;simp only[MX]at z H k4;have R:cB 58 [.int i64 c,.int i64 e,.list a]=.bool (gn c e a):=rfl;have J:∀k:Int,cB 50 [.ptr [.int i64 i,.int i64 t,.list l],.int i64 k]=.fa [.int i64 (gA i t l k).1,.int i64 (gA i t l k).2]:=fun _=>rfl;have T:cB 23 [.int i64 c,.int i64 e,.list a,.int i64 i,.int i64 t,.list l]=.fa [.fa [.int i64 (iv i t l c e a).1,.bool (jt i t l c e a)],rb i t (iv i t l c e a).2]:=rfl;simp[ZT,fc,ep,dZ,cF,eh,dw,fb,fg,ff,fJ,den,U.den,B.den,fy,aV,cO,ez,ev,ew,fA,bR,cK,pre,cD,fl,vr,cr,rp,E.Y,List.range',R,J,T,rb,j];refine⟨fun h=>?_,fun h=>⟨fun g=>?_,fun g K=>?_⟩⟩
 .have:jt i t l c e a=false:=by simp[jt,h]
  simp[iv,this]
 .have:jt i t l c e a=false:=by
   rw[dM];intro m;simp only[jt,aP,beq_iff_eq]at m;rcases g with g|g
   .exact g m.1.2
   exact g m.2
  simp[iv,this]
 have G:jt i t l c e a=true:=by simp[jt,h,g,K]
 obtain⟨q1,q2,N⟩:=kZ g;obtain⟨_,F⟩:=eS.1 h;refine kT.intro (AJ i t l a) (FM a 2) ⟨0,(c-i).toNat,rfl,aB _,by omega,?_,rfl⟩ ?_
 .rw[<-N,K,show i+(((c-i).toNat:Nat):Int)=c by omega];exact F
 intro xs O V;obtain⟨n,s,rfl,A,hs,o,b⟩:=V;rcases hx:a[n]? with _|x
 .have f:a.length<=n:=by rwa [dp]at hx
  rw[bQ f]at b;have d:¬((n:Int)<a.length):=by omega
  simp[bR,cO,d,iv,G,<-b,qZ]
 obtain⟨d,f⟩:=aD.1 hx;obtain⟨e0,e1,_,_⟩:=DV (D x (bT hx));rw[bJ d,f]at b o;have u:(n:Int)<a.length:=by omega
 obtain⟨c1,c2,c3,c4,_⟩:=im.1 o;simp only[MX]at c3 c4;simp[bR,cO,ev,ez,cK,hx,e0,e1,u,ew,cD,fl,vr,List.range',J,rb,j];refine⟨⟨fun X W=>?_,fun y=>?_⟩,fun hq=>by omega⟩
 .have w:wV i t l x=true:=by simp[wV,X,W]
  obtain⟨M,L⟩:=Ga hs o w;rw[wrap64 (n:=(n:Int)+1) (by omega) (by omega)];refine⟨⟨n+1,s+1,rfl,d,M,L,?_⟩,?_⟩
  .rw[<-b]
   conv=>rhs;unfold qZ;rw[if_pos w]
  show a.length-((n:Int)+1).toNat<a.length-(n:Int).toNat;omega
 have w:wV i t l x=false:=by rw[dM];intro m;simp only[wV,aP,beq_iff_eq]at m;exact y m.1 m.2
 rw[wrap64 (n:=ix x-i) (by omega) (by omega),wrap64 (n:=ix x-i-1) (by omega) (by omega)]
 have Z:iv i t l c e a=(ix x,l.take (ix x-i-1).toNat++x::a.drop (n+1)):=by unfold iv;rw[if_pos G,<-b];unfold qZ;rw[if_neg (by simp[w])]
 have Y:a.drop n=x::a.drop (n+1):=by rw[bJ d,f]
 rw[Z,Y];have r:min (ix x-i-1).toNat l.length+(a.length-n)<=8589934592:=by omega
 refine⟨by omega,A,⟨aY r (by decide),aY (aw 320 r) (by decide)⟩,by omega,⟨rfl,G⟩,rfl⟩
def U0:jf Try.prog pre cB aau:=aN c23 Uw
def c71:bn Try.prog 71 s71 (pre 71) (cB 71):=by
 refine zO U0 Try.func71 (v:=Zq) ?_;intro H h a;obtain⟨_,_,rfl,⟨m,rfl,A⟩,cm,_,rfl,g,_,_,rfl,⟨i,rfl,f⟩,_,_,rfl,⟨t,rfl,z⟩,_,_,rfl,⟨l,rfl,o,C⟩,rfl⟩:=h;obtain⟨a,b⟩:=a;replace a:gn i t l=true:=a;replace b:l.length<4294967296:=b;obtain⟨⟨y,k,x,k4⟩,s⟩:=eS.1 a;have e:=uE k s;have p:=RZ g;simp only[MX]at e k k4;have r:cB 25 [.ptr [.int i64 i,.int i64 t,.list l]]=.fa [.int i64 (i+l.length),.int i64 (eJ t l)]:=rfl;have q:∀n j f:Int,cB 57 [.int i64 n,.int i64 j,.int i64 f]=.bool (nY n j f):=fun _ _ _=>rfl;have u:cB 71 [.int i64 m,cm,.int i64 i,.int i64 t,.list l]=.fa [.fa [ui i t l m cm,.int i64 (nq i t l m)],rb i t (pb i t l m cm)]:=rfl;simp[Zq,fc,ep,dZ,cF,eh,dw,fb,fg,ff,fJ,den,U.den,B.den,fy,aV,cO,ez,ev,ew,fA,bR,cK,pre,cD,fl,vr,cr,rp,E.Y,List.range',r,u,rb,a,q,nY,p];have d:(l.length+1:Nat)<=maxLen:=by simp only[maxLen];omega
 refine⟨fun h=>?_,fun G F D=>⟨fun w=>?_,fun w=>?_⟩⟩
 .have c:nq i t l m=1:=by unfold nq;rw[if_pos (by simp only[MX];omega)]
  simp[ui,pb,c,oh]
 .have c:nq i t l m=2:=by unfold nq;rw[if_neg (by simp only[MX];omega),if_pos (by simp only[MX];omega)]
  simp[ui,pb,c,oh]
 have c:nq i t l m=0:=by unfold nq;rw[if_neg (by simp only[MX];omega),if_neg (by simp only[MX];omega)]
 rw[wrap64 (n:=i+l.length+1) (by omega) (by omega)];refine⟨⟨d,by omega⟩,?_⟩;simp[ui,pb,c,wT];exact p
def Ul:jf Try.prog pre cB Z4:=aN c71 U0
def c51:bn Try.prog 51 s51 (pre 51) (cB 51):=by
 refine zO Ul Try.func51 (v:=ZB) ?_;intro z h b;obtain⟨_,_,rfl,⟨k,rfl,o⟩,_,_,rfl,⟨i,rfl,x⟩,_,_,rfl,⟨t,rfl,w⟩,_,_,rfl,⟨l,rfl,a,y⟩,rfl⟩:=h;replace b:gn i t l=true:=b;rw[tV]at o;obtain⟨⟨u,f,s,k4⟩,p⟩:=eS.1 b;have c:=uE f p;have d:=a.1;have g:=a.2;rw[nT]at g;simp only[MX]at c f k4;have m:cB 25 [.ptr [.int i64 i,.int i64 t,.list l]]=.fa [.int i64 (i+l.length),.int i64 (eJ t l)]:=rfl;have q:∀k:Int,cB 50 [.ptr [.int i64 i,.int i64 t,.list l],.int i64 k]=.fa [.int i64 (gA i t l k).1,.int i64 (gA i t l k).2]:=fun _=>rfl;have r:cB 51 [.int i64 k,.int i64 i,.int i64 t,.list l]=.fa [.int i64 (z6 i l k),rb (jR i t l k).1 (jR i t l k).2.1 (jR i t l k).2.2]:=rfl;simp[ZB,fc,ep,dZ,cF,eh,dw,fb,fg,ff,fJ,den,U.den,B.den,fy,aV,cO,ez,ev,ew,fA,bR,cK,pre,cD,fl,vr,cr,rp,E.Y,List.range',m,q,r,rb,b];refine⟨fun h=>by simp[z6,jR,h],fun h=>⟨fun j=>by simp[z6,jR,show¬(i+l.length<k) by omega,j],fun j=>?_⟩⟩;rw[wrap64 (n:=k-i) (by omega) (by omega)];have e:jR i t l k=(k,(gA i t l k).1,l.drop (k-i).toNat):=by unfold jR;rw[if_neg (by omega)]
 refine⟨by omega,⟨aY d (cG _ _),aY (aw 320 (by omega)) g⟩,by unfold z6;rw[if_neg (by omega)],by rw[e],by rw[e],by rw[e]⟩
def JD:jf Try.prog pre cB aah:=aN c51 Ul
def cnw:bn Try.prog 22 snw (fun c=>pre 22 c/\((cB 22 c).V.getD 0 .top).iL=false) (cB 22):=by
 refine zO JD Try.func22 (v:=Zh) ?_;intro c h j;obtain⟨_,_,rfl,⟨i,rfl,q⟩,_,_,rfl,⟨t,rfl,p⟩,rfl⟩:=h;have a:=j.2;have f:∀n:Int,cB 57 [.int i64 n,.int i64 0,.int i64 1099511627776]=.bool (nY n 0 1099511627776):=fun _=>rfl;change D.iL (cD 0 (lE i t))=false at a
 have d:okB i t=true/\(i=0↔t=0):=by refine Decidable.byContradiction fun k=>?_;rw[lE,if_neg k]at a;exact absurd (show true=false from a) (by decide)
 have l:cB 22 [.int i64 i,.int i64 t]=.fa [.fa [],rb i t []]:=by show lE i t=_;rw[lE,if_pos d]
 obtain⟨b,g⟩:=d;obtain⟨s,o,r,m⟩:=jL.1 b;simp only[MX]at o m;have e:(i==0)=(t==0):=by rw[cT];simpa using g
 simp[Zh,fc,ep,dZ,cF,eh,dw,fb,fg,ff,Fv,fJ,den,U.den,B.den,fy,aV,cO,ez,ev,ew,fA,bR,cK,pre,f,nY,l,rb,e];omega
def cnl:bn Try.prog 22 snl (fun b=>pre 22 b/\((cB 22 b).V.getD 0 .top).iL=true) (fun _=>.gv):=by
 refine zF JD Try.func22 (v:=Zi) ?_;intro b h e;obtain⟨_,_,rfl,⟨i,rfl,k⟩,_,_,rfl,⟨t,rfl,j⟩,rfl⟩:=h;have a:=e.2;have d:∀n:Int,cB 57 [.int i64 n,.int i64 0,.int i64 1099511627776]=.bool (nY n 0 1099511627776):=fun _=>rfl;change D.iL (cD 0 (lE i t))=true at a
 have g:¬(okB i t=true/\(i=0↔t=0)):=by intro f;rw[lE,if_pos f]at a;exact absurd (show false=true from a) (by decide)
 simp[Zi,fc,ep,dZ,cF,eh,dw,fb,fg,ff,Fv,fJ,den,U.den,B.den,fy,aV,cO,ez,ev,ew,fA,bR,cK,pre,d,nY];intro p o m l c;refine g ⟨jL.2 (by simp only[MX];omega),?_⟩;rw[cT]at c;simpa using c
end Go.Proofs.Ytjhmkaninmgilaa
