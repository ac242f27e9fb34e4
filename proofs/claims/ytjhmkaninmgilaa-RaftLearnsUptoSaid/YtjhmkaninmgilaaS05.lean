/- Part 5 of the proof of RaftLearns; no condition. -/
import Derived.Test.YtjhmkaninmgilaaS04
import Derived.Test.YtjhmkaninmgilaaS03
import Derived.Test.YtjhmkaninmgilaaProg
set_option linter.defProp false
set_option linter.unusedVariables false
set_option linter.unusedSimpArgs false
set_option maxHeartbeats 4000000
open Go.IntKind (i64)
namespace Go.Proofs.Ytjhmkaninmgilaa
open Go Go.RowKit Go.dF Go.Proofs
variable{C M K:Nat}{N:Int}{z s t:RS}
structure mK(N:Int)(m:D):Prop where
 n8:(cD 12 m).A.length<=8
 tW:(cD 12 m).A≠[]->(cD 4 m).q+(cD 12 m).A.length<=N
 snp:(cD 0 m).q=5->(cD 4 m).q<=N
 pos:∀e∈(cD 12 m).A,1<=tm e
structure Bs(N:Int)(s:RS):Prop where
 hd:s.pZ=s.li/\s.ng=s.lt
 zz:s.li=0↔s.lt=0
 G7:s.li<=s.bB/\s.bB<=s.li+s.le.length
 gH:0<s.li->1<=s.gN.length/\s.gN.length<=1048576
 PT:s.fR.length<=1048576
 PW:cZ s.lt s.le<=s.term
 oH:0<=s.vote/\s.vote<=MX
 top:s.li+s.le.length<=N
 pos:∀e∈s.le,1<=tm e
def zq(es:Taf)(f:Int):Taf:=es.filter fun e=>decide ((cD 0 e).q<f)
def xc(es:Taf)(i:Int):Taf:=es.filter fun e=>decide ((cD 0 e).q>i)
def Dz(E o:Taf):Taf:=if o=[] then E else zq E (cD 0 (o.getD 0 .top)).q++o
def aaN(s:RS):D:=.ptr [.int i64 s.li,.int i64 s.lt,.list s.sv,.list s.sl,.list s.gN]
structure Inv(z:RS)(N:Int)(s:RS):Prop extends Bs N s where
 lg:(s.il=.gI/\s.li=z.li/\s.lt=z.lt/\s.sv=z.sv/\s.sl=z.sl/\s.gN=z.gN/\Dz z.le s.dX=s.le)\/(s.il=aaN s/\s.dX=[]/\s.save=true/\(s.le=[] \/xc z.le s.li=s.le))
 ns:s.save=false->s.dX=[]/\s.il=.gI/\s.term=z.term/\s.vote=z.vote
 msg:∀m∈s.msgs,mK N m
 KL:∀e∈s.bM,0<=(cD 0 e).q/\(cD 0 e).q<=N
def iJ(s:RS):=(s.pZ,s.ng,s.sv,s.sl,s.gN,s.li,s.lt,s.le,s.bB,s.term,s.vote,s.save,s.dX,s.il,s.msgs,s.bM)
def Inv.pd(h:Inv z N s)(a:t.fR.length<=1048576)(e:iJ t=iJ s:=by rfl):Inv z N t:=by cases s;cases t;simp only[iJ,ah]at e;obtain⟨rfl,rfl,rfl,rfl,rfl,rfl,rfl,rfl,rfl,rfl,rfl,rfl,rfl,rfl,rfl,rfl⟩:=e;exact⟨⟨h.hd,h.zz,h.G7,h.gH,a,h.PW,h.oH,h.top,h.pos⟩,h.lg,h.ns,h.msg,h.KL⟩
def Inv.same(h:Inv z N s)(e:iJ t=iJ s:=by rfl)(a:t.fR=s.fR:=by rfl):Inv z N t:=h.pd (by rw[a];exact h.PT) e
def mK.mono{m:D}{c:Int}(h:mK N m)(b:N<=c):mK c m:=⟨h.n8,fun a=>cW (h.tW a) b,fun a=>cW (h.snp a) b,h.pos⟩
def Bs.mono{a:Int}(h:Bs N s)(b:N<=a):Bs a s:=⟨h.hd,h.zz,h.G7,h.gH,h.PT,h.PW,h.oH,cW h.top b,h.pos⟩
def Inv.mono{c:Int}(h:Inv z N s)(a:N<=c):Inv z c s:=⟨h.toBs.mono a,h.lg,h.ns,fun m d=>(h.msg m d).mono a,fun e b=>⟨(h.KL e b).1,cW (h.KL e b).2 a⟩⟩
def aal{m:D}(h:(cD 12 m).A=[])(c:(cD 0 m).q=5->(cD 4 m).q<=N):mK N m:=⟨by rw[h];exact aF _,fun a=>absurd h a,c,by rw[h];intro e b;cases b⟩
def Inv.send{m:D}(h:Inv z N s)(b:mK N m):Inv z N (gq m s):=by
 refine⟨⟨h.hd,h.zz,h.G7,h.gH,h.PT,h.PW,h.oH,h.top,h.pos⟩,h.lg,h.ns,fun y a=>?_,h.KL⟩;rcases aM.1 (show y∈s.msgs++[_] from a) with a|a
 .exact h.msg y a
 rw[ax.1 a];exact⟨b.n8,b.tW,b.snp,b.pos⟩
def Inv.oT{m:D}(h:Inv z N s)(c:(cD 12 m).A=[]:=by rfl)(b:((cD 0 m).q==5)=false:=by rfl):Inv z N (gq m s):=h.send (aal c fun a=>by rw[a]at b;cases b)
def Inv.V7{T V:Int}(h:Inv z N s)(d:s.term<=T)(c:0<=V)(b:V<=MX):Inv z N (fL {s with term:=T,vote:=V}):=
 ⟨⟨h.hd,h.zz,h.G7,h.gH,h.PT,cW h.PW d,⟨c,b⟩,h.top,h.pos⟩,h.lg.imp id (fun a=>⟨a.1,a.2.1,rfl,a.2.2.2⟩),fun a=>absurd (show true=false from a) (by decide),h.msg,h.KL⟩
def Inv.follow{x y:Int}(h:Inv z N s):Inv z N (eR x y s):=by
 unfold eR;split
 .rename_i a;rw[bk]at a;exact(h.V7 (T:=x) (V:=0) (by omega) (by decide) (by decide)).same
 exact h.same
def zW{l:Taf}{i t:Int}{e:D}(h:rr i t l=true)(b:e∈l):i<ix e/\ix e<=i+l.length:=by obtain⟨j,a⟩:=aE b;have d:=(zX h a).1;have c:=(aO.1 a).1;omega
def CD{l:Taf}{i t f:Int}{n:Nat}(h:rr i t l=true)(b:n<=l.length)(d:f=i+n+1):zq l f=l.take n:=by
 have e:=dq n l;have g:(l.take n).length=n:=by rw[aA];omega
 conv=>lhs;rw[<-e]
 unfold zq;rw[List.filter_append,List.filter_eq_self.2,List.filter_eq_nil_iff.2,dh]
 .intro x a;have c:=(zW (DZ n b h) a).1;rw[bk];show¬ix x<f;omega
 intro x a;have c:=(zW (tB n h) a).2;rw[bk];show ix x<f;omega
def Bb{l:Taf}{i t k:Int}(h:rr i t l=true)(d:i<=k)(c:k<=i+l.length):xc l k=l.drop (k-i).toNat:=by
 have e:=dq (k-i).toNat l
 conv=>lhs;rw[<-e]
 unfold xc;rw[List.filter_append,List.filter_eq_nil_iff.2,List.filter_eq_self.2,dW]
 .intro x a;have b:=(zW (DZ (k-i).toNat (by omega) h) a).1;rw[bk];show ix x>k;omega
 intro x a;have b:=(zW (tB (k-i).toNat h) a).2;rw[aA]at b;rw[bk];show¬ix x>k;omega
def PD{E o l:Taf}{e:D}{i t:Int}(h:Dz E o=l)(c:rr i t l=true)(b:ix e=i+l.length+1):Dz E (o++[e])=l++[e]:=by
 cases o with
 |nil=>
  have d:E=l:=h;subst d;show zq E (ix e)++[e]=E++[e];rw[CD c (aU _) b,dK]
 |cons a r=>
  have f:zq E (ix a)++a::r=l:=h;show zq E (ix a)++(a::r++[e])=l++[e];rw[<-f,dP]
def uU{l:Taf}{t:Int}(n:Nat):cZ (cZ t (l.take n)) (l.drop n)=cZ t l:=by rw[<-ke,dq]
def CV{i t:Int}{l:Taf}(f:rr i t l=true):∀{es:Taf} {n:Nat},n<=l.length->rr (i+n) (cZ t (l.take n)) es=true->
  (qb i t l es=(0,l)/\n+es.length<=l.length)\/∃(m:Nat) (x:D) (r:Taf),n<=m/\m<=l.length/\qb i t l es=(i+m+1,l.take m++x::r)/\(∀y∈x::r,y∈es)/\cZ t (l.take m++x::r)=cZ (cZ t (l.take n)) es/\i+m+(x::r).length=i+n+es.length
 |[],n,hn,h=>.inl ⟨rfl,by simpa using hn⟩
 |x::r,n,hn,h=>by
  unfold qb;by_cases a:rO i t l x=true
  .rw[if_pos a];obtain⟨j,g⟩:=F3 hn h a;rcases CV f j g with⟨h3,h4⟩|⟨m,y,q,h8,h3,h4,h5,h6,h7⟩
   .exact .inl ⟨h3,by simp only[bg];omega⟩
   refine .inr ⟨m,y,q,by omega,h3,h4,fun u b=>aK _ (h5 u b),?_,?_⟩
   .rw[h6];simp only[rO,aT,beq_iff_eq]at a;obtain⟨p,o,c⟩:=iF a.1;obtain⟨d,_⟩:=iu.1 h;have k:(ix x-i).toNat=n+1:=by omega
    rw[k]at c;rw[<-c,a.2];rfl
   simp only[bg]at h7⊢;omega
  rw[if_neg a];obtain⟨d,_⟩:=iu.1 h;have e:(ix x-i-1).toNat=n:=by omega
  rw[e];refine .inr ⟨n,x,r,aU _,hn,by rw[d],fun u b=>b,by rw[ke],rfl⟩
def Mh{i t pi pt:Int}{l es:Taf}(q:gn i t l=true)(k:jf i t l pi pt es=true):(iD i t l pi pt es=(0,l)/\pi+es.length<=i+l.length)\/∃(m:Nat) (x:D) (r:Taf),pi<=i+m/\m<=l.length/\iD i t l pi pt es=(i+m+1,l.take m++x::r)/\(∀y∈x::r,y∈es)/\cZ t (l.take m++x::r)=cZ pt es/\i+m+(x::r).length=pi+es.length:=by
 unfold iD;rw[if_pos k];obtain⟨E,u⟩:=eU.1 q;simp only[jf,aT,beq_iff_eq]at k;obtain⟨⟨w,v⟩,p⟩:=k;obtain⟨B,A,o⟩:=iF v;obtain⟨_,j⟩:=eU.1 w;have e:i+(((pi-i).toNat:Nat):Int)=pi:=by omega
 rcases CV u (es:=es) (n:=(pi-i).toNat) (by omega) (by rw[<-o,p,e];exact j) with⟨h,h'⟩|⟨m,x,r,g,a,b,c,d,f⟩
 .exact .inl ⟨h,by omega⟩
 exact .inr ⟨m,x,r,by omega,a,b,c,by rw[d,<-o,p],by rw[f,e]⟩
def Inv.put{c:D}(h:Inv z N s)(k:cK C M s K)(p:s.il=.gI):Inv z (N+1) (jY c s).2:=by
 obtain⟨v,n⟩:=eU.1 k.may
 have e:jY c s=if(mY s.li s.lt s.le s.term==0) then((aC 29 (tZ s.li s.lt s.le s.term (aC 27 c [])) [],mY s.li s.lt s.le s.term),{fL {s with li:=s.li,lt:=s.lt,le:=pE s.li s.lt s.le s.term (aC 27 c [])} with dX:=s.dX++[aC 29 (tZ s.li s.lt s.le s.term (aC 27 c [])) []]})
  else((aC 29 (tZ s.li s.lt s.le s.term (aC 27 c [])) [],mY s.li s.lt s.le s.term),{s with li:=s.li,lt:=s.lt,le:=pE s.li s.lt s.le s.term (aC 27 c [])}):=rfl
 rw[e];have g:N<=N+1:=by omega
 by_cases b:mY s.li s.lt s.le s.term=0
 .rw[if_pos (beq_iff_eq.2 b)];have u:tZ s.li s.lt s.le s.term (aC 27 c [])=vp s.li s.lt s.le s.term (aC 27 c []):=if_pos b;have i:pE s.li s.lt s.le s.term (aC 27 c [])=s.le++[vp s.li s.lt s.le s.term (aC 27 c [])]:=if_pos b;rw[u,i];have r:aC 29 (vp s.li s.lt s.le s.term (aC 27 c [])) []=vp s.li s.lt s.le s.term (aC 27 c []):=rfl;rw[r]
  have A:1<=s.term:=by
   unfold mY at b;split at b
   .cases b
   rename_i w;omega
  generalize j:vp s.li s.lt s.le s.term (aC 27 c [])=x;have f:ix x=s.li+s.le.length+1:=by rw[<-j];rfl
  have o:tm x=s.term:=by rw[<-j];rfl
  rcases h.lg with⟨l1,l2,l3,l4,l5,l6,l7⟩|⟨l1,_⟩
  .refine⟨⟨h.hd,h.zz,⟨h.G7.1,?_⟩,h.gH,h.PT,?_,h.oH,?_,?_⟩,.inl ⟨l1,l2,l3,l4,l5,l6,PD l7 n f⟩,fun a=>absurd (show true=false from a) (by decide),fun m q=>(h.msg m q).mono g,fun e l=>⟨(h.KL e l).1,cW (h.KL e l).2 g⟩⟩
   .show s.bB<=s.li+((s.le++[x]).length:Int);have:=h.G7.2;rw[ai,aW];omega
   .show cZ s.lt (s.le++[x])<=s.term;rw[ke];show tm x<=s.term;omega
   .show s.li+((s.le++[x]).length:Int)<=N+1;have:=h.top;rw[ai,aW];omega
   intro y d;rcases aM.1 (show y∈s.le++[x] from d) with d|d
   .exact h.pos y d
   rw[ax.1 d];omega
  rw[p]at l1;cases l1
 rw[if_neg (by simpa using b)];have i:pE s.li s.lt s.le s.term (aC 27 c [])=s.le:=if_neg b;rw[i];exact(h.mono g).same
def Inv.bM{x:Int}(h:Inv z N s)(k:cK C M s K)(d:x<=s.li+s.le.length):Inv z N (en x s).2:=by
 have e:en x s=if decide (x<=s.bB) then(false,s) else(mR (eJ s.li s.lt s.le (i64.wrap (s.bB+1)) (i64.wrap (x-s.bB))) (D.fn 84 []),{s with bM:=s.bM++eJ s.li s.lt s.le (i64.wrap (s.bB+1)) (i64.wrap (x-s.bB)),bB:=x}):=rfl
 rw[e];obtain⟨⟨f,_⟩,c⟩:=eU.1 k.may;by_cases b:decide (x<=s.bB)=true
 .rw[if_pos b];exact h
 rw[if_neg b];rw[bk]at b;refine⟨⟨h.hd,h.zz,⟨?_,d⟩,h.gH,h.PT,h.PW,h.oH,h.top,h.pos⟩,h.lg,h.ns,h.msg,?_⟩
 .show s.li<=x;have:=h.G7.1;omega
 intro y a;rcases aM.1 (show y∈s.bM++eJ s.li s.lt s.le _ _ from a) with a|a
 .exact h.KL y a
 obtain⟨j,g⟩:=zW c (qk (i:=s.li) a);have:=h.top;show 0<=ix y/\ix y<=N;omega
def Inv.mZ{x:Int}(h:Inv z N s)(k:cK C M s K)(v:0<=x)(q:x<=5):Inv z N (fy x s):=by
 obtain⟨A,f⟩:=k.li;have d:∀(m:D) (t:RS),mK N m->iJ t=iJ s->t.fR=s.fR->Inv z N (gq m t):=fun m t g e w=>(h.same e w).send g;have u:∀m:D,(cD 12 m).A=[]->(cD 4 m).q=s.pZ->mK N m:=fun m a b=>aal a fun _=>by rw[b,h.hd.1];have:=h.top;omega
 have r:∀(m:D) (p:Int),(cD 12 m).A=eJ s.li s.lt s.le p 8->(cD 4 m).q=i64.wrap (p-1)->(cD 0 m).q=3->mK N m:=by
  intro m p a b c;refine⟨?_,?_,fun a=>(by rw[c]at a;cases a),?_⟩
  .rw[a];unfold eJ gu;split
   .exact aF _
   exact List.length_take_le _ _
  .rw[a,b];unfold eJ gu;split
   .intro a;exact absurd rfl a
   rename_i B;intro a
   have E:(p-s.li-1).toNat<s.le.length:=by
    by_cases j:(p-s.li-1).toNat<s.le.length
    .exact j
    exact absurd (by rw[bL (by omega),List.take_nil]) a
   simp only[MX]at f;rw[wrap64 (by omega) (by omega),aA,ba];have:=h.top;omega
  rw[a];intro e l;exact h.pos e (qk (i:=s.li) l)
 refine uV (P:=Inv z N) v q fun m n o y _ e _=>?_;unfold PS;split
 .exact d _ _ (u _ rfl rfl) (congrArg iJ e:) (congrArg RS.fR e:)
 exact d _ _ (r _ _ rfl rfl rfl) rfl rfl
def Inv.agree(h:Inv z N s)(k:cK C M s (K+1)):Inv z N (gS s):=by
 unfold gS nD;refine fZ (fun a:Taf×Int=>0<=a.2/\a.2<=5) (fun t=>Inv z N t) (fun a=>5-a.2.toNat) ?_ _ _ ⟨by show(0:Int)<=0;omega,by show(0:Int)<=5;omega⟩ (ca _);intro a e;revert e;generalize a.2=j;generalize a.1=l;rintro⟨g,f⟩;unfold lZ;have d:j=0\/j=1\/j=2\/j=3\/j=4\/j=5:=by omega
 rcases d with rfl|rfl|rfl|rfl|rfl|rfl<;>(repeat (first|rw[if_pos (by decide)] |rw[if_neg (by decide)]))
 all_goals first
  |(refine⟨⟨?_,?_⟩,?_⟩<;>(dsimp only;decide))
  |(show Inv z N (nF _ _ _)
    unfold nF;dsimp only;split
    .exact h
    rename_i b;simp only[bW,not_or,bne_iff_ne,ne_eq,fK]at b;have c:=h.bM k (iF b.1.2).2.1;split
    .exact c.follow.same
    exact c)
def CF{B:Type}{x:Taf}{step:Int->RS->(Int×RS)⊕B}{ex:RS->B}{bad:B}{m:Int->RS->Nat}{Q:B->Prop}(j:x.length<=10/\∀y∈x,1<=y.q/\y.q<=5)(e:∀i t,step i t=if decide (i<(x.length:Int)) then .inl (i64.wrap (i+1),fy ((x.getD i.toNat .top).q) t) else .inr (ex t))(h:∀i t,m i t=x.length-i.toNat)(k:Inv z N s/\cK C M s (K+10))(o:∀t,Inv z N t->cK C M t K->Q (ex t)):
  Q (iz (fun a:Int×RS=>step a.1 a.2) bad (m 0 s+1) (0,s)):=by
 refine fZ (fun a:Int×RS=>0<=a.1/\a.1<=x.length/\Inv z N a.2/\cK C M a.2 (K+(10-a.1.toNat))) Q (fun a=>m a.1 a.2) ?_ _ _ ⟨ar 0,dp _,k⟩ (ca _);rintro⟨i,t⟩ ⟨q,p,f,d⟩;simp only at q p d f;obtain⟨r,l⟩:=j;rw[e];by_cases b:decide (i<(x.length:Int))=true
 .rw[if_pos b];rw[bk]at b;have c:i.toNat<x.length:=by omega
  have g:=l _ (aN c);have n:x.getD i.toNat .top=x[i.toNat]:=by rw[ae,aS c];rfl
  rw[n,wrap64 (by omega) (by omega)];refine⟨⟨by show 0<=i+1;omega,by show i+1<=_;omega,f.mZ d (by omega) g.2,?_⟩,by show m (i+1) _<m i t;rw[h,h];omega⟩;show cK C M (fy _ t) (K+(10-(i+1).toNat));exact cK.mZ (d.le (by omega)) (by omega) g.2
 rw[if_neg b];exact o t f (d.le (by omega))
def Inv.lead(h:Inv z N s)(k:cK C M s (K+12))(e:s.il=.gI):Inv z (N+1) (rB s):=by
 have m:∀t,Inv z N t->cK C M t (K+12)->t.il=.gI->Inv z (N+1) (oh t):=by intro t d b e;unfold oh;dsimp only;have f:cK C M (jY (aC 27 C4 [(0,.int i64 1)]) t).2 (K+11):=b.put (by intro g;exact absurd g (by decide));exact CF (K:=K+1) (Q:=fun t=>Inv z (N+1) t) (gz (c:=aC 2 (dR _) []) (gL f)) (fun _ _=>rfl) (fun _ _=>rfl) ⟨d.put b e,f⟩ (fun t d b=>d.agree b)
 unfold rB qd;refine fZ (fun a:Int×RS=>0<=a.1/\a.1<=6/\Inv z N a.2/\cK C M a.2 (K+12)/\a.2.il=.gI) (fun t=>Inv z (N+1) t) (fun a=>6-a.1.toNat) ?_ _ _ ⟨by show(0:Int)<=0;omega,by show(0:Int)<=6;omega,h.same,⟨k.may,k.uA,k.vj,k.rI,k.nm,k.ne,k.nc,k.nv,k.cf,k.cs,k.cl,k.tm,k.tx,rfl⟩,e⟩ (ca _);intro a l;revert l;generalize a.2=t;generalize a.1=j;rintro⟨o,n,d,b,e⟩;unfold r8;have i:j=0\/j=1\/j=2\/j=3\/j=4\/j=5\/j=6:=by omega
 rcases i with rfl|rfl|rfl|rfl|rfl|rfl|rfl<;>(repeat (first|rw[if_pos (by decide)] |rw[if_neg (by decide)]))
 all_goals first
  |exact m t d b e
  |(refine⟨⟨?_,?_,d.same,b.same iR,e⟩,?_⟩<;>(dsimp only;decide))
def Inv.E3{c:D}(h:Inv z N s)(k:cK C M s (K+13))(q:gF c=true)(g:s.term<MX)(p:s.il=.gI):Inv z (N+1) (ks c s):=by
 have m:=k.Dc g;have o:IntKind.wrap i64 (s.term+1)=s.term+1:=wrap64 (by have:=k.tm;omega) (by simp only[MX]at g;omega)
 have l:Inv z N ({fL ({s with term:=i64.wrap (s.term+1),vote:=s.id}:RS) with role:=1,bG:=0,aX:=[.int i64 s.id]}:RS):=
  (h.V7 (T:=i64.wrap (s.term+1)) (V:=s.id) (by rw[o];omega) (by have:=k.uA;omega) (by have:=k.vj;simp only[MX];omega)).same
 unfold ks;dsimp only;split
 .exact l.lead (m.le (by omega:K+12<=K+13)) p
 generalize n:fV _ _=x;have e:x.length<=10:=by rw[<-n];exact(gz (c:=aC 2 c []) q).1
 unfold kS;refine fZ (fun a:Int×RS=>0<=a.1/\a.1<=x.length/\Inv z N a.2) (fun t=>Inv z (N+1) t) (fun a=>x.length-a.1.toNat) ?_ _ _ ⟨ar 0,dp _,l⟩ (ca _);intro a r;revert r;generalize a.2=t;generalize a.1=i;rintro⟨v,u,d⟩;unfold mf;dsimp only;by_cases b:decide (i<(x.length:Int))=true
 .rw[if_pos b];rw[bk]at b;rw[wrap64 (by omega) (by omega)];have j:x.length-(i+1).toNat<x.length-i.toNat:=by omega
  by_cases f:jM (aC 2 c []) ((x.getD i.toNat .top).q)=true
  .rw[if_pos f];exact⟨⟨by show 0<=i+1;omega,by show i+1<=_;omega,Inv.oT d⟩,j⟩
  rw[if_neg f];exact⟨⟨by show 0<=i+1;omega,by show i+1<=_;omega,d⟩,j⟩
 rw[if_neg b];exact d.mono (by omega)
variable{C M K:Nat}{N:Int}{z s t:RS}{x:D}
def Inv.ite{c:Prop}[Decidable c]{a b:RS}(e:c->Inv z N a)(d:¬c->Inv z N b):Inv z N (if c then a else b):=by
 split
 .exact e (by assumption)
 exact d (by assumption)
def Inv.refuse(h:Inv z N s):Inv z N (lE x s):=by
 unfold lE;dsimp only
 repeat' split
 all_goals first
  |exact h.oT
  |exact h
def Inv.vote(h:Inv z N s)(c:0<=(cD 1 x).q)(b:(cD 1 x).q<=MX):Inv z N (nU x s):=by
 unfold nU;dsimp only;split
 .split
  .have a:Inv z N (kA (fL ({s with vote:=(cD 1 x).q}:RS))):=(h.V7 (T:=s.term) (ar _) c b).same;exact a.oT
  have a:Inv z N (kA s):=h.same;exact a.oT
 exact h.oT
def Inv.E2(h:Inv z N s)(k:cK C M s (K+13))(d:s.il=.gI):Inv z (N+1) (kO x s):=by
 have e:=k.nv
 have c:cK C M ({s with aX:=s.aX++[cD 1 x]}:RS) (K+12):=by have a:=k.le (by omega:K+12<=K+13);refine⟨a.may,a.uA,a.vj,a.rI,a.nm,a.ne,a.nc,?_,a.cf,a.cs,a.cl,a.tm,a.tx,a.rd⟩;show(s.aX++[cD 1 x]).length+(K+12)<=_;rw[ai,aW];omega
 have b:Inv z N ({s with aX:=s.aX++[cD 1 x]}:RS):=h.same;unfold kO;dsimp only;refine Inv.ite (fun _=>h.mono (by omega)) fun _=>Inv.ite (fun _=>b.lead c d) fun _=>b.mono (by omega)
def qR:(gR x s=(false,s))\/∃u,gR x s=(true,u)/\iJ u=iJ s/\u.fR=s.fR/\u.nW=s.nW:=by
 unfold gR;dsimp only;split
 .exact .inl rfl
 refine .inr ⟨_,rfl,?_⟩;unfold eR;rw[if_neg (by simp)];exact⟨rfl,rfl,rfl⟩
def Inv.left(h:Inv z N s)(a:s.il=.gI):s.li=z.li/\s.lt=z.lt/\s.sv=z.sv/\s.sl=z.sl/\s.gN=z.gN/\Dz z.le s.dX=s.le:=by
 rcases h.lg with h|h
 .exact h.2
 rw[a]at h;cases h.1
def LJ{l:Taf}{i:Int}(h:(decide ((l.length:Int)>0)&&decide ((cD 1 (l.getD (i64.wrap ((l.length:Int)-1)).toNat .top)).q>i))=false)(c:l.length<=4611686018427387904){p:Int}(b:p<=i):cZ p l<=i:=by
 by_cases a:l=[]
 .subst a;exact b
 have d:0<l.length:=eQ.2 a;rw[wrap64 (by omega) (by omega)]at h;have e:((l.length:Int)-1).toNat=l.length-1:=by omega
 rw[e,ae,aS (by omega),bz]at h;rw[tN (aS (by omega))];rw[Bool.and_eq_false_iff]at h;rcases h with h|h
 .rw[decide_eq_false_iff_not]at h;omega
 rw[decide_eq_false_iff_not]at h;show(cD 1 _).q<=i;omega
def Inv.append(h:Inv z N s)(k:cK C M s (K+3+(cD 12 x).A.length))(J:eW (cD 12 x).A=true)(H:mK N x)(S:s.il=.gI)(ho:s.dX=[])(hl:∀p≤s.term,cZ p (cD 12 x).A<=s.term)(h5:(cD 5 x).q<=s.term):Inv z N (jj x s):=by
 have R:(cD 12 (aC 46 x []))=cD 12 x:=rfl;unfold jj;rcases qR (x:=aC 46 x []) (s:=s) with B|⟨u,B,T,e2,e3⟩
 .rw[B];exact h
 have A:cK C M u (K+3+(cD 12 x).A.length):=by have:=k.vH (x:=aC 46 x []);rw[B]at this;exact this
 have d:=h.same T e2;have v:=T;simp only[iJ,ah]at v;obtain⟨_,_,_,_,_,f6,f7,f8,_,P,_,_,O,q,_⟩:=v;rw[B];dsimp only;rw[if_neg (by decide)];refine Inv.ite (fun _=>d.oT) fun L=>?_;have b:=cK.accept (pi:=(cD 4 x).q) (pt:=(cD 5 x).q) A J;obtain⟨Y,X,W,V,U,w⟩:=d.left (by rw[q];exact S);rw[O,ho]at w;have w:z.le=u.le:=w;obtain⟨⟨k1,k2,_⟩,Q⟩:=eU.1 A.may;have I:=pN k2 Q;simp only[MX]at I;generalize c:iD u.li u.lt u.le (cD 4 x).q (cD 5 x).q (cD 12 x).A=acc at b;have eo:vP u.li u.lt u.le (cD 4 x).q (cD 5 x).q (cD 12 x).A=((acc.1,jf u.li u.lt u.le (cD 4 x).q (cD 5 x).q (cD 12 x).A),u.li,u.lt,acc.2):=by unfold vP;rw[c]
 rw[eo];dsimp only;refine Inv.ite (fun i=>?_) fun i=>?_
 .have j:acc=(0,u.le):=by rw[<-c];unfold iD;rw[if_neg (by simpa using i)]
  subst j;exact Inv.oT d
 have g:jf u.li u.lt u.le (cD 4 x).q (cD 5 x).q (cD 12 x).A=true:=by simpa using i
 have a0:=H.n8;rcases Mh (pi:=(cD 4 x).q) (pt:=(cD 5 x).q) (es:=(cD 12 x).A) A.may g with⟨j,af3⟩|⟨m,y,r,hm0,hm1,j,hm3,hm4,hm5⟩
 .rw[c]at j;subst j;rw[if_neg (by simp)]
  have E:i64.wrap ((cD 4 x).q+((cD 12 x).A.length:Int))<=u.li+u.le.length:=by simp only[jf,aT]at g;obtain⟨⟨p0,_⟩,_⟩:=eU.1 g.1.1;rw[wrap64 (by omega) (by omega)];exact af3
  exact Inv.oT (Inv.bM (s:={u with li:=u.li,lt:=u.lt,le:=u.le}) d A (by show iN _ _<=_;unfold iN;split<;>omega))
 rw[c]at j;subst j;have G:(cD 12 x).A≠[]:=fun e=>by have:=hm3 y br;rw[e]at this;cases this
 have a1:=H.tW G;have l:(u.le.take m).length=m:=by rw[aA];omega
 rw[bk]at L;have f:(((u.le.take m++y::r).length:Nat):Int)=m+(y::r).length:=by rw[ai,l];omega
 have hB:Inv z N ({fL ({u with li:=u.li,lt:=u.lt,le:=u.le.take m++y::r}:RS) with dX:=y::r}:RS):=by
  refine⟨⟨d.hd,d.zz,⟨d.G7.1,?_⟩,d.gH,d.PT,?_,d.oH,?_,?_⟩,.inl ⟨show u.il=.gI by rw[q];exact S,Y,X,W,V,U,?_⟩,fun a=>absurd (show true=false from a) (by decide),d.msg,d.KL⟩
  .show u.bB<=u.li+((u.le.take m++y::r).length:Int);rw[f];omega
  .show cZ u.lt (u.le.take m++y::r)<=u.term;rw[hm4,P];exact hl _ h5
  .show u.li+((u.le.take m++y::r).length:Int)<=N;rw[f];omega
  .intro e o;rcases aM.1 (show e∈u.le.take m++y::r from o) with o|o
   .exact d.pos e (cw o)
   exact H.pos e (hm3 e o)
  show zq z.le (ix y)++y::r=u.le.take m++y::r;obtain⟨_,D⟩:=eU.1 b.may;have hy:ix y=u.li+m+1:=(zX D (n:=m) (x:=y) (by show(u.le.take m++y::r)[m]?=some y;rw[aL (by omega),l,Nat.sub_self];rfl)).1;rw[w,CD Q hm1 hy]
 rw[if_pos (decide_eq_true (by omega))];have E:i64.wrap ((cD 4 x).q+((cD 12 x).A.length:Int))=u.li+m+(y::r).length:=by rw[<-hm5];exact wrap64 (by simp only[bg]at hm5;omega) (by omega)
 have hs:eJ (fL ({u with li:=u.li,lt:=u.lt,le:=u.le.take m++y::r}:RS)).li (fL ({u with li:=u.li,lt:=u.lt,le:=u.le.take m++y::r}:RS)).lt (fL ({u with li:=u.li,lt:=u.lt,le:=u.le.take m++y::r}:RS)).le (u.li+(m:Int)+1) (i64.wrap ((cD 4 x).q+((cD 12 x).A.length:Int)))=y::r:=by show gu u.li (u.le.take m++y::r) (u.li+(m:Int)+1) _=_;rw[E];unfold gu;rw[if_neg (by simp only[bg];omega),show(u.li+(m:Int)+1-u.li-1).toNat=m by omega,List.drop_append_of_le_length (by omega),bL (by omega),dW];exact eM (by omega)
 rw[hs]
 have Z:cK C M ({fL ({u with li:=u.li,lt:=u.lt,le:=u.le.take m++y::r}:RS) with dX:=y::r}:RS) (K+3):=by have F:(u.le.take m++y::r).length+(K+3)<=_:=b.rI;exact⟨b.may,b.uA,b.vj,b.rI,b.nm,(by show(y::r).length+(K+3)<=_;rw[ai]at F;omega),b.nc,b.nv,b.cf,b.cs,b.cl,b.tm,b.tx,b.rd⟩
 refine Inv.oT (hB.bM Z ?_);show iN _ _<=u.li+((u.le.take m++y::r).length:Int);rw[f,E];unfold iN;split<;>omega
def Inv.om(h:Inv z N s)(k:cK C M s K):Inv z N (fN x s):=by unfold fN kb;dsimp only;unfold iz ka;rw[if_neg (by rw[k.rd];exact(by decide:¬decide ((0:Int)<(([]:Taf).length:Int))=true))];exact h.same
def Inv.has{a b:Int}(h:Inv z N s)(k:cK C M s (K+2))(i:0<=a)(g:a<=5):Inv z N (tY a b s):=by refine xB (P:=Inv z N) i g fun m n t c _ e _=>?_;have f:Inv z N t:=h.same (congrArg iJ e:) (congrArg RS.fR e:);have d:cK C M t (K+2):=k.same (lD e);exact Inv.ite (fun _=>(f.agree (K:=K+1) d).mZ (cK.agree (k:=K+1) d) i g) fun _=>f.agree d
def Inv.appended(h:Inv z N s)(k:cK C M s (K+2))(b:0<=(cD 1 x).q)(a:(cD 1 x).q<=5):Inv z N (hH x s):=by have d:Inv z N (fN (aC 46 x []) s):=h.om k;have c:cK C M (fN (aC 46 x []) s) (K+2):=k.om;exact oD (P:=Inv z N) rfl b a h (fun _ _ _ t _ e _=>Inv.mZ (s:=t) (d.same (congrArg iJ e:) (congrArg RS.fR e:)) (c.same (lD e)) b a) fun _ _=>d.has c b a
def Inv.vL(h:Inv z N s)(k:cK C M s (K+2))(b:0<=(cD 1 x).q)(a:(cD 1 x).q<=5):Inv z N (iH x s):=
 pP (P:=Inv z N) b a h (fun _ _ _=>h.has k b a) fun _ t e _=>Inv.mZ (s:=t) (h.same (congrArg iJ e:) (congrArg RS.fR e:)) (k.same (lD e)) b a
def DE{ts:Tal}{j:Nat}{t:Ty}{x:D}(h:Has (.agg (.V ts)) x)(c:ts[j]?=some t):Has t (cD j x):=by
 obtain⟨l,rfl,b⟩:=dU.1 h;obtain⟨y,a,d⟩:=cJ b j t (by rw[Ty.dm];exact c);have:cD j (.agg l)=y:=by show l.getD j .top=y;rw[ae,a];rfl
 rw[this];exact d
def Inv.BX{u r:RS}{pd:Taf}(h:Inv z N u)(k:cK C M u K)(B:Inv z N r)(O:u.il=.gI)(o:u.dX=[])(L:pd.length<=1048576)(hc:¬(cD 4 x).q<=u.bB)(Q:(cD 5 x).q<=u.term)(hN:(cD 4 x).q<=N)(l:Has hP x):Inv z N (rR x u pd r):=by
 obtain⟨X,W,V,U,T,i⟩:=h.left O;rw[o]at i;have i:z.le=u.le:=i;obtain⟨⟨k1,k2,Z,Y⟩,J⟩:=eU.1 k.may;have A:=h.G7.1;obtain⟨_,n,_⟩:=DE (j:=4) l rfl;obtain⟨_,m,_⟩:=DE (j:=5) l rfl;obtain⟨_,d,_⟩:=DE (j:=13) l rfl;obtain⟨_,c,_⟩:=DE (j:=14) l rfl;have n:cD 4 x=.int i64 (cD 4 x).q:=by rw[n];rfl
 have m:cD 5 x=.int i64 (cD 5 x).q:=by rw[m];rfl
 have d:cD 13 x=.list (cD 13 x).A:=by rw[d];rfl
 have c:cD 14 x=.list (cD 14 x).A:=by rw[c];rfl
 unfold rR;dsimp only;refine Inv.ite (fun _=>B.oT) fun b=>Inv.ite (fun _=>B.oT) fun y=>?_;obtain⟨S,I⟩:=DV b
 have v:(cD 4 x).q=0↔(cD 5 x).q=0:=by
  unfold lT at b;split at b
  .rename_i P;exact P.2
  exact absurd rfl b
 have f:1<=pd.length/\pd.length<=1048576:=by simp only[Bool.and_true,bW,not_or,bne_iff_ne,ne_eq,fK,bk]at y;obtain⟨⟨H,G⟩,_⟩:=y;omega
 refine Inv.ite (fun w=>Inv.oT ?_) fun _=>Inv.oT ?_
 .simp only[aT,beq_iff_eq]at w;obtain⟨E,q⟩:=w;obtain⟨H,G,F⟩:=iF E
  have R:iY u.li u.lt u.le (cD 4 x).q=(uq u.li u.le (cD 4 x).q,(cD 4 x).q,(cD 5 x).q,u.le.drop ((cD 4 x).q-u.li).toNat):=by unfold iY iT;rw[if_neg (by omega)];have g:(gl u.li u.lt u.le (cD 4 x).q).1=(cD 5 x).q:=q;rw[g]
  rw[R];dsimp only;refine⟨⟨⟨rfl,rfl⟩,v,⟨ar _,?_⟩,fun _=>f,aF _,?_,h.oH,?_,?_⟩,.inr ⟨?_,o,rfl,.inr ?_⟩,fun a=>absurd (show true=false from a) (by decide),h.msg,h.KL⟩
  .show(cD 4 x).q<=(cD 4 x).q+((u.le.drop _).length:Int);omega
  .show cZ (cD 5 x).q (u.le.drop _)<=u.term;have g:(gl u.li u.lt u.le (cD 4 x).q).1=(cD 5 x).q:=q;rw[<-g,F,uU];exact h.PW
  .show(cD 4 x).q+((u.le.drop ((cD 4 x).q-u.li).toNat).length:Int)<=N;have:=h.top;rw[ba];omega
  .intro e p;exact h.pos e (cz (show e∈u.le.drop _ from p))
  .show D.ptr [cD 4 x,cD 5 x,cD 13 x,cD 14 x,.list pd]=.ptr [.int i64 (cD 4 x).q,.int i64 (cD 5 x).q,.list (cD 13 x).A,.list (cD 14 x).A,.list pd];rw[<-n,<-m,<-d,<-c]
  show xc z.le (cD 4 x).q=u.le.drop ((cD 4 x).q-u.li).toNat;rw[i];exact Bb J (by omega) (by omega)
 rw[I];refine⟨⟨⟨rfl,rfl⟩,v,⟨ar _,?_⟩,fun _=>f,aF _,Q,h.oH,?_,?_⟩,.inr ⟨?_,o,rfl,.inl rfl⟩,fun a=>absurd (show true=false from a) (by decide),h.msg,h.KL⟩
 .show(cD 4 x).q<=(cD 4 x).q+((([]:Taf).length:Nat):Int);omega
 .show(cD 4 x).q+((([]:Taf).length:Nat):Int)<=N;simp only[fj];omega
 .intro e p;cases (show e∈([]:Taf) from p)
 show D.ptr [cD 4 x,cD 5 x,cD 13 x,cD 14 x,.list pd]=.ptr [.int i64 (cD 4 x).q,.int i64 (cD 5 x).q,.list (cD 13 x).A,.list (cD 14 x).A,.list pd];rw[<-n,<-m,<-d,<-c]
def Inv.snap(h:Inv z N s)(k:cK C M s K)(y:s.il=.gI)(w:s.dX=[])(E:(cD 5 x).q<=s.term)(A:(cD 4 x).q<=N)(v:Has hP x):Inv z N (nV x s):=by
 unfold nV;rcases qR (x:=aC 46 x []) (s:=s) with f|⟨u,f,o,F,O⟩
 .rw[f];exact h
 have r:cK C M u K:=by have:=k.vH (x:=aC 46 x []);rw[f]at this;exact this
 have c:=h.same o F;have e:=o;simp only[iJ,ah]at e;obtain⟨_,_,_,_,_,L,J,I,_,l,_,_,j,i,_⟩:=e;rw[f];dsimp only;rw[if_neg (by decide)];have d:=c.PT;refine Inv.ite (fun _=>c.oT) fun n=>?_;rw[bk]at n;have go:∀(pd:Taf) (g:RS),pd.length<=1048576->Inv z N g->Inv z N (rR x u pd g):=fun pd g d B=>c.BX r B (by rw[i];exact y) (by rw[j];exact w) d n (by rw[l];exact E) A v
 have m:∀(p:Taf),p.length<=1048576->(decide (((cD 15 x).A.length:Int)<=i64.wrap ((cD 10 x).q-(p.length:Int)))&&ny (cD 10 x).q 1 1048576)=true->(p++(cD 15 x).A).length<=1048576:=by intro p d b;simp only[ny,aT,bk]at b;obtain⟨q,H,G⟩:=b;rw[wrap64 (by omega) (by omega)]at q;rw[ai];omega
 refine Inv.ite (fun _=>Inv.ite (fun b=>?_) fun _=>?_) fun _=>Inv.ite (fun b=>?_) fun _=>?_
 .have a:=m [] (aF _) (by simp only[aT]at b⊢;exact⟨b.1.2,b.2⟩);refine go _ _ a ?_;exact c.pd a
 .refine go _ _ (aF _) ?_;exact c.pd (aF _)
 .have a:=m u.fR d (by simp only[aT]at b⊢;exact⟨b.1.2,b.2⟩);refine go _ _ a ?_;exact c.pd a
 exact go _ _ d c
structure Idle(s:RS):Prop where
 save:s.save=false
 snap:s.il=.gI
 G7:s.bM=[]
 KV:s.dX=[]
 msgs:s.msgs=[]
def LN(t:RS):Idle (bR t).2:=⟨rfl,rfl,rfl,rfl,rfl⟩
end Go.Proofs.Ytjhmkaninmgilaa
namespace Go.Proofs.Ytjhmkaninmgilaa
open Go Go.dF Go.Proofs Go.Shelf
def El:Go.Shelf.Ren:=⟨fun|189=>82|125=>86|257=>85|128=>96|129=>97|294=>87|295=>88|296=>89|297=>90|298=>91|299=>92|216=>93|300=>94|301=>95|328=>98|329=>99|330=>100|331=>101|332=>102|215=>103|343=>104|n=>n,fun|28=>29|3=>3|46=>156|0=>0|51=>165|53=>167|4=>4|183=>159|182=>158|131=>92|5=>5|9=>9|218=>168|222=>172|228=>174|229=>95|n=>n,fun|n=>n⟩
def Pp:Go.Proofs.Lays.n189 Try.prog El:={
 mixed:=by kernel_rfl,
 f125:=Try.func86.trans (congrArg some (by kernel_rfl)),
 f128:=Try.func96.trans (congrArg some (by kernel_rfl)),
 f129:=Try.func97.trans (congrArg some (by kernel_rfl)),
 f189:=Try.func82.trans (congrArg some (by kernel_rfl)),
 f215:=Try.func103.trans (congrArg some (by kernel_rfl)),
 f216:=Try.func93.trans (congrArg some (by kernel_rfl)),
 f257:=Try.func85.trans (congrArg some (by kernel_rfl)),
 f294:=Try.func87.trans (congrArg some (by kernel_rfl)),
 f295:=Try.func88.trans (congrArg some (by kernel_rfl)),
 f296:=Try.func89.trans (congrArg some (by kernel_rfl)),
 f297:=Try.func90.trans (congrArg some (by kernel_rfl)),
 f298:=Try.func91.trans (congrArg some (by kernel_rfl)),
 f299:=Try.func92.trans (congrArg some (by kernel_rfl)),
 f300:=Try.func94.trans (congrArg some (by kernel_rfl)),
 f301:=Try.func95.trans (congrArg some (by kernel_rfl)),
 f328:=Try.func98.trans (congrArg some (by kernel_rfl)),
 f329:=Try.func99.trans (congrArg some (by kernel_rfl)),
 f330:=Try.func100.trans (congrArg some (by kernel_rfl)),
 f331:=Try.func101.trans (congrArg some (by kernel_rfl)),
 f332:=Try.func102.trans (congrArg some (by kernel_rfl)),
 f343:=Try.func104.trans (congrArg some (by kernel_rfl)),
 t0:=Try.underlying0,
 a0:=Try.isAgg0,
 z0:=Try.sizeOf0,
 v0:=Try.zeroValue0,
 t3:=Try.underlying3,
 a3:=Try.isAgg3,
 z3:=Try.sizeOf3,
 v3:=Try.zeroValue3,
 t4:=Try.underlying4,
 a4:=Try.isAgg4,
 z4:=Try.sizeOf4,
 v4:=Try.zeroValue4,
 t5:=Try.underlying5,
 a5:=Try.isAgg5,
 z5:=Try.sizeOf5,
 v5:=Try.zeroValue5,
 t9:=Try.underlying9,
 a9:=Try.isAgg9,
 z9:=Try.sizeOf9,
 v9:=Try.zeroValue9,
 t28:=Try.underlying29,
 a28:=Try.isAgg29,
 z28:=Try.sizeOf29,
 v28:=Try.zeroValue29,
 t46:=Try.underlying156,
 a46:=Try.isAgg156,
 z46:=Try.sizeOf156,
 v46:=Try.zeroValue156,
 t51:=Try.underlying165,
 a51:=Try.isAgg165,
 z51:=Try.sizeOf165,
 v51:=Try.zeroValue165,
 t53:=Try.underlying167,
 a53:=Try.isAgg167,
 z53:=Try.sizeOf167,
 v53:=Try.zeroValue167,
 t131:=Try.underlying92,
 a131:=Try.isAgg92,
 z131:=Try.sizeOf92,
 v131:=Try.zeroValue92,
 t182:=Try.underlying158,
 a182:=Try.isAgg158,
 z182:=Try.sizeOf158,
 v182:=Try.zeroValue158,
 t183:=Try.underlying159,
 a183:=Try.isAgg159,
 z183:=Try.sizeOf159,
 v183:=Try.zeroValue159,
 t218:=Try.underlying168,
 a218:=Try.isAgg168,
 z218:=Try.sizeOf168,
 v218:=Try.zeroValue168,
 t222:=Try.underlying172,
 a222:=Try.isAgg172,
 z222:=Try.sizeOf172,
 v222:=Try.zeroValue172,
 t228:=Try.underlying174,
 a228:=Try.isAgg174,
 z228:=Try.sizeOf174,
 v228:=Try.zeroValue174,
 t229:=Try.underlying95,
 a229:=Try.isAgg95,
 z229:=Try.sizeOf95,
 v229:=Try.zeroValue95}
def yR:Go.Shelf.Ren:=⟨fun|20=>83|n=>n,fun|22=>29|3=>3|4=>4|0=>0|n=>n,fun|n=>n⟩
def Gy:Go.Proofs.Lays2.n20 Try.prog yR:={
 mixed:=by kernel_rfl,
 f20:=Try.func83.trans (congrArg some (by kernel_rfl)),
 t0:=Try.underlying0,
 a0:=Try.isAgg0,
 z0:=Try.sizeOf0,
 v0:=Try.zeroValue0,
 t3:=Try.underlying3,
 a3:=Try.isAgg3,
 z3:=Try.sizeOf3,
 v3:=Try.zeroValue3,
 t4:=Try.underlying4,
 a4:=Try.isAgg4,
 z4:=Try.sizeOf4,
 v4:=Try.zeroValue4,
 t22:=Try.underlying29,
 a22:=Try.isAgg29,
 z22:=Try.sizeOf29,
 v22:=Try.zeroValue29,
 i3:=by kernel_rfl}
def BP:Go.Shelf.Ren:=⟨fun|15=>61|n=>n,fun|22=>29|3=>3|4=>4|n=>n,fun|n=>n⟩
def LH:Go.Proofs.Lays2.n15 Try.prog BP:={
 mixed:=by kernel_rfl,
 f15:=Try.func61.trans (congrArg some (by kernel_rfl)),
 t3:=Try.underlying3,
 a3:=Try.isAgg3,
 z3:=Try.sizeOf3,
 v3:=Try.zeroValue3,
 t4:=Try.underlying4,
 a4:=Try.isAgg4,
 z4:=Try.sizeOf4,
 v4:=Try.zeroValue4,
 t22:=Try.underlying29,
 a22:=Try.isAgg29,
 z22:=Try.sizeOf29,
 v22:=Try.zeroValue29,
 i3:=by kernel_rfl}
end Go.Proofs.Ytjhmkaninmgilaa
namespace Go.Proofs.Ytjhmkaninmgilaa
open Go Go.RowKit Go.dF Go.Proofs
def zF{f:Nat}{fn:Func}{a:dL}{b:Taf->Prop}{yS:Taf->D}{cs:List (Nat×dL)}{v:VC}(c:jm Try.prog pre cF cs)(j:Try.prog.funcs[f]?=some fn)(k:∀e,dx (.V a.params) e->b e->v.holds cF pre (fun d=>d=yS e) (fun i=>e.getD i .top) [])(l:fnB fn a=true:=by kernel_rfl)(h:KQ Try.prog cs [] a fn=v:=by kernel_rfl)(g:Mz a.res=true:=by rfl):bu Try.prog f a b yS:=Gm (given:=[]) mix c j l h k g
def zO{f:Nat}{fn:Func}{a:dL}{ob:Ob}{b:Taf->Prop}{yS:Taf->D}{cs:List (Nat×dL)}{v:VC}(c:jm Try.prog pre cF cs)(k:Try.prog.funcs[f]?=some fn)(l:∀e,dx (.V a.params) e->b e->v.holds cF pre (fun d=>d=yS e) (fun i=>e.getD i .top) [])(g:a.ob=some ob:=by rfl)(m:UR fn a ob=true:=by kernel_rfl)(j:nR Try.prog cs [] a fn=v:=by kernel_rfl)(h:My cs=true:=by rfl):bu Try.prog f a b yS:=hZ (given:=[]) mix c k g m j l h
section
variable{v:VC}{ρ:Nat->D}{L:VC->(Nat->D)->Prop}{β B:Type}{kV:List (Taf->Prop)}
def zE{β:Prop}(p:β)(h:v.yG cF pre triv L ρ=β:=by kernel_rfl):v.yG cF pre triv L ρ:=Eq.mpr h p
def zK(h:v.quiet triv=true:=by kernel_rfl):v.yG cF pre triv L ρ:=VC.IZ h
def zL(dec:D->B)(enc:B->D)(bad:B)(lp:Nat->(Nat->D)->Taf->B){y:B}(c:v.yG cF pre triv (VC.EP cF pre enc lp kV) ρ)(e:v.flat false=true:=by kernel_rfl)(b:(v.qu cF ρ).map (fun d=>enc (dec d))=v.qu cF ρ:=by kernel_rfl)(a:v.GX cF dec (fun _ _=>bad) lp bad ρ=y:=by kernel_rfl):v.holds cF pre (fun d=>d=enc y) ρ kV:=VC.FQ kH e c b a
def zH(dec:D->B)(enc:B->D)(bad:B){y:B}(c:v.yG cF pre triv (VC.EP cF pre enc (fun _ _ _=>bad) kV) ρ)(e:v.flat false=true:=by kernel_rfl)(b:(v.qu cF ρ).map (fun d=>enc (dec d))=v.qu cF ρ:=by kernel_rfl)(a:v.GX cF dec (fun _ _=>bad) (fun _ _ _=>bad) bad ρ=y:=by kernel_rfl):v.holds cF pre (fun d=>d=enc y) ρ kV:=VC.FQ kH e c b a
end
def c79:bu Try.prog 79 X9 (pre 79) (cF 79):=by
 refine zF (vQ (Φ:=cF) (Pre:=pre)) Try.func79 (v:=YR) ?_;intro z h u;obtain⟨_,_,rfl,s,_,_,rfl,t,rfl⟩:=h;obtain⟨l,rfl,w,o⟩:=vG s;obtain⟨b,rfl,p⟩:=dt.1 t;rw[ui]at p;have q:cF 79 [.list (l.map (D.int i64)),.int i64 b]=.int i64 (findF (fun y=>y==b) l 0):=by simp[cF,fh,bU]
 simp[YR,fp,ev,ep,cN,eu,dC,fo,ft,fq,fX,den,U.den,B.den,fC,bc,db,eF,eD,eE,fD,bU,cV,ab,aV,bz,ao,pre,q];refine lB.intro (fun f=>∃n:Nat,f=[.int i64 0,.int i64 n]/\n<=l.length/\findF (fun y=>y==b) (l.drop n) n=findF (fun y=>y==b) l 0) (fun f=>l.length-(I (.list f) 1).toNat) ⟨0,rfl,aF _,by simp⟩ ?_;intro f g r;obtain⟨n,rfl,m,a⟩:=r;clear g;rcases hx:l[n]? with _|x
 .have j:=tA hx;have c:¬((n:Int)<l.length):=by omega
  rw[bL j,findF]at a;simp[bU,c,<-a]
 have c:=tq hx;have d:(n:Int)<l.length:=by omega
 have k:=bQ hx;have i:IntKind.wrap i64 ((n:Int)+1)=(n:Int)+1:=wrap64 (by omega) (by omega);rw[CL hx,findF]at a;simp[bU,hx,d,i,Nat.not_le.2 c];refine⟨fun h=>?_,fun h=>⟨⟨n+1,by simp,c,?_⟩,?_⟩⟩
 .rw[<-a,if_pos (by simp[h])]
 .rw[<-a,if_neg (by simp;exact fun e=>h e.symm)];congr 1
 show l.length-((n:Int)+1).toNat<l.length-(n:Int).toNat;omega
def TO:jm Try.prog pre cF Zx:=aR c79 vQ
def c56:bu Try.prog 56 s56 (pre 56) (cF 56):=by
 refine zF TO Try.func56 (v:=Y5) ?_;intro m h j;obtain⟨_,_,rfl,g,_,_,rfl,i,rfl⟩:=h;obtain⟨l,rfl,k,c⟩:=vG g;obtain⟨b,rfl,d⟩:=dt.1 i;rw[ui]at d;have e:cF 56 [.list (l.map (D.int i64)),.int i64 b]=.bool (decide (b∈l)):=by simp[cF,fh,bU]
 have f:cF 79 [.list (l.map (D.int i64)),.int i64 b]=.int i64 (findF (fun y=>y==b) l 0):=by simp[cF,fh,bU]
 simp[Y5,fp,ev,ep,cN,eu,dC,fo,ft,fq,fX,den,U.den,B.den,fC,bc,db,eF,eD,eE,fD,bU,cV,ab,aV,bz,ao,pre,e,f];rcases yi (fun y=>y==b) l 0 with⟨h1,h2⟩|⟨n,y,h1,h2,h3,_⟩
 .have:b∉l:=fun h=>by have:=h2 b h;simp at this
  simp[h1,this]
 have a:=bQ h2;rw[beq_iff_eq]at h3;subst h3;simp only[h1,a,iff_true];omega
def acQ:jm Try.prog pre cF ZK:=aR c56 TO
def c61:bu Try.prog 61 s61 (pre 61) (cF 61):=Jm LH Try.func61 (by kernel_rfl)
def acP:jm Try.prog pre cF ZG:=aR c61 acQ
def c82:bu Try.prog 82 s82 (pre 82) (cF 82):=K6 Pp Try.func82 (by kernel_rfl)
def acO:jm Try.prog pre cF Zw:=aR c82 acP
def c83:bu Try.prog 83 s83 (pre 83) (cF 83):=Ew Gy Try.func83 (by kernel_rfl)
def TK:jm Try.prog pre cF Zv:=aR c83 acO
def c55:bu Try.prog 55 s55 (pre 55) (cF 55):=by
 refine zF TK Try.func55 (v:=Y6) ?_;intro V h t;obtain⟨_,_,rfl,S,rfl⟩:=h;obtain⟨l,rfl,T,P⟩:=vG S;have R:cF 55 [.list (l.map (D.int i64))]=.bool (rL 0 l):=by simp[cF,fh]
 simp[Y6,fp,ev,ep,cN,eu,dC,fo,ft,fq,fX,den,U.den,B.den,fC,bc,db,eF,eD,eE,fD,bU,cV,ab,aV,bz,ao,pre,R];obtain⟨J,i⟩:∃J:Taf->Prop,∀j,J j↔∃n:Nat,j=[.bool false,.int i64 n]/\n<=l.length/\rL (vE 0 (l.take n)) (l.drop n)=rL 0 l:=⟨_,fun _=>dA⟩;obtain⟨M,q⟩:∃M:Taf->Nat,∀j,M j=l.length-(I (.list j) 1).toNat:=⟨_,fun _=>rfl⟩;refine lB.intro J M ((i _).2 ⟨0,rfl,aF _,by simp[vE]⟩) ?_;intro j u C;obtain⟨n,rfl,O,o⟩:=(i _).1 C;clear C;clear u;rcases hx:l[n]? with _|x
 .have z:=tA hx;have b:¬((n:Int)<l.length):=by omega
  rw[bL z,rL]at o;simp[bU,b,<-o]
 have b:=tq hx;have c:(n:Int)<l.length:=by omega
 have F:=bQ hx;have k:IntKind.wrap i64 ((n:Int)+1)=(n:Int)+1:=wrap64 (by omega) (by omega);have G:l.take (n+1)=l.take n++[x]:=by rw[cT,hx,eX]
 have g:vE 0 (l.take (n+1))=x:=by rw[G,re];rfl
 obtain⟨p,t⟩:∃p,p=vE 0 (l.take n):=⟨_,rfl⟩;rw[<-t,CL hx,rL]at o
 have a:1<=x->x<=5->p<x->J [.bool false,.int i64 ((n:Int)+1)]/\M [.bool false,.int i64 ((n:Int)+1)] <M [.bool false,.int i64 (n:Int)]:=by
  intro s r E;refine⟨(i _).2 ⟨n+1,rfl,b,?_⟩,?_⟩
  .rw[g,<-o];simp[s,r,E]
  rw[q,q];show l.length-((n:Int)+1).toNat<l.length-(n:Int).toNat;omega
 have d:¬(1<=x/\x<=5/\p<x)->rL 0 l=false:=by
  intro Q;rw[<-o]
  have:(decide (1<=x)&&decide (x<=5)&&decide (p<x))=false:=by rw[cE];intro h;simp only[aT,bk]at h;exact Q ⟨h.1.1,h.1.2,h.2⟩
  rw[this,Bool.false_and]
 by_cases N:n=0
 .have K:p=0:=by rw[t,N];rfl
  have f:¬0<n:=by omega
  simp[bU,hx,c,k,Nat.not_le.2 b,f];refine⟨fun h=>d (by omega),fun s r=>a s r (by omega)⟩
 obtain⟨y,A⟩:∃y,l[n-1]?=some y:=⟨_,aS (by omega)⟩
 have H:p=y:=by
  rw[t];have e:n=n-1+1:=by omega
  rw[e,cT,A,eX,re];rfl
 have w:IntKind.wrap i64 ((n:Int)-1)=((n-1:Nat):Int):=by rw[wrap64 (by omega) (by omega)];omega
 have m:((n-1:Nat):Int)<l.length:=by omega
 have f:0<n:=by omega
 simp[bU,hx,A,c,k,w,m,Nat.not_le.2 b,f];exact⟨fun h=>d (by omega),fun s r E=>a s r (by omega)⟩
def Ud:jm Try.prog pre cF ZL:=aR c55 TK
def Yo:bu Try.prog 21 s21 (pre 21) (cF 21):=by
 refine zF Ud Try.func21 (v:=Zr) ?_;intro H h G;obtain⟨_,_,rfl,F,rfl⟩:=h;obtain⟨va,a,rfl,s,p,w,q⟩:=vJ F;simp[Zr,fp,ev,ep,cN,eu,dC,fo,ft,fq,fX,den,U.den,B.den,fC,bc,db,eF,eD,eE,fD,bU,cV,ab,aV,bz,ao,pre,af7,aaD];refine⟨fun h=>?_,fun E C A=>?_⟩
 .simp only[zl,Bool.and_eq_false_iff];rcases h with(h|h)|h
  .exact .inl (.inl (.inl h))
  .exact .inl (.inl (.inr h))
  exact .inl (.inr (by simp[h]))
 have o:zl va a=decide (∀x∈a,x∉va):=by simp[zl,E,C,A]
 obtain⟨J,f⟩:∃J:Taf->Prop,∀g,J g↔∃n:Nat,g=[.bool false,.int i64 n]/\n<=a.length/\∀y∈a.take n,y∉va:=⟨_,fun _=>dA⟩;obtain⟨M,j⟩:∃M:Taf->Nat,∀g,M g=a.length-(I (.list g) 1).toNat:=⟨_,fun _=>rfl⟩;refine lB.intro J M ((f _).2 ⟨0,rfl,aF _,by simp⟩) ?_;intro g k r;obtain⟨n,rfl,u,c⟩:=(f _).1 r;clear r;clear k;rcases hx:a[n]? with _|x
 .have z:=tA hx;have d:¬((n:Int)<a.length):=by omega
  have e:n=a.length:=by omega
  subst e;rw[dK]at c;simp[bU,o];exact c
 have d:=tq hx;have i:(n:Int)<a.length:=by omega
 have l:=bQ hx;have m:IntKind.wrap i64 ((n:Int)+1)=(n:Int)+1:=wrap64 (by omega) (by omega);have t:a.take (n+1)=a.take n++[x]:=by rw[cT,hx,eX]
 simp[bU,cV,hx,i,m,Nat.not_le.2 d,V8,o];refine⟨fun h=>⟨x,l,h⟩,fun h=>⟨(f _).2 ⟨n+1,rfl,d,?_⟩,?_⟩⟩
 .intro y b;rw[t]at b;rcases aM.1 b with b|b
  .exact c y b
  rw[ax]at b;rw[b];exact h
 rw[j,j];show a.length-((n:Int)+1).toNat<a.length-(n:Int).toNat;omega
def UF:jm Try.prog pre cF Z2:=aR Yo Ud
def c36:bu Try.prog 36 s36 (pre 36) (cF 36):=by refine zF UF Try.func36 (v:=Zk) ?_;intro m h l;obtain⟨_,_,rfl,i,_,_,rfl,g,rfl⟩:=h;obtain⟨j,k,rfl,d,a,e,c⟩:=vJ i;obtain⟨b,rfl,f⟩:=dt.1 g;rw[ui]at f;simp[Zk,fp,ev,ep,cN,eu,dC,fo,ft,fq,fX,den,U.den,B.den,fC,bc,db,eF,eD,eE,fD,bU,cV,ab,aV,bz,ao,pre,V8,aaB]
def Ut:jm Try.prog pre cF ZT:=aR c36 UF
def c63:bu Try.prog 63 s63 (pre 63) (cF 63):=by
 refine zF Ut Try.func63 (v:=Y1) ?_;intro k h c;obtain⟨_,_,rfl,j,rfl⟩:=h;obtain⟨a,b,rfl,f,d,g,e⟩:=vJ j
 replace c:(a.length+b.length)*8<=140737488355328:=by
  have i:((vo (.agg [.list (a.map (D.int i64)),.list (b.map (D.int i64))])).length+(lr (.agg [.list (a.map (D.int i64)),.list (b.map (D.int i64))])).length)*8<=140737488355328:=c
  rwa [xJ,E8]at i
 simp[Y1,fp,ev,ep,cN,eu,dC,fo,ft,fq,fX,den,U.den,B.den,fC,bc,db,eF,eD,eE,fD,bU,cV,ab,aV,bz,ao,pre,agd,acC,agc,af9,EU];exact⟨aY (show _<=140737488355328 by omega) (by decide),c⟩
def T8:jm Try.prog pre cF ZF:=aR c63 Ut
def c66:bu Try.prog 66 s66 (pre 66) (cF 66):=by
 refine zF T8 Try.func66 (v:=YZ) ?_;intro K h H;obtain⟨_,_,rfl,E,_,_,rfl,C,rfl⟩:=h;obtain⟨a,F,rfl,t,p,w,q⟩:=vJ E;obtain⟨y,rfl,G,z⟩:=vG C;simp[YZ,fp,ev,ep,cN,eu,dC,fo,ft,fq,fX,den,U.den,B.den,fC,bc,db,eF,eD,eE,fD,bU,cV,ab,aV,bz,ao,pre,aga];obtain⟨J,d⟩:∃J:Taf->Prop,∀g,J g↔∃n:Nat,g=[.int i64 (wX (a.take n) y),.int i64 n]/\n<=a.length:=⟨_,fun _=>dA⟩;obtain⟨M,c⟩:∃M:Taf->Nat,∀g,M g=a.length-(I (.list g) 1).toNat:=⟨_,fun _=>rfl⟩;refine lB.intro J M ((d _).2 ⟨0,rfl,aF _⟩) ?_;intro g m r;obtain⟨n,rfl,u⟩:=(d _).1 r;clear r;have l:=RE (a.take n) y;rw[aA]at l;clear m;rcases hx:a[n]? with _|x
 .have A:=tA hx;have b:¬((n:Int)<a.length):=by omega
  have e:n=a.length:=by omega
  subst e;rw[dK]at l⊢;have f:IntKind.wrap i64 (2*(wX a y:Int))=2*(wX a y:Int):=wrap64 (by omega) (by omega);simp[bU,f,zm]
 have b:=tq hx;have j:(n:Int)<a.length:=by omega
 have s:=bQ hx;have o:IntKind.wrap i64 ((n:Int)+1)=(n:Int)+1:=wrap64 (by omega) (by omega);have k:=L9 (y:=y) hx;have f:IntKind.wrap i64 ((wX (a.take n) y:Int)+1)=(wX (a.take n) y:Int)+1:=wrap64 (by omega) (by omega);have i:a.length-((n:Int)+1).toNat<a.length-(n:Int).toNat:=by omega
 simp[bU,cV,hx,j,o,f,Nat.not_le.2 b,V8];refine⟨fun h=>⟨(d _).2 ⟨n+1,?_,b⟩,?_⟩,fun h=>⟨(d _).2 ⟨n+1,?_,b⟩,?_⟩⟩
 .rw[k,if_pos h];rfl
 .rw[c,c];exact i
 .rw[k,if_neg h];rfl
 rw[c,c];exact i
def T5:jm Try.prog pre cF ZE:=aR c66 T8
def c72:bu Try.prog 72 UO (pre 72) (cF 72):=by
 refine zF T5 Try.func72 (v:=YW) ?_;intro ds h hp;obtain⟨_,_,rfl,ga,_,_,rfl,gm,rfl⟩:=h;obtain⟨a,la,rfl,c,R,X,S⟩:=vJ ga;obtain⟨m,rfl,hm,Y⟩:=vG gm;simp[YW,fp,ev,ep,cN,eu,dC,fo,ft,fq,fX,den,U.den,B.den,fC,bc,db,eF,eD,eE,fD,bU,cV,ab,aV,bz,ao,pre,age];obtain⟨J,j⟩:∃J:Taf->Prop,∀k,J k↔∃n:Nat,k=[.list (((a.take n).map (nj m)).map (D.int i64)),.int i64 n]/\n<=a.length:=⟨_,fun _=>dA⟩;obtain⟨M,t⟩:∃M:Taf->Nat,∀k,M k=a.length-(I (.list k) 1).toNat:=⟨_,fun _=>rfl⟩;refine lB.intro J M ((j _).2 ⟨0,rfl,aF _⟩) ?_;intro k w T;obtain⟨n,rfl,W⟩:=(j _).1 T;clear T;clear w;rcases hx:a[n]? with _|x
 .have Z:=tA hx;have d:¬((n:Int)<a.length):=by omega
  have e:n=a.length:=by omega
  subst e;rw[dK];cases c:a with
  |nil=>simp[bU,db,vA]
  |cons q r=>
   rw[<-c];have g:=vT a m;have P:0<a.length:=by rw[c];simp
   have i:IntKind.wrap i64 ((a.length:Int)-1)=((a.length-1:Nat):Int):=by rw[wrap64 (by omega) (by omega)];omega
   have O:Int.tdiv ((a.length-1:Nat):Int) 2=(((a.length-1)/2:Nat):Int):=by rw[Int.tdiv_eq_ediv_of_nonneg (by omega)];omega
   have A:IntKind.wrap i64 (((a.length-1)/2:Nat):Int)=(((a.length-1)/2:Nat):Int):=wrap64 (by omega) (by omega);have o:a≠[]:=by rw[c];simp
   obtain⟨z,K⟩:∃z,(kg (a.map (nj m)))[(a.length-1)/2]?=some z:=⟨_,aS (by rw[g];omega)⟩;have ha:vA a m=z:=by unfold vA;rw[if_neg o,ae,K];rfl
   have Q:(((a.length-1)/2:Nat):Int)<a.length:=by omega
   simp[-List.map_map,-Int.natCast_ediv,bU,db,aaC,g,i,O,A,K,ha,o];omega
 have d:=tq hx;have f:(n:Int)<a.length:=by omega
 have V:=bQ hx;have l:IntKind.wrap i64 ((n:Int)+1)=(n:Int)+1:=wrap64 (by omega) (by omega);have F:(a.take (n+1)).map (nj m)=(a.take n).map (nj m)++[nj m x]:=by rw[cT,hx,eX,ck];rfl
 have E:a.length-((n:Int)+1).toNat<a.length-(n:Int).toNat:=by omega
 have s:∀q:Int,q=nj m x->J [.list (((a.map (nj m)).map (D.int i64)).take n++[.int i64 q]),.int i64 ((n:Int)+1)]/\M [.list (((a.map (nj m)).map (D.int i64)).take n++[.int i64 q]),.int i64 ((n:Int)+1)] <M [.list (((a.map (nj m)).map (D.int i64)).take n),.int i64 (n:Int)]:=by
  rintro q rfl;refine⟨(j _).2 ⟨n+1,?_,d⟩,?_⟩
  .rw[F,ck,<-List.map_take,<-List.map_take];rfl
  rw[t,t];exact E
 have b:(min n a.length+1)<=maxLen/\(min n a.length+1)*8<=140737488355328:=⟨aY (show _<=140737488355328 by omega) (by decide),by omega⟩;by_cases p:1<=x/\x<=m.length
 .have i:IntKind.wrap i64 (x-1)=x-1:=wrap64 (by omega) (by omega);obtain⟨y,N⟩:∃y,m[(x-1).toNat]?=some y:=⟨_,aS (by omega)⟩;have C:nj m x=if 0<y then y else 0:=by unfold nj;rw[if_pos p,ae,N];rfl
  have H:(0:Int)<=x-1:=by omega
  have G:x-1<(m.length:Int):=by omega
  have u:m[x.toNat-1]?=some y:=by rw[show x.toNat-1=(x-1).toNat by omega];exact N
  simp[-List.map_map,bU,db,hx,f,l,i,u,p.1,p.2,H,G,Nat.not_le.2 d];exact⟨⟨b,s _ C.symm⟩,fun O=>by omega⟩
 have C:nj m x=0:=by unfold nj;rw[if_neg p]
 simp[-List.map_map,bU,db,hx,f,l,Nat.not_le.2 d];exact⟨fun h1 h2=>absurd ⟨h1,h2⟩ p,fun _=>⟨b,s 0 C.symm⟩⟩
def TW:jm Try.prog pre cF ZA:=aR c72 T5
def c70:bu Try.prog 70 Yv (pre 70) (cF 70):=by
 refine zF TW Try.func70 (v:=YY) ?_;intro S h R;obtain⟨_,_,rfl,Q,_,_,rfl,P,rfl⟩:=h;obtain⟨b,y,rfl,A,s,H,u⟩:=vJ Q;obtain⟨a,x,rfl,z,r,G,t⟩:=vJ P;simp[YY,fp,ev,ep,cN,eu,dC,fo,ft,fq,fX,den,U.den,B.den,fC,bc,db,eF,eD,eE,fD,bU,cV,ab,aV,bz,ao,pre,aaD,af6];refine⟨fun h=>?_,fun O N=>?_⟩
 .simp only[G9,Bool.and_eq_false_iff];rcases h with h|h
  .exact .inl (.inl h)
  exact .inl (.inr h)
 have E:G9 b y a x=decide (yJ b a 6<=1):=by simp[G9,O,N]
 obtain⟨J,c⟩:∃J:Taf->Prop,∀d,J d↔∃n:Nat,d=[.int i64 (yJ b a n),.int i64 n]/\n<=6:=⟨_,fun _=>dA⟩;obtain⟨M,i⟩:∃M:Taf->Nat,∀d,M d=6-(I (.list d) 1).toNat:=⟨_,fun _=>rfl⟩;refine lB.intro J M ((c _).2 ⟨0,rfl,aF _⟩) ?_;intro d j w;obtain⟨n,rfl,F⟩:=(c _).1 w;clear w j;have K:=RB b a n;by_cases C:n=6
 .subst C;simp[bU,E];omega
 have e:(n:Int)<6:=by omega
 have l:IntKind.wrap i64 ((n:Int)+1)=(n:Int)+1:=wrap64 (by omega) (by omega);have k:IntKind.wrap i64 ((yJ b a n:Int)+1)=(yJ b a n:Int)+1:=wrap64 (by omega) (by omega);have o:6-((n:Int)+1).toNat<6-(n:Int).toNat:=by omega
 have f:=L1 b a n;have m:¬(6:Int)<=n:=by omega
 have g:∀q:Int,q=yJ b a (n+1)->J [.int i64 q,.int i64 ((n:Int)+1)]/\M [.int i64 q,.int i64 ((n:Int)+1)] <M [.int i64 (yJ b a n),.int i64 (n:Int)]:=by rintro q rfl;exact⟨(c _).2 ⟨n+1,rfl,by omega⟩,by rw[i,i];exact o⟩
 simp[bU,cV,e,l,k,aaB,m];refine⟨fun h=>g _ ?_,fun h=>g _ ?_⟩
 .have p:(decide ((n:Int)∈b) !=decide ((n:Int)∈a))=true:=by simpa using h
  rw[f,if_pos p];rfl
 have p:¬(decide ((n:Int)∈b) !=decide ((n:Int)∈a))=true:=by simpa using h
 rw[f,if_neg p];rfl
def TY:jm Try.prog pre cF ZC:=aR c70 TW
def U4:bu Try.prog 20 s20 (pre 20) (cF 20):=by refine zF TY Try.func20 (v:=Zs) ?_;intro i h d;obtain⟨a,_,rfl,⟨a,rfl,g⟩,b,_,rfl,⟨b,rfl,f⟩,c,_,rfl,⟨c,rfl,e⟩,rfl⟩:=h;simp[Zs,fp,ev,ep,cN,eu,dC,fo,ft,fq,den,B.den,cF,ny,bU,cV]
def UG:jm Try.prog pre cF Z3:=aR U4 TY
def Ma{t:Ty}{n:Nat}{l:Taf}(a:Dw 140737488355328 t l.length)(b:t.bytes=n):(l=[]->∀(d:D),Has Ty.bool d->(d.W=true->l=[])/\(d.W=false->l.length<=maxLen/\l.length*n<=140737488355328))/\
  (¬l=[]->∀(d:D),Has Ty.bool d->l.length<=maxLen/\l.length*n<=140737488355328):=by subst b;exact⟨fun h _ _=>⟨fun _=>h,fun _=>a⟩,fun _ _ _=>a⟩
def c52:bu Try.prog 52 s52 (pre 52) (cF 52):=by refine zF UG Try.func52 (v:=Y7) ?_;intro e h c;obtain⟨_,_,rfl,⟨l,rfl,a,d⟩,rfl⟩:=h;have b:cF 52 [.list l]=.list l:=rfl;simp[Y7,fp,ev,ep,cN,eu,dC,fo,ft,fq,fX,den,U.den,B.den,fC,bc,db,eF,eD,eE,fD,bU,cV,pre,b,fC];have:=Ma (n:=1) a rfl;simpa using this
def Uf:jm Try.prog pre cF ZN:=aR c52 UG
def c60:bu Try.prog 60 s60 (pre 60) (cF 60):=by refine zF Uf Try.func60 (v:=aeJ) ?_;intro c h b;obtain⟨x,_,rfl,a,rfl⟩:=h;refine zH D.W D.bool false (y:=(lY x&& !gF (YL x))) zK
def Ua:jm Try.prog pre cF ZH:=aR c60 Uf
def UJ:bu Try.prog 80 MT (pre 80) (cF 80):=by
 refine zF Ua Try.func80 (v:=N0) ?_;intro w h t;obtain⟨_,_,rfl,⟨l,rfl,e,u⟩,_,_,rfl,⟨_,rfl,rfl⟩,rfl⟩:=h;have i:=e.1;simp only[maxLen]at i;have s:cF 80 [.list l,.fn 60 []]=.int i64 (findF (wY (.fn 60 [])) l 0):=rfl;rw[s];have r:∀x,cF 60 [x]=.bool (wY (.fn 60 []) x):=fun _=>rfl;simp[N0,fp,ev,ep,cN,eu,dC,fo,ft,fq,fX,den,U.den,B.den,fC,bc,db,eF,eD,eE,fD,bU,cV,pre,r];obtain⟨J,c⟩:∃J:Taf->Prop,∀d,J d↔∃n:Nat,∃y:Int,d=[.int i64 y,.int i64 n]/\n<=l.length/\findF (wY (.fn 60 [])) (l.drop n) n=findF (wY (.fn 60 [])) l 0:=⟨_,fun _=>dA⟩;obtain⟨M,f⟩:∃M:Taf->Nat,∀d,M d=l.length-((d.getD 1 .top).q).toNat:=⟨_,fun _=>rfl⟩;refine lB.intro J M ((c _).2 ⟨0,0,rfl,aF _,by simp⟩) ?_;intro d g m;obtain⟨n,y,rfl,p,a⟩:=(c _).1 m;clear m g;simp[fp,ev,ep,cN,eu,dC,fo,ft,fq,fX,den,U.den,B.den,fC,bc,db,eF,eD,eE,fD,bU,cV];refine⟨fun b=>?_,fun j=>?_⟩
 .have o:l[n]?=some l[n]:=aS b;have q:l.drop n=l[n] ::l.drop (n+1):=cY b;rw[q]at a;simp only[findF]at a;rw[o,bz];refine⟨by omega,fun k=>?_,fun k=>?_⟩
  .rw[if_pos k]at a;exact a
  rw[wrap64 (by omega) (by omega)];refine⟨(c _).2 ⟨n+1,y,by simp,b,?_⟩,?_⟩
  .rw[if_neg (by rw[k];simp)]at a;rw[<-a];simp
  rw[f,f];simp[bU];omega
 have:l.drop n=[]:=bL j;rw[this]at a;exact a
def Kx:jm Try.prog pre cF N6:=aR UJ Ua
def xC(p:D->Bool):∀(l:Taf) (k:Int),0<=k->(l.any p=true↔0<=findF p l k)
 |[],k,hk=>by simp[findF]
 |x::r,k,hk=>by
  simp only[findF,List.any_cons];cases hp:p x with
  |true=>simp;exact hk
  |false=>
   simp only[fW,aj,if_false];exact xC p r (k+1) (by omega)
def UK:bu Try.prog 59 MU (pre 59) (cF 59):=by refine zF Kx Try.func59 (v:=N2) ?_;intro f h d;obtain⟨_,_,rfl,⟨l,rfl,a,e⟩,_,_,rfl,⟨_,rfl,rfl⟩,rfl⟩:=h;have b:cF 59 [.list l,.fn 60 []]=.bool (mR l (.fn 60 [])):=rfl;have c:cF 80 [.list l,.fn 60 []]=.int i64 (findF (wY (.fn 60 [])) l 0):=rfl;rw[b];simp[N2,fp,ev,ep,cN,eu,dC,fo,ft,fq,fX,den,U.den,B.den,fC,bc,db,eF,eD,eE,fD,bU,cV,pre,c];rw[dJ,bk];exact(xC _ l 0 (ar 0)).symm
def Kz:jm Try.prog pre cF N7:=aR UK Kx
def c24:bu Try.prog 24 s24 (pre 24) (cF 24):=by refine zF Kz Try.func24 (v:=Zp) ?_;intro f h d;obtain⟨_,_,rfl,⟨l,rfl,a,e⟩,rfl⟩:=h;have b:cF 24 [.list l]=.bool (eW l):=rfl;have c:cF 59 [.list l,.fn 60 []]=.bool (mR l (.fn 60 [])):=rfl;rw[b];simp[Zp,fp,ev,ep,cN,eu,dC,fo,ft,fq,fX,den,U.den,B.den,fC,bc,db,eF,eD,eE,fD,bU,cV,pre,c];unfold eW mR;rw[Bool.not_not];rfl
def UD:jm Try.prog pre cF Z0:=aR c24 Kz
def c26:bu Try.prog 26 s26 (pre 26) (cF 26):=by refine zF UD Try.func26 (v:=Zn) ?_;intro b h a;obtain⟨_,_,rfl,⟨_,rfl,_,_,rfl,⟨v,rfl,_,_⟩,_,_,rfl,⟨l,rfl,_,_⟩,rfl⟩,rfl⟩:=h;simp[Zn,fp,ev,ep,cN,eu,dC,fo,ft,fq,fX,den,U.den,B.den,fC,bc,db,eF,eD,eE,fD,bU,cV,pre,cF,wB]
def UB:jm Try.prog pre cF ZY:=aR c26 UD
def c28:bu Try.prog 28 s28 (pre 28) (cF 28):=by refine zF UB Try.func28 (v:=Zm) ?_;intro f h c;obtain⟨_,_,rfl,⟨_,rfl,_,_,rfl,⟨i,rfl,d⟩,_,_,rfl,⟨t,rfl,b⟩,_,_,rfl,⟨l,rfl,a,e⟩,rfl⟩,rfl⟩:=h;simp[Zm,fp,ev,ep,cN,eu,dC,fo,ft,fq,fX,den,U.den,B.den,fC,bc,db,eF,eD,eE,fD,bU,cV,pre,cF,iS,cD]
def Uz:jm Try.prog pre cF ZX:=aR c28 UB
def c25:bu Try.prog 25 s25 (pre 25) (cF 25):=by
 refine zF Uz Try.func25 (v:=Zo) ?_;intro z h c;obtain⟨_,_,rfl,⟨_,rfl,_,_,rfl,⟨i,rfl,y⟩,_,_,rfl,⟨t,rfl,w⟩,_,_,rfl,⟨l,rfl,a,n⟩,rfl⟩,rfl⟩:=h;replace c:gn i t l=true:=c;have k:cF 28 [.ptr [.int i64 i,.int i64 t,.list l]]=.ff [.int i64 i,.int i64 t]:=rfl;have m:cF 25 [.ptr [.int i64 i,.int i64 t,.list l]]=.ff [.int i64 (i+l.length),.int i64 (cZ t l)]:=rfl;simp[Zo,fp,ev,ep,cN,eu,dC,fo,ft,fq,fX,den,U.den,B.den,fC,bc,db,eF,eD,eE,fD,bU,cV,pre,k,m];obtain⟨⟨u,s,r,q⟩,j⟩:=eU.1 c;have e:=a.1;simp only[maxLen]at e;constructor
 .rintro rfl;simp[cZ]
 intro d;have f:0<l.length:=eQ.2 d;rw[wrap64 (by omega) (by omega),show((l.length:Int)-1).toNat=l.length-1 by omega];obtain⟨x,b⟩:∃x,l[l.length-1]?=some x:=⟨_,aS (by omega)⟩;obtain⟨p,o,_,_⟩:=DA (n x (bQ b));have g:=zX j b;rw[b,bz,p,o,tN b,g.1];refine⟨by omega,?_,rfl⟩;congr 1;omega
def UC:jm Try.prog pre cF ZZ:=aR c25 Uz
def c50:bu Try.prog 50 s50 (pre 50) (cF 50):=by
 refine zF UC Try.func50 (v:=Y9) ?_;intro A h d;obtain⟨_,_,rfl,⟨_,rfl,_,_,rfl,⟨i,rfl,w⟩,_,_,rfl,⟨t,rfl,u⟩,_,_,rfl,⟨l,rfl,a,n⟩,rfl⟩,_,_,rfl,⟨k,rfl,j⟩,rfl⟩:=h;replace d:gn i t l=true:=d;have m:cF 50 [.ptr [.int i64 i,.int i64 t,.list l],.int i64 k]=.ff [.int i64 (gl i t l k).1,.int i64 (gl i t l k).2]:=rfl;simp[Y9,fp,ev,ep,cN,eu,dC,fo,ft,fq,fX,den,U.den,B.den,fC,bc,db,eF,eD,eE,fD,bU,cV,pre,m];rw[ui]at j;obtain⟨⟨s,g,r,q⟩,y⟩:=eU.1 d;have e:=a.1;simp only[maxLen,MX]at e g;refine⟨fun h=>by simp[gl,h],fun h=>⟨fun b=>by subst b;simp[gl],fun b=>?_⟩⟩;rw[wrap64 (by omega) (by omega)];have f:¬k<i:=by omega
 refine⟨fun o=>?_,fun o=>?_⟩
 .have:l[(k-i-1).toNat]?=none:=by rw[eO];omega
  unfold gl;rw[if_neg f,if_neg b,this];exact⟨rfl,rfl⟩
 rw[wrap64 (by omega) (by omega)];obtain⟨x,c⟩:∃x,l[(k-i-1).toNat]?=some x:=⟨_,aS (by omega)⟩;obtain⟨z,p,_,_⟩:=DA (n x (bQ c));refine⟨by omega,?_,?_⟩
 .rw[c,bz,p];unfold gl;rw[if_neg f,if_neg b,c]
 unfold gl;rw[if_neg f,if_neg b,c]
def Ug:jm Try.prog pre cF ZP:=aR c50 UC
def c74:bu Try.prog 74 rm (pre 74) (cF 74):=by refine zF Ug Try.func74 (v:=YU) ?_;intro n h b;obtain⟨_,_,rfl,⟨_,rfl,_,_,rfl,⟨i,rfl,k⟩,_,_,rfl,⟨t,rfl,j⟩,_,_,rfl,⟨l,rfl,c,m⟩,rfl⟩,_,_,rfl,⟨x,rfl,g⟩,_,_,rfl,⟨y,rfl,f⟩,rfl⟩:=h;replace b:gn i t l=true:=b;have d:cF 25 [.ptr [.int i64 i,.int i64 t,.list l]]=.ff [.int i64 (i+l.length),.int i64 (cZ t l)]:=rfl;have a:pre 25 [.ptr [.int i64 i,.int i64 t,.list l]]:=b;have e:cF 74 [.ptr [.int i64 i,.int i64 t,.list l],.int i64 x,.int i64 y]=.bool (Ds i t l x y):=rfl;simp[YU,fp,ev,ep,cN,eu,dC,fo,ft,fq,fX,den,U.den,B.den,fC,bc,db,eF,eD,eE,fD,bU,cV,d,e,a,Ds];rw[dJ];simp
def TU:jm Try.prog pre cF Zz:=aR c74 Ug
def c65:bu Try.prog 65 s65 (pre 65) (cF 65):=by
 refine zF TU Try.func65 (v:=Y0) ?_;intro C h b;obtain⟨_,_,rfl,⟨_,rfl,_,_,rfl,⟨i,rfl,w⟩,_,_,rfl,⟨t,rfl,u⟩,_,_,rfl,⟨l,rfl,a,x⟩,rfl⟩,_,_,rfl,⟨f,rfl,o⟩,_,_,rfl,⟨m,rfl,k⟩,rfl⟩:=h;have p:cF 65 [.ptr [.int i64 i,.int i64 t,.list l],.int i64 f,.int i64 m]=.list (gu i l f m):=rfl;simp[Y0,fp,ev,ep,cN,eu,dC,fo,ft,fq,fX,den,U.den,B.den,fC,bc,db,eF,eD,eE,fD,bU,cV,pre,p];replace b:okB i t=true:=b;rw[ui]at o k;obtain⟨s,j,_,_⟩:=jE.1 b;have c:=a.1;have e:=a.2;rw[ou]at e;simp only[maxLen,MX]at c j⊢;refine⟨?_,fun A z=>?_⟩
 .intro h;unfold gu;by_cases d:m<1\/f<=i
  .rw[if_pos d]
  rw[if_neg d];have r:=h.resolve_left d;rw[wrap64 (n:=f-i) (by omega) (by omega),wrap64 (by omega) (by omega)]at r;rw[bL (by omega)];simp
 rw[wrap64 (n:=f-i) (by omega) (by omega),wrap64 (n:=f-i-1) (by omega) (by omega)];intro y;rw[wrap64 (n:=(l.length:Int)-(f-i-1)) (by omega) (by omega)];have g:gu i l f m=(l.drop (f-i-1).toNat).take m.toNat:=by unfold gu;rw[if_neg (by omega)]
 refine⟨fun q=>?_,fun q=>?_⟩
 .rw[wrap64 (n:=f-i-1+m) (by omega) (by omega)];refine⟨by omega,⟨by omega,aY (aw 320 (by omega)) e⟩,?_⟩;rw[g,List.drop_take];congr 1;omega
 refine⟨by omega,⟨by omega,aY (aw 320 (by omega)) e⟩,?_⟩;rw[g,eM (by rw[ba];omega)]
def T6:jm Try.prog pre cF Vl:=aR c65 TU
def afv(x:Int)(s:RS):Prop:=
 (True)/\(
 let a:=(iS s.li s.lt s.le)
 VC.EP cF pre (fun d=>d) (fun _ _ l=>qe s a (l.getD 0 .top).q (l.getD 1 .top).A (l.getD 2 .top).A) [] (VC.lp 15 Va) (fC (fun i=>[C3 s,D.int i64 x].getD i .top) 7 (D.ff [D.int i64 a.1,D.int i64 a.2])))
def acj(s:RS)(c:Int×Int)(b:Int):Prop:=
 ((decide (b>c.1)=true->
  ((true=true->okB s.li s.lt=true))/\(
  let a:=(eJ s.li s.lt s.le b 1)
  ((((((a:Taf).length:Int)==1)==true)&&true)=true->((decide (0<=0))&&(decide (0<((a:Taf).length:Int))))=true)/\(
  ((((((a:Taf).length:Int)==1)&&(((cD 2 ((a).getD (0:Int).toNat .top)).q)==2))=true->
   (true=true->((decide (0<=0))&&(decide (0<((a:Taf).length:Int))))=true)/\(
   True)))/\(True)))))/\(True)
def Aj(s:RS)(h:Int×Int)(b:Int)(g:Taf)(f:Taf):(Int×Taf×Taf)⊕(D):=
 if decide (b>h.1) then(
  let a:=(eJ s.li s.lt s.le b 1)
  if((((a:Taf).length:Int)==1)&&(((cD 2 ((a).getD (0:Int).toNat .top)).q)==2)) then(
   let c:=(qK (D.agg ((((a).getD (0:Int).toNat .top).A.drop 27).take 2)))
   .inr (aC 2 c []))
  else(
   .inl ((i64.wrap (b-1)),g,f)))
 else(
  if decide (h.1>0) then(
   let d:=(qK (D.agg [D.list s.sv,D.list s.sl]))
   .inr (aC 2 d []))
  else(
   let e:=(qK (D.agg [D.list s.fv,D.list s.fl]))
   .inr (aC 2 e [])))
def Gl(s:RS)(c:Int×Int)(b:Int)(a:Taf)(k15:Taf):Aj s c b a k15=mQ s c b a k15:=by
 unfold Aj mQ kC;dsimp only
 repeat (first|rfl|split)
def QS(x:Int)(s:RS)(n:jX i64 x)(h:Ok (s) 0):afv x s:=by
 refine⟨trivial,?_⟩;intro e;have j:e.1=s.li:=rfl
 clear_value e
 obtain⟨t,q⟩:=h.li;refine VC.js 15 (by kernel_rfl) ?_;refine VC.iq (Φ:=cF) (Pre:=pre) (triv:=triv) (v0:=15) (decL:=fun l=>((l.getD 0 .top).q,(l.getD 1 .top).A,(l.getD 2 .top).A)) (encL:=fun a:Int×Taf×Taf=>([D.int i64 a.1,D.list a.2.1,D.list a.2.2])) (dec:=(fun d=>d)) (enc:=(fun d=>d)) (lp:=fun _ _ _ _=>D.top) (bad:=.inr D.top) (bd:=D.top) (by kernel_rfl) (fun a:Int×Taf×Taf=>mQ s e a.1 a.2.1 a.2.2) (fun a:Int×Taf×Taf=>a.1<=9223372036854775807) (fun a:Int×Taf×Taf=>FB s e a.1 a.2.1 a.2.2) (x,[],[]) kH (by kernel_rfl) ?RV (fun a=>rfl) ?RY (by kernel_rfl) (fun a p=>Eq.trans (b:=Aj s e a.1 a.2.1 a.2.2) (by kernel_rfl) (Gl s e a.1 a.2.1 a.2.2)) (fun a=>by kernel_rfl) (fun a=>by kernel_rfl) (fun a p o=>zE (β:=acj s e a.1) ?EV) (by kernel_rfl)
 .exact n.2
 .rintro⟨i,l,r⟩ k;replace k:i<=9223372036854775807:=k;unfold mQ;by_cases f:decide (i>e.1)=true
  .rw[if_pos f];rw[bk,j]at f;dsimp only;generalize ((((eJ s.li s.lt s.le i 1).length:Int)==1)&&((cD 2 ((eJ s.li s.lt s.le i 1).getD (0:Int).toNat .top)).q==2))=c;cases c with
   |true=>trivial
   |false=>
    show IntKind.wrap i64 (i-1)<=_/\(IntKind.wrap i64 (i-1)-e.1).toNat<(i-e.1).toNat;rw[wrap64 (by omega) (by omega)];refine⟨by omega,?_⟩;omega
  rw[if_neg f];trivial
 refine⟨fun f=>⟨fun _=>h.MB,?_⟩,trivial⟩;intro m;refine⟨fun g=>?_,fun g=>⟨fun _=>?_,trivial⟩,trivial⟩
 .simp only[aT,beq_iff_eq,and_true]at g;rw[g];rfl
 simp only[aT,beq_iff_eq]at g;rw[g.1];rfl
def c49:bu Try.prog 49 s49 (pre 49) (cF 49):=by refine zF T6 Try.func49 (v:=Va) ?_;intro i h c;obtain⟨d,_,rfl,e,g⟩:=aJ.1 h;obtain⟨s,rfl⟩:=mN e;obtain⟨_,_,rfl,⟨x,rfl,b⟩,f⟩:=aJ.1 g;obtain rfl:=dy.1 f;refine zL (fun d=>d) (fun d=>d) D.top (fun _ _ l=>(let a:=(iS s.li s.lt s.le);qe s a (l.getD 0 .top).q (l.getD 1 .top).A (l.getD 2 .top).A)) (y:=oV x s) (zE (QS x s b c))
def Uh:jm Try.prog pre cF ZQ:=aR c49 T6
def afI(s:RS):Prop:=
 ((true=true->gn s.li s.lt s.le=true))/\(
 let a:=(fM s.li s.lt s.le)
 ((true=true->Ok s 0))/\(
 True))
def Q7(s:RS)(h:Ok (s) 0):afI s:=by exact⟨fun _=>h.may,fun _=>h,trivial⟩
def c29:bu Try.prog 29 s29 (pre 29) (cF 29):=by refine zF Uh Try.func29 (v:=aeO) ?_;intro e h a;obtain⟨d,_,rfl,b,c⟩:=aJ.1 h;obtain⟨s,rfl⟩:=mN b;obtain rfl:=dy.1 c;refine zH (fun d=>d) (fun d=>d) .top (y:=dR s) (zE (Q7 s a))
def Uy:jm Try.prog pre cF Vx:=aR c29 Uh
def afH(x:D)(s:RS):Prop:=
 ((true=true->((vo (aC 2 x [])).length+(lr (aC 2 x [])).length)*8<=140737488355328))/\(
 let a:=(jP (aC 2 x []))
 VC.EP cF pre D.list (fun _ _ l=>tI s a (l.getD 0 .top).A (l.getD 1 .top).q) [] (VC.lp 9 Vd) (fC (fun i=>[C3 s,x].getD i .top) 6 (D.list a)))
def acn(s:RS)(b:Taf)(c:Taf)(a:Int):Prop:=
 ((decide (a<((b:Taf).length:Int))=true->
  (true=true->((decide (0<=a))&&(decide (a<((b:Taf).length:Int))))=true)/\(
  (((((((b).getD (a:Int).toNat .top)).q) !=s.id)=true->
   (true=true->((c++([((b).getD (a:Int).toNat .top)]:Taf)):Taf).length<=maxLen/\((c++([((b).getD (a:Int).toNat .top)]:Taf)):Taf).length*8<=140737488355328)/\(
   True)))/\(True))))/\(True)
def Q6(x:D)(s:RS)(h:Ok (s) 0/\gF x=true):afH x s:=by
 obtain⟨h,m⟩:=h;refine⟨fun _=>?_,?_⟩
 .have:=AG (c:=aC 2 x []) m;omega
 intro d;have o:d.length<=10:=wN (c:=aC 2 x []) m
 clear_value d
 refine VC.js 9 (by kernel_rfl) ?_;refine VC.iq (Φ:=cF) (Pre:=pre) (triv:=triv) (v0:=9) (decL:=fun l=>((l.getD 0 .top).A,(l.getD 1 .top).q)) (encL:=fun a:Taf×Int=>([D.list a.1,D.int i64 a.2])) (dec:=D.A) (enc:=D.list) (lp:=fun _ _ _ _=>([]:Taf)) (bad:=.inr ([]:Taf)) (bd:=([]:Taf)) (by kernel_rfl) (fun a:Taf×Int=>tH s d a.1 a.2) (fun a:Taf×Int=>0<=a.2/\a.1.length<=a.2.toNat/\a.2.toNat<=d.length) (fun a:Taf×Int=>Cu s d a.1 a.2) ([],0) kH (by kernel_rfl) ?RV (fun a=>rfl) ?RY (by kernel_rfl) (fun a n=>by kernel_rfl) (fun a=>by kernel_rfl) (fun a=>by kernel_rfl) (fun a n p=>zE (β:=acn s d a.1 a.2) ?EV) (by kernel_rfl)
 .exact⟨ar 0,aF _,aF _⟩
 .rintro⟨l,j⟩ ⟨f,i,g⟩;simp only at f i g;unfold tH;by_cases b:decide (j<(d.length:Int))=true
  .rw[if_pos b];rw[bk]at b;have k:IntKind.wrap i64 (j+1)=j+1:=wrap64 (by omega) (by omega);by_cases e:((d.getD j.toNat .top).q !=s.id)=true
   .rw[if_pos e,k];refine⟨⟨by show 0<=j+1;omega,?_,by show(j+1).toNat<=_;omega⟩,by show d.length-(j+1).toNat<d.length-j.toNat;omega⟩;show(l++[_]).length<=(j+1).toNat;rw[ai,aW];omega
   rw[if_neg e,k];exact⟨⟨by show 0<=j+1;omega,by show l.length<=(j+1).toNat;omega,by show(j+1).toNat<=_;omega⟩,by show d.length-(j+1).toNat<d.length-j.toNat;omega⟩
  rw[if_neg b];trivial
 obtain⟨l,j⟩:=a;obtain⟨f,i,g⟩:=n;simp only at f i g;refine⟨fun b=>⟨fun _=>?_,fun _=>⟨fun _=>?_,trivial⟩,trivial⟩,trivial⟩
 .rw[bk]at b;rw[aT,bk,bk];exact⟨f,b⟩
 simp only[ai,aW,maxLen];omega
def c32:bu Try.prog 32 s32 (pre 32) (cF 32):=by refine zF Uy Try.func32 (v:=Vd) ?_;intro i h b;obtain⟨d,_,rfl,c,f⟩:=aJ.1 h;obtain⟨s,rfl⟩:=mN c;obtain⟨x,_,rfl,g,e⟩:=aJ.1 f;obtain rfl:=dy.1 e;refine zL D.A D.list ([]:Taf) (fun _ _ l=>(let a:=(jP (aC 2 x []));tI s a (l.getD 0 .top).A (l.getD 1 .top).q)) (y:=fV x s) (zE (Q6 x s b))
def Ux:jm Try.prog pre cF ZW:=aR c32 Uy
def afp(x:Int)(s:RS):Prop:=
 ((true=true->Ok s 0))/\(
 let a:=(dR s)
 ((true=true->((vo (aC 2 a [])).length+(lr (aC 2 a [])).length)*8<=140737488355328))/\(
 True))
def QL(x:Int)(s:RS)(a:jX i64 x)(h:Ok (s) 0):afp x s:=by refine⟨fun _=>h,fun _=>?_,trivial⟩;have:=AG (gL h);show((vo (dR s)).length+(lr (dR s)).length)*8<=_;omega
def c76:bu Try.prog 76 s76 (pre 76) (cF 76):=by refine zF Ux Try.func76 (v:=aeG) ?_;intro g h b;obtain⟨d,_,rfl,c,f⟩:=aJ.1 h;obtain⟨s,rfl⟩:=mN c;obtain⟨_,_,rfl,⟨x,rfl,a⟩,e⟩:=aJ.1 f;obtain rfl:=dy.1 e;refine zH D.W D.bool false (y:=pf x s) (zE (QL x s a b))
def TR:jm Try.prog pre cF Vh:=aR c76 Ux
def afr(s:RS):Prop:=
 ((true=true->gn s.li s.lt s.le=true))/\(
 let b:=(fM s.li s.lt s.le)
 ((true=true->okB s.li s.lt=true))/\(
 let a:=(eJ s.li s.lt s.le (i64.wrap (s.bB+1)) (i64.wrap (b.1-s.bB)))
 VC.EP cF pre D.bool (fun _ _ l=>qZ a (l.getD 0 .top).W (l.getD 1 .top).q) [] (VC.lp 30 U9) (fC (fC (fun i=>[C3 s].getD i .top) 6 (D.ff [D.int i64 b.1,D.int i64 b.2])) 27 (D.list a))))
def acg(b:Taf)(a:Int):Prop:=
 ((decide (a<((b:Taf).length:Int))=true->
  (true=true->((decide (0<=a))&&(decide (a<((b:Taf).length:Int))))=true)/\(
  True)))/\(True)
def QN(s:RS)(h:Ok (s) 0):afr s:=by
 refine⟨fun _=>h.may,fun _=>h.MB,?_⟩;intro c;have f:c.length<=2147483648:=aY (tF (l:=s.le)) (aY h.rI (by decide))
 clear_value c
 refine VC.js 30 (by kernel_rfl) ?_;refine VC.iq (Φ:=cF) (Pre:=pre) (triv:=triv) (v0:=30) (decL:=fun l=>((l.getD 0 .top).W,(l.getD 1 .top).q)) (encL:=fun a:Bool×Int=>([D.bool a.1,D.int i64 a.2])) (dec:=D.W) (enc:=D.bool) (lp:=fun _ _ _ _=>false) (bad:=.inr false) (bd:=false) (by kernel_rfl) (fun a:Bool×Int=>qY c a.1 a.2) (fun a:Bool×Int=>0<=a.2) (fun a:Bool×Int=>wJ c a.1 a.2) (false,0) kH (by kernel_rfl) ?RV (fun a=>rfl) ?RY (by kernel_rfl) (fun a e=>by kernel_rfl) (fun a=>by kernel_rfl) (fun a=>by kernel_rfl) (fun a e k=>zE (β:=acg c a.2) ?EV) (by kernel_rfl)
 .exact ar 0
 .rintro⟨b,j⟩ i;replace i:0<=j:=i;unfold qY;by_cases d:decide (j<(c.length:Int))=true
  .rw[if_pos d];rw[bk]at d;by_cases g:((cD 2 (c.getD j.toNat .top)).q==2)=true
   .rw[if_pos g];trivial
   rw[if_neg g,wrap64 (by omega) (by omega)];refine⟨by show 0<=j+1;omega,?_⟩;show c.length-(j+1).toNat<c.length-j.toNat;omega
  rw[if_neg d];trivial
 obtain⟨b,j⟩:=a;replace e:0<=j:=e;refine⟨fun d=>⟨fun _=>?_,trivial⟩,trivial⟩;rw[bk]at d;rw[aT,bk,bk];exact⟨e,d⟩
def c69:bu Try.prog 69 s69 (pre 69) (cF 69):=by refine zF TR Try.func69 (v:=U9) ?_;intro g h c;obtain⟨d,_,rfl,e,f⟩:=aJ.1 h;obtain⟨s,rfl⟩:=mN e;obtain rfl:=dy.1 f;refine zL D.W D.bool false (fun _ _ l=>(let b:=(fM s.li s.lt s.le);let a:=(eJ s.li s.lt s.le (i64.wrap (s.bB+1)) (i64.wrap (b.1-s.bB)));qZ a (l.getD 0 .top).W (l.getD 1 .top).q)) (y:=tJ s) (zE (QN s c))
def TZ:jm Try.prog pre cF ZD:=aR c69 TR
def afs(s:RS):Prop:=
 ((true=true->gn s.li s.lt s.le=true))/\(
 True)
def QO(s:RS)(h:Ok (s) 0):afs s:=by exact⟨fun _=>h.may,trivial⟩
def c68:bu Try.prog 68 xI (pre 68) (cF 68):=by refine zF TZ Try.func68 (v:=aeH) ?_;intro e h a;obtain⟨d,_,rfl,b,c⟩:=aJ.1 h;obtain⟨s,rfl⟩:=mN b;obtain rfl:=dy.1 c;refine zH D.W D.bool false (y:=vX s) (zE (QO s a))
def T3:jm Try.prog pre cF Vj:=aR c68 TZ
def afE(x:D)(s:RS):Prop:=
 (True)/\(((s.role !=2)=false->
  (True)/\((((cD 0 x).q==1)=false->
   (True)/\((((cD 0 x).q !=2)=false->
    ((true=true->Ok s 0))/\(
    let a:=(vX s)
    (((((!a)==false)&&true)=true->Ok s 0))/\(
    let b:=(tJ s)
    (True)/\((((!a)||b)=false->
     ((true=true->Ok s 0))/\(
     True)))))))))))
def Q3(x:D)(s:RS)(h:Ok (s) 0):afE x s:=by
 (repeat' (first|exact trivial|apply And.intro|intro _))
 all_goals exact h
def c38:bu Try.prog 38 s38 (pre 38) (cF 38):=by refine zF T3 Try.func38 (v:=Zj) ?_;intro g h a;obtain⟨d,_,rfl,b,e⟩:=aJ.1 h;obtain⟨s,rfl⟩:=mN b;obtain⟨x,_,rfl,f,c⟩:=aJ.1 e;obtain rfl:=dy.1 c;refine zH D.q (D.int i64) 0 (y:=wT x s) (zE (Q3 x s a))
def acR:jm Try.prog pre cF aeU:=aR c38 T3
def afM(s:RS):Prop:=
 (True)/\(
 let b:=(iS s.li s.lt s.le)
 ((true=true->gn s.li s.lt s.le=true))/\(
 let a:=(fM s.li s.lt s.le)
 ((true=true->Ok s 0))/\(
 True)))
def Rc(s:RS)(h:Ok (s) 0):afM s:=by exact⟨trivial,fun _=>h.may,fun _=>h,trivial⟩
def U5:bu Try.prog 12 s12 (pre 12) (cF 12):=by refine zF acR Try.func12 (v:=aeQ) ?_;intro e h a;obtain⟨d,_,rfl,b,c⟩:=aJ.1 h;obtain⟨s,rfl⟩:=mN b;obtain rfl:=dy.1 c;refine zH (fun d=>d) (fun d=>d) .top (y:=J7 s) (zE (Rc s a))
def OI:jm Try.prog pre cF Si:=aR U5<|aR c38<|aR c68<|aR c69<|aR c76<|aR c32<|aR c29<|aR c49<|aR c65<|aR c74<|aR c50<|aR c25<|aR c28<|aR c26<|aR c24<|aR UK<|aR UJ<|aR c60<|aR c52<|aR U4<|aR c70<|aR c72<|aR c66<|aR c63<|aR c36<|aR Yo<|aR c55<|aR c61<|aR c56<|aR c79<|vQ
def c57:bu Try.prog 57 s57 (pre 57) (cF 57):=by refine zF OI Try.func57 (v:=Y4) ?_;intro i h d;obtain⟨a,_,rfl,⟨a,rfl,g⟩,b,_,rfl,⟨b,rfl,f⟩,c,_,rfl,⟨c,rfl,e⟩,rfl⟩:=h;simp[Y4,fp,ev,ep,cN,eu,dC,fo,ft,fq,den,B.den,cF,ny,bU,cV]
def Uc:jm Try.prog pre cF ZJ:=aR c57 OI
def c58:bu Try.prog 58 lK (pre 58) (cF 58):=by
 refine zF Uc Try.func58 (v:=Y3) ?_;intro ds h hp;obtain⟨_,_,rfl,⟨i,rfl,r⟩,_,_,rfl,⟨t,rfl,ht⟩,_,_,rfl,⟨l,rfl,f,R⟩,rfl⟩:=h;have q:=f.1;simp only[maxLen]at q;have Q:cF 58 [.int i64 i,.int i64 t,.list l]=.bool (gn i t l):=rfl;have w:∀n s r:Int,cF 57 [.int i64 n,.int i64 s,.int i64 r]=.bool (ny n s r):=fun _ _ _=>rfl;simp[Y3,fp,ev,ep,cN,eu,dC,fo,ft,fq,fX,den,U.den,B.den,fC,bc,db,eF,eD,eE,fD,bU,cV,pre,cD,fl,vr,cr,rp,E.V,List.range',Q,w,ny];refine⟨fun h=>?_,fun D C A z=>?_⟩
 .have:okB i t=false:=by rw[cE];intro c;obtain⟨M,m,L,k⟩:=jE.1 c;simp only[MX]at m k;omega
  simp[gn,this]
 refine lB.intro (MJ i t l) (FM l 3) ⟨0,i,t,rfl,aF _,jE.2 ⟨D,C,A,z⟩,rfl⟩ ?_;intro xs N S;obtain⟨n,j,u,rfl,O,o,g⟩:=S;obtain⟨M,m,L,k⟩:=jE.1 o;simp only[MX]at m k;rcases hx:l[n]? with _|x
 .have b:l.length<=n:=by rwa [eO]at hx
  rw[bL b]at g;have a:¬((n:Int)<l.length):=by omega
  have p:gn i t l=true:=by simp[gn,jE.2 ⟨D,C,A,z⟩,<-g,rr]
  simp[bU,a,p]
 obtain⟨a,b⟩:=aO.1 hx;obtain⟨Z,Y,r0,K⟩:=DA (R x (bQ hx));rw[ui]at r0 K;rw[cY a,b]at g;have e:(n:Int)<l.length:=by omega
 simp[bU,cV,hx,Z,Y,e,w,ny];by_cases c:ix x=j+1/\u<=tm x/\ix x<=MX/\tm x<=MX
 .obtain⟨X,W,V,T⟩:=c;simp only[MX]at V T;rw[wrap64 (n:=ix x-1) (by omega) (by omega),wrap64 (n:=(n:Int)+1) (by omega) (by omega)];refine⟨⟨fun y=>by omega,fun _ _ _ _ _ _=>⟨⟨n+1,ix x,tm x,rfl,a,jE.2 ⟨by omega,by simp only[MX];omega,by omega,by simp only[MX];omega⟩,?_⟩,?_⟩⟩,fun y=>by omega⟩
  .rw[<-g];simp[rr,X,W,MX,show j+1<=1099511627776 by omega,show tm x<=1099511627776 by omega]
  show l.length-((n:Int)+1).toNat<l.length-(n:Int).toNat;omega
 have p:gn i t l=false:=by simp only[gn,<-g,Bool.and_eq_false_iff];right;rw[cE];intro P;obtain⟨a1,a2,a3,a4,_⟩:=iu.1 P;exact c ⟨a1,a2,a3,a4⟩
 simp only[MX]at c;refine⟨⟨fun _=>p,fun J I H G w5 F=>?_⟩,fun y=>by omega⟩
 exact absurd ⟨by
  by_cases d:ix x=-9223372036854775808
  .rw[d]at H;omega
  rw[wrap64 (n:=ix x-1) (by omega) (by omega)]at J;omega,I,G,F⟩ c
def Ub:jm Try.prog pre cF ZI:=aR c58 Uc
def c23:bu Try.prog 23 s23 (pre 23) (cF 23):=by
 refine zO Ub Try.func23 (v:=Zq) ?_;intro ds h j;obtain⟨_,_,rfl,⟨c,rfl,S⟩,_,_,rfl,⟨e,rfl,R⟩,_,_,rfl,⟨a,rfl,C,D⟩,_,_,rfl,⟨i,rfl,hi⟩,_,_,rfl,⟨t,rfl,ht⟩,_,_,rfl,⟨l,rfl,I,hL⟩,rfl⟩:=h;obtain⟨j,p,q⟩:=j;replace j:gn i t l=true:=j;replace p:l.length<4294967296:=p;replace q:a.length<4294967296:=q;obtain⟨⟨k1,H,k3,O⟩,V⟩:=eU.1 j;have z:=pN H V;simp only[MX]at z H O;have T:cF 58 [.int i64 c,.int i64 e,.list a]=.bool (gn c e a):=rfl;have J:∀k:Int,cF 50 [.ptr [.int i64 i,.int i64 t,.list l],.int i64 k]=.ff [.int i64 (gl i t l k).1,.int i64 (gl i t l k).2]:=fun _=>rfl;have W:cF 23 [.int i64 c,.int i64 e,.list a,.int i64 i,.int i64 t,.list l]=.ff [.ff [.int i64 (iD i t l c e a).1,.bool (jf i t l c e a)],qp i t (iD i t l c e a).2]:=rfl;simp[Zq,fp,ev,ep,cN,eu,dC,fo,ft,fq,fX,den,U.den,B.den,fC,bc,db,eF,eD,eE,fD,bU,cV,pre,cD,fl,vr,cr,rp,E.V,List.range',T,J,W,qp,j];refine⟨fun h=>?_,fun h=>⟨fun g=>?_,fun g K=>?_⟩⟩
 .have:jf i t l c e a=false:=by simp[jf,h]
  simp[iD,this]
 .have:jf i t l c e a=false:=by
   rw[cE];intro m;simp only[jf,aT,beq_iff_eq]at m;rcases g with g|g
   .exact g m.1.2
   exact g m.2
  simp[iD,this]
 have G:jf i t l c e a=true:=by simp[jf,h,g,K]
 obtain⟨q1,q2,N⟩:=iF g;obtain⟨_,F⟩:=eU.1 h;refine lB.intro (AJ i t l a) (FM a 2) ⟨0,(c-i).toNat,rfl,aF _,by omega,?_,rfl⟩ ?_
 .rw[<-N,K,show i+(((c-i).toNat:Nat):Int)=c by omega];exact F
 intro xs P X;obtain⟨n,s,rfl,A,Q,o,b⟩:=X;rcases hx:a[n]? with _|x
 .have f:a.length<=n:=by rwa [eO]at hx
  rw[bL f]at b;have d:¬((n:Int)<a.length):=by omega
  simp[bU,db,d,iD,G,<-b,qb]
 obtain⟨d,f⟩:=aO.1 hx;obtain⟨e0,e1,_,_⟩:=DA (D x (bQ hx));rw[cY d,f]at b o;have u:(n:Int)<a.length:=by omega
 obtain⟨c1,c2,c3,c4,_⟩:=iu.1 o;simp only[MX]at c3 c4;simp[bU,db,eD,eF,cV,hx,e0,e1,u,eE,cD,fl,vr,List.range',J,qp,j];refine⟨⟨fun Z Y=>?_,fun y=>?_⟩,fun hq=>by omega⟩
 .have w:rO i t l x=true:=by simp[rO,Z,Y]
  obtain⟨M,L⟩:=F3 Q o w;rw[wrap64 (n:=(n:Int)+1) (by omega) (by omega)];refine⟨⟨n+1,s+1,rfl,d,M,L,?_⟩,?_⟩
  .rw[<-b]
   conv=>rhs;unfold qb;rw[if_pos w]
  show a.length-((n:Int)+1).toNat<a.length-(n:Int).toNat;omega
 have w:rO i t l x=false:=by rw[cE];intro m;simp only[rO,aT,beq_iff_eq]at m;exact y m.1 m.2
 rw[wrap64 (n:=ix x-i) (by omega) (by omega),wrap64 (n:=ix x-i-1) (by omega) (by omega)]
 have eA:iD i t l c e a=(ix x,l.take (ix x-i-1).toNat++x::a.drop (n+1)):=by unfold iD;rw[if_pos G,<-b];unfold qb;rw[if_neg (by simp[w])]
 have ed:a.drop n=x::a.drop (n+1):=by rw[cY d,f]
 rw[eA,ed];have r:min (ix x-i-1).toNat l.length+(a.length-n)<=8589934592:=by omega
 refine⟨by omega,A,⟨aY r (by decide),aY (aw 320 r) (by decide)⟩,by omega,⟨rfl,G⟩,rfl⟩
def UE:jm Try.prog pre cF Z1:=aR c23 Ub
def c71:bu Try.prog 71 s71 (pre 71) (cF 71):=by
 refine zO UE Try.func71 (v:=YX) ?_;intro I h a;obtain⟨_,_,rfl,⟨m,rfl,C⟩,cm,_,rfl,g,_,_,rfl,⟨i,rfl,f⟩,_,_,rfl,⟨t,rfl,A⟩,_,_,rfl,⟨l,rfl,o,D⟩,rfl⟩:=h;obtain⟨a,b⟩:=a;replace a:gn i t l=true:=a;replace b:l.length<4294967296:=b;obtain⟨⟨z,k,y,q⟩,u⟩:=eU.1 a;have e:=pN k u;have p:=RF g;simp only[MX]at e k q;have s:cF 25 [.ptr [.int i64 i,.int i64 t,.list l]]=.ff [.int i64 (i+l.length),.int i64 (cZ t l)]:=rfl;have r:∀n j f:Int,cF 57 [.int i64 n,.int i64 j,.int i64 f]=.bool (ny n j f):=fun _ _ _=>rfl;have w:cF 71 [.int i64 m,cm,.int i64 i,.int i64 t,.list l]=.ff [.ff [tZ i t l m cm,.int i64 (mY i t l m)],qp i t (pE i t l m cm)]:=rfl;simp[YX,fp,ev,ep,cN,eu,dC,fo,ft,fq,fX,den,U.den,B.den,fC,bc,db,eF,eD,eE,fD,bU,cV,pre,cD,fl,vr,cr,rp,E.V,List.range',s,w,qp,a,r,ny,p];have d:(l.length+1:Nat)<=maxLen:=by simp only[maxLen];omega
 refine⟨fun h=>?_,fun H G F=>⟨fun x=>?_,fun x=>?_⟩⟩
 .have c:mY i t l m=1:=by unfold mY;rw[if_pos (by simp only[MX];omega)]
  simp[tZ,pE,c,qw]
 .have c:mY i t l m=2:=by unfold mY;rw[if_neg (by simp only[MX];omega),if_pos (by simp only[MX];omega)]
  simp[tZ,pE,c,qw]
 have c:mY i t l m=0:=by unfold mY;rw[if_neg (by simp only[MX];omega),if_neg (by simp only[MX];omega)]
 rw[wrap64 (n:=i+l.length+1) (by omega) (by omega)];refine⟨⟨d,by omega⟩,?_⟩;simp[tZ,pE,c,vp];exact p
def TX:jm Try.prog pre cF ZB:=aR c71 UE
def c51:bu Try.prog 51 s51 (pre 51) (cF 51):=by
 refine zO TX Try.func51 (v:=Y8) ?_;intro A h b;obtain⟨_,_,rfl,⟨k,rfl,p⟩,_,_,rfl,⟨i,rfl,y⟩,_,_,rfl,⟨t,rfl,x⟩,_,_,rfl,⟨l,rfl,a,z⟩,rfl⟩:=h;replace b:gn i t l=true:=b;rw[ui]at p;obtain⟨⟨w,f,u,m⟩,q⟩:=eU.1 b;have c:=pN f q;have d:=a.1;have g:=a.2;rw[ou]at g;simp only[MX]at c f m;have o:cF 25 [.ptr [.int i64 i,.int i64 t,.list l]]=.ff [.int i64 (i+l.length),.int i64 (cZ t l)]:=rfl;have r:∀k:Int,cF 50 [.ptr [.int i64 i,.int i64 t,.list l],.int i64 k]=.ff [.int i64 (gl i t l k).1,.int i64 (gl i t l k).2]:=fun _=>rfl;have s:cF 51 [.int i64 k,.int i64 i,.int i64 t,.list l]=.ff [.int i64 (uq i l k),qp (iT i t l k).1 (iT i t l k).2.1 (iT i t l k).2.2]:=rfl;simp[Y8,fp,ev,ep,cN,eu,dC,fo,ft,fq,fX,den,U.den,B.den,fC,bc,db,eF,eD,eE,fD,bU,cV,pre,cD,fl,vr,cr,rp,E.V,List.range',o,r,s,qp,b];refine⟨fun h=>by simp[uq,iT,h],fun h=>⟨fun j=>by simp[uq,iT,show¬(i+l.length<k) by omega,j],fun j=>?_⟩⟩;rw[wrap64 (n:=k-i) (by omega) (by omega)];have e:iT i t l k=(k,(gl i t l k).1,l.drop (k-i).toNat):=by unfold iT;rw[if_neg (by omega)]
 refine⟨by omega,⟨aY d (cP _ _),aY (aw 320 (by omega)) g⟩,by unfold uq;rw[if_neg (by omega)],by rw[e],by rw[e],by rw[e]⟩
def JW:jm Try.prog pre cF ZO:=aR c51 TX
def cnw:bu Try.prog 22 snw (fun c=>pre 22 c/\((cF 22 c).A.getD 0 .top).iV=false) (cF 22):=by
 refine zO JW Try.func22 (v:=YO) ?_;intro c h j;obtain⟨_,_,rfl,⟨i,rfl,q⟩,_,_,rfl,⟨t,rfl,p⟩,rfl⟩:=h;have a:=j.2;have f:∀n:Int,cF 57 [.int i64 n,.int i64 0,.int i64 1099511627776]=.bool (ny n 0 1099511627776):=fun _=>rfl;change D.iV (cD 0 (lT i t))=false at a
 have d:okB i t=true/\(i=0↔t=0):=by refine Decidable.byContradiction fun k=>?_;rw[lT,if_neg k]at a;exact absurd (show true=false from a) (by decide)
 have l:cF 22 [.int i64 i,.int i64 t]=.ff [.ff [],qp i t []]:=by show lT i t=_;rw[lT,if_pos d]
 obtain⟨b,g⟩:=d;obtain⟨s,o,r,m⟩:=jE.1 b;simp only[MX]at o m;have e:(i==0)=(t==0):=by rw[dJ];simpa using g
 simp[YO,fp,ev,ep,cN,eu,dC,fo,ft,fq,Fk,fX,den,U.den,B.den,fC,bc,db,eF,eD,eE,fD,bU,cV,pre,f,ny,l,qp,e];omega
def cnl:bu Try.prog 22 snl (fun b=>pre 22 b/\((cF 22 b).A.getD 0 .top).iV=true) (fun _=>.gI):=by
 refine zF JW Try.func22 (v:=YP) ?_;intro b h e;obtain⟨_,_,rfl,⟨i,rfl,k⟩,_,_,rfl,⟨t,rfl,j⟩,rfl⟩:=h;have a:=e.2;have d:∀n:Int,cF 57 [.int i64 n,.int i64 0,.int i64 1099511627776]=.bool (ny n 0 1099511627776):=fun _=>rfl;change D.iV (cD 0 (lT i t))=true at a
 have g:¬(okB i t=true/\(i=0↔t=0)):=by intro f;rw[lT,if_pos f]at a;exact absurd (show false=true from a) (by decide)
 simp[YP,fp,ev,ep,cN,eu,dC,fo,ft,fq,Fk,fX,den,U.den,B.den,fC,bc,db,eF,eD,eE,fD,bU,cV,pre,d,ny];intro p o m l c;refine g ⟨jE.2 (by simp only[MX];omega),?_⟩;rw[dJ]at c;simpa using c
end Go.Proofs.Ytjhmkaninmgilaa
