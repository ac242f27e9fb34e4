/- Part 6 of the proof of RaftOut; no condition. -/
import Derived.Test.YtjhmkaninmgilaaS05
set_option linter.defProp false
set_option linter.unusedVariables false
set_option linter.unusedSimpArgs false
set_option maxHeartbeats 4000000
open Go.IntKind (i64)
namespace Go.Proofs.Ytjhmkaninmgilaa
open Go Go.RowKit Go.dI Go.Proofs
def zF{f:Nat}{fn:Func}{a:dH}{b:Taf->Prop}{yi:Taf->D}{cs:List (Nat×dH)}{v:VC}(c:jg Try.prog pre cz cs)(j:Try.prog.funcs[f]? =some fn)(k: ∀e,dn (.V a.params) e->b e->v.holds cz pre (fun d=>d=yi e) (fun i=>e.getD i .top) [])(l:fnB fn a=true:=by kernel_rfl)(h:J8 Try.prog cs [] a fn=v:=by kernel_rfl)(g:LU a.res=true:=by rfl):bj Try.prog f a b yi:=Fw (given:=[]) mix c j l h k g
def zO{f:Nat}{fn:Func}{a:dH}{ob:Ob}{b:Taf->Prop}{yi:Taf->D}{cs:List (Nat×dH)}{v:VC}(c:jg Try.prog pre cz cs)(k:Try.prog.funcs[f]? =some fn)(l: ∀e,dn (.V a.params) e->b e->v.holds cz pre (fun d=>d=yi e) (fun i=>e.getD i .top) [])(g:a.ob=some ob:=by rfl)(m:TX fn a ob=true:=by kernel_rfl)(j:nt Try.prog cs [] a fn=v:=by kernel_rfl)(h:LS cs=true:=by rfl):bj Try.prog f a b yi:=hP (given:=[]) mix c k g m j l h
section
variable{v:VC}{ρ:Nat->D}{L:VC->(Nat->D)->Prop}{β B:Type}{kJ:List (Taf->Prop)}
def zE{β:Prop}(p:β)(h:v.xX cz pre triv L ρ=β:=by kernel_rfl):v.xX cz pre triv L ρ:=Eq.mpr h p
def zK(h:v.quiet triv=true:=by kernel_rfl):v.xX cz pre triv L ρ:=VC.Ij h
def zL(dec:D->B)(enc:B->D)(bad:B)(lp:Nat->(Nat->D)->Taf->B){y:B}(c:v.xX cz pre triv (VC.Ea cz pre enc lp kJ) ρ)(e:v.flat false=true:=by kernel_rfl)(b:(v.pN cz ρ).map (fun d=>enc (dec d))=v.pN cz ρ:=by kernel_rfl)(a:v.FZ cz dec (fun _ _=>bad) lp bad ρ=y:=by kernel_rfl):v.holds cz pre (fun d=>d=enc y) ρ kJ:=VC.E4 kA e c b a
def zH(dec:D->B)(enc:B->D)(bad:B){y:B}(c:v.xX cz pre triv (VC.Ea cz pre enc (fun _ _ _=>bad) kJ) ρ)(e:v.flat false=true:=by kernel_rfl)(b:(v.pN cz ρ).map (fun d=>enc (dec d))=v.pN cz ρ:=by kernel_rfl)(a:v.FZ cz dec (fun _ _=>bad) (fun _ _ _=>bad) bad ρ=y:=by kernel_rfl):v.holds cz pre (fun d=>d=enc y) ρ kJ:=VC.E4 kA e c b a
end
def c79:bj Try.prog 79 W5 (pre 79) (cz 79):=by
 refine zF (vm (Φ:=cz) (Pre:=pre)) Try.func79 (v:=XI) ?_;intro z h u;obtain⟨_,_,rfl,s,_,_,rfl,t,rfl⟩:=h;obtain⟨l,rfl,w,o⟩:=uZ s;obtain⟨b,rfl,p⟩:=dr.1 t;rw[tH]at p;have q:cz 79 [.list (l.map (D.int .i64)),.int .i64 b] = .int .i64 (findF (fun y=>y==b) l 0):=by simp[cz,fa,bT]
 simp[XI,fi,eh,dY,cH,dZ,dy,fh,fm,fj,fZ,den,U.den,B.den,fD,aU,cV,eu,ep,er,fE,bT,cQ,ab,aP,br,ak,pre,q];refine kZ.intro (fun f=> ∃n:Nat,f=[.int .i64 0,.int .i64 n] ∧n<=l.length∧findF (fun y=>y==b) (l.drop n) n=findF (fun y=>y==b) l 0) (fun f=>l.length-(I (.list f) 1).toNat) ⟨0,rfl,aC _,by simp⟩ ?_;intro f g r;obtain⟨n,rfl,m,a⟩:=r;clear g;rcases hx:l[n]? with _|x
 ·have j:=su hx;have c: ¬((n:Int)<l.length):=by omega
  rw[bO j,findF]at a;simp[bT,c,<-a]
 ·have c:=so hx;have d:(n:Int)<l.length:=by omega
  have k:=bU hx;have i:IntKind.wrap .i64 ((n:Int)+1)=(n:Int)+1:=wrap64 (by omega) (by omega);rw[Ch hx,findF]at a;simp[bT,hx,d,i,Nat.not_le.2 c];refine⟨fun h=> ?_,fun h=>⟨⟨n+1,by simp,c,?_⟩,?_⟩⟩
  ·rw[<-a,if_pos (by simp[h])]
  ·rw[<-a,if_neg (by simp;exact fun e=>h e.symm)];congr 1
  ·show l.length-((n:Int)+1).toNat<l.length-(n:Int).toNat;omega
def SE:jg Try.prog pre cz Yp:=aO c79 vm
def c56:bj Try.prog 56 s56 (pre 56) (cz 56):=by
 refine zF SE Try.func56 (v:=XW) ?_;intro m h j;obtain⟨_,_,rfl,g,_,_,rfl,i,rfl⟩:=h;obtain⟨l,rfl,k,c⟩:=uZ g;obtain⟨b,rfl,d⟩:=dr.1 i;rw[tH]at d;have e:cz 56 [.list (l.map (D.int .i64)),.int .i64 b] = .bool (decide (b∈l)):=by simp[cz,fa,bT]
 have f:cz 79 [.list (l.map (D.int .i64)),.int .i64 b] = .int .i64 (findF (fun y=>y==b) l 0):=by simp[cz,fa,bT]
 simp[XW,fi,eh,dY,cH,dZ,dy,fh,fm,fj,fZ,den,U.den,B.den,fD,aU,cV,eu,ep,er,fE,bT,cQ,ab,aP,br,ak,pre,e,f];rcases xI (fun y=>y==b) l 0 with⟨h1,h2⟩|⟨n,y,h1,h2,h3,_⟩
 ·have:b∉l:=fun h=>by have:=h2 b h;simp at this
  simp[h1,this]
 ·have a:=bU h2;rw[beq_iff_eq]at h3;subst h3;simp only[h1,a,iff_true];omega
def abJ:jg Try.prog pre cz YC:=aO c56 SE
def c61:bj Try.prog 61 s61 (pre 61) (cz 61):=IH KZ Try.func61 (by kernel_rfl)
def abI:jg Try.prog pre cz Yy:=aO c61 abJ
def c82:bj Try.prog 82 s82 (pre 82) (cz 82):=Kl OE Try.func82 (by kernel_rfl)
def abH:jg Try.prog pre cz Yo:=aO c82 abI
def c83:bj Try.prog 83 s83 (pre 83) (cz 83):=DU FG Try.func83 (by kernel_rfl)
def SB:jg Try.prog pre cz Yn:=aO c83 abH
def c55:bj Try.prog 55 s55 (pre 55) (cz 55):=by
 refine zF SB Try.func55 (v:=XX) ?_;intro V h t;obtain⟨_,_,rfl,S,rfl⟩:=h;obtain⟨l,rfl,T,P⟩:=uZ S;have R:cz 55 [.list (l.map (D.int .i64))] = .bool (qX 0 l):=by simp[cz,fa]
 simp[XX,fi,eh,dY,cH,dZ,dy,fh,fm,fj,fZ,den,U.den,B.den,fD,aU,cV,eu,ep,er,fE,bT,cQ,ab,aP,br,ak,pre,R];obtain⟨J,i⟩: ∃J:Taf->Prop,∀j,J j↔ ∃n:Nat,j=[.bool false,.int .i64 n] ∧n<=l.length∧qX (uX 0 (l.take n)) (l.drop n)=qX 0 l:=⟨_,fun _=>dx⟩;obtain⟨M,q⟩: ∃M:Taf->Nat,∀j,M j=l.length-(I (.list j) 1).toNat:=⟨_,fun _=>rfl⟩;refine kZ.intro J M ((i _).2 ⟨0,rfl,aC _,by simp[uX]⟩) ?_;intro j u C;obtain⟨n,rfl,O,o⟩:=(i _).1 C;clear C;clear u;rcases hx:l[n]? with _|x
 ·have z:=su hx;have b: ¬((n:Int)<l.length):=by omega
  rw[bO z,qX]at o;simp[bT,b,<-o]
 ·have b:=so hx;have c:(n:Int)<l.length:=by omega
  have F:=bU hx;have k:IntKind.wrap .i64 ((n:Int)+1)=(n:Int)+1:=wrap64 (by omega) (by omega);have G:l.take (n+1)=l.take n++[x] :=by rw[cO,hx,eQ]
  have g:uX 0 (l.take (n+1))=x:=by rw[G,qB];rfl
  obtain⟨p,t⟩: ∃p,p=uX 0 (l.take n):=⟨_,rfl⟩;rw[<-t,Ch hx,qX]at o
  have a:1<=x->x<=5->p<x->J [.bool false,.int .i64 ((n:Int)+1)] ∧M [.bool false,.int .i64 ((n:Int)+1)] <M [.bool false,.int .i64 (n:Int)] :=by
   intro s r E;refine⟨(i _).2 ⟨n+1,rfl,b,?_⟩,?_⟩
   ·rw[g,<-o];simp[s,r,E]
   ·rw[q,q];show l.length-((n:Int)+1).toNat<l.length-(n:Int).toNat;omega
  have d: ¬(1<=x∧x<=5∧p<x)->qX 0 l=false:=by
   intro Q;rw[<-o]
   have:(decide (1<=x)&&decide (x<=5)&&decide (p<x))=false:=by rw[cw];intro h;simp only[aS,bk]at h;exact Q ⟨h.1.1,h.1.2,h.2⟩
   rw[this,Bool.false_and]
  by_cases N:n=0
  ·have K:p=0:=by rw[t,N];rfl
   have f: ¬0<n:=by omega
   simp[bT,hx,c,k,Nat.not_le.2 b,f];refine⟨fun h=>d (by omega),fun s r=>a s r (by omega)⟩
  ·obtain⟨y,A⟩: ∃y,l[n-1]? =some y:=⟨_,aQ (by omega)⟩
   have H:p=y:=by
    rw[t];have e:n=n-1+1:=by omega
    rw[e,cO,A,eQ,qB];rfl
   have w:IntKind.wrap .i64 ((n:Int)-1)=((n-1:Nat):Int):=by rw[wrap64 (by omega) (by omega)];omega
   have m:((n-1:Nat):Int)<l.length:=by omega
   have f:0<n:=by omega
   simp[bT,hx,A,c,k,w,m,Nat.not_le.2 b,f];exact⟨fun h=>d (by omega),fun s r E=>a s r (by omega)⟩
def Te:jg Try.prog pre cz YD:=aO c55 SB
def Xj:bj Try.prog 21 s21 (pre 21) (cz 21):=by
 refine zF Te Try.func21 (v:=Yj) ?_;intro H h G;obtain⟨_,_,rfl,F,rfl⟩:=h;obtain⟨va,a,rfl,s,p,w,q⟩:=vd F;simp[Yj,fi,eh,dY,cH,dZ,dy,fh,fm,fj,fZ,den,U.den,B.den,fD,aU,cV,eu,ep,er,fE,bT,cQ,ab,aP,br,ak,pre,ae0,Zu];refine⟨fun h=> ?_,fun E C A=> ?_⟩
 ·simp only[yK,Bool.and_eq_false_iff];rcases h with(h|h)|h
  ·exact .inl (.inl (.inl h))
  ·exact .inl (.inl (.inr h))
  ·exact .inl (.inr (by simp[h]))
 have o:yK va a=decide (∀x∈a,x∉va):=by simp[yK,E,C,A]
 obtain⟨J,f⟩: ∃J:Taf->Prop,∀g,J g↔ ∃n:Nat,g=[.bool false,.int .i64 n] ∧n<=a.length∧ ∀y∈a.take n,y∉va:=⟨_,fun _=>dx⟩;obtain⟨M,j⟩: ∃M:Taf->Nat,∀g,M g=a.length-(I (.list g) 1).toNat:=⟨_,fun _=>rfl⟩;refine kZ.intro J M ((f _).2 ⟨0,rfl,aC _,by simp⟩) ?_;intro g k r;obtain⟨n,rfl,u,c⟩:=(f _).1 r;clear r;clear k;rcases hx:a[n]? with _|x
 ·have z:=su hx;have d: ¬((n:Int)<a.length):=by omega
  have e:n=a.length:=by omega
  subst e;rw[dG]at c;simp[bT,o];exact c
 ·have d:=so hx;have i:(n:Int)<a.length:=by omega
  have l:=bU hx;have m:IntKind.wrap .i64 ((n:Int)+1)=(n:Int)+1:=wrap64 (by omega) (by omega);have t:a.take (n+1)=a.take n++[x] :=by rw[cO,hx,eQ]
  simp[bT,cQ,hx,i,m,Nat.not_le.2 d,Va,o];refine⟨fun h=>⟨x,l,h⟩,fun h=>⟨(f _).2 ⟨n+1,rfl,d,?_⟩,?_⟩⟩
  ·intro y b;rw[t]at b;rcases aI.1 b with b|b
   ·exact c y b
   ·rw[aB]at b;rw[b];exact h
  ·rw[j,j];show a.length-((n:Int)+1).toNat<a.length-(n:Int).toNat;omega
def TH:jg Try.prog pre cz YU:=aO Xj Te
def c36:bj Try.prog 36 s36 (pre 36) (cz 36):=by refine zF TH Try.func36 (v:=Yc) ?_;intro m h l;obtain⟨_,_,rfl,i,_,_,rfl,g,rfl⟩:=h;obtain⟨j,k,rfl,d,a,e,c⟩:=vd i;obtain⟨b,rfl,f⟩:=dr.1 g;rw[tH]at f;simp[Yc,fi,eh,dY,cH,dZ,dy,fh,fm,fj,fZ,den,U.den,B.den,fD,aU,cV,eu,ep,er,fE,bT,cQ,ab,aP,br,ak,pre,Va,Zs]
def Tu:jg Try.prog pre cz YL:=aO c36 TH
def c63:bj Try.prog 63 s63 (pre 63) (cz 63):=by
 refine zF Tu Try.func63 (v:=XS) ?_;intro k h c;obtain⟨_,_,rfl,j,rfl⟩:=h;obtain⟨a,b,rfl,f,d,g,e⟩:=vd j
 replace c:(a.length+b.length)*8<=140737488355328:=by
  have i:((vo (.agg [.list (a.map (D.int .i64)),.list (b.map (D.int .i64))])).length+(lr (.agg [.list (a.map (D.int .i64)),.list (b.map (D.int .i64))])).length)*8<=140737488355328:=c
  rwa [xj,Eo]at i
 simp[XS,fi,eh,dY,cH,dZ,dy,fh,fm,fj,fZ,den,U.den,B.den,fD,aU,cV,eu,ep,er,fE,bT,cQ,ab,aP,br,ak,pre,ae6,abv,ae5,ae2,Ee];exact⟨aW (show _<=140737488355328 by omega) (by decide),c⟩
def SY:jg Try.prog pre cz Yx:=aO c63 Tu
def c66:bj Try.prog 66 s66 (pre 66) (cz 66):=by
 refine zF SY Try.func66 (v:=XQ) ?_;intro K h H;obtain⟨_,_,rfl,E,_,_,rfl,C,rfl⟩:=h;obtain⟨a,F,rfl,t,p,w,q⟩:=vd E;obtain⟨y,rfl,G,z⟩:=uZ C;simp[XQ,fi,eh,dY,cH,dZ,dy,fh,fm,fj,fZ,den,U.den,B.den,fD,aU,cV,eu,ep,er,fE,bT,cQ,ab,aP,br,ak,pre,ae3];obtain⟨J,d⟩: ∃J:Taf->Prop,∀g,J g↔ ∃n:Nat,g=[.int .i64 (x9 (a.take n) y),.int .i64 n] ∧n<=a.length:=⟨_,fun _=>dx⟩;obtain⟨M,c⟩: ∃M:Taf->Nat,∀g,M g=a.length-(I (.list g) 1).toNat:=⟨_,fun _=>rfl⟩;refine kZ.intro J M ((d _).2 ⟨0,rfl,aC _⟩) ?_;intro g m r;obtain⟨n,rfl,u⟩:=(d _).1 r;clear r;have l:=QM (a.take n) y;rw[aK]at l;clear m;rcases hx:a[n]? with _|x
 ·have A:=su hx;have b: ¬((n:Int)<a.length):=by omega
  have e:n=a.length:=by omega
  subst e;rw[dG]at l⊢;have f:IntKind.wrap .i64 (2*(x9 a y:Int))=2*(x9 a y:Int):=wrap64 (by omega) (by omega);simp[bT,f,Gc]
 ·have b:=so hx;have j:(n:Int)<a.length:=by omega
  have s:=bU hx;have o:IntKind.wrap .i64 ((n:Int)+1)=(n:Int)+1:=wrap64 (by omega) (by omega);have k:=Lq (y:=y) hx;have f:IntKind.wrap .i64 ((x9 (a.take n) y:Int)+1)=(x9 (a.take n) y:Int)+1:=wrap64 (by omega) (by omega);have i:a.length-((n:Int)+1).toNat<a.length-(n:Int).toNat:=by omega
  simp[bT,cQ,hx,j,o,f,Nat.not_le.2 b,Va];refine⟨fun h=>⟨(d _).2 ⟨n+1,?_,b⟩,?_⟩,fun h=>⟨(d _).2 ⟨n+1,?_,b⟩,?_⟩⟩
  ·rw[k,if_pos h];rfl
  ·rw[c,c];exact i
  ·rw[k,if_neg h];rfl
  ·rw[c,c];exact i
def SR:jg Try.prog pre cz Yw:=aO c66 SY
def c72:bj Try.prog 72 TU (pre 72) (cz 72):=by
 refine zF SR Try.func72 (v:=XN) ?_;intro ds h hp;obtain⟨_,_,rfl,ga,_,_,rfl,gm,rfl⟩:=h;obtain⟨a,la,rfl,c,R,X,S⟩:=vd ga;obtain⟨m,rfl,hm,Y⟩:=uZ gm;simp[XN,fi,eh,dY,cH,dZ,dy,fh,fm,fj,fZ,den,U.den,B.den,fD,aU,cV,eu,ep,er,fE,bT,cQ,ab,aP,br,ak,pre,ae7];obtain⟨J,j⟩: ∃J:Taf->Prop,∀k,J k↔ ∃n:Nat,k=[.list (((a.take n).map (mM m)).map (D.int .i64)),.int .i64 n] ∧n<=a.length:=⟨_,fun _=>dx⟩;obtain⟨M,t⟩: ∃M:Taf->Nat,∀k,M k=a.length-(I (.list k) 1).toNat:=⟨_,fun _=>rfl⟩;refine kZ.intro J M ((j _).2 ⟨0,rfl,aC _⟩) ?_;intro k w T;obtain⟨n,rfl,W⟩:=(j _).1 T;clear T;clear w;rcases hx:a[n]? with _|x
 ·have Z:=su hx;have d: ¬((n:Int)<a.length):=by omega
  have e:n=a.length:=by omega
  subst e;rw[dG];cases c:a with
  |nil=>simp[bT,cV,uS]
  |cons q r=>
   rw[<-c];have g:=vt a m;have P:0<a.length:=by rw[c];simp
   have i:IntKind.wrap .i64 ((a.length:Int)-1)=((a.length-1:Nat):Int):=by rw[wrap64 (by omega) (by omega)];omega
   have O:Int.tdiv ((a.length-1:Nat):Int) 2=(((a.length-1)/2:Nat):Int):=by rw[Int.tdiv_eq_ediv_of_nonneg (by omega)];omega
   have A:IntKind.wrap .i64 (((a.length-1)/2:Nat):Int)=(((a.length-1)/2:Nat):Int):=wrap64 (by omega) (by omega);have o:a≠ [] :=by rw[c];simp
   obtain⟨z,K⟩: ∃z,(jV (a.map (mM m)))[(a.length-1)/2]? =some z:=⟨_,aQ (by rw[g];omega)⟩;have ha:uS a m=z:=by unfold uS;rw[if_neg o,aj,K];rfl
   have Q:(((a.length-1)/2:Nat):Int)<a.length:=by omega
   simp[-List.map_map,-Int.natCast_ediv,bT,cV,Zt,g,i,O,A,K,ha,o];omega
 ·have d:=so hx;have f:(n:Int)<a.length:=by omega
  have V:=bU hx;have l:IntKind.wrap .i64 ((n:Int)+1)=(n:Int)+1:=wrap64 (by omega) (by omega);have F:(a.take (n+1)).map (mM m)=(a.take n).map (mM m)++[mM m x] :=by rw[cO,hx,eQ,ck];rfl
  have E:a.length-((n:Int)+1).toNat<a.length-(n:Int).toNat:=by omega
  have s: ∀q:Int,q=mM m x->J [.list (((a.map (mM m)).map (D.int .i64)).take n++[.int .i64 q]),.int .i64 ((n:Int)+1)] ∧M [.list (((a.map (mM m)).map (D.int .i64)).take n++[.int .i64 q]),.int .i64 ((n:Int)+1)] <M [.list (((a.map (mM m)).map (D.int .i64)).take n),.int .i64 (n:Int)] :=by
   rintro q rfl;refine⟨(j _).2 ⟨n+1,?_,d⟩,?_⟩
   ·rw[F,ck,<-List.map_take,<-List.map_take];rfl
   ·rw[t,t];exact E
  have b:(min n a.length+1)<=maxLen∧(min n a.length+1)*8<=140737488355328:=⟨aW (show _<=140737488355328 by omega) (by decide),by omega⟩;by_cases p:1<=x∧x<=m.length
  ·have i:IntKind.wrap .i64 (x-1)=x-1:=wrap64 (by omega) (by omega);obtain⟨y,N⟩: ∃y,m[(x-1).toNat]? =some y:=⟨_,aQ (by omega)⟩;have C:mM m x=if 0<y then y else 0:=by unfold mM;rw[if_pos p,aj,N];rfl
   have H:(0:Int)<=x-1:=by omega
   have G:x-1<(m.length:Int):=by omega
   have u:m[x.toNat-1]? =some y:=by rw[show x.toNat-1=(x-1).toNat by omega];exact N
   simp[-List.map_map,bT,cV,hx,f,l,i,u,p.1,p.2,H,G,Nat.not_le.2 d];exact⟨⟨b,s _ C.symm⟩,fun O=>by omega⟩
  ·have C:mM m x=0:=by unfold mM;rw[if_neg p]
   simp[-List.map_map,bT,cV,hx,f,l,Nat.not_le.2 d];exact⟨fun h1 h2=>absurd ⟨h1,h2⟩ p,fun _=>⟨b,s 0 C.symm⟩⟩
def SL:jg Try.prog pre cz Ys:=aO c72 SR
def c70:bj Try.prog 70 gx (pre 70) (cz 70):=by
 refine zF SL Try.func70 (v:=XP) ?_;intro S h R;obtain⟨_,_,rfl,Q,_,_,rfl,P,rfl⟩:=h;obtain⟨b,y,rfl,A,s,H,u⟩:=vd Q;obtain⟨a,x,rfl,z,r,G,t⟩:=vd P;simp[XP,fi,eh,dY,cH,dZ,dy,fh,fm,fj,fZ,den,U.den,B.den,fD,aU,cV,eu,ep,er,fE,bT,cQ,ab,aP,br,ak,pre,Zu,aeZ];refine⟨fun h=> ?_,fun O N=> ?_⟩
 ·simp only[F9,Bool.and_eq_false_iff];rcases h with h|h
  ·exact .inl (.inl h)
  ·exact .inl (.inr h)
 have E:F9 b y a x=decide (xZ b a 6<=1):=by simp[F9,O,N]
 obtain⟨J,c⟩: ∃J:Taf->Prop,∀d,J d↔ ∃n:Nat,d=[.int .i64 (xZ b a n),.int .i64 n] ∧n<=6:=⟨_,fun _=>dx⟩;obtain⟨M,i⟩: ∃M:Taf->Nat,∀d,M d=6-(I (.list d) 1).toNat:=⟨_,fun _=>rfl⟩;refine kZ.intro J M ((c _).2 ⟨0,rfl,aC _⟩) ?_;intro d j w;obtain⟨n,rfl,F⟩:=(c _).1 w;clear w j;have K:=QJ b a n;by_cases C:n=6
 ·subst C;simp[bT,E];omega
 ·have e:(n:Int)<6:=by omega
  have l:IntKind.wrap .i64 ((n:Int)+1)=(n:Int)+1:=wrap64 (by omega) (by omega);have k:IntKind.wrap .i64 ((xZ b a n:Int)+1)=(xZ b a n:Int)+1:=wrap64 (by omega) (by omega);have o:6-((n:Int)+1).toNat<6-(n:Int).toNat:=by omega
  have f:=Li b a n;have m: ¬(6:Int)<=n:=by omega
  have g: ∀q:Int,q=xZ b a (n+1)->J [.int .i64 q,.int .i64 ((n:Int)+1)] ∧M [.int .i64 q,.int .i64 ((n:Int)+1)] <M [.int .i64 (xZ b a n),.int .i64 (n:Int)] :=by rintro q rfl;exact⟨(c _).2 ⟨n+1,rfl,by omega⟩,by rw[i,i];exact o⟩
  simp[bT,cQ,e,l,k,Zs,m];refine⟨fun h=>g _ ?_,fun h=>g _ ?_⟩
  ·have p:(decide ((n:Int)∈b) !=decide ((n:Int)∈a))=true:=by simpa using h
   rw[f,if_pos p];rfl
  ·have p: ¬(decide ((n:Int)∈b) !=decide ((n:Int)∈a))=true:=by simpa using h
   rw[f,if_neg p];rfl
def SN:jg Try.prog pre cz Yu:=aO c70 SL
def Uc:bj Try.prog 20 s20 (pre 20) (cz 20):=by refine zF SN Try.func20 (v:=Yk) ?_;intro i h d;obtain⟨a,_,rfl,⟨a,rfl,g⟩,b,_,rfl,⟨b,rfl,f⟩,c,_,rfl,⟨c,rfl,e⟩,rfl⟩:=h;simp[Yk,fi,eh,dY,cH,dZ,dy,fh,fm,fj,den,B.den,cz,na,bT,cQ]
def TI:jg Try.prog pre cz YV:=aO Uc SN
def Lr{t:Ty}{n:Nat}{l:Taf}(a:CR 140737488355328 t l.length)(b:t.bytes=n):(l=[] -> ∀(d:D),Has Ty.bool d->(d.Y=true->l=[])∧(d.Y=false->l.length<=maxLen∧l.length*n<=140737488355328))∧
  (¬l=[] -> ∀(d:D),Has Ty.bool d->l.length<=maxLen∧l.length*n<=140737488355328):=by subst b;exact⟨fun h _ _=>⟨fun _=>h,fun _=>a⟩,fun _ _ _=>a⟩
def c52:bj Try.prog 52 s52 (pre 52) (cz 52):=by refine zF TI Try.func52 (v:=XY) ?_;intro e h c;obtain⟨_,_,rfl,⟨l,rfl,a,d⟩,rfl⟩:=h;have b:cz 52 [.list l] = .list l:=rfl;simp[XY,fi,eh,dY,cH,dZ,dy,fh,fm,fj,fZ,den,U.den,B.den,fD,aU,cV,eu,ep,er,fE,bT,cQ,pre,b,fD];have:=Lr (n:=1) a rfl;simpa using this
def Tg:jg Try.prog pre cz YF:=aO c52 TI
def c60:bj Try.prog 60 s60 (pre 60) (cz 60):=by refine zF Tg Try.func60 (v:=adB) ?_;intro c h b;obtain⟨x,_,rfl,a,rfl⟩:=h;refine zH D.Y D.bool false (y:=(ru x&& !fB (XB x))) zK
def Ta:jg Try.prog pre cz Yz:=aO c60 Tg
def TN:bj Try.prog 80 Mg (pre 80) (cz 80):=by
 refine zF Ta Try.func80 (v:=Nu) ?_;intro w h t;obtain⟨_,_,rfl,⟨l,rfl,e,u⟩,_,_,rfl,⟨_,rfl,rfl⟩,rfl⟩:=h;have i:=e.1;simp only[maxLen]at i;have s:cz 80 [.list l,.fn 60 []] = .int .i64 (findF (wA (.fn 60 [])) l 0):=rfl;rw[s];have r: ∀x,cz 60 [x] = .bool (wA (.fn 60 []) x):=fun _=>rfl;simp[Nu,fi,eh,dY,cH,dZ,dy,fh,fm,fj,fZ,den,U.den,B.den,fD,aU,cV,eu,ep,er,fE,bT,cQ,pre,r];obtain⟨J,c⟩: ∃J:Taf->Prop,∀d,J d↔ ∃n:Nat,∃y:Int,d=[.int .i64 y,.int .i64 n] ∧n<=l.length∧findF (wA (.fn 60 [])) (l.drop n) n=findF (wA (.fn 60 [])) l 0:=⟨_,fun _=>dx⟩;obtain⟨M,f⟩: ∃M:Taf->Nat,∀d,M d=l.length-((d.getD 1 .top).q).toNat:=⟨_,fun _=>rfl⟩;refine kZ.intro J M ((c _).2 ⟨0,0,rfl,aC _,by simp⟩) ?_;intro d g m;obtain⟨n,y,rfl,p,a⟩:=(c _).1 m;clear m g;simp[fi,eh,dY,cH,dZ,dy,fh,fm,fj,fZ,den,U.den,B.den,fD,aU,cV,eu,ep,er,fE,bT,cQ];refine⟨fun b=> ?_,fun j=> ?_⟩
 ·have o:l[n]? =some l[n] :=aQ b;have q:l.drop n=l[n] ::l.drop (n+1):=cT b;rw[q]at a;simp only[findF]at a;rw[o,br];refine⟨by omega,fun k=> ?_,fun k=> ?_⟩
  ·rw[if_pos k]at a;exact a
  ·rw[wrap64 (by omega) (by omega)];refine⟨(c _).2 ⟨n+1,y,by simp,b,?_⟩,?_⟩
   ·rw[if_neg (by rw[k];simp)]at a;rw[<-a];simp
   ·rw[f,f];simp[bT];omega
 ·have:l.drop n=[] :=bO j;rw[this]at a;exact a
def JM:jg Try.prog pre cz Nz:=aO TN Ta
def xa(p:D->Bool): ∀(l:Taf) (k:Int),0<=k->(l.any p=true↔0<=findF p l k)
 | [],k,hk=>by simp[findF]
 |x::r,k,hk=>by
  simp only[findF,List.any_cons];cases hp:p x with
  |true=>simp;exact hk
  |false=>
   simp only[Bool.false_or,ai,if_false];exact xa p r (k+1) (by omega)
def TO:bj Try.prog 59 Mh (pre 59) (cz 59):=by refine zF JM Try.func59 (v:=Nw) ?_;intro f h d;obtain⟨_,_,rfl,⟨l,rfl,a,e⟩,_,_,rfl,⟨_,rfl,rfl⟩,rfl⟩:=h;have b:cz 59 [.list l,.fn 60 []] = .bool (mC l (.fn 60 [])):=rfl;have c:cz 80 [.list l,.fn 60 []] = .int .i64 (findF (wA (.fn 60 [])) l 0):=rfl;rw[b];simp[Nw,fi,eh,dY,cH,dZ,dy,fh,fm,fj,fZ,den,U.den,B.den,fD,aU,cV,eu,ep,er,fE,bT,cQ,pre,c];rw[du,bk];exact(xa _ l 0 (ba 0)).symm
def JO:jg Try.prog pre cz NA:=aO TO JM
def c24:bj Try.prog 24 s24 (pre 24) (cz 24):=by refine zF JO Try.func24 (v:=Yh) ?_;intro f h d;obtain⟨_,_,rfl,⟨l,rfl,a,e⟩,rfl⟩:=h;have b:cz 24 [.list l] = .bool (eI l):=rfl;have c:cz 59 [.list l,.fn 60 []] = .bool (mC l (.fn 60 [])):=rfl;rw[b];simp[Yh,fi,eh,dY,cH,dZ,dy,fh,fm,fj,fZ,den,U.den,B.den,fD,aU,cV,eu,ep,er,fE,bT,cQ,pre,c];unfold eI mC;rw[Bool.not_not];rfl
def TF:jg Try.prog pre cz YS:=aO c24 JO
def c26:bj Try.prog 26 s26 (pre 26) (cz 26):=by refine zF TF Try.func26 (v:=Yf) ?_;intro b h a;obtain⟨_,_,rfl,⟨_,rfl,_,_,rfl,⟨v,rfl,_,_⟩,_,_,rfl,⟨l,rfl,_,_⟩,rfl⟩,rfl⟩:=h;simp[Yf,fi,eh,dY,cH,dZ,dy,fh,fm,fj,fZ,den,U.den,B.den,fD,aU,cV,eu,ep,er,fE,bT,cQ,pre,cz,vN]
def TD:jg Try.prog pre cz YQ:=aO c26 TF
def c28:bj Try.prog 28 s28 (pre 28) (cz 28):=by refine zF TD Try.func28 (v:=Ye) ?_;intro f h c;obtain⟨_,_,rfl,⟨_,rfl,_,_,rfl,⟨i,rfl,d⟩,_,_,rfl,⟨t,rfl,b⟩,_,_,rfl,⟨l,rfl,a,e⟩,rfl⟩,rfl⟩:=h;simp[Ye,fi,eh,dY,cH,dZ,dy,fh,fm,fj,fZ,den,U.den,B.den,fD,aU,cV,eu,ep,er,fE,bT,cQ,pre,cz,gF,cD]
def TB:jg Try.prog pre cz YP:=aO c28 TD
def c25:bj Try.prog 25 s25 (pre 25) (cz 25):=by
 refine zF TB Try.func25 (v:=Yg) ?_;intro z h c;obtain⟨_,_,rfl,⟨_,rfl,_,_,rfl,⟨i,rfl,y⟩,_,_,rfl,⟨t,rfl,w⟩,_,_,rfl,⟨l,rfl,a,n⟩,rfl⟩,rfl⟩:=h;replace c:eV i t l=true:=c;have k:cz 28 [.ptr [.int .i64 i,.int .i64 t,.list l]] = .eS [.int .i64 i,.int .i64 t] :=rfl;have m:cz 25 [.ptr [.int .i64 i,.int .i64 t,.list l]] = .eS [.int .i64 (i+l.length),.int .i64 (eM t l)] :=rfl;simp[Yg,fi,eh,dY,cH,dZ,dy,fh,fm,fj,fZ,den,U.den,B.den,fD,aU,cV,eu,ep,er,fE,bT,cQ,pre,k,m];obtain⟨⟨u,s,r,q⟩,j⟩:=eH.1 c;have e:=a.1;simp only[maxLen]at e;constructor
 ·rintro rfl;simp[eM]
 ·intro d;have f:0<l.length:=fR.2 d;rw[wrap64 (by omega) (by omega),show((l.length:Int)-1).toNat=l.length-1 by omega];obtain⟨x,b⟩: ∃x,l[l.length-1]? =some x:=⟨_,aQ (by omega)⟩;obtain⟨p,o,_,_⟩:=CX (n x (bU b));have g:=HN j b;rw[b,br,p,o,wZ b,g.1];refine⟨by omega,?_,rfl⟩;congr 1;omega
def TE:jg Try.prog pre cz YR:=aO c25 TB
def c50:bj Try.prog 50 s50 (pre 50) (cz 50):=by
 refine zF TE Try.func50 (v:=X1) ?_;intro A h d;obtain⟨_,_,rfl,⟨_,rfl,_,_,rfl,⟨i,rfl,w⟩,_,_,rfl,⟨t,rfl,u⟩,_,_,rfl,⟨l,rfl,a,n⟩,rfl⟩,_,_,rfl,⟨k,rfl,j⟩,rfl⟩:=h;replace d:eV i t l=true:=d;have m:cz 50 [.ptr [.int .i64 i,.int .i64 t,.list l],.int .i64 k] = .eS [.int .i64 (gC i t l k).1,.int .i64 (gC i t l k).2] :=rfl;simp[X1,fi,eh,dY,cH,dZ,dy,fh,fm,fj,fZ,den,U.den,B.den,fD,aU,cV,eu,ep,er,fE,bT,cQ,pre,m];rw[tH]at j;obtain⟨⟨s,g,r,q⟩,y⟩:=eH.1 d;have e:=a.1;simp only[maxLen,MX]at e g;refine⟨fun h=>by simp[gC,h],fun h=>⟨fun b=>by subst b;simp[gC],fun b=> ?_⟩⟩;rw[wrap64 (by omega) (by omega)];have f: ¬k<i:=by omega
 refine⟨fun o=> ?_,fun o=> ?_⟩
 ·have:l[(k-i-1).toNat]? =none:=by rw[eC];omega
  unfold gC;rw[if_neg f,if_neg b,this];exact⟨rfl,rfl⟩
 ·rw[wrap64 (by omega) (by omega)];obtain⟨x,c⟩: ∃x,l[(k-i-1).toNat]? =some x:=⟨_,aQ (by omega)⟩;obtain⟨z,p,_,_⟩:=CX (n x (bU c));refine⟨by omega,?_,?_⟩
  ·rw[c,br,p];unfold gC;rw[if_neg f,if_neg b,c]
  ·unfold gC;rw[if_neg f,if_neg b,c]
def Th:jg Try.prog pre cz YH:=aO c50 TE
def c74:bj Try.prog 74 qE (pre 74) (cz 74):=by refine zF Th Try.func74 (v:=XL) ?_;intro n h b;obtain⟨_,_,rfl,⟨_,rfl,_,_,rfl,⟨i,rfl,k⟩,_,_,rfl,⟨t,rfl,j⟩,_,_,rfl,⟨l,rfl,c,m⟩,rfl⟩,_,_,rfl,⟨x,rfl,g⟩,_,_,rfl,⟨y,rfl,f⟩,rfl⟩:=h;replace b:eV i t l=true:=b;have d:cz 25 [.ptr [.int .i64 i,.int .i64 t,.list l]] = .eS [.int .i64 (i+l.length),.int .i64 (eM t l)] :=rfl;have a:pre 25 [.ptr [.int .i64 i,.int .i64 t,.list l]] :=b;have e:cz 74 [.ptr [.int .i64 i,.int .i64 t,.list l],.int .i64 x,.int .i64 y] = .bool (HH i t l x y):=rfl;simp[XL,fi,eh,dY,cH,dZ,dy,fh,fm,fj,fZ,den,U.den,B.den,fD,aU,cV,eu,ep,er,fE,bT,cQ,d,e,a,HH];rw[du];simp
def SJ:jg Try.prog pre cz Yr:=aO c74 Th
def c65:bj Try.prog 65 s65 (pre 65) (cz 65):=by
 refine zF SJ Try.func65 (v:=XR) ?_;intro C h b;obtain⟨_,_,rfl,⟨_,rfl,_,_,rfl,⟨i,rfl,w⟩,_,_,rfl,⟨t,rfl,u⟩,_,_,rfl,⟨l,rfl,a,x⟩,rfl⟩,_,_,rfl,⟨f,rfl,o⟩,_,_,rfl,⟨m,rfl,k⟩,rfl⟩:=h;have p:cz 65 [.ptr [.int .i64 i,.int .i64 t,.list l],.int .i64 f,.int .i64 m] = .list (gK i l f m):=rfl;simp[XR,fi,eh,dY,cH,dZ,dy,fh,fm,fj,fZ,den,U.den,B.den,fD,aU,cV,eu,ep,er,fE,bT,cQ,pre,p];replace b:okB i t=true:=b;rw[tH]at o k;obtain⟨s,j,_,_⟩:=jv.1 b;have c:=a.1;have e:=a.2;rw[nQ]at e;simp only[maxLen,MX]at c j⊢;refine⟨?_,fun A z=> ?_⟩
 ·intro h;unfold gK;by_cases d:m<1∨f<=i
  ·rw[if_pos d]
  ·rw[if_neg d];have r:=h.resolve_left d;rw[wrap64 (n:=f-i) (by omega) (by omega),wrap64 (by omega) (by omega)]at r;rw[bO (by omega)];simp
 ·rw[wrap64 (n:=f-i) (by omega) (by omega),wrap64 (n:=f-i-1) (by omega) (by omega)];intro y;rw[wrap64 (n:=(l.length:Int)-(f-i-1)) (by omega) (by omega)];have g:gK i l f m=(l.drop (f-i-1).toNat).take m.toNat:=by unfold gK;rw[if_neg (by omega)]
  refine⟨fun q=> ?_,fun q=> ?_⟩
  ·rw[wrap64 (n:=f-i-1+m) (by omega) (by omega)];refine⟨by omega,⟨by omega,aW (au 320 (by omega)) e⟩,?_⟩;rw[g,List.drop_take];congr 1;omega
  ·refine⟨by omega,⟨by omega,aW (au 320 (by omega)) e⟩,?_⟩;rw[g,eB (by rw[aX];omega)]
def SU:jg Try.prog pre cz Ur:=aO c65 SJ
def aen(x:Int)(s:RS):Prop:=
 (True)∧(
 let a:=(gF s.li s.lt s.le)
 VC.Ea cz pre (fun d=>d) (fun _ _ l=>rG s a (l.getD 0 .top).q (l.getD 1 .top).A (l.getD 2 .top).A) [] (VC.lp 15 Ug) (fD (fun i=> [Cu s,D.int .i64 x].getD i .top) 7 (D.eS [D.int .i64 a.1,D.int .i64 a.2])))
def abf(s:RS)(c:Int×Int)(b:Int):Prop:=
 ((decide (b>c.1)=true->
  ((true=true->okB s.li s.lt=true))∧(
  let a:=(dP s.li s.lt s.le b 1)
  ((((((a:Taf).length:Int)==1)==true)&&true)=true->((decide (0<=0))&&(decide (0<((a:Taf).length:Int))))=true)∧(
  ((((((a:Taf).length:Int)==1)&&(((cD 2 ((a).getD (0:Int).toNat .top)).q)==2))=true->
   (true=true->((decide (0<=0))&&(decide (0<((a:Taf).length:Int))))=true)∧(
   True)))∧(True)))))∧(True)
def zA(s:RS)(h:Int×Int)(b:Int)(g:Taf)(f:Taf):(Int×Taf×Taf)⊕(D):=
 if decide (b>h.1) then(
  let a:=(dP s.li s.lt s.le b 1)
  if((((a:Taf).length:Int)==1)&&(((cD 2 ((a).getD (0:Int).toNat .top)).q)==2)) then(
   let c:=(fN (D.agg ((((a).getD (0:Int).toNat .top).A.drop 27).take 2)))
   .inr (aJ 2 c []))
  else(
   .inl ((i64.wrap (b-1)),g,f)))
 else(
  if decide (h.1>0) then(
   let d:=(fN (D.agg [D.list s.sv,D.list s.sl]))
   .inr (aJ 2 d []))
  else(
   let e:=(fN (D.agg [D.list s.fv,D.list s.fl]))
   .inr (aJ 2 e [])))
def Fv(s:RS)(c:Int×Int)(b:Int)(a:Taf)(k15:Taf):zA s c b a k15=nJ s c b a k15:=by
 unfold zA nJ mB;dsimp only
 repeat (first|rfl|split)
def P4(x:Int)(s:RS)(n:jo .i64 x)(h:Ok (s) 0):aen x s:=by
 refine⟨trivial,?_⟩;intro e;have j:e.1=s.li:=rfl
 clear_value e
 obtain⟨t,q⟩:=h.li;refine VC.jn 15 (by kernel_rfl) ?_;refine VC.ia (Φ:=cz) (Pre:=pre) (triv:=triv) (v0:=15) (decL:=fun l=>((l.getD 0 .top).q,(l.getD 1 .top).A,(l.getD 2 .top).A)) (encL:=fun a:Int×Taf×Taf=>([D.int .i64 a.1,D.list a.2.1,D.list a.2.2])) (dec:=(fun d=>d)) (enc:=(fun d=>d)) (lp:=fun _ _ _ _=>D.top) (bad:=.inr D.top) (bd:=D.top) (by kernel_rfl) (fun a:Int×Taf×Taf=>nJ s e a.1 a.2.1 a.2.2) (fun a:Int×Taf×Taf=>a.1<=9223372036854775807) (fun a:Int×Taf×Taf=>EO s e a.1 a.2.1 a.2.2) (x,[],[]) kA (by kernel_rfl) ?Q6 (fun a=>rfl) ?Q9 (by kernel_rfl) (fun a p=>Eq.trans (b:=zA s e a.1 a.2.1 a.2.2) (by kernel_rfl) (Fv s e a.1 a.2.1 a.2.2)) (fun a=>by kernel_rfl) (fun a=>by kernel_rfl) (fun a p o=>zE (β:=abf s e a.1) ?Ef) (by kernel_rfl)
 ·exact n.2
 ·rintro⟨i,l,r⟩ k;replace k:i<=9223372036854775807:=k;unfold nJ;by_cases f:decide (i>e.1)=true
  ·rw[if_pos f];rw[bk,j]at f;dsimp only;generalize ((((dP s.li s.lt s.le i 1).length:Int)==1)&&((cD 2 ((dP s.li s.lt s.le i 1).getD (0:Int).toNat .top)).q==2))=c;cases c with
   |true=>trivial
   |false=>
    show IntKind.wrap .i64 (i-1)<=_∧(IntKind.wrap .i64 (i-1)-e.1).toNat<(i-e.1).toNat;rw[wrap64 (by omega) (by omega)];refine⟨by omega,?_⟩;omega
  ·rw[if_neg f];trivial
 ·refine⟨fun f=>⟨fun _=>h.LW,?_⟩,trivial⟩;intro m;refine⟨fun g=> ?_,fun g=>⟨fun _=> ?_,trivial⟩,trivial⟩
  ·simp only[aS,beq_iff_eq,and_true]at g;rw[g];rfl
  ·simp only[aS,beq_iff_eq]at g;rw[g.1];rfl
def c49:bj Try.prog 49 s49 (pre 49) (cz 49):=by refine zF SU Try.func49 (v:=Ug) ?_;intro i h c;obtain⟨d,_,rfl,e,g⟩:=ag.1 h;obtain⟨s,rfl⟩:=mz e;obtain⟨_,_,rfl,⟨x,rfl,b⟩,f⟩:=ag.1 g;obtain rfl:=dg.1 f;refine zL (fun d=>d) (fun d=>d) D.top (fun _ _ l=>(let a:=(gF s.li s.lt s.le);rG s a (l.getD 0 .top).q (l.getD 1 .top).A (l.getD 2 .top).A)) (y:=tD x s) (zE (P4 x s b c))
def Ti:jg Try.prog pre cz YI:=aO c49 SU
def aeB(s:RS):Prop:=
 ((true=true->eV s.li s.lt s.le=true))∧(
 let a:=(gf s.li s.lt s.le)
 ((true=true->Ok s 0))∧(
 True))
def Qi(s:RS)(h:Ok (s) 0):aeB s:=by exact⟨fun _=>h.may,fun _=>h,trivial⟩
def c29:bj Try.prog 29 s29 (pre 29) (cz 29):=by refine zF Ti Try.func29 (v:=adG) ?_;intro e h a;obtain⟨d,_,rfl,b,c⟩:=ag.1 h;obtain⟨s,rfl⟩:=mz b;obtain rfl:=dg.1 c;refine zH (fun d=>d) (fun d=>d) .top (y:=eZ s) (zE (Qi s a))
def TA:jg Try.prog pre cz UD:=aO c29 Ti
def aeA(x:D)(s:RS):Prop:=
 ((true=true->((vo (aJ 2 x [])).length+(lr (aJ 2 x [])).length)*8<=140737488355328))∧(
 let a:=(jH (aJ 2 x []))
 VC.Ea cz pre D.list (fun _ _ l=>tc s a (l.getD 0 .top).A (l.getD 1 .top).q) [] (VC.lp 9 Uj) (fD (fun i=> [Cu s,x].getD i .top) 6 (D.list a)))
def abi(s:RS)(b:Taf)(c:Taf)(a:Int):Prop:=
 ((decide (a<((b:Taf).length:Int))=true->
  (true=true->((decide (0<=a))&&(decide (a<((b:Taf).length:Int))))=true)∧(
  (((((((b).getD (a:Int).toNat .top)).q) !=s.id)=true->
   (true=true->((c++([((b).getD (a:Int).toNat .top)] :Taf)):Taf).length<=maxLen∧((c++([((b).getD (a:Int).toNat .top)] :Taf)):Taf).length*8<=140737488355328)∧(
   True)))∧(True))))∧(True)
def Qh(x:D)(s:RS)(h:Ok (s) 0∧fB x=true):aeA x s:=by
 obtain⟨h,m⟩:=h;refine⟨fun _=> ?_,?_⟩
 ·have:=zY (c:=aJ 2 x []) m;omega
 intro d;have o:d.length<=10:=vY (c:=aJ 2 x []) m
 clear_value d
 refine VC.jn 9 (by kernel_rfl) ?_;refine VC.ia (Φ:=cz) (Pre:=pre) (triv:=triv) (v0:=9) (decL:=fun l=>((l.getD 0 .top).A,(l.getD 1 .top).q)) (encL:=fun a:Taf×Int=>([D.list a.1,D.int .i64 a.2])) (dec:=D.A) (enc:=D.list) (lp:=fun _ _ _ _=>([] :Taf)) (bad:=.inr ([] :Taf)) (bd:=([] :Taf)) (by kernel_rfl) (fun a:Taf×Int=>ta s d a.1 a.2) (fun a:Taf×Int=>0<=a.2∧a.1.length<=a.2.toNat∧a.2.toNat<=d.length) (fun a:Taf×Int=>BZ s d a.1 a.2) ([],0) kA (by kernel_rfl) ?Q6 (fun a=>rfl) ?Q9 (by kernel_rfl) (fun a n=>by kernel_rfl) (fun a=>by kernel_rfl) (fun a=>by kernel_rfl) (fun a n p=>zE (β:=abi s d a.1 a.2) ?Ef) (by kernel_rfl)
 ·exact⟨ba 0,aC _,aC _⟩
 ·rintro⟨l,j⟩ ⟨f,i,g⟩;simp only at f i g;unfold ta;by_cases b:decide (j<(d.length:Int))=true
  ·rw[if_pos b];rw[bk]at b;have k:IntKind.wrap .i64 (j+1)=j+1:=wrap64 (by omega) (by omega);by_cases e:((d.getD j.toNat .top).q !=s.id)=true
   ·rw[if_pos e,k];refine⟨⟨by show 0<=j+1;omega,?_,by show(j+1).toNat<=_;omega⟩,by show d.length-(j+1).toNat<d.length-j.toNat;omega⟩;show(l++[_]).length<=(j+1).toNat;rw[ah,aZ];omega
   ·rw[if_neg e,k];exact⟨⟨by show 0<=j+1;omega,by show l.length<=(j+1).toNat;omega,by show(j+1).toNat<=_;omega⟩,by show d.length-(j+1).toNat<d.length-j.toNat;omega⟩
  ·rw[if_neg b];trivial
 ·obtain⟨l,j⟩:=a;obtain⟨f,i,g⟩:=n;simp only at f i g;refine⟨fun b=>⟨fun _=> ?_,fun _=>⟨fun _=> ?_,trivial⟩,trivial⟩,trivial⟩
  ·rw[bk]at b;rw[aS,bk,bk];exact⟨f,b⟩
  ·simp only[ah,aZ,maxLen];omega
def c32:bj Try.prog 32 s32 (pre 32) (cz 32):=by refine zF TA Try.func32 (v:=Uj) ?_;intro i h b;obtain⟨d,_,rfl,c,f⟩:=ag.1 h;obtain⟨s,rfl⟩:=mz c;obtain⟨x,_,rfl,g,e⟩:=ag.1 f;obtain rfl:=dg.1 e;refine zL D.A D.list ([] :Taf) (fun _ _ l=>(let a:=(jH (aJ 2 x []));tc s a (l.getD 0 .top).A (l.getD 1 .top).q)) (y:=gN x s) (zE (Qh x s b))
def Tz:jg Try.prog pre cz YO:=aO c32 TA
def aeh(x:Int)(s:RS):Prop:=
 ((true=true->Ok s 0))∧(
 let a:=(eZ s)
 ((true=true->((vo (aJ 2 a [])).length+(lr (aJ 2 a [])).length)*8<=140737488355328))∧(
 True))
def PY(x:Int)(s:RS)(a:jo .i64 x)(h:Ok (s) 0):aeh x s:=by refine⟨fun _=>h,fun _=> ?_,trivial⟩;have:=zY (iY h);show((vo (eZ s)).length+(lr (eZ s)).length)*8<=_;omega
def c76:bj Try.prog 76 s76 (pre 76) (cz 76):=by refine zF Tz Try.func76 (v:=ady) ?_;intro g h b;obtain⟨d,_,rfl,c,f⟩:=ag.1 h;obtain⟨s,rfl⟩:=mz c;obtain⟨_,_,rfl,⟨x,rfl,a⟩,e⟩:=ag.1 f;obtain rfl:=dg.1 e;refine zH D.Y D.bool false (y:=se x s) (zE (PY x s a b))
def SH:jg Try.prog pre cz Un:=aO c76 Tz
def aej(s:RS):Prop:=
 ((true=true->eV s.li s.lt s.le=true))∧(
 let b:=(gf s.li s.lt s.le)
 ((true=true->okB s.li s.lt=true))∧(
 let a:=(dP s.li s.lt s.le (i64.wrap (s.bF+1)) (i64.wrap (b.1-s.bF)))
 VC.Ea cz pre D.bool (fun _ _ l=>qy a (l.getD 0 .top).Y (l.getD 1 .top).q) [] (VC.lp 30 Uf) (fD (fD (fun i=> [Cu s].getD i .top) 6 (D.eS [D.int .i64 b.1,D.int .i64 b.2])) 27 (D.list a))))
def abc(b:Taf)(a:Int):Prop:=
 ((decide (a<((b:Taf).length:Int))=true->
  (true=true->((decide (0<=a))&&(decide (a<((b:Taf).length:Int))))=true)∧(
  True)))∧(True)
def P0(s:RS)(h:Ok (s) 0):aej s:=by
 refine⟨fun _=>h.may,fun _=>h.LW,?_⟩;intro c;have f:c.length<=2147483648:=aW (sY (l:=s.le)) (aW h.qV (by decide))
 clear_value c
 refine VC.jn 30 (by kernel_rfl) ?_;refine VC.ia (Φ:=cz) (Pre:=pre) (triv:=triv) (v0:=30) (decL:=fun l=>((l.getD 0 .top).Y,(l.getD 1 .top).q)) (encL:=fun a:Bool×Int=>([D.bool a.1,D.int .i64 a.2])) (dec:=D.Y) (enc:=D.bool) (lp:=fun _ _ _ _=>false) (bad:=.inr false) (bd:=false) (by kernel_rfl) (fun a:Bool×Int=>qx c a.1 a.2) (fun a:Bool×Int=>0<=a.2) (fun a:Bool×Int=>vU c a.1 a.2) (false,0) kA (by kernel_rfl) ?Q6 (fun a=>rfl) ?Q9 (by kernel_rfl) (fun a e=>by kernel_rfl) (fun a=>by kernel_rfl) (fun a=>by kernel_rfl) (fun a e k=>zE (β:=abc c a.2) ?Ef) (by kernel_rfl)
 ·exact ba 0
 ·rintro⟨b,j⟩ i;replace i:0<=j:=i;unfold qx;by_cases d:decide (j<(c.length:Int))=true
  ·rw[if_pos d];rw[bk]at d;by_cases g:((cD 2 (c.getD j.toNat .top)).q==2)=true
   ·rw[if_pos g];trivial
   ·rw[if_neg g,wrap64 (by omega) (by omega)];refine⟨by show 0<=j+1;omega,?_⟩;show c.length-(j+1).toNat<c.length-j.toNat;omega
  ·rw[if_neg d];trivial
 ·obtain⟨b,j⟩:=a;replace e:0<=j:=e;refine⟨fun d=>⟨fun _=> ?_,trivial⟩,trivial⟩;rw[bk]at d;rw[aS,bk,bk];exact⟨e,d⟩
def c69:bj Try.prog 69 s69 (pre 69) (cz 69):=by refine zF SH Try.func69 (v:=Uf) ?_;intro g h c;obtain⟨d,_,rfl,e,f⟩:=ag.1 h;obtain⟨s,rfl⟩:=mz e;obtain rfl:=dg.1 f;refine zL D.Y D.bool false (fun _ _ l=>(let b:=(gf s.li s.lt s.le);let a:=(dP s.li s.lt s.le (i64.wrap (s.bF+1)) (i64.wrap (b.1-s.bF)));qy a (l.getD 0 .top).Y (l.getD 1 .top).q)) (y:=td s) (zE (P0 s c))
def SO:jg Try.prog pre cz Yv:=aO c69 SH
def aek(s:RS):Prop:=
 ((true=true->eV s.li s.lt s.le=true))∧(
 True)
def P1(s:RS)(h:Ok (s) 0):aek s:=by exact⟨fun _=>h.may,trivial⟩
def c68:bj Try.prog 68 xh (pre 68) (cz 68):=by refine zF SO Try.func68 (v:=adz) ?_;intro e h a;obtain⟨d,_,rfl,b,c⟩:=ag.1 h;obtain⟨s,rfl⟩:=mz b;obtain rfl:=dg.1 c;refine zH D.Y D.bool false (y:=vB s) (zE (P1 s a))
def SP:jg Try.prog pre cz Up:=aO c68 SO
def aex(x:D)(s:RS):Prop:=
 (True)∧(((s.role !=2)=false->
  (True)∧((((cD 0 x).q==1)=false->
   (True)∧((((cD 0 x).q !=2)=false->
    ((true=true->Ok s 0))∧(
    let a:=(vB s)
    (((((!a)==false)&&true)=true->Ok s 0))∧(
    let b:=(td s)
    (True)∧((((!a)||b)=false->
     ((true=true->Ok s 0))∧(
     True)))))))))))
def Qe(x:D)(s:RS)(h:Ok (s) 0):aex x s:=by
 (repeat' (first|exact trivial|apply And.intro|intro _))
 all_goals exact h
def c38:bj Try.prog 38 s38 (pre 38) (cz 38):=by refine zF SP Try.func38 (v:=Yb) ?_;intro g h a;obtain⟨d,_,rfl,b,e⟩:=ag.1 h;obtain⟨s,rfl⟩:=mz b;obtain⟨x,_,rfl,f,c⟩:=ag.1 e;obtain rfl:=dg.1 c;refine zH D.q (D.int .i64) 0 (y:=Bd x s) (zE (Qe x s a))
def abK:jg Try.prog pre cz adM:=aO c38 SP
def aeF(s:RS):Prop:=
 (True)∧(
 let b:=(gF s.li s.lt s.le)
 ((true=true->eV s.li s.lt s.le=true))∧(
 let a:=(gf s.li s.lt s.le)
 ((true=true->Ok s 0))∧(
 True)))
def Qn(s:RS)(h:Ok (s) 0):aeF s:=by exact⟨trivial,fun _=>h.may,fun _=>h,trivial⟩
def Rf:bj Try.prog 12 s12 (pre 12) (cz 12):=by refine zF abK Try.func12 (v:=adI) ?_;intro e h a;obtain⟨d,_,rfl,b,c⟩:=ag.1 h;obtain⟨s,rfl⟩:=mz b;obtain rfl:=dg.1 c;refine zH (fun d=>d) (fun d=>d) .top (y:=Jo s) (zE (Qn s a))
def N6:jg Try.prog pre cz Rm:=aO Rf<|aO c38<|aO c68<|aO c69<|aO c76<|aO c32<|aO c29<|aO c49<|aO c65<|aO c74<|aO c50<|aO c25<|aO c28<|aO c26<|aO c24<|aO TO<|aO TN<|aO c60<|aO c52<|aO Uc<|aO c70<|aO c72<|aO c66<|aO c63<|aO c36<|aO Xj<|aO c55<|aO c61<|aO c56<|aO c79<|vm
def c57:bj Try.prog 57 s57 (pre 57) (cz 57):=by refine zF N6 Try.func57 (v:=XV) ?_;intro i h d;obtain⟨a,_,rfl,⟨a,rfl,g⟩,b,_,rfl,⟨b,rfl,f⟩,c,_,rfl,⟨c,rfl,e⟩,rfl⟩:=h;simp[XV,fi,eh,dY,cH,dZ,dy,fh,fm,fj,den,B.den,cz,na,bT,cQ]
def Td:jg Try.prog pre cz YB:=aO c57 N6
def c58:bj Try.prog 58 cP (pre 58) (cz 58):=by
 refine zF Td Try.func58 (v:=XU) ?_;intro ds h hp;obtain⟨_,_,rfl,⟨i,rfl,r⟩,_,_,rfl,⟨t,rfl,ht⟩,_,_,rfl,⟨l,rfl,f,S⟩,rfl⟩:=h;have q:=f.1;simp only[maxLen]at q;have R:cz 58 [.int .i64 i,.int .i64 t,.list l] = .bool (eV i t l):=rfl;have w: ∀n s r:Int,cz 57 [.int .i64 n,.int .i64 s,.int .i64 r] = .bool (na n s r):=fun _ _ _=>rfl;simp[XU,fi,eh,dY,cH,dZ,dy,fh,fm,fj,fZ,den,U.den,B.den,fD,aU,cV,eu,ep,er,fE,bT,cQ,pre,cD,fl,vr,cr,rp,E.V,List.range',R,w,na];refine⟨fun h=> ?_,fun D C A z=> ?_⟩
 ·have:okB i t=false:=by rw[cw];intro c;obtain⟨N,m,M,k⟩:=jv.1 c;simp only[MX]at m k;omega
  simp[eV,this]
 refine kZ.intro (MJ i t l) (FM l 3) ⟨0,i,t,rfl,aC _,jv.2 ⟨D,C,A,z⟩,rfl⟩ ?_;intro xs O T;obtain⟨n,j,u,rfl,P,o,g⟩:=T;obtain⟨N,m,M,k⟩:=jv.1 o;simp only[MX]at m k;rcases hx:l[n]? with _|x
 ·have b:l.length<=n:=by rwa [eC]at hx
  rw[bO b]at g;have a: ¬((n:Int)<l.length):=by omega
  have p:eV i t l=true:=by simp[eV,jv.2 ⟨D,C,A,z⟩,<-g,qU]
  simp[bT,a,p]
 ·obtain⟨a,b⟩:=aG.1 hx;obtain⟨e0,Z,L,K⟩:=CX (S x (bU hx));rw[tH]at L K;rw[cT a,b]at g;have e:(n:Int)<l.length:=by omega
  simp[bT,cQ,hx,e0,Z,e,w,na];by_cases c:ix x=j+1∧u<=tm x∧ix x<=MX∧tm x<=MX
  ·obtain⟨Y,X,W,V⟩:=c;simp only[MX]at W V;rw[wrap64 (n:=ix x-1) (by omega) (by omega),wrap64 (n:=(n:Int)+1) (by omega) (by omega)];refine⟨⟨fun y=>by omega,fun _ _ _ _ _ _=>⟨⟨n+1,ix x,tm x,rfl,a,jv.2 ⟨by omega,by simp only[MX];omega,by omega,by simp only[MX];omega⟩,?_⟩,?_⟩⟩,fun y=>by omega⟩
   ·rw[<-g];simp[qU,Y,X,MX,show j+1<=1099511627776 by omega,show tm x<=1099511627776 by omega]
   ·show l.length-((n:Int)+1).toNat<l.length-(n:Int).toNat;omega
  ·have p:eV i t l=false:=by simp only[eV,<-g,Bool.and_eq_false_iff];right;rw[cw];intro Q;obtain⟨a1,a2,a3,a4,_⟩:=iG.1 Q;exact c ⟨a1,a2,a3,a4⟩
   simp only[MX]at c;refine⟨⟨fun _=>p,fun J I H G w5 F=> ?_⟩,fun y=>by omega⟩
   exact absurd ⟨by
    by_cases d:ix x= -9223372036854775808
    ·rw[d]at H;omega
    ·rw[wrap64 (n:=ix x-1) (by omega) (by omega)]at J;omega,I,G,F⟩ c
def Tc:jg Try.prog pre cz YA:=aO c58 Td
def c23:bj Try.prog 23 s23 (pre 23) (cz 23):=by
 refine zO Tc Try.func23 (v:=Yi) ?_;intro ds h j;obtain⟨_,_,rfl,⟨c,rfl,S⟩,_,_,rfl,⟨e,rfl,R⟩,_,_,rfl,⟨a,rfl,C,D⟩,_,_,rfl,⟨i,rfl,hi⟩,_,_,rfl,⟨t,rfl,ht⟩,_,_,rfl,⟨l,rfl,I,hL⟩,rfl⟩:=h;obtain⟨j,p,q⟩:=j;replace j:eV i t l=true:=j;replace p:l.length<4294967296:=p;replace q:a.length<4294967296:=q;obtain⟨⟨k1,H,k3,O⟩,V⟩:=eH.1 j;have z:=ui H V;simp only[MX]at z H O;have T:cz 58 [.int .i64 c,.int .i64 e,.list a] = .bool (eV c e a):=rfl;have J: ∀k:Int,cz 50 [.ptr [.int .i64 i,.int .i64 t,.list l],.int .i64 k] = .eS [.int .i64 (gC i t l k).1,.int .i64 (gC i t l k).2] :=fun _=>rfl;have W:cz 23 [.int .i64 c,.int .i64 e,.list a,.int .i64 i,.int .i64 t,.list l] = .eS [.eS [.int .i64 (iS i t l c e a).1,.bool (jB i t l c e a)],oT i t (iS i t l c e a).2] :=rfl;simp[Yi,fi,eh,dY,cH,dZ,dy,fh,fm,fj,fZ,den,U.den,B.den,fD,aU,cV,eu,ep,er,fE,bT,cQ,pre,cD,fl,vr,cr,rp,E.V,List.range',T,J,W,oT,j];refine⟨fun h=> ?_,fun h=>⟨fun g=> ?_,fun g K=> ?_⟩⟩
 ·have:jB i t l c e a=false:=by simp[jB,h]
  simp[iS,this]
 ·have:jB i t l c e a=false:=by
   rw[cw];intro m;simp only[jB,aS,beq_iff_eq]at m;rcases g with g|g
   ·exact g m.1.2
   ·exact g m.2
  simp[iS,this]
 ·have G:jB i t l c e a=true:=by simp[jB,h,g,K]
  obtain⟨q1,q2,N⟩:=ku g;obtain⟨_,F⟩:=eH.1 h;refine kZ.intro (AJ i t l a) (FM a 2) ⟨0,(c-i).toNat,rfl,aC _,by omega,?_,rfl⟩ ?_
  ·rw[<-N,K,show i+(((c-i).toNat:Nat):Int)=c by omega];exact F
  intro xs P X;obtain⟨n,s,rfl,A,Q,o,b⟩:=X;rcases hx:a[n]? with _|x
  ·have f:a.length<=n:=by rwa [eC]at hx
   rw[bO f]at b;have d: ¬((n:Int)<a.length):=by omega
   simp[bT,cV,d,iS,G,<-b,re]
  ·obtain⟨d,f⟩:=aG.1 hx;obtain⟨e0,e1,_,_⟩:=CX (D x (bU hx));rw[cT d,f]at b o;have u:(n:Int)<a.length:=by omega
   obtain⟨c1,c2,c3,c4,_⟩:=iG.1 o;simp only[MX]at c3 c4;simp[bT,cV,ep,eu,cQ,hx,e0,e1,u,er,cD,fl,vr,List.range',J,oT,j];refine⟨⟨fun Z Y=> ?_,fun y=> ?_⟩,fun hq=>by omega⟩
   ·have w:uO i t l x=true:=by simp[uO,Z,Y]
    obtain⟨M,L⟩:=Fe Q o w;rw[wrap64 (n:=(n:Int)+1) (by omega) (by omega)];refine⟨⟨n+1,s+1,rfl,d,M,L,?_⟩,?_⟩
    ·rw[<-b]
     conv=>rhs;unfold re;rw[if_pos w]
    ·show a.length-((n:Int)+1).toNat<a.length-(n:Int).toNat;omega
   ·have w:uO i t l x=false:=by rw[cw];intro m;simp only[uO,aS,beq_iff_eq]at m;exact y m.1 m.2
    rw[wrap64 (n:=ix x-i) (by omega) (by omega),wrap64 (n:=ix x-i-1) (by omega) (by omega)]
    have eA:iS i t l c e a=(ix x,l.take (ix x-i-1).toNat++x::a.drop (n+1)):=by unfold iS;rw[if_pos G,<-b];unfold re;rw[if_neg (by simp[w])]
    have ed:a.drop n=x::a.drop (n+1):=by rw[cT d,f]
    rw[eA,ed];have r:min (ix x-i-1).toNat l.length+(a.length-n)<=8589934592:=by omega
    refine⟨by omega,A,⟨aW r (by decide),aW (au 320 r) (by decide)⟩,by omega,⟨rfl,G⟩,rfl⟩
def TG:jg Try.prog pre cz YT:=aO c23 Tc
def c71:bj Try.prog 71 s71 (pre 71) (cz 71):=by
 refine zO TG Try.func71 (v:=XO) ?_;intro I h a;obtain⟨_,_,rfl,⟨m,rfl,C⟩,cm,_,rfl,g,_,_,rfl,⟨i,rfl,f⟩,_,_,rfl,⟨t,rfl,A⟩,_,_,rfl,⟨l,rfl,o,D⟩,rfl⟩:=h;obtain⟨a,b⟩:=a;replace a:eV i t l=true:=a;replace b:l.length<4294967296:=b;obtain⟨⟨z,k,y,q⟩,u⟩:=eH.1 a;have e:=ui k u;have p:=QN g;simp only[MX]at e k q;have s:cz 25 [.ptr [.int .i64 i,.int .i64 t,.list l]] = .eS [.int .i64 (i+l.length),.int .i64 (eM t l)] :=rfl;have r: ∀n j f:Int,cz 57 [.int .i64 n,.int .i64 j,.int .i64 f] = .bool (na n j f):=fun _ _ _=>rfl;have w:cz 71 [.int .i64 m,cm,.int .i64 i,.int .i64 t,.list l] = .eS [.eS [wv i t l m cm,.int .i64 (oV i t l m)],oT i t (pO i t l m cm)] :=rfl;simp[XO,fi,eh,dY,cH,dZ,dy,fh,fm,fj,fZ,den,U.den,B.den,fD,aU,cV,eu,ep,er,fE,bT,cQ,pre,cD,fl,vr,cr,rp,E.V,List.range',s,w,oT,a,r,na,p];have d:(l.length+1:Nat)<=maxLen:=by simp only[maxLen];omega
 refine⟨fun h=> ?_,fun H G F=>⟨fun x=> ?_,fun x=> ?_⟩⟩
 ·have c:oV i t l m=1:=by unfold oV;rw[if_pos (by simp only[MX];omega)]
  simp[wv,pO,c,pT]
 ·have c:oV i t l m=2:=by unfold oV;rw[if_neg (by simp only[MX];omega),if_pos (by simp only[MX];omega)]
  simp[wv,pO,c,pT]
 ·have c:oV i t l m=0:=by unfold oV;rw[if_neg (by simp only[MX];omega),if_neg (by simp only[MX];omega)]
  rw[wrap64 (n:=i+l.length+1) (by omega) (by omega)];refine⟨⟨d,by omega⟩,?_⟩;simp[wv,pO,c,Ed];exact p
def SM:jg Try.prog pre cz Yt:=aO c71 TG
def c51:bj Try.prog 51 s51 (pre 51) (cz 51):=by
 refine zO SM Try.func51 (v:=XZ) ?_;intro A h b;obtain⟨_,_,rfl,⟨k,rfl,p⟩,_,_,rfl,⟨i,rfl,y⟩,_,_,rfl,⟨t,rfl,x⟩,_,_,rfl,⟨l,rfl,a,z⟩,rfl⟩:=h;replace b:eV i t l=true:=b;rw[tH]at p;obtain⟨⟨w,f,u,m⟩,q⟩:=eH.1 b;have c:=ui f q;have d:=a.1;have g:=a.2;rw[nQ]at g;simp only[MX]at c f m;have o:cz 25 [.ptr [.int .i64 i,.int .i64 t,.list l]] = .eS [.int .i64 (i+l.length),.int .i64 (eM t l)] :=rfl;have r: ∀k:Int,cz 50 [.ptr [.int .i64 i,.int .i64 t,.list l],.int .i64 k] = .eS [.int .i64 (gC i t l k).1,.int .i64 (gC i t l k).2] :=fun _=>rfl;have s:cz 51 [.int .i64 k,.int .i64 i,.int .i64 t,.list l] = .eS [.int .i64 (xn i l k),oT (jk i t l k).1 (jk i t l k).2.1 (jk i t l k).2.2] :=rfl;simp[XZ,fi,eh,dY,cH,dZ,dy,fh,fm,fj,fZ,den,U.den,B.den,fD,aU,cV,eu,ep,er,fE,bT,cQ,pre,cD,fl,vr,cr,rp,E.V,List.range',o,r,s,oT,b];refine⟨fun h=>by simp[xn,jk,h],fun h=>⟨fun j=>by simp[xn,jk,show¬(i+l.length<k) by omega,j],fun j=> ?_⟩⟩;rw[wrap64 (n:=k-i) (by omega) (by omega)];have e:jk i t l k=(k,(gC i t l k).1,l.drop (k-i).toNat):=by unfold jk;rw[if_neg (by omega)]
 refine⟨by omega,⟨aW d (cM _ _),aW (au 320 (by omega)) g⟩,by unfold xn;rw[if_neg (by omega)],by rw[e],by rw[e],by rw[e]⟩
def Jh:jg Try.prog pre cz YG:=aO c51 SM
def cnw:bj Try.prog 22 snw (fun c=>pre 22 c∧((cz 22 c).A.getD 0 .top).gk=false) (cz 22):=by
 refine zO Jh Try.func22 (v:=XF) ?_;intro c h j;obtain⟨_,_,rfl,⟨i,rfl,q⟩,_,_,rfl,⟨t,rfl,p⟩,rfl⟩:=h;have a:=j.2;have f: ∀n:Int,cz 57 [.int .i64 n,.int .i64 0,.int .i64 1099511627776] = .bool (na n 0 1099511627776):=fun _=>rfl;change D.gk (cD 0 (jP i t))=false at a
 have d:okB i t=true∧(i=0↔t=0):=by refine Decidable.byContradiction fun k=> ?_;rw[jP,if_neg k]at a;exact absurd (show true=false from a) (by decide)
 have l:cz 22 [.int .i64 i,.int .i64 t] = .eS [.eS [],oT i t []] :=by show jP i t=_;rw[jP,if_pos d]
 obtain⟨b,g⟩:=d;obtain⟨s,o,r,m⟩:=jv.1 b;simp only[MX]at o m;have e:(i==0)=(t==0):=by rw[du];simpa using g
 simp[XF,fi,eh,dY,cH,dZ,dy,fh,fm,fj,EA,fZ,den,U.den,B.den,fD,aU,cV,eu,ep,er,fE,bT,cQ,pre,f,na,l,oT,e];omega
def cnl:bj Try.prog 22 snl (fun b=>pre 22 b∧((cz 22 b).A.getD 0 .top).gk=true) (fun _=>.gI):=by
 refine zF Jh Try.func22 (v:=XG) ?_;intro b h e;obtain⟨_,_,rfl,⟨i,rfl,k⟩,_,_,rfl,⟨t,rfl,j⟩,rfl⟩:=h;have a:=e.2;have d: ∀n:Int,cz 57 [.int .i64 n,.int .i64 0,.int .i64 1099511627776] = .bool (na n 0 1099511627776):=fun _=>rfl;change D.gk (cD 0 (jP i t))=true at a
 have g: ¬(okB i t=true∧(i=0↔t=0)):=by intro f;rw[jP,if_pos f]at a;exact absurd (show false=true from a) (by decide)
 simp[XG,fi,eh,dY,cH,dZ,dy,fh,fm,fj,EA,fZ,den,U.den,B.den,fD,aU,cV,eu,ep,er,fE,bT,cQ,pre,d,na];intro p o m l c;refine g ⟨jv.2 (by simp only[MX];omega),?_⟩;rw[du]at c;simpa using c
end Go.Proofs.Ytjhmkaninmgilaa
