/- Part 11 of the proof of RaftGrown; no condition. -/
import Derived.Test.YtjhmkaninmgilaaS10
import Derived.Test.YtjhmkaninmgilaaS09
import Derived.KernelRfl
import Derived.Test.YtjhmkaninmgilaaS07
import Derived.Test.YtjhmkaninmgilaaS05
set_option linter.defProp false
set_option linter.unusedVariables false
set_option linter.unusedSimpArgs false
set_option maxHeartbeats 4000000
open Go.IntKind (i64)
namespace Go.Proofs.Ytjhmkaninmgilaa
open Go Go.RowKit Go.dG Go.Proofs
def Qm:GS:={gB 3 2 5 with fl:=[],eT:=(List.range 5).map (uh 3 0)}
def ql(g:GS):GS:=jQ 4 12 (jQ 3 9 (jQ 2 6 (jQ 1 3 (jQ 0 0 g))))
def aa6(g:GS):GS:=BS (BS (BS (ql g)))
def gR:Nat->GS
 |0=>Qm
 |n+1=>aa6 (gR n)
def adD:((List.range 9).all fun r=>(List.range 5).all fun i=> !decide ((bS (gR (r+1)) i).role=2))=true:=by decide+kernel
def e9:D:=EZ [] (aE 27 Kz [(0,D.int i64 1)])
def adF:(sJ (bS (gR 10) 0),sJ (bS (gR 10) 1),sJ (bS (gR 10) 2),sJ (bS (gR 10) 3),sJ (bS (gR 10) 4),lJ (bS (gR 10) 0),(gR 10).eI.map fun m=>[cD 0 m,cD 1 m,cD 2 m,cD 3 m,cD 4 m,cD 5 m,cD 7 m,cD 8 m,cD 12 m])=
  ((0,0,[e9],BL 3,[],1,2,1,1,0,0,0,[],0),(0,0,[e9],BL 3,[],2,0,1,1,0,0,0,[],0),(0,0,[e9],BL 3,[],3,0,1,1,0,0,0,[],0),(0,0,[],BL 3,[],4,0,0,0,0,10,19,[],0),(0,0,[],BL 3,[],5,0,0,0,0,10,12,[],0),
   (0,1,0,1,0,1,0,1),[[.int i64 4,.int i64 2,.int i64 1,.int i64 1,.int i64 1,.int i64 0,.bool false,.int i64 0,.list []],[.int i64 4,.int i64 3,.int i64 1,.int i64 1,.int i64 1,.int i64 0,.bool false,.int i64 0,.list []]]):=by kernel_rfl
def RK:((gR 10).eT.length,(gR 10).told,(gR 10).bad,(gR 10).cu,(gR 10).aT,(gR 10).br)=(5,[],false,[.int i64 1,.int i64 1,.int i64 1,.int i64 0,.int i64 0],[[.int i64 0,.int i64 1],[.int i64 0,.int i64 1],[.int i64 0,.int i64 1],[.int i64 0],[.int i64 0]],[.int i64 0,.int i64 1]):=by kernel_rfl
def RI(n:Nat):gR (n+1)=aa6 (gR n):=rfl
def RH:gR 0=Qm:=rfl
attribute [irreducible] gR
def el9:EL [e9] [0]:=⟨rfl,fun i e k a b=>by
 match i,a,b with
 |0,a,b=>
  injection a with a;injection b with b;subst a;subst b;exact⟨rfl,rfl,by decide,fun _=>(by decide+kernel),fun h=>absurd rfl h⟩
 |i+1,a,b=>simp at a⟩
def Fk{l:Tah}{v:Int}(h:l=[.int i64 0,.int i64 v] \/l=[.int i64 0]){s:RS}(c:l=[.int i64 0,.int i64 v]->s.term=1/\s.vote=v):VT l s:=by
 intro T;rcases h with h|h
 .obtain⟨a,b⟩:=c h;subst h
  match T with
  |0=>exact .inl rfl
  |1=>exact .inr ⟨by rw[a];rfl,by rw[b];rfl⟩
  |T+2=>exact .inl rfl
 subst h
 match T with
 |0=>exact .inl rfl
 |T+1=>exact .inl rfl
def Rs{c β:Type}{f:c->β}{a b:β}:∀{l:List c},l.map f=[a,b]->∃x y,l=[x,y]/\f x=a/\f y=b
 | [x,y],h=>by simp only[ct,List.map_nil,dD,and_true]at h;exact⟨x,y,rfl,h.1,h.2⟩
 |[],h=>by simp at h
 | [x],h=>by simp at h
 |x::y::z::r,h=>by simp at h
def gr9:ra [e9] A9 (gR 10):=by
 have f:=adF;have l:=RK;simp only[ae]at l;obtain⟨R,Q,P,J,I,O⟩:=l;have z:sJ (bS (gR 10) 0)=_:=congrArg (·.1) f;have u:sJ (bS (gR 10) 1)=_:=congrArg (·.2.1) f;have q:sJ (bS (gR 10) 2)=_:=congrArg (·.2.2.1) f;have B:sJ (bS (gR 10) 3)=_:=congrArg (·.2.2.2.1) f;have A:sJ (bS (gR 10) 4)=_:=congrArg (·.2.2.2.2.1) f;have d:lJ (bS (gR 10) 0)=_:=congrArg (·.2.2.2.2.2.1) f;have U:(gR 10).eI.map _=_:=congrArg (·.2.2.2.2.2.2) f;clear f
 have o:∃x y,(gR 10).eI=[x,y]/\MA 2 1 false x/\MA 3 1 false y:=by obtain⟨x,y,V,K,m⟩:=Rs U;simp only[dD,and_true]at K m;obtain⟨a0,a1,a2,a3,a4,a5,a7,a8,E⟩:=K;obtain⟨b0,b1,b2,b3,Z,Y,X,W,D⟩:=m;exact⟨x,y,V,⟨a0,a1,a2,a3,a4,a5,a7,a8,E⟩,⟨b0,b1,b2,b3,Z,Y,X,W,D⟩⟩
 obtain⟨x,y,C,mx,S⟩:=o;generalize gR 10=g at*;simp only[sJ,ae]at z u q B A;simp only[lJ,ae]at d
 have b:∀{i r:Int} {a:SA} {s:RS},(s.li=0/\s.lt=0/\s.le=[e9].take a.n/\s.fv=BL 3/\s.fl=[]/\s.id=i/\s.role=r/\s.term=a.t/\s.vote=a.v/\s.bH=(a.c:Int)/\s.wait=a.w/\s.end_=a.e/\s.reads=[]/\s.round=0)->a.n<=1->a.c<=a.n->SR [e9] [0] i r a s:=by rintro i r a s ⟨c1,c2,c3,c4,c5,c6,c7,c8,c9,c10,c11,P9,c13,c14⟩ C hc;exact⟨⟨el9,by decide,C,c1,c2,c3,c4,c5⟩,c6,c7,c8,c9,c10,hc,c11,P9,c13,c14⟩
 have H:(bS g 0).term=1/\(bS g 0).vote=1:=⟨z.2.2.2.2.2.2.2.1,z.2.2.2.2.2.2.2.2.1⟩;have G:(bS g 1).term=1/\(bS g 1).vote=1:=⟨u.2.2.2.2.2.2.2.1,u.2.2.2.2.2.2.2.2.1⟩;have F:(bS g 2).term=1/\(bS g 2).vote=1:=⟨q.2.2.2.2.2.2.2.1,q.2.2.2.2.2.2.2.2.1⟩;have N:(bS g 3).term=0:=B.2.2.2.2.2.2.2.1;have M:(bS g 4).term=0:=A.2.2.2.2.2.2.2.1;refine⟨⟨R,by rw[I];rfl,by rw[J];rfl,fun j y m=>by rw[Q]at m;simp at m,P,fun i p=>?_,fun i p=>?_,fun T=>?_⟩,⟨b z (aM _) (aB _),⟨d.1,d.2.1,d.2.2.1,d.2.2.2.1,d.2.2.2.2.1,d.2.2.2.2.2.1,d.2.2.2.2.2.2.1,d.2.2.2.2.2.2.2⟩,rfl,rfl⟩,fun x l L=>?_,?_⟩
 .rw[J]
  match i,p with
  |0,_=>rw[H.1];decide
  |1,_=>rw[G.1];decide
  |2,_=>rw[F.1];decide
  |3,_=>rw[N];decide
  |4,_=>rw[M];decide
  |i+5,p=>omega
 .rw[I]
  match i,p with
  |0,_=>exact Fk (v:=1) (.inl rfl) fun _=>H
  |1,_=>exact Fk (v:=1) (.inl rfl) fun _=>G
  |2,_=>exact Fk (v:=1) (.inl rfl) fun _=>F
  |3,_=>exact Fk (v:=1) (.inr rfl) fun h=>by cases h
  |4,_=>exact Fk (v:=1) (.inr rfl) fun h=>by cases h
  |i+5,p=>omega
 .rw[O]
  match T with
  |0=>exact .inl rfl
  |1=>exact .inr ⟨rfl,rfl⟩
  |T+2=>exact .inl rfl
 .match x,l,L with
  |2,_,_=>exact b u (aM _) (aB _)
  |3,_,_=>exact b q (aM _) (aB _)
  |4,_,_=>exact b B (aB _) (aM _)
  |5,_,_=>exact b A (aB _) (aM _)
  |0,l,_|1,l,_=>omega
  |k+6,_,L=>omega
 rw[C];exact⟨mx,S,trivial⟩
def O8{K:Nat}(k:K<=1073741824):GI 5 K 0 Qm:=by
 have d:Qm.eT.length=5:=rfl
 have hs:∀(i:Nat) s,Qm.eT[i]?=some s->i<5/\s=uh 3 0 i:=by
  intro i s hs;have hs:((List.range 5).map (uh 3 0))[i]?=some s:=hs;rw[ab,cQ]at hs;obtain⟨q,b,rfl⟩:=hs;have a:i<5:=by have:=(aD.1 b).1;simpa using this
  rw[cN a]at b;injection b with b;exact⟨a,by rw[b]⟩
 refine⟨⟨by rw[d];omega,rfl,rfl,rfl,aB _,?_⟩,d,?_,fun m g=>(by cases g),aB _,by show((0:Nat):Int)<=0+1;omega,aJ _⟩
 .intro f c;rw[ft (show f∈List.replicate 5 [] from c)];exact aB _
 intro i s h;obtain⟨a,rfl⟩:=hs i s h;refine⟨⟨rfl,rfl,rfl,rfl,rfl⟩,⟨(show gn 0 0 []=true by decide),?_,?_,?_,?_,?_,?_,?_,(show gp (.agg [.list (BL 3),.list (I4 3 0)])=true by decide),fun h=>absurd h (by show¬(0:Int)<0;decide),rfl,aJ _,by show(0:Int)<=MX;decide,rfl⟩,⟨⟨rfl,rfl⟩,dt,⟨aJ _,by show(0:Int)<=0+((([]:Tah).length:Nat):Int);decide⟩,fun h=>absurd h (by show¬(0:Int)<0;decide),aB _,aJ _,⟨aJ _,by show(0:Int)<=MX;decide⟩,by show(0:Int)+((([]:Tah).length:Nat):Int)<=0;decide,fun e j=>(by cases j)⟩,?_⟩
 .show(1:Int)<=((i+1:Nat):Int);omega
 .show((i+1:Nat):Int)<=5;omega
 .show 0+K<=_;omega
 .show 0+K<=K;omega
 .show 0+K<=_;omega
 .show 0+G K<=G K;omega
 .show 0+K<=_;omega
 show(List.replicate 5 uw)[i]?=some uw;rw[List.getElem?_replicate,if_pos a]
noncomputable def We:Tae:=dH 0 (cA Try.f6)
noncomputable def Wd:Tae:=dH 1 (cA Try.f6)
noncomputable def Qx:Tae:=dH 2 (cA Try.f6)
noncomputable def Wc:Tae:=dH 3 (cA Try.f6)
noncomputable def Wb:Tae:=dH 4 (cA Try.f6)
noncomputable def Qw:Tae:=dH 6 (cA Try.f6)
noncomputable def Wa:Tae:=dH 5 (cA Try.f6)
noncomputable def V9:Tae:=dH 7 (cA Try.f6)
noncomputable def Qv:Tae:=dH 8 (cA Try.f6)
noncomputable def V8:Tae:=dH 9 (cA Try.f6)
noncomputable def NC:Tae:=dH 10 (cA Try.f6)
noncomputable def NB:Tae:=dH 11 (cA Try.f6)
noncomputable def NA:Tae:=dH 13 (cA Try.f6)
noncomputable def Nz:Tae:=dH 14 (cA Try.f6)
noncomputable def Jr:Tae:=dH 16 (cA Try.f6)
noncomputable def Ny:Tae:=dH 15 (cA Try.f6)
noncomputable def Nx:Tae:=dH 17 (cA Try.f6)
noncomputable def Nw:Tae:=dH 18 (cA Try.f6)
noncomputable def Nu:Tae:=dH 20 (cA Try.f6)
noncomputable def Nv:Tae:=dH 19 (cA Try.f6)
noncomputable def Ns:Tae:=dH 21 (cA Try.f6)
noncomputable def Nr:Tae:=dH 22 (cA Try.f6)
noncomputable def Nq:Tae:=dH 24 (cA Try.f6)
noncomputable def Np:Tae:=dH 25 (cA Try.f6)
noncomputable def Jq:Tae:=dH 23 (cA Try.f6)
noncomputable def No:Tae:=dH 26 (cA Try.f6)
noncomputable def Nn:Tae:=dH 27 (cA Try.f6)
noncomputable def pL:Tae:=dH 28 (cA Try.f6)
noncomputable def Nl:Tae:=dH 29 (cA Try.f6)
noncomputable def Fh:Tae:=dH 30 (cA Try.f6)
noncomputable def pK:Tae:=dH 31 (cA Try.f6)
noncomputable def Nk:Tae:=dH 32 (cA Try.f6)
noncomputable def Nj:Tae:=dH 33 (cA Try.f6)
noncomputable def Ni:Tae:=dH 34 (cA Try.f6)
noncomputable def Nh:Tae:=dH 35 (cA Try.f6)
noncomputable def Tk:Tae:=dH 36 (cA Try.f6)
noncomputable def Ng:Tae:=dH 37 (cA Try.f6)
noncomputable def Nf:Tae:=dH 38 (cA Try.f6)
noncomputable def Nd:Tae:=dH 39 (cA Try.f6)
noncomputable def Nb:Tae:=dH 41 (cA Try.f6)
noncomputable def Na:Tae:=dH 42 (cA Try.f6)
noncomputable def Nc:Tae:=dH 40 (cA Try.f6)
noncomputable def M9:Tae:=dH 43 (cA Try.f6)
noncomputable def Jp:Tae:=dH 44 (cA Try.f6)
noncomputable def Js:Tae:=dH 12 (cA Try.f6)
noncomputable def Tj:Tae:=dH 45 (cA Try.f6)
def agl:bK We=[(some 2,.assign (.const (.bool false)),none)]:=by kernel_rfl
def agk:bK Wd=[oC 21 9 #[(.const (.int i64 5)),(.const (.int i64 3))] #[3,3],
 oA 3 21]:=by kernel_rfl
def agj:bK Qx=[oM 22 3,
 (some 23,.buildSlice 29 3 #[(0,.const (.int i64 1)),(1,.const (.int i64 2)),(2,.const (.int i64 3))],none),
 (some 24,.build 31 #[(0,.tmp 23)],none),
 oN 25 22,
 oF 26 59 25 0,
 oS 31 26 24]:=by kernel_rfl
def agi:bK Wc=[(some 4,.assign (.const (.int i64 0)),none)]:=by kernel_rfl
def agh:bK Wb=[oM 27 4,
 (some 28,.binOp .lss 3 (.tmp 27) (.const (.int i64 5)) 3,none)]:=by kernel_rfl
def age:bK Qw=[oM 31 3,
 oN 32 31,
 oF 33 59 32 1,
 oL 34 54 33,
 oM 35 4,
 oM 36 4,
 (some 37,.binOp .add 3 (.tmp 36) (.const (.int i64 1)) 3,none),
 oM 38 3,
 oN 39 38,
 oF 40 59 39 0,
 oL 41 31 40,
 (some 42,.build 65 #[],none),
 oC 43 11 #[(.tmp 37),(.tmp 41),(.tmp 42)] #[3,31,65],
 oI 44 54 34 35,
 oS 52 44 43]:=by kernel_rfl
def agf:bK Wa=[oM 29 4,
 (some 30,.binOp .add 3 (.tmp 29) (.const (.int i64 1)) 3,none),
 oA 4 30]:=by kernel_rfl
def agd:bK V9=[(some 5,.assign (.const (.int i64 (-1))),none)]:=by kernel_rfl
def agc:bK Qv=[(some 45,.buildSlice 29 3 #[(0,.const (.int i64 1)),(1,.const (.int i64 2)),(2,.const (.int i64 3))],none),
 (some 46,.buildSlice 29 1 #[(0,.const (.int i64 4))],none),
 (some 47,.build 31 #[(0,.tmp 45),(1,.tmp 46)],none),
 (some 48,.buildSlice 29 4 #[(0,.const (.int i64 1)),(1,.const (.int i64 2)),(2,.const (.int i64 3)),(3,.const (.int i64 4))],none),
 (some 49,.build 31 #[(0,.tmp 48)],none),
 (some 50,.buildSlice 29 4 #[(0,.const (.int i64 1)),(1,.const (.int i64 2)),(2,.const (.int i64 3)),(3,.const (.int i64 4))],none),
 (some 51,.buildSlice 29 1 #[(0,.const (.int i64 5))],none),
 (some 52,.build 31 #[(0,.tmp 50),(1,.tmp 51)],none),
 (some 53,.buildSlice 29 5 #[(0,.const (.int i64 1)),(1,.const (.int i64 2)),(2,.const (.int i64 3)),(3,.const (.int i64 4)),(4,.const (.int i64 5))],none),
 (some 54,.build 31 #[(0,.tmp 53)],none),
 (some 55,.buildSlice 82 4 #[(0,.tmp 47),(1,.tmp 49),(2,.tmp 52),(3,.tmp 54)],none),
 oA 6 55]:=by kernel_rfl
def agb:bK V8=[(some 7,.assign (.const (.int i64 0)),none)]:=by kernel_rfl
def ab2:bK NC=[(some 8,.assign (.const (.int i64 0)),none)]:=by kernel_rfl
def ab1:bK NB=[oM 56 8,
 (some 57,.binOp .lss 3 (.tmp 56) (.const (.int i64 200)) 3,none),
 oM 58 57,
 oM 59 7 (some (2,true)),
 oM 60 6 (some (2,true)),
 oE 61 60 82 (some (2,true)),
 oB 62 .leq 3 59 61 (some (2,true)),
 oP 63 58 62 false]:=by kernel_rfl
def abZ:bK NA=[(some 9,.assign (.const (.int i64 0)),none)]:=by kernel_rfl
def abY:bK Nz=[oM 66 9,
 (some 67,.binOp .lss 3 (.tmp 66) (.const (.int i64 5)) 3,none)]:=by kernel_rfl
def abW:bK Jr=[oM 70 3,
 oM 71 9,
 oM 72 3,
 oN 73 72,
 oF 74 59 73 1,
 oL 75 54 74,
 oM 76 9,
 oI 77 54 75 76,
 oL 78 52 77,
 oM 79 9,
 (some 80,.binOp .mul 3 (.const (.int i64 3)) (.tmp 79) 3,none),
 oC 81 15 #[(.tmp 78),(.tmp 80)] #[52,3],
 oC 82 14 #[(.tmp 70),(.tmp 71),(.tmp 81),(.const (.bool false))] #[24,3,75,4]]:=by kernel_rfl
def abX:bK Ny=[oM 68 9,
 (some 69,.binOp .add 3 (.tmp 68) (.const (.int i64 1)) 3,none),
 oA 9 69]:=by kernel_rfl
def abV:bK Nx=[(some 10,.assign (.const (.int i64 0)),none)]:=by kernel_rfl
def abU:bK Nw=[oM 83 10,
 (some 84,.binOp .lss 3 (.tmp 83) (.const (.int i64 3)) 3,none)]:=by kernel_rfl
def abS:bK Nu=[oM 87 3,
 (some 88,.build 51 #[(0,.const (.int i64 6))],none),
 oC 89 10 #[(.tmp 87),(.tmp 88)] #[24,51]]:=by kernel_rfl
def abT:bK Nv=[oM 85 10,
 (some 86,.binOp .add 3 (.tmp 85) (.const (.int i64 1)) 3,none),
 oA 10 86]:=by kernel_rfl
def abR:bK Ns=[(some 11,.assign (.const (.int i64 0)),none)]:=by kernel_rfl
def abQ:bK Nr=[oM 90 11,
 (some 91,.binOp .lss 3 (.tmp 90) (.const (.int i64 5)) 3,none)]:=by kernel_rfl
def abO:bK Nq=[oM 94 3,
 oN 95 94,
 oF 96 59 95 1,
 oL 97 54 96,
 oM 98 11,
 oI 99 54 97 98,
 oL 100 52 99,
 oC 101 12 #[(.tmp 100)] #[52],
 (some 102,.field 67 (.tmp 101) 0,none),
 (some 103,.binOp .eql 3 (.tmp 102) (.const (.int i64 2)) 3,none)]:=by kernel_rfl
def abN:bK Np=[oM 104 11,
 oA 5 104]:=by kernel_rfl
def abP:bK Jq=[oM 92 11,
 (some 93,.binOp .add 3 (.tmp 92) (.const (.int i64 1)) 3,none),
 oA 11 93]:=by kernel_rfl
def Th:bK No=[oM 105 5,
 (some 106,.binOp .lss 3 (.tmp 105) (.const (.int i64 0)) 3,none)]:=by kernel_rfl
def abM:bK Nn=[oM 107 8,
 oM 108 0,
 oE 109 108 22,
 oB 110 .lss 3 107 109,
 oM 111 110,
 oM 112 8 (some (4,true)),
 (some 113,.binOp .lss 3 (.tmp 112) (.const (.int i64 100)) 3,some (4,true)),
 oP 114 111 113 false]:=by kernel_rfl
def abL:bK Nl=[oM 135 3,
 oM 136 5,
 oL 137 75 14,
 oC 138 14 #[(.tmp 135),(.tmp 136),(.tmp 137),(.const (.bool false))] #[24,3,75,4]]:=by kernel_rfl
def abK:bK Fh=[oM 139 7,
 oM 140 6,
 oE 141 140 82,
 oB 142 .lss 3 139 141]:=by kernel_rfl
def abJ:bK Nk=[oM 160 3,
 oM 161 5,
 oL 162 75 17,
 oC 163 14 #[(.tmp 160),(.tmp 161),(.tmp 162),(.const (.bool false))] #[24,3,75,4]]:=by kernel_rfl
def abI:bK Nj=[oM 164 16,
 (some 165,.binOp .eql 45 (.tmp 164) (.const (.int i64 0)) 45,none)]:=by kernel_rfl
def abH:bK Ni=[oM 166 7,
 (some 167,.binOp .add 3 (.tmp 166) (.const (.int i64 1)) 3,none),
 oA 7 167]:=by kernel_rfl
def abG:bK Nh=[oM 168 16,
 (some 169,.binOp .neq 45 (.tmp 168) (.const (.int i64 21)) 45,none),
 oM 170 169,
 oM 171 16 (some (2,true)),
 (some 172,.binOp .neq 45 (.tmp 171) (.const (.int i64 20)) 45,some (2,true)),
 oP 173 170 172 false]:=by kernel_rfl
def abF:bK Ng=[(some 18,.assign (.const (.bool true)),none)]:=by kernel_rfl
def abE:bK Nf=[(some 19,.assign (.const (.int i64 0)),none)]:=by kernel_rfl
def abD:bK Nd=[oM 174 19,
 (some 175,.binOp .lss 3 (.tmp 174) (.const (.int i64 5)) 3,none)]:=by kernel_rfl
def abB:bK Nb=[oM 178 3,
 oN 179 178,
 oF 180 59 179 1,
 oL 181 54 180,
 oM 182 19,
 oI 183 54 181 182,
 oL 184 52 183,
 oC 185 12 #[(.tmp 184)] #[52],
 (some 20,.alloc 67,none),
 oS 67 20 185]:=by kernel_rfl
def abA:bK Na=[oM 186 18,
 oM 187 186,
 oF 188 67 20 3 (some (1,true)),
 oL 189 3 188 (some (1,true)),
 oM 190 3 (some (1,true)),
 oN 191 190 (some (1,true)),
 oF 192 59 191 1 (some (1,true)),
 oL 193 54 192 (some (1,true)),
 oM 194 5 (some (1,true)),
 oI 195 54 193 194 (some (1,true)),
 oL 196 52 195 (some (1,true)),
 oC 197 12 #[(.tmp 196)] #[52] (some (1,true)),
 (some 198,.field 67 (.tmp 197) 4,some (1,true)),
 oB 199 .eql 3 189 198 (some (1,true)),
 oP 200 187 199 false,
 oM 201 200,
 oF 202 67 20 6 (some (15,true)),
 oF 203 31 202 0 (some (15,true)),
 oL 204 29 203 (some (15,true)),
 oE 205 204 29 (some (15,true)),
 (some 206,.binOp .eql 3 (.tmp 205) (.const (.int i64 5)) 3,some (15,true)),
 oP 207 201 206 false,
 oA 18 207]:=by kernel_rfl
def abC:bK Nc=[oM 176 19,
 (some 177,.binOp .add 3 (.tmp 176) (.const (.int i64 1)) 3,none),
 oA 19 177]:=by kernel_rfl
def abz:bK M9=[oM 208 18,
 oM 209 208,
 oM 210 8 (some (1,true)),
 oM 211 0 (some (1,true)),
 oE 212 211 22 (some (1,true)),
 oB 213 .geq 3 210 212 (some (1,true)),
 oM 214 213 (some (1,true)),
 oM 215 8 (some (6,false)),
 (some 216,.binOp .geq 3 (.tmp 215) (.const (.int i64 100)) 3,some (6,false)),
 (some 217,.pick (.tmp 214) (.const (.bool true)) (.tmp 216),some (1,true)),
 oP 218 209 217 false]:=by kernel_rfl
def aby:bK Jp=[oM 219 3,
 oN 220 219,
 oF 221 59 220 9,
 oL 222 4 221,
 (some 223,.unOp .not 4 (.tmp 222),none),
 oM 224 223,
 oC 225 13 #[] #[] (some (5,true)),
 oP 226 224 225 false,
 oA 2 226]:=by kernel_rfl
def ab0:bK Js=[oM 64 8,
 (some 65,.binOp .add 3 (.tmp 64) (.const (.int i64 1)) 3,none),
 oA 8 65]:=by kernel_rfl
def Oc:cA Try.f6=(.seq (.region 0 We false) (.seq (.region 1 Wd false) (.seq (.region 2 Qx false) (.seq (.seq (.region 3 Wc false) (.block 0 (.loop (.seq (.seq (.region 4 Wb false) (.cond (.tmp 28) .skip (.exit 0))) (.seq (.block 1 (.region 6 Qw true)) (.region 5 Wa false)))))) (.seq (.region 7 V9 false) (.seq (.region 8 Qv false) (.seq (.region 9 V8 false) (.seq (.seq (.region 10 NC false) (.block 2 (.loop (.seq (.seq (.region 11 NB false) (.cond (.tmp 63) .skip (.exit 2))) (.seq (.block 3 (.seq (.seq (.region 13 NA false) (.block 4 (.loop (.seq (.seq (.region 14 Nz false) (.cond (.tmp 67) .skip (.exit 4))) (.seq (.block 5 (.region 16 Jr false)) (.region 15 Ny false)))))) (.seq (.seq (.region 17 Nx false) (.block 6 (.loop (.seq (.seq (.region 18 Nw false) (.cond (.tmp 84) .skip (.exit 6))) (.seq (.block 7 (.region 20 Nu false)) (.region 19 Nv false)))))) (.seq (.seq (.region 21 Ns false) (.block 8 (.loop (.seq (.seq (.region 22 Nr false) (.cond (.tmp 91) .skip (.exit 8))) (.seq (.block 9 (.seq (.region 24 Nq false) (.cond (.tmp 103) (.region 25 Np false) .skip))) (.region 23 Jq false)))))) (.seq (.seq (.region 26 No false) (.cond (.tmp 106) (.exit 3) .skip)) (.seq (.seq (.region 27 Nn false) (.cond (.tmp 114) (.seq (.region 28 pL true) (.region 29 Nl false)) .skip)) (.seq (.seq (.region 30 Fh false) (.cond (.tmp 142) (.seq (.region 31 pK true) (.seq (.region 32 Nk false) (.seq (.seq (.region 33 Nj false) (.cond (.tmp 165) (.region 34 Ni false) (.seq (.region 35 Nh false) (.cond (.tmp 173) (.seq (.region 36 Tk false) .ret) .skip)))) (.exit 3)))) .skip)) (.seq (.region 37 Ng false) (.seq (.seq (.region 38 Nf false) (.block 10 (.loop (.seq (.seq (.region 39 Nd false) (.cond (.tmp 175) .skip (.exit 10))) (.seq (.block 11 (.seq (.region 41 Nb false) (.region 42 Na true))) (.region 40 Nc false)))))) (.seq (.region 43 M9 false) (.cond (.tmp 218) (.seq (.region 44 Jp false) .ret) .skip))))))))))) (.region 12 Js false)))))) (.seq (.region 45 Tj false) .ret))))))))):=by kernel_rfl
def SQ:Try.f6.body=some (cA Try.f6):=by kernel_rfl
def nt6:Try.f6.ntmps=227:=by kernel_rfl
def afY:Try.f6.results=#[.tmp 2]:=by kernel_rfl
def Yh(a:Tbe Tao)(w:Tan):(callFunc 6 a).run Try.prog w=.ok (.enter 6 a) w:=by
 unfold callFunc
 have b:Try.f6.name≠ "runtime.NumGoroutine" :=by decide+kernel
 simp[Try.func6,SQ,b]
def adJ:(kj Try.prog 67 6).map (fun y=>(y.1.offset,decide (0<y.2)))=some (7,true):=by kernel_rfl
attribute [local irreducible] TL
def AQ:iC.cells.length=46:=rfl
section
variable{w w0:Tan}{S S0:bG}{ow kJ:Ow}{b i j:Nat}{g:GS}{R:GR}{Q:O3}{a:Act}
def CQ{x n:Int}(p:Wf w S ow)(E:kL i64 x)(D:kL i64 n)(B:n≠0):Calls Try.prog 8 [.int i64 x,.int i64 n].toArray w fun e A=>e=.returned (.int i64 (Ch x n))/\bB ax ax w S ow A S ow/\Wf A S ow:=by
 refine(c8.calls rfl w S [.int i64 x,.int i64 n] [.int i64 x,.int i64 n] p.s rfl (fun q v d c f=>by
  match q,c,f with
  |0,c,f=>injection c with c;injection f with f;subst c f;exact .int _ _
  |1,c,f=>injection c with c;injection f with f;subst c f;exact .int _ _) (aA.2 ⟨_,_,rfl,⟨_,rfl,E⟩,aA.2 ⟨_,_,rfl,⟨_,rfl,D⟩,dk.2 rfl⟩⟩) B).mono ?_
 rintro e z ⟨v,S',τ,rfl,hb,_,_,_,mM,_⟩
 have u:bB ax ax w S ow z S ow/\Wf z S ow:=⟨⟨hb.size,hb.os,hb.tape,hb.output,fun b _ m _ _=>hb.block b m,fun b m _ _=>hb.block b m,fun _ _ h=>h,fun b o hs=>bj (hb.block b (p.s b o hs)),fun _ _ h _=>h,fun _ _ h=>.inl h,fun _ _ h=>h,fun _ _ h=>.inl h⟩,
  ⟨fun b o hs=>ar (p.s b o hs) hb.size,fun b l C=>ar (p.o b l C) hb.size,p.d⟩⟩
 refine⟨?_,u⟩;have e:cB 8 [.int i64 x,.int i64 n]=.int i64 (Ch x n):=rfl;rw[e]at mM;rcases mM with⟨c',r,hq⟩|⟨r,_⟩
 .injection r with r;subst r;unfold fY at hq;simp only[ai,if_false]at hq;obtain⟨y,t,k⟩:=hq;injection t with t;subst t;rw[k.1.dj]
 exact absurd rfl r
def JM{A:Tap Addr}{t:Nat}{ms:Tah}{m:D}(h:bV w S (.slice A ms.length t) (.list ms))(E:ms[j]?=some m)(v:Has iC m)(C:∀y off,A=some ⟨y,off,none⟩->ow y=none):
  ∃(d:Nat) (us:Tad) (off:Nat),A=some ⟨d,off,none⟩/\ow d=none/\S d (off+j*46)/\us.length=46/\(∀(q:Nat) u,us[q]?=some u->w.cell? ⟨d,off+j*46+q,none⟩=some u)/\(∀(q:Nat) u c,us[q]?=some u->m.cells[q]?=some c->bV w S u c)/\us[2]?=some (.int i64 (cD 2 m).J):=by
 obtain⟨d,off,x,us,B,hs,k,o,f⟩:=h.Fs E v (by rw[AQ];omega);rw[AQ]at hs k o;injection B with G _ _;subst G;refine⟨d,us,off,rfl,C d off rfl,hs,k,o,f,?_⟩;obtain⟨z,p⟩:∃u,us[2]?=some u:=⟨_,aR (by omega)⟩;obtain⟨l,rfl,r⟩:=eA.1 v;obtain⟨H,e,s⟩:=dh r 2 I6 (by rw[Ty.dT];rfl);obtain⟨n,rfl,I⟩:=s;have F:cD 2 (D.agg l)=.int i64 n:=by show l.getD 2 .top=_;rw[ag,e];rfl
 rw[p,F,(f 2 z _ p e).dj];rfl
def RM{l:Nat}{T:Tbb}{t:Ty}{A:Tap Addr}{n p:Nat}{xs:Tah}(h:dA w S ow l T t (.slice A n p) xs)(y:Wf w S ow):
  ∃q c,bB (iF l) ax w S ow w q c/\Wf w q c/\bV w q (.slice A n p) (.list xs)/\∀e k,A=some ⟨e,k,none⟩->c e=none:=by
 obtain⟨q,c,x,r,z,m⟩:=h.freeze y;refine⟨q,c,x,r,z,fun e k v=>?_⟩;obtain⟨C,B,_⟩:=h.own
 have o:ow e=some l:=by
  rcases B.2 with⟨d,_⟩|⟨g,He,cur,d,_⟩
  .rw[v]at d;cases d
  rw[v]at d;injection d with d _ _;injection d with d;injection d with u s;subst u s;exact h.iu e (by rw[v];rfl)
 cases hx:c e with
 |none=>rfl
 |some l'=>
  exfalso;rcases x.iu e l' hx with f|f
  .rw[o]at f;injection f with f;subst f;exact m e hx
  simp only[iF]at f;subst f;exact m e hx
def Oq{P:Tba}{ops:Tae}{S:Taf}{n n0 i d:Nat}{m:Tac}{gd:Tap (Nat×Bool)}{L r:List OK}{x y:Tbc}{t t2:Tbb}{kk:IntKind}{p q s:Int}(k:Kn n a m)(v:S w)(l:qd L m gd=some true)(o:d<n)(f:lq m x=some (.int kk p))(e:lq m y=some (.int kk q))(u:kk.wrap (p-q)=s)(h:∀c,Kn n c ((d,.int kk s)::m)->TL P ops Q S n0 L r (i+1) c w):TL P ops Q S n0 L ((some d,.binOp .sub t x y t2,gd)::r) i a w:=by subst u;refine qe k v l o (fun _ _ _ B _=>?_) h;have A:=k.op f;have z:=k.op e;unfold execOp;simp[A,z,eqGuard,binOp,Op.intArith]
noncomputable def Ef:Code:=.seq (.region 32 HJ true) (.cond (.tmp 196) (.region 33 HH true) .skip)
def RW{A:Tap Addr}{x:Nat}{ms:Tah}{m:D}(hQ:QP Q)(h:iA w S ow b g)(hn:mF ow)(hr:bV w S (.slice A ms.length x) (.list ms))(hu:∀N n,A=some ⟨N,n,none⟩->ow N=none)(hj:ms[j]?=some m)(hm:Has iC m)(B:Ck m g=true)(k:Kn 359 a [(11,.int i64 (j:Int)),(10,.slice A ms.length x),(0,bM b)])(r:∀a W S' U,Kn 359 a [(11,.int i64 (j:Int)),(10,.slice A ms.length x),(0,bM b)]->bB LG ax w S ow W S' U->iA W S' U b (pe m g)->Q .normal a W):Ef.wp Try.prog Q a w:=by
 obtain⟨R,M,C,V⟩:=h;have c5:j<ms.length:=(aD.1 hj).1;unfold Ef;refine wp_seq (fV (n0:=19) ax mix (by exact hQ) Xd (fun _=>by kernel_rfl) ?_);intro w1 e1;have d:=M.W e1;have T:=(bB.refl LG ax w S ow).eN M.wf M.wf e1;have s0:=SX.refl ax w1;obtain⟨bm,O,n,rfl,b7,hS,X,L,a9,z⟩:=JM (ow:=ow) (hr.O (bB.W e1 ax ax S ow)) hj hm hu;have a0:=d.wf.s _ _ hS
 repeat refine sm k fun a k=>?_
 refine ot (el:=49) (sz:=46) k (by assumption) rfl (by decide) rfl rfl (by kernel_rfl) (by kernel_rfl) (by omega) (by omega) fun a k=>?_;rw[cY]at k
 repeat (first|refine sm k fun a k=>?_|refine ld k (eP a0 (fun h=>h) (L 2 _ z)) fun a k=>?_)
 have J:∀(a:Act),Kk m g=false->Kn 359 a [(11,.int i64 (j:Int)),(10,.slice (some ⟨bm,n,none⟩) ms.length x),(0,bM b)]->Q .normal a w1:=by
  intro a E k;have hg:pe m g=g:=by unfold pe;rw[E];rfl
  refine r _ _ S ow k T ?_;rw[hg];exact⟨R,d,C,V⟩
 obtain⟨Al,c2,b9⟩:=d.arr.slice;have a1:(R.la.map bM).length=g.eT.length:=by rw[aj,C];exact d.qV
 by_cases h1:decide ((cD 2 m).J≥1)=true
 .refine cm (c:=true) k rfl rfl (congrArg some h1) fun a k=>?_
  repeat refine sm k fun a k=>?_
  refine ot (el:=49) (sz:=46) k (by assumption) rfl (by decide) rfl rfl (by kernel_rfl) (by kernel_rfl) (by omega) (by omega) fun a k=>?_;rw[cY]at k
  repeat (first|refine sm k fun a k=>?_|refine ld k (d.cell id rfl) fun a k=>?_|refine ld k (eP a0 (fun h=>h) (L 2 _ z)) fun a k=>?_)
  rw[b9]at k
  repeat refine sm k fun a k=>?_
  rw[a1]at k;by_cases h2:decide ((cD 2 m).J<=(g.eT.length:Int))=true
  .refine cm (c:=true) k rfl rfl (congrArg some h2) fun a k=>?_;refine pk k rfl rfl fun a k=>?_;refine av (bw k rfl ?_);have k:=k.sb (l:=[(11,.int i64 (j:Int)),(10,.slice (some ⟨bm,n,none⟩) ms.length x),(0,bM b)]);have c9:=of_decide_eq_true h1;have c7:=of_decide_eq_true h2;have E:Kk m g=true:=by unfold Kk;rw[h2,show decide (1<=(cD 2 m).J)=true from h1];rfl
   have hg:pe m g=kz (wN m) (iX m (bS g (wN m))).1 false (ic (wN m) (iX m (bS g (wN m))).2 g):=by unfold pe;rw[E];rfl
   unfold Ck at B;rw[E,Bool.not_true,Bool.false_or]at B;simp only[aP,bg]at B;obtain⟨⟨⟨⟨a8,Z⟩,H⟩,b5⟩,G⟩:=B;have F:(cD 2 m).J-1=((wN m:Nat):Int):=by unfold wN;omega
   have hi:wN m<g.eT.length:=by unfold wN;omega
   have p:i64.wrap ((cD 2 m).J-1)=((wN m:Nat):Int):=by rw[F];exact wrap64 (by omega) (by omega)
   generalize c4:wN m=i at F hi p H G hg;obtain⟨bs,I,b2,c3⟩:=d.eT i _ (ka hi);refine MO (n0:=23) (fun N=>ow N=some (1000+i)) mix (by exact hQ) Xc (by kernel_rfl) ?_;intro w2 e2;have f:=d.W e2;have a4:=T.eN M.wf d.wf e2;have P:=bB.W e2 ax ax S ow;have Y:=b2.O d.wf f.wf P (fun h=>h) rfl;have s1:=SX.refl (fun N=>ow N=some (1000+i)) w2;have a6:¬ow b=some (1000+i):=by rw[f.obj.ow];intro h;injection h with h;omega
   have K:¬ow bm=some (1000+i):=by rw[b7];intro h;cases h
   have t:=f.wf.s _ _ hS;have o:∀(q:Nat) u,O[q]?=some u->w2.cell? ⟨bm,n+j*46+q,none⟩=some u:=fun q u h=>(bj (by rw[e2.heap])).trans (L q u h);obtain⟨bl,c1,a2,b8,b1,b6⟩:=f.arr.elem (i:=i) (u:=bM bs) (by rw[C,ab,I];rfl);have a5:¬ow bl=some (1000+i):=by rw[b1];intro h;injection h with h;omega
   repeat refine sm k fun a k=>?_
   refine ot (el:=49) (sz:=46) k (by assumption) rfl (by decide) rfl rfl (by kernel_rfl) (by kernel_rfl) (by omega) (by omega) fun a k=>?_;rw[cY]at k
   repeat refine sm k fun a k=>?_
   refine ld k (eP t K (o 2 _ z)) fun a k=>?_;refine Oq (s:=((i:Nat):Int)) k (by assumption) rfl (by decide) rfl rfl p fun a k=>?_
   repeat refine sm k fun a k=>?_
   refine ld k (f.cell a6 (j:=2) rfl) fun a k=>?_
   repeat refine sm k fun a k=>?_
   refine ot (el:=49) (sz:=46) k (by assumption) rfl (by decide) rfl rfl (by kernel_rfl) (by kernel_rfl) (by omega) (by omega) fun a k=>?_;rw[cY]at k
   repeat refine sm k fun a k=>?_
   refine ld k (eP t K (o 2 _ z)) fun a k=>?_;refine Oq (s:=((i:Nat):Int)) k (by assumption) rfl (by decide) rfl rfl p fun a k=>?_;rw[a2]at k;refine zg (el:=52) (sz:=1) k rfl rfl (by rw[a1];exact hi) fun a k=>?_;refine kx (v:=bM bs) k (by assumption) rfl (by decide) rfl (by kernel_rfl) (by kernel_rfl) (eP b8 a5 (by rw[bL];exact b6)) fun a k=>?_
   repeat refine sm k fun a k=>?_
   refine ot (el:=49) (sz:=46) k (by assumption) rfl (by decide) rfl rfl (by kernel_rfl) (by kernel_rfl) (by omega) (by omega) fun a k=>?_;rw[cY]at k;refine lN (vs:=O) k rfl X (fun w' a7 q v hv=>eP t K (o q v hv) w' a7) fun a k=>?_
   have b0:bV w2 S (.agg O.toArray) m:=by obtain⟨lm,rfl,b4⟩:=eA.1 hm;refine .agg O lm ?_ (fun q u y h3 h4=>(a9 q u y h3 h4).O P);have:=gh b4;rw[this,X,Ty.dT];rfl
   refine iB (vs:=[bM bs,.agg O.toArray]) k (by decide) rfl (by decide) c17.enter rfl (KP Y f.wf (by omega) hm b0 (DJ H) b5) ?_;rintro e w3 ⟨v,S3,Qd,rfl,Sq,hw3,aaZ,hr3,ht3⟩;refine⟨_,rfl,fun _=>SX.iu (fun _ h=>h) Sq,fun a k=>?_⟩;have c0:=f.Aa (i:=i) Sq hw3 hi I aaZ (gE aaZ) a8;have a3:=a4.fF M.wf f.wf Sq (.inr (by omega));have b3:mF Qd:=hn.O Sq (fun l hl=>by simp only[iF]at hl;subst hl;exact .inr (by omega));refine iB (vs:=[bM b,.int i64 ((i:Nat):Int),v,.bool false]) k (by decide) rfl (by decide) vH rfl (vB (g:=ic i (iX m (bS g i)).2 g) ⟨_,c0,C,V⟩ b3 hr3 ht3 G) ?_;rintro e w5 ⟨S5,EY,rfl,uV,Z⟩;refine⟨_,rfl,fun h=>absurd rfl h,fun a k=>?_⟩;refine av (r _ _ S5 EY (k.sb) (jl M.wf hw3 a3 uV nE) ?_);rw[hg];exact Z
  refine cm (c:=false) k rfl rfl (congrArg some (dM.2 h2)) fun a k=>?_;refine pk k rfl rfl fun a k=>?_;refine av (bw k rfl (wp_skip (J _ (by unfold Kk;rw[dM.2 h2,Bool.and_false]) (k.sb))))
 refine cm (c:=false) k rfl rfl (congrArg some (dM.2 h1)) fun a k=>?_
 repeat refine sm k fun a k=>?_
 refine pk k rfl rfl fun a k=>?_;refine av (bw k rfl (wp_skip (J _ (by unfold Kk;rw[show decide (1<=(cD 2 m).J)=false from dM.2 h1,Bool.false_and]) (k.sb))))
end
def Iv{ms:Tah}{j:Nat}{m:D}{g:GS}(d:ms[j]?=some m)(h:rv (ms.drop j) g=true):Ck m g=true/\rv (ms.drop (j+1)) (pe m g)=true:=by
 have c:j<ms.length:=(aD.1 d).1
 have e:ms.drop j=m::ms.drop (j+1):=by rw[bJ c,(aD.1 d).2]
 rw[e]at h;simpa only[rv,aP]using h
def C7{ms:Tah}{j:Nat}{m:D}(c:ms[j]?=some m)(g:GS):(ms.take (j+1)).foldl (fun g m=>pe m g) g=pe m ((ms.take j).foldl (fun g m=>pe m g) g):=by
 have:ms.take (j+1)=ms.take j++[m]:=by rw[ca,c];rfl
 rw[this,List.foldl_append];rfl
section
variable{w w0:Tan}{S S0:bG}{ow kJ:Ow}{b i j:Nat}{g g':GS}{R:GR}{Q:O3}{a:Act}
noncomputable def JI:Code:=.seq (.region 27 HO false) (.seq (.region 28 HN false) (.seq (.region 29 HM false) (.block 5 (.loop (.seq (.seq (.region 30 HL false) (.cond (.tmp 175) .skip (.exit 5))) (.seq (.block 6 Ef) (.region 31 HK false)))))))
def O9(X:QP Q)(h:iA w S ow b g)(hn:mF ow)(b7:rv g.eI {g with eI:=[]}=true)(k:Kn 359 a [(0,bM b)])(N:∀a W S' a5,Kn 359 a [(0,bM b)]->bB LG ax w S ow W S' a5->iA W S' a5 b (BS g)->Q .normal a W):JI.wp Try.prog Q a w:=by
 obtain⟨R,gm,c0,b6⟩:=h;have d:=gm.wf;have c9:g.eI.length<=maxLen:=gm.eI.len.1;have c7:maxLen<=9223372036854775807:=by decide
 have z:=gm.eI.all;unfold JI;refine wp_seq (rg ax X Xi ?_);intro w1 e1;have f:=gm.W e1;have a4:=(bB.refl LG ax w S ow).eN d d e1;have H:=SX.refl ax w1;obtain⟨A,U,hv⟩:=f.eI.slice
 repeat (first|refine sm k fun a k=>?_|refine ld k (f.cell id rfl) fun a k=>?_)
 refine av ?_;have k:=k.sb (l:=[(10,R.eI),(0,bM b)]);rw[hv]at k;have u:=f.eI;rw[hv]at u;obtain⟨y,Ce,x,L,b1,a9⟩:=RM u f.wf;have b5:=f.JJ x L (dA.nil (w:=w1) (S:=y) (ow:=Ce) (T:=49) (t:=iC) (l:=11) (by rw[AQ];omega) (by omega));have a0:=a4.fF d f.wf x (.inl (by decide));clear u f a4 H e1;refine wp_seq (rg ax X Xh ?_);intro Z e3;have p:=b5.W e3;have a3:=a0.eN d L e3;have H:=SX.refl ax Z
 repeat refine sm k fun a k=>?_
 refine jV (cur:=R.cells g.bad) k (by decide) rfl (by kernel_rfl) rfl rfl rfl p.obj.heap (by show 4<11;omega) rfl (fun h=>absurd rfl h) fun a k=>?_;refine av ?_;obtain⟨v,K,a6⟩:=p.obj.set p.wf (us:=(R.cells g.bad).set (0+4) eM);have b4:=p.setObj v K a6;have F:=a3.fF d p.wf v (.inl (by decide));have M:=(b1.O (bB.W e3 ax ax y Ce)).O v;have P:iA (Z.setRow b ((R.cells g.bad).set (0+4) eM).toArray) y Ce b {g with eI:=[]}:=⟨{R with eI:=eM},b4,c0,b6⟩;have c5:mF Ce:=hn.O x (fun l hl=>by simp only[iF]at hl;subst hl;exact .inl (by omega));have k:=k.sb (l:=[(10,.slice A g.eI.length U),(0,bM b)]);have n:Wf (Z.setRow b ((R.cells g.bad).set (0+4) eM).toArray) y Ce:=K;show Code.wp Try.prog _ _ a (Z.setRow b ((R.cells g.bad).set (0+4) eM).toArray);generalize Z.setRow b ((R.cells g.bad).set (0+4) eM).toArray=w4 at P M F n⊢;clear b4 p b5 v a3 a0 K a6 H e3 x L b1;refine wp_seq (rg ax X Xg ?_);intro Y e5;have H:=SX.refl ax Y
 repeat refine sm k fun a k=>?_
 refine av ?_;have b3:iA Y y Ce b {g with eI:=[]}:=by obtain⟨R',e,D,h2⟩:=P;exact⟨R',e.W e5,D,h2⟩
 have a2:=F.eN d n e5;have J:Wf Y y Ce:=n.W e5;have b0:=M.O (bB.W e5 ax ax y Ce)
 have b9:∀V r,A=some ⟨V,r,none⟩->V<Y.heap.size\/g.eI.length=0:=by
  intro V r hA;by_cases hz:g.eI.length=0
  .exact .inr hz
  left;obtain⟨m,B⟩:∃m,g.eI[0]?=some m:=⟨_,aR (by omega)⟩;obtain⟨bm,us,c4,o,_,hS,_⟩:=JM (ow:=Ce) b0 B (z m (bT B)) a9;rw[hA]at o;injection o with o;injection o with o _;subst o;exact(n.W e5).s _ _ hS
 refine wp_block (wp_loop_ghost (fun mm a W=>∃(j:Nat) (E:bG) (iT:Ow),mm=g.eI.length-j/\j<=g.eI.length/\Kn 359 a [(11,.int i64 (j:Int)),(10,.slice A g.eI.length U),(0,bM b)]/\bB LG ax w S ow W E iT/\bB LG ax Y y Ce W E iT/\
  iA W E iT b ((g.eI.take j).foldl (fun g m=>pe m g) {g with eI:=[]})/\rv (g.eI.drop j) ((g.eI.take j).foldl (fun g m=>pe m g) {g with eI:=[]})=true) (g.eI.length-0)
  ⟨0,y,Ce,rfl,aB _,k.sb,a2,bB.refl _ _ _ _ _,b3,b7⟩ ?_)
 clear k H P M F b3 a2;rintro mm a W ⟨j,E,iT,rfl,hjn,k,EX,afT,hg6,ag0⟩;refine wp_seq (wp_seq (rg ax X Xf ?_));intro w7 e7;have I:Wf W E iT:=by obtain⟨_,e,_⟩:=hg6;exact e.wf
 have O:iA w7 E iT b ((g.eI.take j).foldl (fun g m=>pe m g) {g with eI:=[]}):=by obtain⟨R',e,D,h2⟩:=hg6;exact⟨R',e.W e7,D,h2⟩
 have G:=EX.eN d I e7;have q:=afT.eN J I e7;have H:=SX.refl ax w7
 repeat refine sm k fun a k=>?_
 refine cm (c:=decide ((j:Int)<(g.eI.length:Int))) k rfl rfl rfl fun a k=>?_;refine av (bw k rfl ?_);have k:=k.sb (l:=[(11,.int i64 (j:Int)),(10,.slice A g.eI.length U),(0,bM b)]);by_cases C:(j:Int)<(g.eI.length:Int)
 .rw[if_pos (by simpa using C)];refine wp_skip ?_;obtain⟨m,B⟩:∃m,g.eI[j]?=some m:=⟨_,aR (by omega)⟩;obtain⟨c3,c2⟩:=Iv B ag0;have b8:mF iT:=hn.O G (fun l hl=>hl);refine wp_seq (wp_block (RW (by exact X) O b8 (b0.O q) (fun V r hA=>?_) B (z m (bT B)) c3 k ?_))
  .rcases b9 V r hA with D|D
   .exact q.qT V D (a9 V r hA)
   omega
  intro a w8 S8 ow8 k a1 b2;have a8:Wf w7 E iT:=I.W e7;have a7:Wf w8 S8 ow8:=by obtain⟨_,e,_⟩:=b2;exact e.wf
  refine rg ax X Xe ?_;intro w9 e9;have H:=SX.refl ax w9
  repeat refine sm k fun a k=>?_
  refine iK (s:=((j+1:Nat):Int)) k (by assumption) rfl (by decide) rfl rfl (wrap64 (by omega) (by omega)) fun a k=>?_
  repeat refine sm k fun a k=>?_
  refine av ⟨g.eI.length-(j+1),by omega,j+1,S8,ow8,rfl,by omega,k.sb,(jl d a8 G a1 nE).eN d a7 e9,(jl J a8 q a1 nE).eN J a7 e9,?_,?_⟩
  .rw[C7 B];obtain⟨R',e,D,h2⟩:=b2;exact⟨R',e.W e9,D,h2⟩
  rw[C7 B];exact c2
 rw[if_neg (by simpa using C)];refine wp_exit ?_;have c1:j=g.eI.length:=by omega
 subst c1;rw[cH]at O;exact N _ _ E iT (k.sb) G O
end
section
variable{w w0:Tan}{S S0:bG}{ow kJ:Ow}{b i j:Nat}{g g':GS}{R:GR}{Q:O3}{a:Act}
def iA.W{d:Tan}(h:iA w S ow b g)(e:zD w d):iA d S ow b g:=by obtain⟨l,c,k,f⟩:=h;exact⟨l,c.W e,k,f⟩
def iA.wf(h:iA w S ow b g):Wf w S ow:=by obtain⟨_,c,_⟩:=h;exact c.wf
def yA{y:Tad}(h:iA w S ow b g)(hn:mF ow)(b5:1<=g.eT.length/\g.eT.length<=5)(h0:y[0]?=some (.int i64 6))(O:y[1]?=some (.int i64 0))(a8:rv g.eI {g with eI:=[]}=true):
  Calls Try.prog 10 [bM b,.agg y.toArray].toArray w (qR w S ow b (BS g)):=by
 refine lh Try.func10 OF Yr agU (by show 2<=359;omega) ?_;intro a k;have m:=jw (P:=Try.prog) (fn:=Try.f10) (R:=qR w S ow b (BS g));have d:=h.wf;refine wp_seq (rg ax m ac0 ?_);intro T W;refine uv (us:=y) k (by decide) rfl (by decide) rfl rfl (fun h=>absurd rfl h) fun a k=>?_;refine av ?_;have q:=d.W W;have C:bB LG ax w S ow T S ow:=bB.W W LG ax S ow;obtain⟨t,p⟩:=bB.alloc q (.cells y.toArray 51);have o:=fU.new q 51 y;have s:=C.eC d q t nE;have v:iA (T.alloc (.cells y.toArray 51)) S ow b g:=by obtain⟨R',x,O,h2⟩:=h.W W;exact⟨R',x.O t p,O,h2⟩
 generalize b6:T.heap.size=b3 at k o;generalize T.alloc _=w2 at v o s p⊢;have k:=k.sb (l:=[(3,.pointer (some ⟨b3,0,none⟩)),(0,bM b)]);clear t C q W;refine wp_seq (fV (n0:=7) ax mix (by exact m) acZ (fun _=>by kernel_rfl) ?_);intro w3 V;have u:=o.W V;obtain⟨R,f,F,a7⟩:=v.W V;have B:=s.eN d p V;have n:=SX.refl ax w3;obtain⟨Al,b4,b2⟩:=f.arr.slice;have b1:(R.la.map bM).length=g.eT.length:=by rw[aj,F];exact f.qV
 repeat refine sm k fun a k=>?_
 refine ld k (u.cell id O) fun a k=>?_
 repeat refine sm k fun a k=>?_
 refine ld k (f.cell id (j:=2) rfl) fun a k=>?_;rw[b2,b1]at k;refine DB k (by assumption) rfl (by decide) rfl (by kernel_rfl) fun a k=>?_;refine iB (vs:=[.int i64 0,.int i64 (g.eT.length:Int)]) k (by decide) rfl (by decide) c8.enter rfl (CQ f.wf (by decide) ⟨by have:i64.min=-9223372036854775808:=rfl;omega,by have:i64.max=9223372036854775807:=rfl;omega⟩ (by omega)) ?_;rintro e w4 ⟨rfl,qb,Md⟩;have s4:=qb.xL ax;refine⟨_,rfl,fun _=>s4,fun a k=>?_⟩
 repeat refine sm k fun a k=>?_
 refine av ?_;have E:=u.O qb id;have N:iA w4 S ow b g:=⟨R,f.O qb Md,F,a7⟩;have z:=B.eC d f.wf qb nE;have k:=k.sb (l:=[(3,.pointer (some ⟨b3,0,none⟩)),(0,bM b)]);clear qb s4 n B f V v u o s p;refine wp_seq (rg ax m acY ?_);intro w5 U;have D:=E.W U;have r:=N.W U;have A:=z.eN d Md U;have n:=SX.refl ax w5
 repeat (first|refine sm k fun a k=>?_|refine ld k (D.cell id h0) fun a k=>?_)
 refine iB (vs:=[.int i64 6,.int i64 12]) k (by decide) rfl (by decide) c8.enter rfl (CQ r.wf (by decide) (by decide) (by decide)) ?_;rintro e w6 ⟨rfl,EX,Mc⟩;refine⟨_,rfl,fun h=>absurd rfl h,fun a k=>?_⟩;refine av ?_;have b0:iA w6 S ow b g:=by obtain⟨R',x,O,h2⟩:=r;exact⟨R',x.O EX Mc,O,h2⟩
 have a2:=A.eC d r.wf EX nE;rw[show Ch 6 12=6 from by decide]at k;have k:=k.sb (l:=[(32,.int i64 6),(0,bM b)]);clear EX n A r D U N E z Md;refine wp_block (wp_seq (wp_seq (rg ax m acX ?_)));intro w7 e7;have M:=b0.W e7;have a5:=a2.eN d Mc e7;have n:=SX.refl ax w7;refine cm (c:=false) k rfl rfl rfl fun a k=>?_;refine sm k fun a k=>?_;refine av (bw k rfl ?_);have k:=k.sb (l:=[(32,.int i64 6),(0,bM b)]);refine rg ax m acW ?_;intro w8 e8;have L:=M.W e8;have a4:=a5.eN d M.wf e8;have n:=SX.refl ax w8;refine cm (c:=false) k rfl rfl rfl fun a k=>?_;refine sm k fun a k=>?_;refine av (bw k rfl ?_);have k:=k.sb (l:=[(32,.int i64 6),(0,bM b)]);refine wp_seq (rg ax m acV ?_);intro w9 e9;have K:=L.W e9;have a3:=a4.eN d L.wf e9;have n:=SX.refl ax w9;refine cm (c:=false) k rfl rfl rfl fun a k=>?_;refine sm k fun a k=>?_;refine av (bw k rfl ?_);have k:=k.sb (l:=[(32,.int i64 6),(0,bM b)]);refine wp_seq (wp_seq (rg ax m Xm ?_));intro wa ea;have J:=K.W ea;have a1:=a3.eN d K.wf ea;have n:=SX.refl ax wa;refine cm (c:=false) k rfl rfl rfl fun a k=>?_;refine sm k fun a k=>?_;refine av (bw k rfl ?_);have k:=k.sb (l:=[(32,.int i64 6),(0,bM b)]);refine wp_seq (rg ax m Xl ?_);intro wb eb;have I:=J.W eb;have a0:=a1.eN d J.wf eb;have n:=SX.refl ax wb;refine cm (c:=false) k rfl rfl rfl fun a k=>?_;refine sm k fun a k=>?_;refine av (bw k rfl ?_);have k:=k.sb (l:=[(32,.int i64 6),(0,bM b)]);refine rg ax m Xk ?_;intro wc ec;have H:=I.W ec;have Z:=a0.eN d I.wf ec;have n:=SX.refl ax wc;refine cm (c:=false) k rfl rfl rfl fun a k=>?_;refine sm k fun a k=>?_;refine av (bw k rfl ?_);have k:=k.sb (l:=[(32,.int i64 6),(0,bM b)]);refine wp_seq (rg ax m Xj ?_);intro wd ed;have G:=H.W ed;have Y:=Z.eN d H.wf ed;have n:=SX.refl ax wd;refine cm (c:=true) k rfl rfl rfl fun a k=>?_;refine sm k fun a k=>?_;refine av (bw k rfl ?_);refine O9 (by exact m) G hn a8 (k.sb) ?_;intro a we Se a6 k X a9;exact(na abn k ⟨Se,a6,rfl,jl d G.wf Y X nE,a9⟩).2
end
def gT:Nat->GS
 |0=>gB 3 0 3
 |n+1=>jQ 0 0 (gT n)
def gD:Nat->GS
 |0=>gT 10
 |n+1=>BS (gD n)
def adC:((List.range 10).all fun n=>Ht 0 0 (gT n))=true:=by decide+kernel
def adE:((List.range 4).all fun n=>rv (gD n).eI {gD n with eI:=[]}&&decide (1<=(gD n).eT.length)&&decide ((gD n).eT.length<=5))=true:=by decide+kernel
def Yf:(0<(gD 4).eT.length/\Su (bS (gD 4) 0) 0=true)/\(bS (gD 4) 0).role=2/\(bS (gD 4) 0).bH=1/\(bS (gD 4) 0).term=1/\(gD 4).bad=false:=by decide+kernel
noncomputable def JC:Tad:=((Try.prog.built 51 [(0,.int i64 6)]).getD #[]).toList
section
variable{w w0:Tan}{S S0:bG}{ow kJ:Ow}{b i j:Nat}{g g':GS}{R:GR}{Q:O3}{a:Act}
def ng(w:Tan)(S:bG):O3:=bodyPost Try.prog Try.f13 (fun e d=>∃f c,e=.returned (.bool true)/\bB LG ax w S (fun _=>none) d f c)
noncomputable def Wk:Code:=.seq (.region 10 HG false) (.seq (.region 11 HF false) .ret)
def Lj(o:Wf w0 S0 (fun _=>none))(st:bB LG ax w0 S0 (fun _=>none) w S ow)(h:iA w S ow b (gD 4))(k:Kn 54 a [(1,bM b)]):Wk.wp Try.prog (ng w0 S0) a w:=by
 have hQ:QP (ng w0 S0):=jw;obtain⟨⟨M,A⟩,f,n,d,q⟩:=Yf;have J:=ka M;generalize gD 4=g at h M A f n d q J;generalize bS g 0=x at A f n d J;obtain⟨R,gm,D,a0⟩:=h;rw[q]at gm;unfold Wk;refine wp_seq (rg ax hQ Xb ?_);intro w1 e1;have m:=gm.W e1;have s0:=SX.refl ax w1
 repeat (first|refine sm k fun a k=>?_|refine ld k (m.cell id rfl) fun a k=>?_)
 obtain⟨bs,O,L,a1⟩:=m.eT 0 x J;obtain⟨bl,a4,V,P,a2,N⟩:=m.arr.elem (i:=0) (u:=bM bs) (by rw[D,ab,O];rfl);have U:(R.la.map bM).length=g.eT.length:=by rw[aj,D];exact m.qV
 rw[V]at k;refine DC (el:=52) (sz:=1) (s:=0) k (by assumption) rfl (by decide) rfl rfl (by kernel_rfl) (by kernel_rfl) (by rw[U];exact M) fun a k=>?_;refine kx (v:=bM bs) k (by assumption) rfl (by decide) rfl (by kernel_rfl) (by kernel_rfl) (eP P (fun h=>h) (by rw[bL];exact N)) fun a k=>?_;refine iB (vs:=[bM bs]) k (by decide) rfl (by decide) P9.enter rfl (kF L m.wf (DJ A)) ?_;rintro e F ⟨A1,n1,c1,A2,n2,c2,rfl,-,pZ,wJ⟩;refine⟨_,rfl,fun _=>pZ.xL _,fun a k=>?_⟩;have Z:=m.O pZ wJ;have s1:=pZ.xL ax;refine mn (nn:=9) k (by decide) rfl (by decide) (by kernel_rfl) (fun E _=>s1.trans (SX.alloc _ _ _)) fun E I a k=>?_;refine lv (vs:=G5 x (.slice A1 n1 c1) (.slice A2 n2 c2)) k (by decide) rfl (by kernel_rfl) rfl rfl rfl (heap_alloc_new F _) (by show 0+9<=E.toArray.size;rw[cb];omega) (by simp[G5,Value.oneCell']) (fun h=>absurd rfl h) fun a k=>?_;refine av ?_;have K:(G5 x (.slice A1 n1 c1) (.slice A2 n2 c2)).length=9:=rfl;rw[fill_eq I K];obtain⟨t,C,z⟩:=nV (T:=67) (zs:=E) (us:=G5 x (.slice A1 n1 c1) (.slice A2 n2 c2)) wJ;have p:=Z.O t C;have H:=st.eN o gm.wf e1;have B:=H.eC o m.wf pZ nE;have r:=B.eC o wJ t (fun bb hb=>by rw[show bb=_ from hb];exact B.size);generalize a3:F.heap.size=b4 at k z p r⊢;generalize hW:(F.alloc _).setRow b4 _=W at z p r⊢;have k:=k.sb (l:=[(4,.pointer (some ⟨b4,0,none⟩)),(1,bM b)]);clear t C s0 s1;refine wp_seq (rg ax hQ Xa ?_);intro w4 e4;have Y:=p.W e4;have y:=z.W e4;have G:=r.eN o p.wf e4;have s0:=SX.refl ax w4;have l0:=y.cell (X:=ax) (fun h=>h) (j:=0) (v:=.int i64 x.role) rfl;have l2:=y.cell (X:=ax) (fun h=>h) (j:=2) (v:=.int i64 x.term) rfl;have l4:=y.cell (X:=ax) (fun h=>h) (j:=4) (v:=.int i64 x.bH) rfl;rw[f]at l0;rw[d]at l2;rw[n]at l4
 repeat (first|refine sm k fun a k=>?_|refine ld k (l0) fun a k=>?_)
 refine cm (c:=true) k rfl rfl rfl fun a k=>?_
 repeat (first|refine sm k fun a k=>?_|refine ld k (l4) fun a k=>?_)
 refine cm (c:=true) k rfl rfl rfl fun a k=>?_;refine pk k rfl rfl fun a k=>?_
 repeat (first|refine sm k fun a k=>?_|refine ld k (l2) fun a k=>?_)
 refine cm (c:=true) k rfl rfl rfl fun a k=>?_;refine pk k rfl rfl fun a k=>?_
 repeat (first|refine sm k fun a k=>?_|refine ld k (Y.cell id rfl) fun a k=>?_)
 refine qj k (by assumption) rfl (by decide) rfl fun a k=>?_;refine pk k rfl rfl fun a k=>?_
 repeat refine sm k fun a k=>?_
 exact av (wp_ret (rQ abl k rfl ⟨S,ow,rfl,G⟩).1)
noncomputable def aaP:Code:=.seq (.seq (.region 6 NY false) (.block 2 (.loop (.seq (.seq (.region 7 NX false) (.cond (.tmp 20) .skip (.exit 2))) (.seq (.block 3 (.region 9 NV false)) (.region 8 NW false)))))) Wk
def Li(d:Wf w0 S0 (fun _=>none))(p:bB LG ax w0 S0 (fun _=>none) w S ow)(h:iA w S ow b (gT 10))(k:Kn 54 a [(1,bM b)]):aaP.wp Try.prog (ng w0 S0) a w:=by
 have r:QP (ng w0 S0):=jw;unfold aaP;refine wp_seq (wp_seq (rg ax r acG ?_));intro C A;have q:=SX.refl ax C
 repeat refine sm k fun a k=>?_
 refine av ?_
 refine wp_block (wp_loop_ghost (fun D a W=>∃(j:Nat) (B:bG) (f:Ow),D=4-j/\j<=4/\Kn 54 a [(3,.int i64 (j:Int)),(1,bM b)]/\bB LG ax w0 S0 (fun _=>none) W B f/\iA W B f b (gD j)) (4-0)
  ⟨0,S,ow,rfl,by omega,k.sb,p.eN d h.wf A,h.W A⟩ ?_)
 clear k q A C h p;rintro D a W ⟨j,B,f,rfl,hj,k,p,h⟩;refine wp_seq (wp_seq (rg ax r acF ?_));intro L I;have z:=h.W I;have n:=p.eN d h.wf I;have q:=SX.refl ax L
 repeat refine sm k fun a k=>?_
 refine cm (c:=decide ((j:Int)<4)) k rfl rfl rfl fun a k=>?_;refine av (bw k rfl ?_);have k:=k.sb (l:=[(3,.int i64 (j:Int)),(1,bM b)]);by_cases o:(j:Int)<4
 .rw[if_pos (by simpa using o)];refine wp_skip ?_;have E:=bU.1 adE j (cz.2 (by omega));simp only[aP,bg]at E;obtain⟨⟨y,x⟩,v⟩:=E;refine wp_seq (wp_block (rg ax r acD ?_));intro K H;have F:=z.W H;have m:=n.eN d z.wf H;have q:=SX.refl ax K
  repeat refine sm k fun a k=>?_
  refine gU (ps:=[(0,.int i64 6)]) (vs:=JC) k (by assumption) rfl (by decide) rfl (by kernel_rfl) fun a k=>?_;refine iB (vs:=[bM b,.agg JC.toArray]) k (by decide) rfl (by decide) J5 rfl (yA F (fun N l M=>(m.iu N l M).elim (fun e=>by cases e) id) ⟨x,v⟩ (by kernel_rfl) (by kernel_rfl) y) ?_;rintro e O ⟨S4,L9,rfl,qb,h4⟩;refine⟨_,rfl,fun h=>absurd rfl h,fun a k=>?_⟩;refine av ?_;have t:=jl d F.wf m qb nE;have k:=k.sb (l:=[(3,.int i64 (j:Int)),(1,bM b)]);refine rg ax r acE ?_;intro J G;have q:=SX.refl ax J
  repeat refine sm k fun a k=>?_
  refine iK (s:=((j+1:Nat):Int)) k (by assumption) rfl (by decide) rfl rfl (wrap64 (by omega) (by omega)) fun a k=>?_
  repeat refine sm k fun a k=>?_
  exact av ⟨4-(j+1),by omega,j+1,S4,L9,rfl,by omega,k.sb,t.eN d h4.wf G,h4.W G⟩
 rw[if_neg (by simpa using o)];refine wp_exit ?_;have u:j=4:=by omega
 subst u;exact Lj d n z (k.sb)
def GC(d:Wf w0 S0 (fun _=>none)):Calls Try.prog 13 #[] w0 (fun e V=>∃S' B,e=.returned (.bool true)/\bB LG ax w0 S0 (fun _=>none) V S' B):=by
 refine lh (vs:=[]) Try.func13 OD Yp agS (by show 0<=54;omega) ?_;intro a k;have q:QP (ng w0 S0):=jw;show Code.wp Try.prog _ (ng w0 S0) a w0;refine wp_seq (rg ax q acM ?_);intro J G;have x:=SX.refl ax J
 repeat refine sm k fun a k=>?_
 refine av ?_;have p:=d.W G;have u:bB LG ax w0 S0 (fun _=>none) J S0 (fun _=>none):=bB.W G LG ax S0 _;refine wp_seq (rg (fun _=>True) q acL ?_);intro U F;have o:=p.W F;have t:=u.eN d p F;refine iB (vs:=[.int i64 ((3:Nat):Int),.int i64 ((3:Nat):Int)]) k (by decide) rfl (by decide) OX rfl (yF (n:=3) (l:=0) o (by omega) (by omega)) ?_;rintro e w3 ⟨b,S3,Qd,rfl,Sq,h3⟩;have K:SX (fun _=>True) U w3:=⟨Sq.size,fun _ _ h=>absurd trivial h⟩;refine⟨_,rfl,fun _=>K,fun a k=>?_⟩
 repeat refine sm k fun a k=>?_
 refine av ?_;have r:=jl d o t Sq nE;have k:=k.sb (l:=[(1,bM b)]);refine wp_seq (wp_seq (rg ax q acK ?_));intro I E;have x:=SX.refl ax I
 repeat refine sm k fun a k=>?_
 refine av ?_
 refine wp_block (wp_loop_ghost (fun L a W=>∃(j:Nat) (H:bG) (m:Ow),L=10-j/\j<=10/\Kn 54 a [(2,.int i64 (j:Int)),(1,bM b)]/\bB LG ax w0 S0 (fun _=>none) W H m/\iA W H m b (gT j)) (10-0)
  ⟨0,S3,Qd,rfl,by omega,k.sb,r.eN d h3.wf E,h3.W E⟩ ?_)
 clear k x E I r K h3 Sq t o F u p G;rintro L a W ⟨j,H,m,rfl,hj,k,st,h⟩;refine wp_seq (wp_seq (rg ax q acJ ?_));intro T O;have D:=h.W O;have f:=st.eN d h.wf O;have x:=SX.refl ax T
 repeat refine sm k fun a k=>?_
 refine cm (c:=decide ((j:Int)<10)) k rfl rfl rfl fun a k=>?_;refine av (bw k rfl ?_);have k:=k.sb (l:=[(2,.int i64 (j:Int)),(1,bM b)]);by_cases v:(j:Int)<10
 .rw[if_pos (by simpa using v)];refine wp_skip ?_;have Y:=bU.1 adC j (cz.2 (by omega));refine wp_seq (wp_block (IC (by exact q) D (fun Z l X=>(f.iu Z l X).elim (fun e=>by cases e) id) Y k ?_));intro a w7 S7 A k z M;have y:=jl d D.wf f z nE;refine rg ax q acI ?_;intro P N;have x:=SX.refl ax P
  repeat refine sm k fun a k=>?_
  refine iK (s:=((j+1:Nat):Int)) k (by assumption) rfl (by decide) rfl rfl (wrap64 (by omega) (by omega)) fun a k=>?_
  repeat refine sm k fun a k=>?_
  exact av ⟨10-(j+1),by omega,j+1,S7,A,rfl,by omega,k.sb,y.eN d M.wf N,M.W N⟩
 rw[if_neg (by simpa using v)];refine wp_exit ?_;have C:j=10:=by omega
 subst C;exact Li d f D (k.sb)
end
def uM(r q dl:Int)(tv vl:Tao)(b:Nat):Tac:=[(8,.int i64 r),(7,.int i64 q),(6,tv),(5,.int i64 dl),(3,bM b),(2,.bool false),(0,vl)]
def gTk(g:GS):Nat->GS
 |0=>g
 |s+1=>jQ s (3*(s:Int)) (gTk g s)
def I8(g:GS):Nat->GS
 |0=>g
 |k+1=>BS (I8 g k)
noncomputable def Hi:Code:=.seq (.region 13 NA false) (.block 4 (.loop (.seq (.seq (.region 14 Nz false) (.cond (.tmp 67) .skip (.exit 4))) (.seq (.block 5 (.region 16 Jr false)) (.region 15 Ny false)))))
noncomputable def Hk:Code:=.seq (.region 17 Nx false) (.block 6 (.loop (.seq (.seq (.region 18 Nw false) (.cond (.tmp 84) .skip (.exit 6))) (.seq (.block 7 (.region 20 Nu false)) (.region 19 Nv false)))))
def WA{P:Tba}{ops:Tae}{Q:O3}{S:Taf}{n n0 i d:Nat}{a:Act}{w:Tan}{m:Tac}{gd:Tap (Nat×Bool)}{L r:List OK}{x y:Tbc}{t t2:Tbb}{kk:IntKind}{p q s:Int}(k:Kn n a m)(v:S w)(l:qd L m gd=some true)(o:d<n)(f:lq m x=some (.int kk p))(e:lq m y=some (.int kk q))(u:kk.wrap (p*q)=s)(h:∀c,Kn n c ((d,.int kk s)::m)->TL P ops Q S n0 L r (i+1) c w):TL P ops Q S n0 L ((some d,.binOp .mul t x y t2,gd)::r) i a w:=by subst u;refine qe k v l o (fun _ _ _ w' _=>?_) h;have A:=k.op f;have z:=k.op e;unfold execOp;simp[A,z,eqGuard,binOp,Op.intArith]
section
variable{w w0 w':Tan}{S S0 S':bG}{ow kJ cE:Ow}{b i j K L:Nat}{N:Int}{g:GS}{tv vl:Tao}{r q dl:Int}{Q:O3}{a:Act}
def tf(d:mF ow)(c:bB LG ax w S ow w' S' cE):mF cE:=d.O c (fun _ h=>h)
def Ry(hQ:QP Q)(h:iA w S ow b g)(hn:mF ow)(d:GI 5 (L+28) N g)(hN:N<=99990000)(V:i<5)(k:Kn 227 a ((9,.int i64 (i:Int))::uM r q dl tv vl b))(f:∀a W S' cE,Kn 227 a ((9,.int i64 (i:Int))::uM r q dl tv vl b)->bB LG ax w S ow W S' cE->iA W S' cE b (jQ i (3*(i:Int)) g)->Q .normal a W):(Code.region 16 Jr false).wp Try.prog Q a w:=by
 obtain⟨E,p,X⟩:=d.tick V (by omega) (3*(i:Int));have n:i<g.eT.length:=by rw[d.n1];exact V
 have C:g.aT.length<=5:=by rw[d.len.aT];exact d.len.n5
 obtain⟨R,x,m,B⟩:=h;unfold uM at k;refine fV (n0:=0) (fun T=>ow T=some (1000+i)) mix (by exact hQ) abW (by decide) ?_;intro Z Y;have c:=x.W Y;have z:=(bB.refl LG ax w S ow).eN x.wf x.wf Y;have s0:=SX.refl (fun T=>ow T=some (1000+i)) Z;have o:¬ow b=some (1000+i):=by rw[c.obj.ow];intro h;injection h with h;omega
 obtain⟨P,t,F,a0⟩:=c.eT i _ (ka n);obtain⟨bl,a1,M,I,D,H⟩:=c.arr.elem (i:=i) (u:=bM P) (by rw[m,ab,t];rfl);have J:(R.la.map bM).length=g.eT.length:=by rw[aj,m];exact c.qV
 have A:¬ow bl=some (1000+i):=by rw[D];intro h;injection h with h;omega
 repeat (first|refine sm k fun a k=>?_|refine ld k (c.cell o rfl) fun a k=>?_)
 rw[M]at k
 repeat (first|refine sm k fun a k=>?_|refine ld k (c.cell o rfl) fun a k=>?_)
 refine zg (el:=52) (sz:=1) k rfl rfl (by rw[J];exact n) fun a k=>?_;refine kx (v:=bM P) k (by assumption) rfl (by decide) rfl (by kernel_rfl) (by kernel_rfl) (eP I A (by rw[bL];exact H)) fun a k=>?_
 repeat refine sm k fun a k=>?_
 refine WA (s:=3*(i:Int)) k (by assumption) rfl (by decide) rfl rfl (wrap64 (by omega) (by omega)) fun a k=>?_;refine iB (vs:=[bM P,.int i64 (3*(i:Int))]) k (by decide) rfl (by decide) c15.enter rfl (CE F c.wf (by omega) ⟨by have:i64.min=-9223372036854775808:=rfl;omega,by have:i64.max=9223372036854775807:=rfl;omega⟩ E) ?_;rintro e w2 ⟨v,S2,Ce,rfl,pZ,wJ,Mt,hr2,Y6⟩;refine⟨_,rfl,fun _=>SX.iu (fun _ h=>h) pZ,fun a k=>?_⟩;have O:=c.Aa (i:=i) pZ wJ n t Mt (gE Mt) C;have y:=z.fF x.wf c.wf pZ (.inr (by omega));have G:mF Ce:=hn.O pZ (fun l U=>by simp only[iF]at U;subst U;exact .inr (by omega));refine iB (vs:=[bM b,.int i64 (i:Int),v,.bool false]) k (by decide) rfl (by decide) vH rfl (vB (g:=ic i (gX (3*(i:Int)) (bS g i)).2 g) ⟨_,O,m,B⟩ G hr2 Y6 p) ?_;rintro e w4 ⟨S4,L9,rfl,qb,Za⟩;refine⟨_,rfl,fun h=>absurd rfl h,fun a k=>?_⟩;exact av (f _ _ S4 L9 (k.sb) (jl x.wf wJ y qb nE) Za)
def PJ(x:QP Q)(h:iA w S ow b g)(O:mF ow)(D:GI 5 (L+140) N g)(R:N<=99980000)(k:Kn 227 a (uM r q dl tv vl b))(m:∀a W S' cE,Kn 227 a (uM r q dl tv vl b)->bB LG ax w S ow W S' cE->iA W S' cE b (ql g)->GI 5 L (N+5) (ql g)->Q .normal a W):Hi.wp Try.prog Q a w:=by
 have f:=h.wf;unfold Hi;unfold uM at k;refine wp_seq (rg ax x abZ ?_);intro M I;have A:=SX.refl ax M
 repeat refine sm k fun a k=>?_
 refine av ?_
 refine wp_block (wp_loop_ghost (fun F a W=>∃(s:Nat) (y:bG) (d:Ow),F=5-s/\s<=5/\Kn 227 a ((9,.int i64 (s:Int))::uM r q dl tv vl b)/\bB LG ax w S ow W y d/\iA W y d b (gTk g s)/\mF d/\GI 5 (L+28*(5-s)) (N+s) (gTk g s)) (5-0)
  ⟨0,S,ow,rfl,by omega,k.sb,bB.W I LG ax S ow,h.W I,O,D.le (K':=L+28*(5-0)) (N':=N+((0:Nat):Int)) (by omega) (by omega)⟩ ?_)
 clear k A;rintro F a W ⟨s,y,d,rfl,hs,k,st,hg,Qj,E7⟩;unfold uM at k;refine wp_seq (wp_seq (rg ax x abY ?_));intro E H;have n:=hg.W H;have p:=st.eN f hg.wf H;have A:=SX.refl ax E
 repeat refine sm k fun a k=>?_
 refine cm (c:=decide ((s:Int)<5)) k rfl rfl rfl fun a k=>?_;refine av (bw k rfl ?_);have k:=k.sb (l:=(9,.int i64 (s:Int))::uM r q dl tv vl b);by_cases t:(s:Int)<5
 .rw[if_pos (by simpa using t)];refine wp_skip ?_;have e:GI 5 (L+28*(5-(s+1))+28) (N+s) (gTk g s):=E7.le (by omega) (aJ _);obtain⟨-,-,u⟩:=e.tick (i:=s) (by omega) (by omega) (3*(s:Int));refine wp_seq (wp_block (Ry (by exact x) n Qj e (by omega) (by omega) k ?_));intro a W P B k o v;have z:=jl f n.wf p o nE;unfold uM at k;refine rg ax x abX ?_;intro J G;have A:=SX.refl ax J
  repeat refine sm k fun a k=>?_
  refine iK (s:=((s+1:Nat):Int)) k (by assumption) rfl (by decide) rfl rfl (wrap64 (by omega) (by omega)) fun a k=>?_
  repeat refine sm k fun a k=>?_
  exact av ⟨5-(s+1),by omega,s+1,P,B,rfl,by omega,k.sb,z.eN f v.wf G,v.W G,tf Qj o,by rw[show N+((s+1:Nat):Int)=N+s+1 by omega];exact u⟩
 rw[if_neg (by simpa using t)];refine wp_exit ?_;have C:s=5:=by omega
 subst C;exact m a E y d (k.sb) p n (E7.le (by omega) (by omega))
def X8(y:QP Q)(h:iA w S ow b g)(Y:mF ow)(E:GI 5 (K+36120) N g)(hN:N<=99980000)(k:Kn 227 a (uM r q dl tv vl b))(o:∀a W S' cE,Kn 227 a (uM r q dl tv vl b)->bB LG ax w S ow W S' cE->iA W S' cE b (I8 g 3)->GI 5 K (N+1290) (I8 g 3)->(∀j,j<3->∀m∈(I8 g j).eI,Has iC m)->Q .normal a W):Hk.wp Try.prog Q a w:=by
 have f:=h.wf;unfold Hk;unfold uM at k;refine wp_seq (rg ax y abV ?_);intro X T;have x:=SX.refl ax X
 repeat refine sm k fun a k=>?_
 refine av ?_
 refine wp_block (wp_loop_ghost (fun H a W=>∃(s:Nat) (z:bG) (d:Ow),H=3-s/\s<=3/\Kn 227 a ((10,.int i64 (s:Int))::uM r q dl tv vl b)/\bB LG ax w S ow W z d/\iA W z d b (I8 g s)/\mF d/\GI 5 (K+12040*(3-s)) (N+430*(s:Int)) (I8 g s)/\∀j,j<s->∀m∈(I8 g j).eI,Has iC m) (3-0)
  ⟨0,S,ow,rfl,by omega,k.sb,bB.W T LG ax S ow,h.W T,Y,E.le (K':=K+12040*(3-0)) (N':=N+430*((0:Nat):Int)) (by omega) (by omega),fun j I=>absurd I (Nat.not_lt_zero j)⟩ ?_)
 clear k x;rintro H a W ⟨s,z,d,rfl,hs,k,st,hg,Qj,E7,hms⟩;unfold uM at k;refine wp_seq (wp_seq (rg ax y abU ?_));intro G P;have n:=hg.W P;have p:=st.eN f hg.wf P;have x:=SX.refl ax G
 repeat refine sm k fun a k=>?_
 refine cm (c:=decide ((s:Int)<3)) k rfl rfl rfl fun a k=>?_;refine av (bw k rfl ?_);have k:=k.sb (l:=(10,.int i64 (s:Int))::uM r q dl tv vl b);by_cases u:(s:Int)<3
 .rw[if_pos (by simpa using u)];refine wp_skip ?_
  have t:∀m∈(I8 g s).eI,Has iC m:=by obtain⟨R,Z,-,-⟩:=n;exact Z.eI.all
  obtain⟨F,v⟩:=E7.I0 t (by omega) (by omega);have C:1<=(I8 g s).eT.length/\(I8 g s).eT.length<=5:=by rw[E7.n1];decide
  unfold uM at k;refine wp_seq (wp_block (rg ax y abS ?_));intro V O;have J:=n.W O;have B:=p.eN f n.wf O;have x:=SX.refl ax V
  repeat refine sm k fun a k=>?_
  refine gU (ps:=[(0,.int i64 6)]) (vs:=JC) k (by assumption) rfl (by decide) rfl (by kernel_rfl) fun a k=>?_;refine iB (vs:=[bM b,.agg JC.toArray]) k (by decide) rfl (by decide) J5 rfl (yA J Qj C (by kernel_rfl) (by kernel_rfl) F) ?_;rintro e w4 ⟨S4,L9,rfl,qb,h4⟩;refine⟨_,rfl,fun h=>absurd rfl h,fun a k=>?_⟩;refine av ?_;have A:=jl f J.wf B qb nE;have k:=k.sb (l:=(10,.int i64 (s:Int))::uM r q dl tv vl b);unfold uM at k;refine rg ax y abT ?_;intro U M;have x:=SX.refl ax U
  repeat refine sm k fun a k=>?_
  refine iK (s:=((s+1:Nat):Int)) k (by assumption) rfl (by decide) rfl rfl (wrap64 (by omega) (by omega)) fun a k=>?_
  repeat refine sm k fun a k=>?_
  refine av ⟨3-(s+1),by omega,s+1,S4,L9,rfl,by omega,k.sb,A.eN f h4.wf M,h4.W M,tf Qj qb,v.le (by omega) (by omega),fun j I=>?_⟩;rcases eK j s with h|h
  .exact hms j h
  rw[show j=s by omega];exact t
 rw[if_neg (by simpa using u)];refine wp_exit ?_;have D:s=3:=by omega
 subst D;exact o a G z d (k.sb) p n (E7.le (by omega) (by omega)) hms
end
def Mb(g:GS)(d:Int):Nat->Int
 |0=>d
 |s+1=>if(bS g s).role=2 then(s:Int) else Mb g d s
noncomputable def HS:Code:=.seq (.region 21 Ns false) (.block 8 (.loop (.seq (.seq (.region 22 Nr false) (.cond (.tmp 91) .skip (.exit 8))) (.seq (.block 9 (.seq (.region 24 Nq false) (.cond (.tmp 103) (.region 25 Np false) .skip))) (.region 23 Jq false)))))
section
variable{w w0 w':Tan}{S S0 S':bG}{ow kJ cE:Ow}{b i j K L:Nat}{N:Int}{g:GS}{tv vl:Tao}{r q dl:Int}{Q:O3}{a:Act}
def RB(F:QP Q)(n:iA w S ow b g)(C:GI 5 K N g)(k:Kn 227 a (uM r q dl tv vl b))(o:∀a W,Kn 227 a (uM r q (Mb g dl 5) tv vl b)->bB LG ax w S ow W S ow->iA W S ow b g->Q .normal a W):HS.wp Try.prog Q a w:=by
 have f:=n.wf;unfold HS;unfold uM at k;refine wp_seq (rg ax F abR ?_);intro w1 e1;have y:=SX.refl ax w1
 repeat refine sm k fun a k=>?_
 refine av ?_
 refine wp_block (wp_loop_ghost (fun mm a W=>∃(s:Nat),mm=5-s/\s<=5/\Kn 227 a ((11,.int i64 (s:Int))::uM r q (Mb g dl s) tv vl b)/\bB LG ax w S ow W S ow/\iA W S ow b g) (5-0)
  ⟨0,rfl,by omega,k.sb,bB.W e1 LG ax S ow,n.W e1⟩ ?_)
 clear k y;rintro mm a W ⟨s,rfl,hs,k,J,n⟩;generalize E:Mb g dl s=dd at k;unfold uM at k;refine wp_seq (wp_seq (rg ax F abQ ?_));intro w2 e2;have D:=n.W e2;have A:=J.eN f n.wf e2;have y:=SX.refl ax w2
 repeat refine sm k fun a k=>?_
 refine cm (c:=decide ((s:Int)<5)) k rfl rfl rfl fun a k=>?_;refine av (bw k rfl ?_);have k:=k.sb (l:=(11,.int i64 (s:Int))::uM r q dd tv vl b);by_cases B:(s:Int)<5
 .rw[if_pos (by simpa using B)];refine wp_skip ?_;have hi:s<g.eT.length:=by rw[C.n1];omega
  obtain⟨a1,a2,-,-⟩:=C.get (i:=s) (by omega);have hx:=ka hi;have m:Mb g dl (s+1)=if(bS g s).role=2 then(s:Int) else dd:=by rw[<-E];rfl
  generalize bS g s=x at a1 a2 hx m;clear y;obtain⟨R,gm,p,M⟩:=D;unfold uM at k
  have G:∀a W dn,dn=Mb g dl (s+1)->Kn 227 a ((11,.int i64 (s:Int))::uM r q dn tv vl b)->bB LG ax w S ow W S ow->iA W S ow b g->
    (Code.region 23 Jq false).wp Try.prog (Exit.then (fun a W=>∃n',n'<5-s/\∃(s:Nat),n'=5-s/\s<=5/\Kn 227 a ((11,.int i64 (s:Int))::uM r q (Mb g dl s) tv vl b)/\bB LG ax w S ow W S ow/\iA W S ow b g) (Exit.inBlock 8 Q)) a W:=by
   intro a W dn T k J n;unfold uM at k;refine fV (n0:=0) ax mix (by exact F) abP (by decide) ?_;intro w6 e6;have y:=SX.refl ax w6
   repeat refine sm k fun a k=>?_
   refine iK (s:=((s+1:Nat):Int)) k (by assumption) rfl (by decide) rfl rfl (wrap64 (by omega) (by omega)) fun a k=>?_
   repeat refine sm k fun a k=>?_
   subst T;exact av ⟨5-(s+1),by omega,s+1,rfl,by omega,k.sb,J.eN f n.wf e6,n.W e6⟩
  refine wp_seq (wp_block (wp_seq (rg ax F abO ?_)));intro w3 e3;have d:=gm.W e3;have I:=A.eN f gm.wf e3;have y:=SX.refl ax w3
  repeat (first|refine sm k fun a k=>?_|refine ld k (d.cell id rfl) fun a k=>?_)
  obtain⟨bs,V,O,a3⟩:=d.eT s x hx;obtain⟨bl,a5,Z,X,a4,U⟩:=d.arr.elem (i:=s) (u:=bM bs) (by rw[p,ab,V];rfl);have Y:(R.la.map bM).length=g.eT.length:=by rw[aj,p];exact d.qV
  rw[Z]at k
  repeat refine sm k fun a k=>?_
  refine zg (el:=52) (sz:=1) k rfl rfl (by rw[Y];exact hi) fun a k=>?_;refine kx (v:=bM bs) k (by assumption) rfl (by decide) rfl (by kernel_rfl) (by kernel_rfl) (eP X (fun h=>h) (by rw[bL];exact U)) fun a k=>?_;refine iB (vs:=[bM bs]) k (by decide) rfl (by decide) P9.enter rfl (kF O d.wf (a2.ok a1 (aB _) (by omega))) ?_;rintro e w4 ⟨A1,n1,c1,A2,n2,c2,rfl,-,qb,Md⟩;refine⟨_,rfl,fun _=>qb.xL _,fun a k=>?_⟩;have a0:=d.O qb Md;have s1:=qb.xL ax;refine Az (off:=0) (v:=.int i64 x.role) k (by assumption) rfl (by decide) rfl (by kernel_rfl) rfl fun a k=>?_;refine cm (c:=x.role==2) k rfl rfl rfl fun a k=>?_;refine av (bw k rfl ?_);have z:=I.eC f d.wf qb nE;have t:iA w4 S ow b g:=⟨R,a0,p,M⟩;have k:=k.sb (l:=(11,.int i64 (s:Int))::uM r q dd tv vl b);by_cases H:x.role=2
  .rw[if_pos (by simpa using H)];rw[if_pos H]at m;unfold uM at k;refine fV (n0:=0) ax mix (by exact F) abN (by decide) ?_;intro w5 e5;have y:=SX.refl ax w5
   repeat refine sm k fun a k=>?_
   exact av (G _ _ (s:Int) m.symm (k.sb) (z.eN f t.wf e5) (t.W e5))
  rw[if_neg (by simpa using H)];rw[if_neg H]at m;exact wp_skip (G _ _ dd m.symm k z t)
 rw[if_neg (by simpa using B)];refine wp_exit ?_;have P:s=5:=by omega
 subst P;subst E;exact o a w2 (k.sb) A D
end
end Go.Proofs.Ytjhmkaninmgilaa
namespace Go.Proofs.Ytjhmkaninmgilaa
open Go Go.RowKit Go.dG Go.Proofs
section
variable{w:Tan}{S:bG}{ow:Ow}{l b:Nat}{s:RS}
def CP{x:D}{u:Tao}(h:kK w S ow l (dS 0) b [cR s,cL s])(G:Wf w S ow)(A:1000<=l)(F:Has zR x)(H:bV w S u x)(z:Ok s 20):
  Calls Try.prog 16 #[.pointer (some ⟨b,0,none⟩),u] w fun e k=>∃E vo j f,e=.returned (.tuple [E,.int i64 (bD x s).1.2.1,vo].toArray)/\bB (iF l) ax w S ow k j f/\Wf k j f/\kK k j f l (dS 0) b [cR (bD x s).2,cL (bD x s).2]/\
   (bV k j E (bD x s).1.1/\Has eD (bD x s).1.1)/\bV k j vo (bD x s).1.2.2/\Has BP (bD x s).1.2.2:=by
 have t:dr (.Y s16.params) ([x]++[cR s,cL s].flatten):=aA.2 ⟨_,_,rfl,F,gE h⟩;refine(h.call (ob0:=dS 0) (vs:=[u]) (n:=1) c16 rfl rfl rfl rfl rfl rfl (by decide) (.inl (by decide)) rfl A G rfl rfl ?_ t z).mono ?_
 .intro i v d m q
  match i,m,q with
  |0,m,q=>injection m with m;injection q with q;subst m q;exact H
 rintro e N ⟨v,j,f,τ,M,outs,rfl,a,Vn,Vm,Y5,Vo,mM⟩;replace a:D.fa [.fa [(bD x s).1.1,.int i64 (bD x s).1.2.1,(bD x s).1.2.2],.agg (cR (bD x s).2),.agg (cL (bD x s).2)]=.fa (M::outs.map .agg):=a;injection a with a;have p:outs.length=2:=Vn
 match outs,p with
 | [o1,o2],_=>
  simp only[ct,List.map_nil,dD,D.agg.injEq,and_true]at a;obtain⟨rfl,rfl,rfl⟩:=a;rcases mM with⟨c,hc,_⟩|⟨_,us,ds,rfl,g,hul,hdl,zW⟩
  .have I:(3:Nat)=1:=congrArg List.length hc;cases I
  injection g with g;subst g;have o:us.length=3:=hul
  match us,o with
  | [u0,u1,u2],_=>
   have K:=tc (ts:=eD.cells) (τ:=τ) (.inl ⟨_,rfl,zW 0 _ _ _ rfl rfl rfl⟩);have J:=tc (ts:=aaE) (τ:=τ) (.inl ⟨_,rfl,zW 2 _ _ _ rfl rfl rfl⟩);have C:=zW 1 _ _ _ rfl rfl rfl;unfold fY at C;simp only[ai,if_false]at C;obtain⟨y,r,B⟩:=C;injection r with r;subst r;have L:u1=.int i64 (bD x s).1.2.1:=B.1.dj;subst L;exact⟨u0,u2,j,f,rfl,Vm,Y5,Vo,K,J⟩
end
end Go.Proofs.Ytjhmkaninmgilaa
namespace Go.dG
open Go Go.RowKit
def jc(n:Nat)(p:Tai):Tbe Bool:=((List.range n).map fun j=>decide (j∈p)).toArray
def uP{n i:Nat}{p:Tai}:(jc n p).setIfInBounds i true=jc n (p++[i]):=by
 apply Array.ext
 .simp[jc]
 intro j b c;simp only[jc,Array.size_setIfInBounds,cb,aj,dW]at b;rw[Array.getElem_setIfInBounds (by simpa [jc]using b)];by_cases a:i=j
 .subst a;simp[jc]
 rw[if_neg a];simp only[jc,List.getElem_toArray,List.getElem_map,List.getElem_range,aQ,aG];congr 1;exact propext ⟨fun h=>.inl h,fun h=>h.resolve_right (Ne.symm a)⟩
def IP(n:Nat):Array.replicate n false=jc n []:=by
 apply Array.ext
 .simp[jc]
 intro j b a;simp[jc]
def NQ(N:Act->Taf)(Q:O3):O3
 |.normal=>N
 |.exit i=>Q (.exit i)
 |.goto i=>Q (.goto i)
 |.ret=>Q .ret
 |.panic c=>Q (.panic c)
 |.outgrown=>Q .outgrown
section
variable{P:Tba}{ops ops':Tae}{Q Q':O3}{S:Taf}{N:Act->Taf}
def CA{i:Nat}{K:Act->Taf}{a:Act}{w:Tan}(h:wpOp P ops (NQ N Q) i K a w):wpOp P ops Q i K a w:=by
 have d:LetsOut (NQ N Q)->LetsOut Q:=fun⟨a,w,h⟩=>⟨a,w,h⟩;unfold wpOp at h⊢;cases ho:ops[i]? with
 |none=>rw[ho]at h;exact h
 |some o=>
  rw[ho]at h;simp only at h⊢;split at h
  .rename_i b;rw[if_pos b];rcases h with h|⟨g,f⟩
   .refine .inl ?_;unfold Oper.wp at h⊢;generalize (execOp a.eval o).run P w=r at h⊢;unfold Oper.upon at h⊢;split<;>simp only at h⊢
    all_goals first
     |exact h
     |(refine h.mono fun e j c=>?_
       cases e<;>simp only at c⊢<;>first|exact c|exact d c)
   exact .inr ⟨g,d f⟩
  rename_i b;rw[if_neg b];exact h
def AT(P:Tba)(ops:Tae)(Q:O3)(S:Taf)(p:Tai)(a:Act)(w:Tan):Prop:=
 nF P ops Q S ops.size (ops.size-p.length) (jc ops.size p) a w
def xO(ops:Tae)(a p:Tai)(n0:Nat):Bool:=
 Region.noSelect ops&&decide (a.length+p.length<=ops.size)&&p.all (fun i=>match ops[i]? with|some o=>o.guard.isNone|none=>false)&&(List.range p.length).all fun k=>
  match p[k]? with
  |none=>false
  |some i=>if k<n0 then Region.free .any ops (jc ops.size (a++p.take k)) i&&(Region.ready .any ops (jc ops.size (a++p.take k))).contains i
   else Region.ready .any ops (jc ops.size (a++p.take k))==[i]
def CI{h p:Tai}{n0:Nat}(a:xO ops h p n0=true)(k:Nat){i:Nat}(e:p[k]?=some i):∃o,ops[i]?=some o/\o.guard=none/\(gl ops p)[k]?=some o:=by
 unfold xO at a;simp only[aP,bg,bU]at a;obtain⟨⟨⟨l,d⟩,c⟩,f⟩:=a;have b:=c i (bT e);cases ho:ops[i]? with
 |none=>rw[ho]at b;cases b
 |some o=>
  rw[ho]at b;refine⟨o,rfl,by simpa using b,?_⟩;unfold gl;rw[da,pC (fun j m=>?_) k,e]
  .exact ho
  have g:=c j m;cases hoj:ops[j]? with
  |none=>rw[hoj]at g;cases g
  |some oj=>exact(aI.1 hoj).1
def QK{m p:Tai}{n0:Nat}(b:xO ops m p n0=true)(R:QP Q):
  ∀(f k:Nat) (a:Act) (w:Tan),k+f=p.length->mg P (gl ops p) (NQ (fun a w=>S w/\AT P ops Q S (m++p) a w) Q) S n0 f k a w->(f=0->S w)/\AT P ops Q S (m++p.take k) a w:=by
 intro f
 induction f with
 |zero=>
  intro k a w M h;rw[dz (by omega)];exact⟨fun _=>h.1,h.2⟩
 |succ f ih=>
  intro k a w M h;refine⟨fun e=>(by cases e),?_⟩;have l:p[k]?=some (p[k]'(by omega)):=aR _;generalize p[k]'(by omega)=i at l;obtain⟨o,s,F,r⟩:=CI b k l;have C:=b;unfold xO at b;simp only[aP,bg,bU,cz]at b;obtain⟨⟨⟨z,D⟩,U⟩,u⟩:=b;have q:=u k (by omega);rw[l]at q;simp only at q;have B:m++p.take (k+1)=m++p.take k++[i]:=by rw[ca,l,cX];rfl
  have A:ops.size-(m++p.take k).length=(ops.size-(m++p.take (k+1)).length)+1:=by simp only[ah,aO];omega
  unfold mg at h;rw[r]at h;simp only at h;unfold AT;rw[A];by_cases t:k<n0
  .rw[if_pos t]at h q;obtain⟨O,v,L,x⟩:=h;simp only[aP]at q;obtain⟨n,d⟩:=q;refine qD s (fun e=>?_) (fun oL y=>?_) (Region.noSelect_spec z) (fun c a w=>R c a _ _ w) _ _ a w (Region.free_spec s n) (by simpa using d) (YieldsIf.plain (ops':=gl ops p) (fun g e=>by rw[F]at e;cases e) L) O ?_
   .rw[e]at s;simp at s
   .simp at y
   rw[uP,<-B];exact(ih (k+1) _ w (by omega) x).2
  rw[if_neg t]at h q;have x:Region.ready .any ops (jc ops.size (m++p.take k))=[i]:=by simpa using q
  refine⟨fun I=>(by rw[x]at I;cases I),fun j E=>?_⟩;rw[x,aG]at E;subst E;refine wpOp_mono (fun T K J=>?_) (CA (uG (fun g e=>by rw[F]at e;cases e) r s h));have H:=ih (k+1) T K (by omega) J.2;refine⟨fun _=>?_,?_⟩
  .by_cases G:f=0
   .exact H.1 G
   exact J.1 G
  rw[uP,<-B];exact H.2
def KT{d p:Tai}{n0:Nat}(a:xO ops d p n0=true):(bK (gl ops p)).length=p.length:=by
 unfold bK gl;rw[aj]
 have:∀(q:Tai),(∀i∈q,i<ops.size)->(q.filterMap (ops[·]?)).length=q.length:=by
  intro q
  induction q with
  |nil=>intro _;rfl
  |cons i q ih=>
   intro c;have g:ops[i]?=some (ops[i]'(c i aZ)):=dq _;rw[List.filterMap_cons,g];simp only[bu];rw[ih (fun j b=>c j (ao _ b))]
 refine this p fun j b=>?_;obtain⟨k,f⟩:=au b;obtain⟨o,e,_⟩:=CI a k f;exact(aI.1 e).1
def LZ{d p p2:Tai}{n0:Nat}{L:List OK}{a:Act}{w:Tan}(b:xO ops d p n0=true)(g:QP Q)(e:bK (gl ops p)=L)(f:d++p=p2)(h:TL P (gl ops p) (NQ (fun a w=>S w/\AT P ops Q S p2 a w) Q) S n0 L L 0 a w):AT P ops Q S d a w:=by
 subst f;have c:L.length=p.length:=by rw[<-e];exact KT b
 have:=(QK (P:=P) (S:=S) b g p.length 0 a w (by omega) (c▸h e rfl)).2;rw[fN,aX]at this;exact this
def rD{b R:Tai}{a:Act}{w:Tan}(l:b.length<ops.size)(d:Region.ready .any ops (jc ops.size b)=R)(k:R≠[])(h:∀i∈R,wpOp P ops Q i (fun j c=>S c/\AT P ops Q S (b++[i]) j c) a w):AT P ops Q S b a w:=by unfold AT;rw[show ops.size-b.length=(ops.size-b.length-1)+1 by omega];refine⟨fun m=>absurd (d▸m) k,fun i e=>?_⟩;rw[d]at e;refine wpOp_mono (fun j c g=>⟨fun _=>g.1,?_⟩) (h i e);rw[uP];have f:=g.2;unfold AT at f;rw[show ops.size-b.length-1=ops.size-(b++[i]).length by rw[ah];simp;omega];exact f
def hZ{i:Nat}{L:List OK}{a:Act}{w:Tan}(b:(match ops[i]? with|some o=>o.guard.isNone|none=>false)=true)(d:bK (gl ops [i])=L)(h:TL P (gl ops [i]) (NQ N Q) S 0 L L 0 a w):wpOp P ops Q i N a w:=by
 cases ho:ops[i]? with
 |none=>rw[ho]at b;cases b
 |some o=>
  rw[ho]at b;have b:o.guard=none:=by simpa using b
  have c:gl ops [i] =#[o]:=by simp[gl,ho]
  have j:L.length=1:=by rw[<-d,c];rfl
  have h:=h d rfl;rw[j]at h;unfold mg at h;have f:(gl ops [i])[0]?=some o:=by rw[c];rfl
  rw[f]at h;simp only at h;rw[if_neg (by omega)]at h;exact wpOp_mono (fun m l k=>k.2) (CA (uG (fun g e=>by rw[b]at e;cases e) f ho h))
def JL{p:Tai}{a:Act}{w:Tan}(c:ops.size<=p.length)(b:Region.ready .any ops (jc ops.size p)=[])(h:Q .normal a w):AT P ops Q S p a w:=by unfold AT;rw[show ops.size-p.length=0 by omega];exact⟨b,h⟩
def Te{id:Nat}(X:Taj)(d:P.follows .mixedOrders=true){w:Tan}{a:Act}(h:∀b,zD w b->AT P ops Q (SX X b) [] a b):(Code.region id ops true).wp P Q a w:=by refine wp_region_any d ?_;have c:=h _ (zD.drew w);unfold AT at c;rw[<-IP,fC,Nat.sub_zero]at c;exact nQ _ _ _ _ c
end
end Go.dG
namespace Go.Proofs.Ytjhmkaninmgilaa
open Go Go.RowKit Go.dG Go.Proofs
attribute [local irreducible] TL
def PW{w:Tan}{S:bG}{ow:Ow}{us:Tad}{ds:Tah}{T:Tbb}(t:Wf w S ow)(m:us.length=ds.length)(z:∀d∈ds,d.cells.length=1)(q:ds≠[])(x:∀(i:Nat) u d,us[i]?=some u->ds[i]?=some d->bV w S u d)(y:∀d∈ds,d.cells=[d]):
  ∃r,bB ax ax w S ow (w.alloc (.cells us.toArray T)) r ow/\Wf (w.alloc (.cells us.toArray T)) r ow/\bV (w.alloc (.cells us.toArray T)) r (.slice (some ⟨w.heap.size,0,none⟩) ds.length ds.length) (.list ds):=by
 obtain⟨f,g⟩:=bB.alloc t (.cells us.toArray T);have p:=fU.new t T us;refine⟨fun b o=>S b o\/b=w.heap.size,⟨f.size,f.os,f.tape,f.output,f.E1,f.free,fun _ _ h=>.inl h,f.cell,f.keep,fun b o h=>h.imp id (fun e=>.inl (by omega)),f.qT,f.iu⟩,⟨fun b o h=>h.elim (g.s b o) (fun e=>by rw[e];exact p.lt),g.o,fun b o l h m=>h.elim (fun h=>g.d b o l h m) (fun e=>by rw[e,p.ow]at m;cases m)⟩,?_⟩;refine .list w.heap.size 0 ds.length 1 us ds (by omega) q (aM _) (by omega) (fun i _=>.inr rfl) (fun i v k=>by rw[aq];exact iq p.heap k) (fun i d n=>z d (bT n)) ?_;intro i d j v c n a k;rw[y d (bT n)]at a
 match j,a with
 |0,a=>
  injection a with a;subst a;rw[bL,dL]at k;exact(x i v d k n).keep (fun _ _ h=>.inl h) f.cell
def N9:Tam:=[I6,I6,.list (.int .u8)]++aaN++Dw
def rA:Ty:=.agg (.Y N9)
end Go.Proofs.Ytjhmkaninmgilaa
namespace Go.Proofs.Ytjhmkaninmgilaa
open Go Go.RowKit Go.dG Go.Proofs
attribute [local irreducible] TL AT
def Kn.swap{n:Nat}{a:Act}{p q:Nat×Tao}{m:Tac}(h:Kn n a (p::q::m))(b:p.1≠q.1):Kn n a (q::p::m):=by
 refine⟨h.1,h.2.1,fun t v d=>h.2.2 t v ?_⟩;rw[<-d];simp only[lk];by_cases c:t=p.1
 .subst c;simp[b]
 simp[c]
def mb{P:Tba}{ops:Tae}{Q:O3}{b:Taf}{p q:Tai}{a:Act}{w:Tan}(h:AT P ops Q b p a w)(d:p.length=q.length)(c:jc ops.size p=jc ops.size q):AT P ops Q b q a w:=by unfold AT at h⊢;rw[<-d,<-c];exact h
def LB(t:Nat):Tal->Tac
 |none=>[]
 |some B=>[(t,bM B)]
structure KS(tA tB:Nat)(w0:Tan)(S0:bG)(o0:Ow)(X:Taj)(w2:Tan)(F:Tan->bG->Ow->Prop)(m:Tac)(b7 b9:Tal)(a:Act)(w:Tan)(S:bG)(ow:Ow):Prop where
 kn:Kn 227 a (LB tA b7++(LB tB b9++m))
 wf:Wf w S ow
 st:bB LG ax w0 S0 o0 w S ow
 sx:SX X w2 w
 f:F w S ow
 n:mF ow
 c7:∀B,b7=some B->∃zs,zs.length=29/\fU w S ow B 78 zs
 c9:∀B,b9=some B->∃zs,zs.length=8/\fU w S ow B 75 zs
 g7:∀B,b7=some B->w2.heap.size<=B
 g9:∀B,b9=some B->w2.heap.size<=B
 ne:∀B,b7=some B->b9≠some B
def KK(tA tB:Nat)(w0:Tan)(S0:bG)(o0:Ow)(X:Taj)(w2:Tan)(F:Tan->bG->Ow->Prop)(m:Tac)(b7 b9:Tal)(a:Act)(w:Tan):Prop:=∃S ow,KS tA tB w0 S0 o0 X w2 F m b7 b9 a w S ow
section
variable{tA tB:Nat}{w0 w2:Tan}{S0:bG}{o0:Ow}{X:Taj}{F:Tan->bG->Ow->Prop}{m:Tac}{b7 b9:Tal}{a a':Act}{w:Tan}{S:bG}{ow:Ow}{N:Act->Taf}{Q:O3}{ops:Tae}
def Cf(h:SX X w2 w)(o:Obj):SX X w2 (w.alloc o):=
 ⟨aY h.1 (by simp),fun b c d=>(Below.heap_alloc w o b (ar c h.1)).trans (h.2 b c d)⟩
def DD(h:SX X w2 w){b:Nat}(f:w2.heap.size<=b)(r:Tbe Tao):SX X w2 (w.setRow b r):=
 ⟨aY h.1 (by simp),fun k d c=>(setRow_other w b k r (fun e=>by omega)).trans (h.2 k d c)⟩
def KS.alA(h:KS tA tB w0 S0 o0 X w2 F m none b9 a w S ow)(p:∀w S ow o,Wf w S ow->F w S ow->F (w.alloc o) S ow)(d:Wf w0 S0 o0){zs:Tad}(l:zs.length=29)(k:Kn 227 a' ((tA,bM w.heap.size)::(LB tB b9++m))):KS tA tB w0 S0 o0 X w2 F m (some w.heap.size) b9 a' (w.alloc (.cells zs.toArray 78)) S ow:=by
 have c:=bB.alloc h.wf (.cells zs.toArray 78);refine⟨k,c.2,h.st.eC d h.wf c.1 nE,Cf h.sx _,p _ _ _ _ h.wf h.f,h.n,?_,fun B b=>?_,?_,h.g9,?_⟩
 .rintro B b;injection b with b;subst b;exact⟨zs,l,fU.new h.wf 78 zs⟩
 .obtain⟨i,j,g⟩:=h.c9 B b;exact⟨i,j,g.O c.1 (fun h=>h)⟩
 .rintro B b;injection b with b;subst b;exact h.sx.1
 rintro B b e;injection b with b;subst b;obtain⟨i,j,g⟩:=h.c9 _ e;exact Nat.lt_irrefl _ g.lt
def KS.alB(h:KS tA tB w0 S0 o0 X w2 F m b7 none a w S ow)(g:tA≠tB)(q:∀w S ow o,Wf w S ow->F w S ow->F (w.alloc o) S ow)(d:Wf w0 S0 o0){zs:Tad}(p:zs.length=8)(k:Kn 227 a' ((tB,bM w.heap.size)::(LB tA b7++m))):KS tA tB w0 S0 o0 X w2 F m b7 (some w.heap.size) a' (w.alloc (.cells zs.toArray 75)) S ow:=by
 have c:=bB.alloc h.wf (.cells zs.toArray 75);refine⟨?_,c.2,h.st.eC d h.wf c.1 nE,Cf h.sx _,q _ _ _ _ h.wf h.f,h.n,fun B b=>?_,?_,h.g7,?_,?_⟩
 .cases b7 with
  |none=>exact k
  |some B=>exact Kn.swap k (fun e=>g e.symm)
 .obtain⟨j,l,i⟩:=h.c7 B b;exact⟨j,l,i.O c.1 (fun h=>h)⟩
 .rintro B b;injection b with b;subst b;exact⟨zs,p,fU.new h.wf 75 zs⟩
 .rintro B b;injection b with b;subst b;exact h.sx.1
 rintro B b e;injection e with e;subst e;obtain⟨j,l,i⟩:=h.c7 _ b;exact Nat.lt_irrefl _ i.lt
def ya(i:tA<227)(g:∀w S ow o,Wf w S ow->F w S ow->F (w.alloc o) S ow)(b:Wf w0 S0 o0)(h:KK tA tB w0 S0 o0 X w2 F m none b9 a w)(f:∀B a' c,KK tA tB w0 S0 o0 X w2 F m (some B) b9 a' c->N a' c):TL Try.prog ops (NQ (fun a w=>SX X w2 w/\N a w) Q) (SX X w2) 0 [(some tA,.alloc 78,none)] [(some tA,.alloc 78,none)] 0 a w:=by obtain⟨S,ow,h⟩:=h;refine mn (nn:=29) h.kn (aM _) rfl i (by kernel_rfl) (fun d _=>Cf h.sx _) fun d e a k=>av ?_;exact⟨Cf h.sx _,f _ _ _ ⟨S,ow,h.alA g b e k⟩⟩
def x9(j:tB<227)(c:tA≠tB)(i:∀w S ow o,Wf w S ow->F w S ow->F (w.alloc o) S ow)(b:Wf w0 S0 o0)(h:KK tA tB w0 S0 o0 X w2 F m b7 none a w)(g:∀B a' d,KK tA tB w0 S0 o0 X w2 F m b7 (some B) a' d->N a' d):TL Try.prog ops (NQ (fun a w=>SX X w2 w/\N a w) Q) (SX X w2) 0 [(some tB,.alloc 75,none)] [(some tB,.alloc 75,none)] 0 a w:=by obtain⟨S,ow,h⟩:=h;refine mn (nn:=8) h.kn (aM _) rfl j (by kernel_rfl) (fun e _=>Cf h.sx _) fun e f a k=>av ?_;exact⟨Cf h.sx _,g _ _ _ ⟨S,ow,h.alB c i b f k⟩⟩
def DA{b:Nat}{g:Taf}{n i:Nat}{f:Tac}{r L:List OK}{x y:Tbc}{t T:Tbb}{cur vs:Tad}(k:Kn n a f)(hs:ik Try.prog t=some vs.length)(o:lq f x=some (bM b))(l:lq f y=some (.agg vs.toArray))(d:fU w S ow b T cur)(j:cur.length=vs.length)(c:∀v∈vs,v.oneCell'=true)(p:g (w.setRow b vs.toArray))(h:∀a',Kn n a' f->TL Try.prog ops Q g 0 L r (i+1) a' (w.setRow b vs.toArray)):TL Try.prog ops Q g 0 L ((none,.store t x y,none)::r) i a w:=by
 have e:(cur.toArray.toList.take 0++vs++cur.toArray.toList.drop (0+vs.length))=vs:=by simp[<-j]
 refine lv (vs:=vs) (cur:=cur.toArray) (off:=0) k (aB _) rfl hs o l rfl d.heap (by simp[j]) c ?_ ?_
 .rw[e];exact fun _=>p
 rw[e];exact h
end
def Dr(w:Tan)(ow:Ow)(A:Tap Addr):Prop:=∀b,A=some b->b.block<w.heap.size/\ow b.block=none
def Dr.O{L X:Taj}{w w':Tan}{S S':bG}{ow b:Ow}{A:Tap Addr}(h:Dr w ow A)(d:bB L X w S ow w' S' b):Dr w' b A:=fun c e=>⟨ar (h c e).1 d.size,d.qT _ (h c e).1 (h c e).2⟩
def LF{w:Tan}{S:bG}{b:Tad}{d:D}(s:Has rA d)(n:bV w S (.agg b.toArray) d)(j:Nat)(r:N9[j]?=some I6):∃q,b[j]?=some (.int i64 q)/\kL i64 q:=by
 obtain⟨l,rfl,k⟩:=eA.1 s;have p:l.length=76:=by rw[gh k,Ty.dT];rfl
 have g:dr (.Y N9) l:=k;obtain⟨Qa,c,u,t⟩:=n.zt;injection c with c;have e:b=Qa:=by simpa using congrArg Array.toList c
 subst e;obtain⟨x,h,q,rfl,o⟩:=dh g j I6 (by rw[Ty.dT];exact r);have f:j<b.length:=by rw[u];exact(aD.1 h).1
 have i:b[j]?=some b[j]:=aR f;rw[i,(t j _ _ i h).dj];exact⟨q,rfl,o⟩
def pS:∀{ts:Tam} {l:Tah} {i:Nat} {t:Ty} {d:D},dr (.Y ts) l->ts[i]?=some t->Has t d->dr (.Y ts) (l.set i d)
 |[],_,_,_,_,_,h,_=>by cases h
 |_::ts,l,0,t,d,hl,h,hd=>by obtain⟨x,r,rfl,_,b⟩:=aA.1 (show dr (.cons _ (.Y ts)) l from hl);injection h with h;subst h;exact aA.2 ⟨_,_,rfl,hd,b⟩
 |_::ts,l,i+1,t,d,hl,h,hd=>by obtain⟨x,r,rfl,c,b⟩:=aA.1 (show dr (.cons _ (.Y ts)) l from hl);exact aA.2 ⟨_,_,rfl,c,pS b h hd⟩
def vD{w:Tan}{S:bG}{vs:Tad}{l:Tah}{i:Nat}{v:Tao}{d:D}(h:bV w S (.agg vs.toArray) (.agg l))(n:vs.length=l.length)(g:bV w S v d):bV w S (.agg (vs.set i v).toArray) (.agg (l.set i d)):=by
 refine .agg _ _ (by simp[n]) fun j u c b e=>?_;rw[bF]at b e;by_cases f:i=j
 .subst f;rw[if_pos rfl]at b e;split at b
  .rename_i k;rw[if_pos (by omega)]at e;injection b with b;injection e with e;subst b e;exact g
  cases b
 rw[if_neg f]at b e;exact h.BW j b e
def F8{w:Tan}{S:bG}:bV w S (.agg (mH.drop 2).toArray) (.agg (oh.cells.drop 2)):=by refine .agg _ _ (by decide+kernel) fun j u d b c=>?_;rw[aL]at b c;exact F6 _ _ _ b c
def F9:dr (.Y Dw) (oh.cells.drop 2):=by
 obtain⟨l,c,h⟩:=eA.1 F7;have e:oh.cells=l:=by rw[c];rfl
 have d:dr (.Y Dw) (l.drop 2):=xD (a:=[.int i64,.int i64]) (b:=Dw) h;rw[e];exact d
def KA(c:Int):Tad:=((mH.drop 2).set 0 (.int i64 3)).set 3 (.int i64 c)
def wW(c:Int):D:=.agg (((oh.cells.drop 2).set 0 (.int i64 3)).set 3 (.int i64 c))
def PZ{c:Int}(b:kL i64 c):Has zR (wW c):=eA.2 ⟨_,rfl,pS (pS F9 (t:=.int i64) rfl ⟨_,rfl,by decide⟩) (t:=.int i64) rfl ⟨_,rfl,b⟩⟩
def PY{w:Tan}{S:bG}{c:Int}:bV w S (.agg (KA c).toArray) (wW c):=vD (vD F8 (by decide+kernel) (.int _ _)) (by rw[aK,aK];decide+kernel) (.int _ _)
def R1(c:Int):Fe 0 (wW c):=⟨by decide,fun _=>rfl,fun h=>absurd rfl h⟩
def Ft(c b:Tao):Tad:=(((mH.drop 2).set 0 (.int i64 2)).set 25 c).set 26 b
def kA(k:Nat):D:=.agg ((((oh.cells.drop 2).set 0 (.int i64 2)).set 25 (cD 0 (nZ k))).set 26 (cD 1 (nZ k)))
def Ke(k:Nat)(i:k<=4):Has lB (nZ k)/\Has (.list (.int i64)) (cD 0 (nZ k))/\Has (.list (.int i64)) (cD 1 (nZ k)):=by
 have b:∀l:List Int,l.length<=5->(∀x∈l,0<=x/\x<=5)->Has (.list (.int i64)) (.list (l.map (D.int i64))):=by
  intro l g f;refine bO.2 ⟨_,rfl,⟨?_,?_⟩,fun d h=>?_⟩
  .rw[aj];exact aY g (by decide)
  .rw[aj];show l.length*8<=_;omega
  obtain⟨x,c,rfl⟩:=bf.1 h;have:=f x c;exact⟨x,rfl,by have:i64.min=-9223372036854775808:=rfl;omega,by have:i64.max=9223372036854775807:=rfl;omega⟩
 have c:Has (.list (.int i64)) (cD 0 (nZ k)):=b (Qn k) (by unfold Qn;split<;>decide) (by unfold Qn;split<;>decide);have e:Has (.list (.int i64)) (cD 1 (nZ k)):=b (cfL k) (by unfold cfL;split<;>decide) (by unfold cfL;split<;>decide);exact⟨eA.2 ⟨_,rfl,aA.2 ⟨_,_,rfl,c,aA.2 ⟨_,_,rfl,e,rfl⟩⟩⟩,c,e⟩
def LO{k:Nat}(b:k<=4):Has zR (kA k):=by obtain⟨_,d,c⟩:=Ke k b;exact eA.2 ⟨_,rfl,pS (pS (pS F9 (t:=.int i64) rfl ⟨_,rfl,by decide⟩) (t:=.list (.int i64)) rfl d) (t:=.list (.int i64)) rfl c⟩
def LN{w:Tan}{S:bG}{k:Nat}{c b:Tao}(e:bV w S c (cD 0 (nZ k)))(d:bV w S b (cD 1 (nZ k))):bV w S (.agg (Ft c b).toArray) (kA k):=
 vD (vD (vD F8 (by decide+kernel) (.int _ _)) (by rw[aK,aK];decide+kernel) e) (by rw[aK,aK,aK,aK];decide+kernel) d
def PX{k:Nat}(b:k<=4)(c:k≠0):Fe k (kA k):=⟨b,fun h=>absurd h c,fun _=>⟨rfl,rfl⟩⟩
end Go.Proofs.Ytjhmkaninmgilaa
namespace Go.Proofs.Ytjhmkaninmgilaa
open Go Go.RowKit Go.dG Go.Proofs
attribute [local irreducible] TL AT
def Ji:bK (gl pK [17])=[(some 15,.alloc 78,none)]:=by kernel_rfl
def Jh:bK (gl pK [18])=[(some 17,.alloc 75,none)]:=by kernel_rfl
def Jg:bK (gl pK [12])=[oC 156 16 #[(.tmp 150),(.tmp 155)] #[52,44]]:=by kernel_rfl
def ac1:bK (gl pK [13,14,15,16])=[oM 143 156,(some 157,.extract (.tmp 143) 0,none),(some 158,.extract (.tmp 143) 1,none),(some 159,.extract (.tmp 143) 2,none)]:=by kernel_rfl
def ac2:bK (gl pK [19,20,21])=[oS 78 15 157,oA 16 158,oS 75 17 159]:=by kernel_rfl
section
variable{w:Tan}{S:bG}{ow:Ow}{b i j:Nat}{g:GS}{tv vl:Tao}{r q:Int}{Q:O3}{a:Act}
def R4{At:Tap Addr}{F P:Nat}{V:Tah}(hQ:QP Q)(hn:mF ow)(h:iA w S ow b g)(I:i<g.eT.length)(h0:i<100)(d8:g.aT.length<=5)(b4:Ok (bS g i) 28)(hr:bV w S (.slice At V.length F) (.list V))(hj:V[j]?=some (nZ P))(b8:P<=4)(e6:Dr w ow At)(k:Kn 227 a (uM r (j:Int) (i:Int) (.slice At V.length F) vl b))(H:∀a W S' G c4 c,Kn 227 a ((17,bM c4)::(16,.int i64 (bD (kA P) (bS g i)).1.2.1)::uM r (j:Int) (i:Int) (.slice At V.length F) vl b)->bB LG ax w S ow W S' G->iA W S' G b (ic i (bD (kA P) (bS g i)).2 g)->mF G->
   fU W S' G c4 75 c->c.length=8->bV W S' (.agg c.toArray) (bD (kA P) (bS g i)).1.2.2->Has BP (bD (kA P) (bS g i)).1.2.2->Q .normal a W):(Code.region 31 pK true).wp Try.prog Q a w:=by
 obtain⟨R,gm,a2,d7⟩:=h;have hs:g.eT[i]?=some (bS g i):=ka I;generalize g5:bS g i=s at b4 H hs;have t:=gm.wf;have N:pK.size=22:=by kernel_rfl
 unfold uM at k;refine Te (fun m=>ow m=some (1000+i)) mix fun w2 e2=>?_;have E:=gm.W e2;have d0:bB LG ax w S ow w2 S ow:=bB.W e2 LG ax S ow;have s0:=SX.refl (fun m=>ow m=some (1000+i)) w2;have d5:¬ow b=some (1000+i):=by rw[E.obj.ow];intro h;injection h with h;omega
 obtain⟨bs,a4,g6,g4⟩:=E.eT i s hs;obtain⟨bl,f8,f2,f0,e5,c1⟩:=E.arr.elem (i:=i) (u:=bM bs) (by rw[a2,ab,a4];rfl);have f1:i<(R.la.map bM).length:=by rw[aj,a2,E.qV];exact I
 have d4:¬ow bl=some (1000+i):=by rw[e5];intro h;injection h with h;omega
 have e1:bK (gl pK [0,1,2,3,4,5,6,7,8,9,10,11])=[oM 144 3,oN 145 144,oF 146 59 145 1,oL 147 54 146,oM 148 5,oI 149 54 147 148,oL 150 52 149,oM 151 6,oM 152 7,oI 153 82 151 152,oL 154 31 153,(some 155,.build 44 #[(0,.const (.int i64 2)),(7,.tmp 154)],none)]:=by kernel_rfl
 refine LZ (p:=[0,1,2,3,4,5,6,7,8,9,10,11]) (p2:=[0,1,2,3,4,5,6,7,8,9,10,11]) (n0:=12) (by kernel_rfl) hQ e1 rfl ?_;have e0:=hr.O (bB.W e2 ax ax S ow);have g8:j<V.length:=(aD.1 hj).1;obtain⟨e7,h6,h5⟩:=Ke P b8;have c0:lB.cells.length=2:=rfl;obtain⟨bm,a5,f9,us,hv,hS,Y,b1,b0⟩:=e0.Fs hj e7 (by rw[c0];omega);rw[c0]at hS Y b1;injection hv with hA _ c2;subst hA c2;have e8:bm<w2.heap.size:=E.wf.s _ _ hS;have d3:¬ow bm=some (1000+i):=fun e=>by rw[(e6 _ rfl).2]at e;cases e
 match us,Y with
 | [v1,v2],_=>
 have b3:bV w2 S v1 (cD 0 (nZ P)):=b0 0 v1 _ rfl rfl;have b2:bV w2 S v2 (cD 1 (nZ P)):=b0 1 v2 _ rfl rfl
 repeat (first|refine sm k fun a k=>?_|refine ld k (E.cell d5 rfl) fun a k=>?_)
 rw[f2]at k
 repeat refine sm k fun a k=>?_
 refine zg (el:=52) (sz:=1) k rfl rfl f1 fun a k=>?_;refine kx (v:=bM bs) k (by assumption) rfl (by decide) rfl (by kernel_rfl) (by kernel_rfl) (eP f0 d4 (by rw[bL];exact c1)) fun a k=>?_
 repeat refine sm k fun a k=>?_
 refine ot (el:=31) (sz:=2) k (by assumption) rfl (by decide) rfl rfl (by kernel_rfl) (by kernel_rfl) (by omega) (by omega) fun a k=>?_;rw[cY]at k;refine lN (vs:=[v1,v2]) k rfl rfl (fun w' d6 q v hv=>eP e8 d3 (b1 q v hv) w' d6) fun a k=>?_;refine gU (ps:=[(0,.int i64 2),(7,.agg [v1,v2].toArray)]) (vs:=Ft v1 v2) k (by assumption) rfl (by decide) rfl (by kernel_rfl) fun a k=>?_;refine av ⟨s0,?_⟩;have hx:=LO b8;have O:=LN b3 b2;have d9:((Ft v1 v2):Tad).length=27:=by unfold Ft;simp only[aK];decide+kernel
 generalize g0:(kA P)=x at hx O H;generalize g3:Ft v1 v2=us at k O d9;let F0:Tan->bG->Ow->Prop:=fun w S G=>G=ow/\GM w S G b (R.cells g.bad) R g/\bV w S (.agg us.toArray) x;let F1:Tad->Tad->Tan->bG->Ow->Prop:=fun d c w S ow=>GM w S ow b (R.cells g.bad) R (ic i (bD x s).2 g)/\bV w S (.agg d.toArray) (bD x s).1.1/\bV w S (.agg c.toArray) (bD x s).1.2.2;have U:∀w S ow o,Wf w S ow->F0 w S ow->F0 (w.alloc o) S ow:=fun w S ow o X h=>⟨h.1,h.2.1.O (bB.alloc X o).1 (bB.alloc X o).2,h.2.2.O (bB.alloc X o).1⟩;have T:∀d c w S ow o,Wf w S ow->F1 d c w S ow->F1 d c (w.alloc o) S ow:=fun d c w S ow o X h=>⟨h.1.O (bB.alloc X o).1 (bB.alloc X o).2,h.2.1.O (bB.alloc X o).1,h.2.2.O (bB.alloc X o).1⟩;let m0:Tac:=(150,bM bs)::(155,.agg us.toArray)::uM r (j:Int) (i:Int) (.slice (some ⟨bm,a5,none⟩) V.length F) vl b;let m1:Tad->Tad->Tac:=fun d c=>(157,.agg d.toArray)::(158,.int i64 (bD x s).1.2.1)::(159,.agg c.toArray)::uM r (j:Int) (i:Int) (.slice (some ⟨bm,a5,none⟩) V.length F) vl b;let J0:=KK 15 17 w S ow (fun m=>ow m=some (1000+i)) w2 F0 m0;let J1:=fun d c=>KK 15 17 w S ow (fun m=>ow m=some (1000+i)) w2 (F1 d c) (m1 d c);let A:=AT Try.prog pK Q (SX (fun m=>ow m=some (1000+i)) w2);have a3:J0 none none a w2:=⟨S,ow,k.sb,E.wf,d0,s0,⟨rfl,E,O⟩,hn,(fun _ h=>by cases h),(fun _ h=>by cases h),(fun _ h=>by cases h),(fun _ h=>by cases h),(fun _ h=>by cases h)⟩;let C9:Tad->Tad->Prop:=fun d c=>d.length=29/\c.length=8/\(∀u∈d,u.oneCell'=true)/\(∀u∈c,u.oneCell'=true)/\Has eD (bD x s).1.1/\Has BP (bD x s).1.2.2
 have M:∀d c y B9 a w,C9 d c->J1 d c (some y) (some B9) a w->A [0,1,2,3,4,5,6,7,8,9,10,11,12,13,14,15,16,17,18] a w:=by rintro d c y B9 a w3 ⟨J,C,Vp,L3,Vk,Qi⟩ ⟨S3,Qd,h⟩;refine LZ (p:=[19,20,21]) (p2:=[0,1,2,3,4,5,6,7,8,9,10,11,12,13,14,15,16,17,18,19,20,21]) (n0:=0) (by kernel_rfl) hQ ac2 rfl ?_;obtain⟨z7,d2,l7⟩:=h.c7 y rfl;obtain⟨z9,d1,l9⟩:=h.c9 B9 rfl;have b6:y≠B9:=fun e=>h.ne y rfl (by rw[e]);obtain⟨g1,r1,r2⟩:=h.f;obtain⟨sa,wa,la⟩:=l7.set (us:=d) h.wf;have a9:=l9.O sa (fun e=>b6 e.symm);obtain⟨sb,wb,lb⟩:=a9.set (us:=c) wa;have iu:=la.O sb b6;have x1:=DD h.sx (h.g7 y rfl) d.toArray;have x2:=DD x1 (h.g9 B9 rfl) c.toArray;refine DA (vs:=d) h.kn (by rw[J];kernel_rfl) rfl rfl l7 (by rw[d2,J]) Vp x1 fun a k=>?_;refine xn k x1 rfl (by decide) rfl fun a k=>?_;refine DA (vs:=c) k (by rw[C];kernel_rfl) rfl rfl a9 (by rw[d1,C]) L3 x2 fun a k=>?_;refine av ⟨x2,JL (by rw[N];decide) (by kernel_rfl) ?_⟩;have Z:=h.st.eC t h.wf sa (fun m e=>by rw[show m=y from e];rw[<-e2.heap];exact h.g7 y rfl);have c5:=Z.eC t wa sb (fun m e=>by rw[show m=B9 from e];rw[<-e2.heap];exact h.g9 B9 rfl);have g2:=(g1.O sa wa).O sb wb;exact H _ _ _ _ B9 c (k.sb) c5 ⟨R,g2,a2,d7⟩ h.n lb C ((r2.O sa).O sb) Qi
 have a7:∀d c y a w,C9 d c->J1 d c (some y) none a w->A [0,1,2,3,4,5,6,7,8,9,10,11,12,13,14,15,16,17] a w:=fun d c y a w K h=>
  LZ (p:=[18]) (n0:=0) (by kernel_rfl) hQ Jh rfl (x9 (by decide) (by decide) (T d c) t h fun B a w h=>M d c y B a w K h)
 have a6:∀d c B9 a w,C9 d c->J1 d c none (some B9) a w->A [0,1,2,3,4,5,6,7,8,9,10,11,12,13,14,15,16,18] a w:=fun d c B9 a w K h=>
  LZ (p:=[17]) (n0:=0) (by kernel_rfl) hQ Ji rfl (ya (by decide) (T d c) t h fun B a w h=>mb (M d c B B9 a w K h) rfl (by kernel_rfl))
 have nC:∀d c a w,C9 d c->J1 d c none none a w->A [0,1,2,3,4,5,6,7,8,9,10,11,12,13,14,15,16] a w:=by
  intro d c a w K h;refine rD (R:=[17,18]) (by rw[N];decide) (by kernel_rfl) (by decide) fun i I=>?_;simp only[aH,dv,or_false]at I;rcases I with rfl|rfl
  .exact hZ (by kernel_rfl) Ji (ya (by decide) (T d c) t h fun B a w h=>a7 d c B a w K h)
  exact hZ (by kernel_rfl) Jh (x9 (by decide) (by decide) (T d c) t h fun B a w h=>a6 d c B a w K h)
 have call:∀(p p2:Tai) b7 b9 a w,xO pK p [13,14,15,16] 4=true->p++[13,14,15,16]=p2->J0 b7 b9 a w->(∀d c a w,C9 d c->J1 d c b7 b9 a w->A p2 a w)->TL Try.prog (gl pK [12]) (NQ (fun a w=>SX (fun m=>ow m=some (1000+i)) w2 w/\A p a w) Q) (SX (fun m=>ow m=some (1000+i)) w2) 0 [oC 156 16 #[(.tmp 150),(.tmp 155)] #[52,44]] [oC 156 16 #[(.tmp 150),(.tmp 155)] #[52,44]] 0 a w:=by
  rintro p p2 b7 b9 a w3 hp e3 ⟨S3,Qd,h⟩ hN;obtain⟨e4,g1,r1⟩:=h.f;obtain⟨h8,L,b5,-⟩:=g1.eT i s hs;rw[a4]at L;injection L with L;subst L;refine iB (vs:=[bM bs,.agg us.toArray]) h.kn (by decide) rfl (by decide) c16.enter ?_ (CP b5 h.wf (by omega) hx r1 (b4.le (by omega))) ?_
  .cases b7<;>cases b9<;>rfl
  rintro e9 w4 ⟨ve,vo,S4,L9,rfl,qb,Md,Ms,⟨Y8,Vk⟩,Y7,Qi⟩
  have s4:SX (fun m=>ow m=some (1000+i)) w2 w4:=by
   refine⟨aY h.sx.1 qb.size,fun m hb hx=>?_⟩;refine Eq.trans ?_ (h.sx.2 m hb hx);have c3:=ar hb h.sx.1;cases ho:Qd m with
   |none=>exact qb.free m c3 ho (fun h=>h)
   |some l=>
    refine qb.E1 m l c3 ho (fun hl=>hx ?_);have hl:l=1000+i:=hl;subst hl;rw[<-e4];exact ho
  refine⟨_,rfl,fun h=>absurd rfl h,fun a k=>av ⟨s4,?_⟩⟩;obtain⟨d,de,rfl,h4,J,f5,f7,-,a1⟩:=KE Y8 Vk rfl;obtain⟨c,h7,rfl,h3,C,f4,f6,-,a0⟩:=KE Y7 Qi rfl;refine LZ hp hQ ac1 e3 ?_;refine sm k fun a k=>?_;refine pj (j:=0) k (by assumption) rfl (by decide) rfl rfl fun a k=>?_;refine pj (j:=1) k (by assumption) rfl (by decide) rfl rfl fun a k=>?_;refine pj (j:=2) k (by assumption) rfl (by decide) rfl rfl fun a k=>?_;refine av ⟨s4,hN d c a w4 ⟨J,C,a1,a0,Vk,Qi⟩ ?_⟩;have Z:=h.st.fF t h.wf qb (.inr (by omega));have f3:=g1.Aa (i:=i) (s':=(bD x s).2) qb Md I a4 Ms (gE Ms) d8;refine⟨S4,L9,?_,Md,Z,s4,⟨f3,Y8,Y7⟩,h.n.O qb (fun l hl=>by simp only[iF]at hl;subst hl;exact .inr (by omega)),fun B hB=>?_,fun B hB=>?_,h.g7,h.g9,h.ne⟩
  .cases b7<;>cases b9<;>exact k.sub ⟨rfl,rfl,rfl,rfl,rfl,rfl,rfl,by repeat constructor⟩
  .obtain⟨z,h1,h2⟩:=h.c7 B hB;exact⟨z,h1,h2.O qb id⟩
  obtain⟨z,h1,h2⟩:=h.c9 B hB;exact⟨z,h1,h2.O qb id⟩
 have a8:∀y B9 a w,J0 (some y) (some B9) a w->A [0,1,2,3,4,5,6,7,8,9,10,11,17,18] a w:=fun y B9 a w h=>
  LZ (p:=[12]) (n0:=0) (by kernel_rfl) hQ Jg rfl (call _ _ _ _ _ _ (by kernel_rfl) rfl h fun d c a w K h=>mb (M d c y B9 a w K h) rfl (by kernel_rfl))
 have nA:∀y a w,J0 (some y) none a w->A [0,1,2,3,4,5,6,7,8,9,10,11,17] a w:=by
  intro y a w h;refine rD (R:=[12,18]) (by rw[N];decide) (by kernel_rfl) (by decide) fun i I=>?_;simp only[aH,dv,or_false]at I;rcases I with rfl|rfl
  .exact hZ (by kernel_rfl) Jg (call _ _ _ _ _ _ (by kernel_rfl) rfl h fun d c a w K h=>mb (a7 d c y a w K h) rfl (by kernel_rfl))
  exact hZ (by kernel_rfl) Jh (x9 (by decide) (by decide) U t h fun B a w h=>a8 y B a w h)
 have nB:∀B9 a w,J0 none (some B9) a w->A [0,1,2,3,4,5,6,7,8,9,10,11,18] a w:=by
  intro B9 a w h;refine rD (R:=[12,17]) (by rw[N];decide) (by kernel_rfl) (by decide) fun i I=>?_;simp only[aH,dv,or_false]at I;rcases I with rfl|rfl
  .exact hZ (by kernel_rfl) Jg (call _ _ _ _ _ _ (by kernel_rfl) rfl h fun d c a w K h=>mb (a6 d c B9 a w K h) rfl (by kernel_rfl))
  exact hZ (by kernel_rfl) Ji (ya (by decide) U t h fun B a w h=>mb (a8 B B9 a w h) rfl (by kernel_rfl))
 refine rD (R:=[12,17,18]) (by rw[N];decide) (by kernel_rfl) (by decide) fun i I=>?_;simp only[aH,dv,or_false]at I;rcases I with rfl|rfl|rfl
 .exact hZ (by kernel_rfl) Jg (call _ _ _ _ _ _ (by kernel_rfl) rfl a3 fun d c a w K h=>nC d c a w K h)
 .exact hZ (by kernel_rfl) Ji (ya (by decide) U t a3 fun B a w h=>nA B a w h)
 exact hZ (by kernel_rfl) Jh (x9 (by decide) (by decide) U t a3 fun B a w h=>nB B a w h)
end
end Go.Proofs.Ytjhmkaninmgilaa
namespace Go.Proofs.Ytjhmkaninmgilaa
open Go Go.RowKit Go.dG Go.Proofs
attribute [local irreducible] TL AT
def Jl:bK (gl pL [20])=[(some 12,.alloc 78,none)]:=by kernel_rfl
def Jk:bK (gl pL [21])=[(some 14,.alloc 75,none)]:=by kernel_rfl
def Jj:bK (gl pL [15])=[oC 131 16 #[(.tmp 122),(.tmp 130)] #[52,44]]:=by kernel_rfl
def ac3:bK (gl pL [16,17,18,19])=[oM 115 131,(some 132,.extract (.tmp 115) 0,none),(some 133,.extract (.tmp 115) 1,none),(some 134,.extract (.tmp 115) 2,none)]:=by kernel_rfl
def ac4:bK (gl pL [22,23,24])=[oS 78 12 132,oA 13 133,oS 75 14 134]:=by kernel_rfl
section
variable{w:Tan}{S:bG}{ow:Ow}{b i j:Nat}{g:GS}{tv vl:Tao}{r q:Int}{Q:O3}{a:Act}
def R5{Al:Tap Addr}{F:Nat}{ls:Tah}{d:D}(hQ:QP Q)(hn:mF ow)(h:iA w S ow b g)(K:i<g.eT.length)(h0:i<100)(d4:g.aT.length<=5)(b2:Ok (bS g i) 28)(hr:bV w S (.slice Al ls.length F) (.list ls))(hj:ls[j]?=some d)(hd:Has rA d)(e5:Dr w ow Al)(k:Kn 227 a (uM (j:Int) q (i:Int) tv (.slice Al ls.length F) b))(E:∀a W S' J X m c,Kn 227 a ((14,bM X)::(13,.int i64 (bD (wW c) (bS g i)).1.2.1)::uM (j:Int) q (i:Int) tv (.slice Al ls.length F) b)->bB LG ax w S ow W S' J->iA W S' J b (ic i (bD (wW c) (bS g i)).2 g)->mF J->
   fU W S' J X 75 m->m.length=8->bV W S' (.agg m.toArray) (bD (wW c) (bS g i)).1.2.2->Has BP (bD (wW c) (bS g i)).1.2.2->Q .normal a W):(Code.region 28 pL true).wp Try.prog Q a w:=by
 obtain⟨R,gm,a3,d3⟩:=h;have hs:g.eT[i]?=some (bS g i):=ka K;generalize g5:bS g i=s at b2 E hs;have C:=gm.wf;have P:pL.size=25:=by kernel_rfl
 unfold uM at k;refine Te (fun y=>ow y=some (1000+i)) mix fun w2 e2=>?_;have I:=gm.W e2;have c2:bB LG ax w S ow w2 S ow:=bB.W e2 LG ax S ow;have s0:=SX.refl (fun y=>ow y=some (1000+i)) w2;have d2:¬ow b=some (1000+i):=by rw[I.obj.ow];intro h;injection h with h;omega
 obtain⟨bs,a5,g6,g4⟩:=I.eT i s hs;obtain⟨bl,f8,f2,f0,e3,b6⟩:=I.arr.elem (i:=i) (u:=bM bs) (by rw[a3,ab,a5];rfl);have f1:i<(R.la.map bM).length:=by rw[aj,a3,I.qV];exact K
 have d1:¬ow bl=some (1000+i):=by rw[e3];intro h;injection h with h;omega
 have d9:bK (gl pL [0,1,2,3,4,5,6,7,8,9,10,11,12,13,14])=[oM 116 3,oN 117 116,oF 118 59 117 1,oL 119 54 118,oM 120 5,oI 121 54 119 120,oL 122 52 121,oM 123 0,oM 124 8,oI 125 22 123 124,oF 126 51 125 3,oF 127 49 126 8,oL 128 3 127,(some 129,.build 34 #[(0,.tmp 128)],none),(some 130,.build 44 #[(0,.const (.int i64 3)),(3,.tmp 129)],none)]:=by kernel_rfl
 refine LZ (p:=[0,1,2,3,4,5,6,7,8,9,10,11,12,13,14]) (p2:=[0,1,2,3,4,5,6,7,8,9,10,11,12,13,14]) (n0:=15) (by kernel_rfl) hQ d9 rfl ?_;have d8:=hr.O (bB.W e2 ax ax S ow);have g8:j<ls.length:=(aD.1 hj).1;have b5:rA.cells.length=76:=rfl;obtain⟨bm,a6,f9,us,hv,hS,Z,b1,d5⟩:=d8.Fs hj hd (by rw[b5];omega);rw[b5]at hS Z b1;injection hv with hA _ b8;subst hA b8;have e8:bm<w2.heap.size:=I.wf.s _ _ hS;have d0:¬ow bm=some (1000+i):=fun e=>by rw[(e5 _ rfl).2]at e;cases e
 have d7:bV w2 S (.agg us.toArray) d:=by obtain⟨lm,rfl,e4⟩:=eA.1 hd;refine .agg us lm ?_ d5;have:=gh e4;rw[this,Z,Ty.dT];rfl
 obtain⟨c,e7,e6⟩:=LF hd d7 11 rfl
 repeat (first|refine sm k fun a k=>?_|refine ld k (I.cell d2 rfl) fun a k=>?_)
 rw[f2]at k
 repeat refine sm k fun a k=>?_
 refine zg (el:=52) (sz:=1) k rfl rfl f1 fun a k=>?_;refine kx (v:=bM bs) k (by assumption) rfl (by decide) rfl (by kernel_rfl) (by kernel_rfl) (eP f0 d1 (by rw[bL];exact b6)) fun a k=>?_
 repeat refine sm k fun a k=>?_
 refine ot (el:=51) (sz:=76) k (by assumption) rfl (by decide) rfl rfl (by kernel_rfl) (by kernel_rfl) (by omega) (by omega) fun a k=>?_;rw[cY]at k
 repeat (first|refine sm k fun a k=>?_|refine ld k (eP e8 d0 (b1 11 _ e7)) fun a k=>?_)
 refine gU (ps:=[(0,.int i64 c)]) (vs:=((mH.drop 5).take 7).set 0 (.int i64 c)) k (by assumption) rfl (by decide) rfl (by kernel_rfl) fun a k=>?_;refine gU (ps:=[(0,.int i64 3),(3,.agg (((mH.drop 5).take 7).set 0 (.int i64 c)).toArray)]) (vs:=KA c) k (by assumption) rfl (by decide) rfl (by kernel_rfl) fun a k=>?_;refine av ⟨s0,?_⟩;have hx:=PZ e6;have T:bV w2 S (.agg (KA c).toArray) (wW c):=PY;have d6:((KA c):Tad).length=27:=by unfold KA;simp only[aK];decide+kernel
 have E:=fun a W S1 c3 X m=>E a W S1 c3 X m c;generalize g0:(wW c)=x at hx T E;generalize g3:KA c=us at k T d6;let F0:Tan->bG->Ow->Prop:=fun w S J=>J=ow/\GM w S J b (R.cells g.bad) R g/\bV w S (.agg us.toArray) x;let F1:Tad->Tad->Tan->bG->Ow->Prop:=fun t m w S ow=>GM w S ow b (R.cells g.bad) R (ic i (bD x s).2 g)/\bV w S (.agg t.toArray) (bD x s).1.1/\bV w S (.agg m.toArray) (bD x s).1.2.2;have V:∀w S ow o,Wf w S ow->F0 w S ow->F0 (w.alloc o) S ow:=fun w S ow o Y h=>⟨h.1,h.2.1.O (bB.alloc Y o).1 (bB.alloc Y o).2,h.2.2.O (bB.alloc Y o).1⟩;have U:∀t m w S ow o,Wf w S ow->F1 t m w S ow->F1 t m (w.alloc o) S ow:=fun t m w S ow o Y h=>⟨h.1.O (bB.alloc Y o).1 (bB.alloc Y o).2,h.2.1.O (bB.alloc Y o).1,h.2.2.O (bB.alloc Y o).1⟩;let m0:Tac:=(122,bM bs)::(130,.agg us.toArray)::uM (j:Int) q (i:Int) tv (.slice (some ⟨bm,a6,none⟩) ls.length F) b;let m1:Tad->Tad->Tac:=fun t m=>(132,.agg t.toArray)::(133,.int i64 (bD x s).1.2.1)::(134,.agg m.toArray)::uM (j:Int) q (i:Int) tv (.slice (some ⟨bm,a6,none⟩) ls.length F) b;let J0:=KK 12 14 w S ow (fun y=>ow y=some (1000+i)) w2 F0 m0;let J1:=fun t m=>KK 12 14 w S ow (fun y=>ow y=some (1000+i)) w2 (F1 t m) (m1 t m);let A:=AT Try.prog pL Q (SX (fun y=>ow y=some (1000+i)) w2);have a4:J0 none none a w2:=⟨S,ow,k.sb,I.wf,c2,s0,⟨rfl,I,T⟩,hn,(fun _ h=>by cases h),(fun _ h=>by cases h),(fun _ h=>by cases h),(fun _ h=>by cases h),(fun _ h=>by cases h)⟩;let C9:Tad->Tad->Prop:=fun t m=>t.length=29/\m.length=8/\(∀u∈t,u.oneCell'=true)/\(∀u∈m,u.oneCell'=true)/\Has eD (bD x s).1.1/\Has BP (bD x s).1.2.2
 have O:∀t m G B9 a w,C9 t m->J1 t m (some G) (some B9) a w->A [0,1,2,3,4,5,6,7,8,9,10,11,12,13,14,15,16,17,18,19,20,21] a w:=by rintro t m G B9 a w3 ⟨L,H,Vp,L3,Vk,Qi⟩ ⟨S3,Qd,h⟩;refine LZ (p:=[22,23,24]) (p2:=[0,1,2,3,4,5,6,7,8,9,10,11,12,13,14,15,16,17,18,19,20,21,22,23,24]) (n0:=0) (by kernel_rfl) hQ ac4 rfl ?_;obtain⟨z7,c5,l7⟩:=h.c7 G rfl;obtain⟨z9,c4,l9⟩:=h.c9 B9 rfl;have b4:G≠B9:=fun e=>h.ne G rfl (by rw[e]);obtain⟨g1,r1,r2⟩:=h.f;obtain⟨sa,wa,la⟩:=l7.set (us:=t) h.wf;have b0:=l9.O sa (fun e=>b4 e.symm);obtain⟨sb,wb,lb⟩:=b0.set (us:=m) wa;have iu:=la.O sb b4;have x1:=DD h.sx (h.g7 G rfl) t.toArray;have x2:=DD x1 (h.g9 B9 rfl) m.toArray;refine DA (vs:=t) h.kn (by rw[L];kernel_rfl) rfl rfl l7 (by rw[c5,L]) Vp x1 fun a k=>?_;refine xn k x1 rfl (by decide) rfl fun a k=>?_;refine DA (vs:=m) k (by rw[H];kernel_rfl) rfl rfl b0 (by rw[c4,H]) L3 x2 fun a k=>?_;refine av ⟨x2,JL (by rw[P];decide) (by kernel_rfl) ?_⟩;have a0:=h.st.eC C h.wf sa (fun y e=>by rw[show y=G from e];rw[<-e2.heap];exact h.g7 G rfl);have c1:=a0.eC C wa sb (fun y e=>by rw[show y=B9 from e];rw[<-e2.heap];exact h.g9 B9 rfl);have g2:=(g1.O sa wa).O sb wb;exact E _ _ _ _ B9 m (k.sb) c1 ⟨R,g2,a3,d3⟩ h.n lb H ((r2.O sa).O sb) Qi
 have a8:∀t m G a w,C9 t m->J1 t m (some G) none a w->A [0,1,2,3,4,5,6,7,8,9,10,11,12,13,14,15,16,17,18,19,20] a w:=fun t m G a w M h=>
  LZ (p:=[21]) (n0:=0) (by kernel_rfl) hQ Jk rfl (x9 (by decide) (by decide) (U t m) C h fun B a w h=>O t m G B a w M h)
 have a7:∀t m B9 a w,C9 t m->J1 t m none (some B9) a w->A [0,1,2,3,4,5,6,7,8,9,10,11,12,13,14,15,16,17,18,19,21] a w:=fun t m B9 a w M h=>
  LZ (p:=[20]) (n0:=0) (by kernel_rfl) hQ Jl rfl (ya (by decide) (U t m) C h fun B a w h=>mb (O t m B B9 a w M h) rfl (by kernel_rfl))
 have nC:∀t m a w,C9 t m->J1 t m none none a w->A [0,1,2,3,4,5,6,7,8,9,10,11,12,13,14,15,16,17,18,19] a w:=by
  intro t m a w M h;refine rD (R:=[20,21]) (by rw[P];decide) (by kernel_rfl) (by decide) fun i K=>?_;simp only[aH,dv,or_false]at K;rcases K with rfl|rfl
  .exact hZ (by kernel_rfl) Jl (ya (by decide) (U t m) C h fun B a w h=>a8 t m B a w M h)
  exact hZ (by kernel_rfl) Jk (x9 (by decide) (by decide) (U t m) C h fun B a w h=>a7 t m B a w M h)
 have call:∀(p p2:Tai) b7 b9 a w,xO pL p [16,17,18,19] 4=true->p++[16,17,18,19]=p2->J0 b7 b9 a w->(∀t m a w,C9 t m->J1 t m b7 b9 a w->A p2 a w)->TL Try.prog (gl pL [15]) (NQ (fun a w=>SX (fun y=>ow y=some (1000+i)) w2 w/\A p a w) Q) (SX (fun y=>ow y=some (1000+i)) w2) 0 [oC 131 16 #[(.tmp 122),(.tmp 130)] #[52,44]] [oC 131 16 #[(.tmp 122),(.tmp 130)] #[52,44]] 0 a w:=by
  rintro p p2 b7 b9 a w3 hp e0 ⟨S3,Qd,h⟩ hN;obtain⟨e1,g1,r1⟩:=h.f;obtain⟨h6,N,b3,-⟩:=g1.eT i s hs;rw[a5]at N;injection N with N;subst N;refine iB (vs:=[bM bs,.agg us.toArray]) h.kn (by decide) rfl (by decide) c16.enter ?_ (CP b3 h.wf (by omega) hx r1 (b2.le (by omega))) ?_
  .cases b7<;>cases b9<;>rfl
  rintro e9 w4 ⟨ve,vo,S4,L9,rfl,qb,Md,Ms,⟨Y8,Vk⟩,Y7,Qi⟩
  have s4:SX (fun y=>ow y=some (1000+i)) w2 w4:=by
   refine⟨aY h.sx.1 qb.size,fun y hb hx=>?_⟩;refine Eq.trans ?_ (h.sx.2 y hb hx);have c0:=ar hb h.sx.1;cases ho:Qd y with
   |none=>exact qb.free y c0 ho (fun h=>h)
   |some l=>
    refine qb.E1 y l c0 ho (fun hl=>hx ?_);have hl:l=1000+i:=hl;subst hl;rw[<-e1];exact ho
  refine⟨_,rfl,fun h=>absurd rfl h,fun a k=>av ⟨s4,?_⟩⟩;obtain⟨t,de,rfl,h4,L,f5,f7,-,a2⟩:=KE Y8 Vk rfl;obtain⟨m,h5,rfl,h3,H,f4,f6,-,a1⟩:=KE Y7 Qi rfl;refine LZ hp hQ ac3 e0 ?_;refine sm k fun a k=>?_;refine pj (j:=0) k (by assumption) rfl (by decide) rfl rfl fun a k=>?_;refine pj (j:=1) k (by assumption) rfl (by decide) rfl rfl fun a k=>?_;refine pj (j:=2) k (by assumption) rfl (by decide) rfl rfl fun a k=>?_;refine av ⟨s4,hN t m a w4 ⟨L,H,a2,a1,Vk,Qi⟩ ?_⟩;have a0:=h.st.fF C h.wf qb (.inr (by omega));have f3:=g1.Aa (i:=i) (s':=(bD x s).2) qb Md K a5 Ms (gE Ms) d4;refine⟨S4,L9,?_,Md,a0,s4,⟨f3,Y8,Y7⟩,h.n.O qb (fun l hl=>by simp only[iF]at hl;subst hl;exact .inr (by omega)),fun B hB=>?_,fun B hB=>?_,h.g7,h.g9,h.ne⟩
  .cases b7<;>cases b9<;>exact k.sub ⟨rfl,rfl,rfl,rfl,rfl,rfl,rfl,by repeat constructor⟩
  .obtain⟨z,h1,h2⟩:=h.c7 B hB;exact⟨z,h1,h2.O qb id⟩
  obtain⟨z,h1,h2⟩:=h.c9 B hB;exact⟨z,h1,h2.O qb id⟩
 have a9:∀G B9 a w,J0 (some G) (some B9) a w->A [0,1,2,3,4,5,6,7,8,9,10,11,12,13,14,20,21] a w:=fun G B9 a w h=>
  LZ (p:=[15]) (n0:=0) (by kernel_rfl) hQ Jj rfl (call _ _ _ _ _ _ (by kernel_rfl) rfl h fun t m a w M h=>mb (O t m G B9 a w M h) rfl (by kernel_rfl))
 have nA:∀G a w,J0 (some G) none a w->A [0,1,2,3,4,5,6,7,8,9,10,11,12,13,14,20] a w:=by
  intro G a w h;refine rD (R:=[15,21]) (by rw[P];decide) (by kernel_rfl) (by decide) fun i K=>?_;simp only[aH,dv,or_false]at K;rcases K with rfl|rfl
  .exact hZ (by kernel_rfl) Jj (call _ _ _ _ _ _ (by kernel_rfl) rfl h fun t m a w M h=>mb (a8 t m G a w M h) rfl (by kernel_rfl))
  exact hZ (by kernel_rfl) Jk (x9 (by decide) (by decide) V C h fun B a w h=>a9 G B a w h)
 have nB:∀B9 a w,J0 none (some B9) a w->A [0,1,2,3,4,5,6,7,8,9,10,11,12,13,14,21] a w:=by
  intro B9 a w h;refine rD (R:=[15,20]) (by rw[P];decide) (by kernel_rfl) (by decide) fun i K=>?_;simp only[aH,dv,or_false]at K;rcases K with rfl|rfl
  .exact hZ (by kernel_rfl) Jj (call _ _ _ _ _ _ (by kernel_rfl) rfl h fun t m a w M h=>mb (a7 t m B9 a w M h) rfl (by kernel_rfl))
  exact hZ (by kernel_rfl) Jl (ya (by decide) V C h fun B a w h=>mb (a9 B B9 a w h) rfl (by kernel_rfl))
 refine rD (R:=[15,20,21]) (by rw[P];decide) (by kernel_rfl) (by decide) fun i K=>?_;simp only[aH,dv,or_false]at K;rcases K with rfl|rfl|rfl
 .exact hZ (by kernel_rfl) Jj (call _ _ _ _ _ _ (by kernel_rfl) rfl a4 fun t m a w M h=>nC t m a w M h)
 .exact hZ (by kernel_rfl) Jl (ya (by decide) V C a4 fun B a w h=>nA B a w h)
 exact hZ (by kernel_rfl) Jk (x9 (by decide) (by decide) V C a4 fun B a w h=>nB B a w h)
end
end Go.Proofs.Ytjhmkaninmgilaa
namespace Go.Proofs.Ytjhmkaninmgilaa
open Go Go.RowKit Go.dG Go.Proofs
attribute [local irreducible] TL AT
noncomputable def HV:Code:=.seq (.region 28 pL true) (.region 29 Nl false)
noncomputable def U4:Code:=.seq (.seq (.region 33 Nj false) (.cond (.tmp 165) (.region 34 Ni false) (.seq (.region 35 Nh false) (.cond (.tmp 173) (.seq (.region 36 Tk false) .ret) .skip)))) (.exit 3)
noncomputable def Ar:Code:=.seq (.region 31 pK true) (.seq (.region 32 Nk false) U4)
section
variable{w w0 w':Tan}{S S0 S':bG}{ow kJ cE:Ow}{b i j K L:Nat}{N:Int}{g:GS}{tv vl:Tao}{r q:Int}{Q:O3}{a:Act}
def Yc{A:Tap Addr}{m:Nat}{ls:Tah}{d:D}(R:QP Q)(h:iA w S ow b g)(Y:mF ow)(f:GI 5 (L+28) N g)(hN:N<=99990000)(O:i<5)(X:bV w S (.slice A ls.length m) (.list ls))(Z:ls[j]?=some d)(hd:Has rA d)(P:Dr w ow A)(k:Kn 227 a (uM (j:Int) q (i:Int) tv (.slice A ls.length m) b))(l:∀a W S' cE c,Kn 227 a (uM (j:Int) q (i:Int) tv (.slice A ls.length m) b)->bB LG ax w S ow W S' cE->iA W S' cE b (vu i (wW c) g)->GI 5 L (N+1) (vu i (wW c) g)->Q .normal a W):HV.wp Try.prog Q a w:=by
 have o:=h.wf;have M:i<g.eT.length:=by rw[f.n1];exact O
 have H:g.aT.length<=5:=by rw[f.len.aT];exact f.len.n5
 obtain⟨a1,a2,-,-⟩:=f.get O;unfold HV;refine wp_seq (R5 (by exact R) Y h M (by omega) H (a2.ok a1 (by omega) (by omega)) X Z hd P k ?_);intro a w1 S1 E a0 T c k C x J F y p I;obtain⟨-,s,t⟩:=f.prop O (by omega) (wW c);unfold uM at k;refine rg ax R abL ?_;intro U z;have u:=x.W z;have B:=C.eN o x.wf z;have s0:=SX.refl ax U;have n:=F.W z
 repeat refine sm k fun a k=>?_
 refine lN (vs:=T) k rfl y (fun w' G q v V=>by rw[aq];exact n.cell id V w' G) fun a k=>?_;refine iB (vs:=[bM b,.int i64 (i:Int),.agg T.toArray,.bool false]) k (by decide) rfl (by decide) vH rfl (vB (g:=ic i (bD (wW c) (bS g i)).2 g) u J (p.O (bB.W z ax ax S1 E)) I s) ?_;rintro e w5 ⟨S5,EY,rfl,uV,Ql⟩;refine⟨_,rfl,fun h=>absurd rfl h,fun a k=>?_⟩;exact av (l _ _ S5 EY c (k.sb) (jl o u.wf B uV nE) Ql t)
def RE{A:Tap Addr}{p f:Nat}{u:Tah}(J:QP Q)(h:iA w S ow b g)(hn:mF ow)(o:GI 5 (L+28) N g)(hN:N<=99990000)(hi:i<5)(hr:bV w S (.slice A u.length p) (.list u))(hj:u[j]?=some (nZ f))(a8:j<5)(a4:f<=4)(a7:Dr w ow A)(H:(bD (kA f) (bS g i)).1.2.1=0\/(bD (kA f) (bS g i)).1.2.1=21)(k:Kn 227 a (uM r (j:Int) (i:Int) (.slice A u.length p) vl b))(d:∀a W S' cE,Kn 227 a (uM r (if(bD (kA f) (bS g i)).1.2.1=0 then(j:Int)+1 else(j:Int)) (i:Int) (.slice A u.length p) vl b)->bB LG ax w S ow W S' cE->iA W S' cE b (vu i (kA f) g)->GI 5 L (N+1) (vu i (kA f) g)->Q (.exit 3) a W):Ar.wp Try.prog Q a w:=by
 have m:=h.wf;have a5:i<g.eT.length:=by rw[o.n1];exact hi
 have Z:g.aT.length<=5:=by rw[o.len.aT];exact o.len.n5
 obtain⟨a1,a2,-,-⟩:=o.get hi;unfold Ar;refine wp_seq (R4 (by exact J) hn h a5 (by omega) Z (a2.ok a1 (by omega) (by omega)) hr hj a4 a7 k ?_);intro a w1 S1 V a9 co k U G a3 X I C a0;obtain⟨-,E,n⟩:=o.prop hi (by omega) (kA f);have a6:kz i (bD (kA f) (bS g i)).1.2.2 false (ic i (bD (kA f) (bS g i)).2 g)=vu i (kA f) g:=rfl;rw[<-a6]at n d;generalize hy:bD (kA f) (bS g i)=y at*;unfold uM at k;refine wp_seq (rg ax J abJ ?_);intro w2 O;have F:=G.W O;have T:=U.eN m G.wf O;have z:=SX.refl ax w2;have B:=X.W O
 repeat refine sm k fun a k=>?_
 refine lN (vs:=co) k rfl I (fun w' Y q v hv=>by rw[aq];exact B.cell id hv w' Y) fun a k=>?_;refine iB (vs:=[bM b,.int i64 (i:Int),.agg co.toArray,.bool false]) k (by decide) rfl (by decide) vH rfl (vB (g:=ic i y.2 g) F a3 (C.O (bB.W O ax ax S1 V)) a0 E) ?_;rintro e w5 ⟨S5,EY,rfl,uV,Ql⟩;refine⟨_,rfl,fun h=>absurd rfl h,fun a k=>av ?_⟩;have R:=jl m F.wf T uV nE;have k:=k.sb (l:=(16,.int i64 y.1.2.1)::uM r (j:Int) (i:Int) (.slice A u.length p) vl b);clear z;unfold U4;unfold uM at k;refine wp_seq (wp_seq (rg ax J abI ?_));intro w6 e6;have t:=Ql.W e6;have x:=R.eN m Ql.wf e6;have z:=SX.refl ax w6
 repeat refine sm k fun a k=>?_
 refine cm (c:=y.1.2.1==0) k rfl rfl rfl fun a k=>?_;refine av (bw k rfl ?_);have k:=k.sb (l:=(16,.int i64 y.1.2.1)::uM r (j:Int) (i:Int) (.slice A u.length p) vl b);clear z;unfold uM at k;rcases H with H|H
 .rw[H]at k d⊢;rw[if_pos rfl]at d;rw[if_pos (by decide)];refine fV (n0:=0) ax mix (by exact J) abH (by decide) ?_;intro P M;have z:=SX.refl ax P
  repeat refine sm k fun a k=>?_
  refine iK (s:=(j:Int)+1) k (by assumption) rfl (by decide) rfl rfl (wrap64 (by omega) (by omega)) fun a k=>?_
  repeat refine sm k fun a k=>?_
  exact av (wp_exit (d _ _ S5 EY (k.sb) (x.eN m t.wf M) (t.W M) n))
 rw[H]at k d⊢;rw[if_neg (by decide)]at d;rw[if_neg (by decide)];refine wp_seq (fV (n0:=0) ax mix (by exact J) abG (by decide) ?_);intro P M;have z:=SX.refl ax P
 repeat refine sm k fun a k=>?_
 refine cm (c:=false) k rfl rfl rfl fun a k=>?_
 repeat refine sm k fun a k=>?_
 refine pk (c:=false) (v:=.bool false) k rfl rfl fun a k=>?_;refine av (bw k rfl (wp_skip ?_));exact wp_exit (d _ _ S5 EY (k.sb) (x.eN m t.wf M) (t.W M) n)
end
end Go.Proofs.Ytjhmkaninmgilaa
namespace Go.Proofs.Ytjhmkaninmgilaa
open Go Go.RowKit Go.dG Go.Proofs
attribute [local irreducible] TL AT
structure Kp(w w':Tan):Prop where
 size:w.heap.size<=w'.heap.size
 os:w'.os=w.os
 tape:w'.tape=w.tape
 output:w'.output=w.output
 Qe:∀b,b<w.heap.size->w'.heap[b]?=w.heap[b]?
def Kp.trans{w w' GW:Tan}(h:Kp w w')(k:Kp w' GW):Kp w GW:=
 ⟨aY h.size k.size,k.os.trans h.os,k.tape.trans h.tape,k.output.trans h.output,fun b d=>(k.Qe b (ar d h.size)).trans (h.Qe b d)⟩
def Kp.of{L:Taj}{w w':Tan}{S S':bG}{cE:Ow}(h:bB L ax w S (fun _=>none) w' S' cE):Kp w w':=⟨h.size,h.os,h.tape,h.output,fun b d=>h.free b d rfl (fun h=>h)⟩
def _root_.Go.dG.Wf.bare{w:Tan}{S:bG}{ow:Ow}(h:Wf w S ow):Wf w S (fun _=>none):=⟨h.s,fun _ _ h=>(by cases h),fun _ _ _ _ h=>(by cases h)⟩
def yP(g:GS)(x:Nat):Bool:=((bS g x).bH==(bS g 0).li+((bS g 0).le.length:Int))&&(((vo (dU (bS g x))).length:Int)==5)
def tY(g:GS):Nat->Bool
 |0=>true
 |s+1=>tY g s&&yP g s
noncomputable def MU:Code:=.seq (.region 41 Nb false) (.region 42 Na true)
noncomputable def Ax:Code:=.seq (.region 37 Ng false) (.seq (.seq (.region 38 Nf false) (.block 10 (.loop (.seq (.seq (.region 39 Nd false) (.cond (.tmp 175) .skip (.exit 10))) (.seq (.block 11 MU) (.region 40 Nc false)))))) (.seq (.region 43 M9 false) (.cond (.tmp 218) (.seq (.region 44 Jp false) .ret) .skip)))
section
variable{w w0 w':Tan}{S S0 S':bG}{ow kJ cE:Ow}{b i s K L:Nat}{N:Int}{g:GS}{tv vl:Tao}{r q:Int}{c:Bool}{Q:O3}{a:Act}
def X9(hQ:QP Q)(hg:iA w S ow b g)(p:GI 5 K N g)(hs:s<5)(k:Kn 227 a ((19,.int i64 (s:Int))::(18,.bool c)::uM r q ((0:Nat):Int) tv vl b))(d:∀a W,Kn 227 a ((19,.int i64 (s:Int))::(18,.bool (c&&yP g s))::uM r q ((0:Nat):Int) tv vl b)->bB LG ax w S ow W S ow->iA W S ow b g->Q .normal a W):MU.wp Try.prog Q a w:=by
 have o:=hg.wf;have hi:s<g.eT.length:=by rw[p.n1];exact hs
 have O:0<g.eT.length:=by rw[p.n1];decide
 obtain⟨a1,a2,-,-⟩:=p.get (i:=s) hs;obtain⟨d1,d2,-,-⟩:=p.get (i:=0) (by decide);have hx:=ka hi;have hz:=ka O;unfold yP at d;generalize bS g s=x at a1 a2 hx d;generalize bS g 0=z at d1 d2 hz d;obtain⟨R,gm,m,E⟩:=hg;unfold MU;unfold uM at k;refine wp_seq (rg ax hQ abB ?_);intro w1 e1;have n:=gm.W e1;have s0:=SX.refl ax w1
 repeat (first|refine sm k fun a k=>?_|refine ld k (n.cell id rfl) fun a k=>?_)
 obtain⟨bs,a8,a6,b8⟩:=n.eT s x hx;obtain⟨bl,c4,b1,a9,b9,a7⟩:=n.arr.elem (i:=s) (u:=bM bs) (by rw[m,ab,a8];rfl);have b0:(R.la.map bM).length=g.eT.length:=by rw[aj,m];exact n.qV
 rw[b1]at k
 repeat refine sm k fun a k=>?_
 refine zg (el:=52) (sz:=1) k rfl rfl (by rw[b0];exact hi) fun a k=>?_;refine kx (v:=bM bs) k (by assumption) rfl (by decide) rfl (by kernel_rfl) (by kernel_rfl) (eP a9 (fun h=>h) (by rw[bL];exact a7)) fun a k=>?_;refine iB (vs:=[bM bs]) k (by decide) rfl (by decide) P9.enter rfl (kF a6 n.wf (a2.ok a1 (aB _) (by omega))) ?_;rintro e w2 ⟨A1,B,c1,A2,n2,c2,rfl,Qj,pZ,wJ⟩;refine⟨_,rfl,fun _=>pZ.xL _,fun a k=>?_⟩;have b2:=n.O pZ wJ;have s1:=pZ.xL ax;refine mn (nn:=9) k (by decide) rfl (by decide) (by kernel_rfl) (fun zs _=>s1.trans (SX.alloc _ _ _)) fun zs a4 a k=>?_;refine lv (vs:=G5 x (.slice A1 B c1) (.slice A2 n2 c2)) k (by decide) rfl (by kernel_rfl) rfl rfl rfl (heap_alloc_new w2 _) (by show 0+9<=zs.toArray.size;rw[cb];omega) (by simp[G5,Value.oneCell']) (fun h=>absurd rfl h) fun a k=>?_;refine av ?_;have a5:(G5 x (.slice A1 B c1) (.slice A2 n2 c2)).length=9:=rfl;rw[fill_eq a4 a5];obtain⟨A,J,D⟩:=nV (T:=67) (zs:=zs) (us:=G5 x (.slice A1 B c1) (.slice A2 n2 c2)) wJ;have t:=b2.O A J;have a3:bB LG ax w S ow w1 S ow:=bB.W e1 LG ax S ow;have G:=a3.eC o n.wf pZ nE;have y:=G.eC o wJ A (fun bb hb=>by rw[show bb=_ from hb];exact G.size);generalize c3:w2.heap.size=b4 at k D t y⊢;generalize hW:(w2.alloc _).setRow b4 _=W at D t y⊢;have k:=k.sb (l:=(20,.pointer (some ⟨b4,0,none⟩))::(19,.int i64 (s:Int))::(18,.bool c)::uM r q ((0:Nat):Int) tv vl b);clear A J s0 s1;unfold uM at k;refine MO (n0:=11) ax mix (by exact hQ) abA (by kernel_rfl) ?_;intro w4 e4;have f:=t.W e4;have C:=D.W e4;have I:=y.eN o t.wf e4;have s0:=SX.refl ax w4;have l4:=C.cell (X:=ax) (fun h=>h) (j:=4) (v:=.int i64 x.bH) rfl;cases c with
 |false=>
  repeat refine sm k fun a k=>?_
  refine pk (c:=false) (v:=.bool false) k rfl rfl fun a k=>?_
  repeat refine sm k fun a k=>?_
  refine pk (c:=false) (v:=.bool false) k rfl rfl fun a k=>?_
  repeat refine sm k fun a k=>?_
  exact av (d _ _ (k.sb) I ⟨R,f,m,E⟩)
 |true=>
  repeat (first|refine sm k fun a k=>?_|refine ld k (f.cell id (j:=2) rfl) fun a k=>?_|refine ld k (l4) fun a k=>?_)
  obtain⟨F,U,M,b3⟩:=f.eT 0 z hz;obtain⟨c5,b6,Z,V,b5,P⟩:=f.arr.elem (i:=0) (u:=bM F) (by rw[m,ab,U];rfl);have Y:(R.la.map bM).length=g.eT.length:=by rw[aj,m];exact f.qV
  rw[Z]at k
  repeat refine sm k fun a k=>?_
  refine DC (el:=52) (sz:=1) (s:=0) k (by assumption) rfl (by decide) rfl rfl (by kernel_rfl) (by kernel_rfl) (by rw[Y];exact O) fun a k=>?_;refine kx (v:=bM F) k (by assumption) rfl (by decide) rfl (by kernel_rfl) (by kernel_rfl) (eP V (fun h=>h) (by rw[bL];exact P)) fun a k=>?_;refine iB (vs:=[bM F]) k (by decide) rfl (by decide) P9.enter rfl (kF M f.wf (d2.ok d1 (aB _) (by omega))) ?_;rintro e w5 ⟨B1,m1,f1,B2,m2,f2,rfl,-,uV,Vi⟩;refine⟨_,rfl,fun _=>uV.xL _,fun a k=>?_⟩;have a0:=f.O uV Vi;have s5:=uV.xL ax;have b7:=C.O uV id;have H:=I.eC o f.wf uV nE;refine Az (off:=5) (v:=.int i64 (z.li+(z.le.length:Int))) k (by assumption) rfl (by decide) rfl (by kernel_rfl) rfl fun a k=>?_;refine cm (c:=x.bH==z.li+(z.le.length:Int)) k rfl rfl rfl fun a k=>?_;generalize c0:(x.bH==z.li+(z.le.length:Int))=cc at k d;cases cc with
  |false=>
   refine pk (c:=true) (v:=.bool false) k rfl rfl fun a k=>?_
   repeat refine sm k fun a k=>?_
   refine pk (c:=false) (v:=.bool false) k rfl rfl fun a k=>?_
   repeat refine sm k fun a k=>?_
   exact av (d _ _ (k.sb) H ⟨R,a0,m,E⟩)
  |true=>
   refine pk (c:=true) (v:=.bool true) k rfl rfl fun a k=>?_;refine sm k fun a k=>?_;refine SK k (by assumption) rfl (by decide) rfl adJ fun a k=>?_;have l7:∀w',SX ax w4 w'->w'.cell? ⟨b4,0+7+0,none⟩=some (.slice A1 B c1):=C.cell (X:=ax) (fun h=>h) (j:=7) (v:=.slice A1 B c1) rfl
   repeat (first|refine sm k fun a k=>?_|refine ld k (l7) fun a k=>?_)
   refine cm (c:=(B:Int)==5) k rfl rfl rfl fun a k=>?_;refine pk (c:=true) (v:=.bool ((B:Int)==5)) k rfl rfl fun a k=>?_
   repeat refine sm k fun a k=>?_
   rw[Qj]at k;exact av (d _ _ (k.sb) H ⟨R,a0,m,E⟩)
def Yd{A:Tap Addr}{len n:Nat}(y:QP Q)(x:iA w S ow b g)(Z:GI 5 K N g)(G:tY g 5=true->g.bad=false)(k:Kn 227 a (uM r q ((0:Nat):Int) tv (.slice A len n) b))(t:∀a W1 W,Kn 227 a [(2,.bool true)]->bB LG ax w S ow W1 S ow->Kp W1 W->tY g 5=true/\(r≥(len:Int)\/r≥100)->Q .ret a W)(d:∀a W,Kn 227 a (uM r q ((0:Nat):Int) tv (.slice A len n) b)->bB LG ax w S ow W S ow->iA W S ow b g->¬(tY g 5=true/\(r≥(len:Int)\/r≥100))->Q .normal a W):Ax.wp Try.prog Q a w:=by
 have m:=x.wf;unfold Ax;unfold uM at k;refine wp_seq (rg ax y abF ?_);intro w0 e0;have p:=SX.refl ax w0
 repeat refine sm k fun a k=>?_
 refine av ?_;have C:=x.W e0;have T:bB LG ax w S ow w0 S ow:=bB.W e0 LG ax S ow;clear p;refine wp_seq (wp_seq (rg ax y abE ?_));intro w1 e1;have p:=SX.refl ax w1
 repeat refine sm k fun a k=>?_
 refine av ?_
 refine wp_block (wp_loop_ghost (fun mm a W=>∃(s:Nat),mm=5-s/\s<=5/\Kn 227 a ((19,.int i64 (s:Int))::(18,.bool (tY g s))::uM r q ((0:Nat):Int) tv (.slice A len n) b)/\bB LG ax w S ow W S ow/\iA W S ow b g) (5-0)
  ⟨0,rfl,by omega,k.sb,T.eN m C.wf e1,C.W e1⟩ ?_)
 clear k p;rintro mm a W ⟨s,rfl,hs,k,U,x⟩;generalize D:tY g s=J at k;unfold uM at k;refine wp_seq (wp_seq (rg ax y abD ?_));intro w2 e2;have o:=x.W e2;have z:=U.eN m x.wf e2;have p:=SX.refl ax w2
 repeat refine sm k fun a k=>?_
 refine cm (c:=decide ((s:Int)<5)) k rfl rfl rfl fun a k=>?_;refine av (bw k rfl ?_);have k:=k.sb (l:=(19,.int i64 (s:Int))::(18,.bool J)::uM r q ((0:Nat):Int) tv (.slice A len n) b);by_cases B:(s:Int)<5
 .rw[if_pos (by simpa using B)];refine wp_skip ?_;have X:tY g (s+1)=(J&&yP g s):=by rw[<-D];rfl
  refine wp_seq (wp_block (X9 (by exact y) o Z (by omega) k ?_));intro a W k j f;rw[<-X]at k;generalize a0:tY g (s+1)=cd at k;unfold uM at k;refine fV (n0:=0) ax mix (by exact y) abC (by decide) ?_;intro w6 e6;have p:=SX.refl ax w6
  repeat refine sm k fun a k=>?_
  refine iK (s:=((s+1:Nat):Int)) k (by assumption) rfl (by decide) rfl rfl (wrap64 (by omega) (by omega)) fun a k=>?_
  repeat refine sm k fun a k=>?_
  subst a0;have P:=jl m o.wf z j nE;exact av ⟨5-(s+1),by omega,s+1,rfl,by omega,k.sb,P.eN m f.wf e6,f.W e6⟩
 rw[if_neg (by simpa using B)];refine wp_exit ?_;have Y:s=5:=by omega
 subst Y;clear p;unfold uM at k;rw[D]at G t d
 have u:∀a W,Kn 227 a (uM r q ((0:Nat):Int) tv (.slice A len n) b)->bB LG ax w S ow W S ow->iA W S ow b g->(J=true/\(r≥(len:Int)\/r≥100))->(Code.seq (.region 44 Jp false) .ret).wp Try.prog Q a W:=by
  intro a W k U x hc;have E:=G hc.1;obtain⟨R,gm,a2,a1⟩:=x;rw[E]at gm;unfold uM at k;refine wp_seq (fV (n0:=0) ax mix (by exact y) aby (by decide) ?_);intro M e8;have F:=gm.W e8;have O:=U.eN m gm.wf e8;have p:=SX.refl ax M
  repeat (first|refine sm k fun a k=>?_|refine ld k (F.cell id rfl) fun a k=>?_)
  refine qj k (by assumption) rfl (by decide) rfl fun a k=>?_
  repeat refine sm k fun a k=>?_
  refine iB (vs:=[]) k (by decide) rfl (by decide) RT rfl (GC F.wf.bare) ?_;rintro e w9 ⟨S9,ow9,rfl,YU⟩;have V:=Kp.of YU;have s3:SX ax M w9:=⟨V.size,fun bb G hx=>V.Qe bb G⟩;refine⟨_,rfl,fun _=>s3,fun a k=>?_⟩;refine JG (c:=true) (v:=.bool true) k s3 rfl (by decide) rfl rfl fun a k=>?_
  repeat refine sm k fun a k=>?_
  exact av (wp_ret (t a M w9 (k.sb) O V hc))
 refine wp_seq (fV (n0:=0) ax mix (by exact y) abz (by decide) ?_);intro w3 e3;have f:=o.W e3;have j:=z.eN m o.wf e3;have p:=SX.refl ax w3;cases J with
 |false=>
  repeat refine sm k fun a k=>?_
  refine Ff k (by assumption) rfl rfl (by decide) fun a k=>?_;refine Ff k (by assumption) rfl rfl (by decide) fun a k=>?_
  repeat refine sm k fun a k=>?_
  refine pk (c:=false) (v:=.bool false) k rfl rfl fun a k=>?_;refine av (bw k rfl (wp_skip ?_));exact d _ _ (k.sb) j f (fun h=>by cases h.1)
 |true=>
  repeat refine sm k fun a k=>?_
  refine cm (c:=decide (r≥(len:Int))) k rfl rfl rfl fun a k=>?_;by_cases I:r≥(len:Int)
  .rw[decide_eq_true I]at k
   repeat refine sm k fun a k=>?_
   refine pk (c:=true) (v:=.bool true) k rfl rfl fun a k=>?_;refine pk (c:=true) (v:=.bool true) k rfl rfl fun a k=>?_;refine av (bw k rfl ?_);exact u _ _ (k.sb) j f ⟨rfl,.inl I⟩
  rw[decide_eq_false I]at k
  repeat refine sm k fun a k=>?_
  refine cm (c:=decide (r≥100)) k rfl rfl rfl fun a k=>?_;refine pk (c:=false) (v:=.bool (decide (r≥100))) k rfl rfl fun a k=>?_;refine pk (c:=true) (v:=.bool (decide (r≥100))) k rfl rfl fun a k=>?_;refine av (bw k rfl ?_);by_cases H:r≥100
  .rw[if_pos (decide_eq_true H)];exact u _ _ (k.sb) j f ⟨rfl,.inr H⟩
  rw[if_neg (by simpa using H)];exact wp_skip (d _ _ (k.sb) j f (fun h=>h.2.elim I H))
end
end Go.Proofs.Ytjhmkaninmgilaa
namespace Go.Proofs.Ytjhmkaninmgilaa
open Go Go.RowKit Go.dG Go.Proofs
attribute [local irreducible] TL AT
def HI(b r q:Nat)(a:Int)(g:GS):Prop:=
 (r<=9/\g=gR r/\q=0/\a=-1)\/(10<=r/\a=0/\q<=4/\∃E A,ra E A g/\tS A=true/\tP b (121-r) r q (BX A)=true)
def MI(a r q:Nat)(g:GS):Prop:=
 (r<=8/\g=gR (r+1)/\q=0)\/(9<=r/\q<=4/\∃E A,ra E A g/\tP a (121-r) r q A=true)
def HI.le{b r q:Nat}{a:Int}{g:GS}(h:HI b r q a g):r<=120/\q<=4:=by
 rcases h with⟨h1,_,h2,_⟩|⟨_,_,h2,_,_,_,_,h3⟩
 .omega
 refine⟨?_,h2⟩;rcases eK r 121 with h|h
 .omega
 rw[show 121-r=0 by omega]at h3;cases h3
def HI.mid{v r q L:Nat}{u:Int}{N:Int}{g:GS}(h:HI v r q u g)(Q:v<=100)(P:GI 5 (L+36120+140) N g)(Y:N<=99980000)(c:∀j,j<3->∀m∈(I8 (ql g) j).eI,Has iC m):MI v r q (I8 (ql g) 3)/\(9<=r->u=-1\/u=0):=by
 rcases h with⟨h1,rfl,rfl,rfl⟩|⟨h1,rfl,h2,E,A,h3,b,h5⟩
 .refine⟨?_,fun _=>.inl rfl⟩;have e:I8 (ql (gR r)) 3=gR (r+1):=(RI r).symm;rw[e];by_cases R:r=9
  .subst R;exact .inr ⟨aM _,aB _,_,_,gr9,afW Q⟩
  exact .inl ⟨by omega,rfl,rfl⟩
 refine⟨.inr ⟨by omega,h2,E,BX A,?_,h5⟩,fun _=>.inr rfl⟩
 have t:D9 A=true/\uA (rJ A)=true/\uA (BZ (rJ A))=true/\uA (BZ (BZ (rJ A)))=true:=by unfold tS at b;obtain⟨b,k4⟩:=js b;obtain⟨b,p⟩:=js b;obtain⟨a,s⟩:=js b;exact⟨a,s,p,k4⟩
 obtain⟨a,s,p,k4⟩:=t;unfold D9 at a;obtain⟨a,z⟩:=js a;obtain⟨a,B⟩:=js a;obtain⟨a,C⟩:=js a;obtain⟨F,D⟩:=js a;have y:GI 5 (L+36120+112+28) N g:=P.le (by omega) (aJ _);obtain⟨-,-,X⟩:=y.tick (i:=0) (by decide) (by omega) 0;have O:=h3.abe (x:=0) (y.get (by decide)).1 F;have n:GI 5 (L+36120+84+28) (N+1) (jQ 0 0 g):=X.le (by omega) (aJ _);obtain⟨-,-,W⟩:=n.tick (i:=1) (by decide) (by omega) 3;have M:=O.Jd (x:=2) (by decide) (by decide) (n.get (by decide)).1 D;have l:GI 5 (L+36120+56+28) (N+1+1) (jQ 1 3 (jQ 0 0 g)):=W.le (by omega) (aJ _);obtain⟨-,-,V⟩:=l.tick (i:=2) (by decide) (by omega) 6;have K:=M.Jd (x:=3) (by decide) (by decide) (l.get (by decide)).1 C;have k:GI 5 (L+36120+28+28) (N+1+1+1) (jQ 2 6 (jQ 1 3 (jQ 0 0 g))):=V.le (by omega) (aJ _);obtain⟨-,-,U⟩:=k.tick (i:=3) (by decide) (by omega) 9;have J:=K.Jd (x:=4) (by decide) (by decide) (k.get (by decide)).1 B;have f:GI 5 (L+36120+28) (N+1+1+1+1) (jQ 3 9 (jQ 2 6 (jQ 1 3 (jQ 0 0 g)))):=U.le (by omega) (aJ _);obtain⟨-,-,T⟩:=f.tick (i:=4) (by decide) (by omega) 12;have I:=J.Jd (x:=5) (by decide) (by decide) (f.get (by decide)).1 z;have o:ra E (rJ A) (ql g):=I;have d:GI 5 (L+36120) (N+5) (ql g):=T.le (aM _) (by omega);have H:=o.I0 d (c 0 (by decide)) (by omega) (by omega) s;have w:=(d.I0 (c 0 (by decide)) (by omega) (by omega)).2;have G:=H.I0 w (c 1 (by decide)) (by omega) (by omega) p;have S:=(w.I0 (c 1 (by decide)) (by omega) (by omega)).2;exact G.I0 S (c 2 (by decide)) (by omega) (by omega) k4
def Ru{g:GS}{r:Nat}(c:r<=8)(b:g=gR (r+1))(d:Int):Mb g d 5=d:=by
 have h:=bU.1 adD r (cz.2 (by omega));rw[bU]at h
 have k:∀i,i<5->(bS g i).role≠2:=fun i a=>by have:=h i (cz.2 a);rw[b];simpa using this
 simp only[Mb];rw[if_neg (k 4 (by decide)),if_neg (k 3 (by decide)),if_neg (k 2 (by decide)),if_neg (k 1 (by decide)),if_neg (k 0 (by decide))]
def Py{E:Tah}{A:GA}{g:GS}(h:ra E A g)(d:Int):Mb g d 5=0:=by
 have k:∀i,i<4->(bS g (i+1)).role≠2:=fun i a=>by have:=(h.fo (i+2) (by omega) (by omega)).role;rw[show i+2-1=i+1 by omega]at this;rw[this];decide
 simp only[Mb];rw[if_neg (k 3 (by decide)),if_neg (k 2 (by decide)),if_neg (k 1 (by decide)),if_neg (k 0 (by decide)),if_pos h.sl.role];rfl
def P1{E:Tah}{A:GA}{g:GS}(h:ra E A g):tY g 5=yf A:=by
 have j:∀k,(vo (nZ k)).length=(Qn k).length:=fun k=>by rw[show vo (nZ k)=Qn k from vh _ _]
 have l:(bS g 0).li+((bS g 0).le.length:Int)=(A.a.n:Int):=h.sl.toPfx.last
 have e:∀a b:Nat,((a:Int)==(b:Int))=(a==b):=fun a b=>by rw[cT,beq_iff_eq,beq_iff_eq];omega
 have r:yP g 0=(A.a.c==A.a.n&&(Qn (ck A.ks)).length==5):=by unfold yP;rw[l,h.sl.mI,h.sl.zQ,j,e,show(5:Int)=((5:Nat):Int) from rfl,e]
 have d:∀x,2<=x->x<=5->yP g (x-1)=KD A x:=fun x f m=>by have i:=h.fo x f m;unfold yP KD;rw[l,i.mI,i.toPfx.zQ,j,e,show(5:Int)=((5:Nat):Int) from rfl,e]
 have q:=d 2 (by decide) (by decide);have f:=d 3 (by decide) (by decide);have p:=d 4 (by decide) (by decide);have o:=d 5 (by decide) (by decide);simp only[tY,yf];rw[r,show yP g 1=_ from q,show yP g 2=_ from f,show yP g 3=_ from p,show yP g 4=_ from o,Bool.true_and]
end Go.Proofs.Ytjhmkaninmgilaa
namespace Go.Proofs.Ytjhmkaninmgilaa
open Go Go.RowKit Go.dG Go.Proofs
attribute [local irreducible] TL AT
def oq:Tah:=[nZ 1,nZ 2,nZ 3,nZ 4]
noncomputable def MP:Code:=.seq (.seq (.region 27 Nn false) (.cond (.tmp 114) HV .skip)) (.seq (.seq (.region 30 Fh false) (.cond (.tmp 142) Ar .skip)) Ax)
noncomputable def Hp:Code:=.seq Hi (.seq Hk (.seq HS (.seq (.seq (.region 26 No false) (.cond (.tmp 106) (.exit 3) .skip)) MP)))
section
variable{w w0 w':Tan}{S S0 S':bG}{ow kJ cE:Ow}{b i s K L r q Lm:Nat}{N dl:Int}{g:GS}{At A:Tap Addr}{wX cap:Nat}{ls:Tah}{Q:O3}{a:Act}
def RC(T:QP Q)(Z:iA w S ow b g)(J:mF ow)(n:GI 5 (L+28) N g)(hN:N<=99980000)(G:bV w S (.slice At oq.length wX) (.list oq))(M:Dr w ow At)(H:r<=120)(hq:q<=4){E:Tah}{B:GA}(z:ra E B g)(d:(if q<4 then mN (q+1) B&&tS (kP (q+1) B)&&tP Lm (120-r) (r+1) (if tQ B.ks B.a (q+1)=0 then q+1 else q) (BX (kP (q+1) B)) else if yf B&&decide (Lm<=r) then true else tS B&&tP Lm (120-r) (r+1) q (BX B))=true)(h9:9<=r)(a0:Lm=min ls.length 100)(k:Kn 227 a (uM (r:Int) (q:Int) ((0:Nat):Int) (.slice At oq.length wX) (.slice A ls.length cap) b))(u:∀a C W,Kn 227 a [(2,.bool true)]->bB LG ax w S ow C S ow->Kp C W->Q .ret a W)(h:∀a W S' cE U (X:Nat),Kn 227 a (uM (r:Int) (X:Int) ((0:Nat):Int) (.slice At oq.length wX) (.slice A ls.length cap) b)->bB LG ax w S ow W S' cE->iA W S' cE b U->mF cE->GI 5 L (N+1) U->HI Lm (r+1) X 0 U->Q .normal a W/\Q (.exit 3) a W):
  (Code.seq (.seq (.region 30 Fh false) (.cond (.tmp 142) Ar .skip)) Ax).wp Try.prog Q a w:=by
 have o:=Z.wf;unfold uM at k;refine wp_seq (wp_seq (fV (n0:=0) ax mix (by exact T) abK (by decide) ?_));intro V e1;have j:=Z.W e1;have f:bB LG ax w S ow V S ow:=bB.W e1 LG ax S ow;have s0:=SX.refl ax V
 repeat refine sm k fun a k=>?_
 refine DB k (by assumption) rfl (by decide) rfl (by kernel_rfl) fun a k=>?_;refine cm (c:=decide ((q:Int)<((4:Nat):Int))) k rfl rfl rfl fun a k=>?_;refine av (bw k rfl ?_);have k:=k.sb (l:=uM (r:Int) (q:Int) ((0:Nat):Int) (.slice At oq.length wX) (.slice A ls.length cap) b);by_cases p:q<4
 .rw[if_pos (decide_eq_true (by omega))];rw[if_pos p]at d;obtain⟨d,h3⟩:=js d;obtain⟨y,x⟩:=js d;have P:=PX (k:=q+1) (by omega) (by omega);obtain⟨he,E',hC⟩:=z.prop (n.get (by decide)).1 P y;have O:(bD (kA (q+1)) (bS g 0)).1.2.1=0\/(bD (kA (q+1)) (bS g 0)).1.2.1=21:=by rw[he];exact Kh _ _ _
  have hj:oq[q]?=some (nZ (q+1)):=by
   match q,p with
   |0,_|1,_|2,_|3,_=>rfl
  refine RE (i:=0) (by exact T) j J n (by omega) (by decide) (G.O f) hj (by omega) (by omega) (M.O f) O k ?_;intro a W S2 F k e t v;rw[he]at k;have m:=jl o j.wf f e nE;refine(h a W S2 F _ (if tQ B.ks B.a (q+1)=0 then q+1 else q) ?_ m t (tf J m) v (.inr ⟨by omega,rfl,by split<;>omega,_,_,hC,x,by rw[show 121-(r+1)=120-r by omega];exact h3⟩)).2;by_cases Y:tQ B.ks B.a (q+1)=0
  .rw[if_pos Y]at k⊢;exact k
  rw[if_neg Y]at k⊢;exact k
 rw[if_neg (by simp;omega)];refine wp_skip ?_;rw[if_neg p]at d;have R:=P1 z;refine Yd (by exact T) j n (fun _=>z.bad) k ?_ ?_
 .intro a C W k e kp _;exact u a C W k (jl o j.wf f e nE) kp
 intro a W k e t I;have m:=jl o j.wf f e nE
 have hc:¬(yf B&&decide (Lm<=r))=true:=by intro hh;obtain⟨y,x⟩:=js hh;rw[bg]at x;exact I ⟨R.trans y,by omega⟩
 rw[if_neg hc]at d;obtain⟨y,x⟩:=js d;exact(h a W S ow g q k m t J (n.le (by omega) (by omega)) (.inr ⟨by omega,rfl,hq,_,_,z,y,by rw[show 121-(r+1)=120-r by omega];exact x⟩)).1
def Yb{E:Tah}{B:GA}(hQ:QP Q)(hg:iA w S ow b g)(hn:mF ow)(t:GI 5 ((L+28)+28) N g)(hN:N<=99970000)(X:bV w S (.slice At oq.length wX) (.list oq))(a0:Dr w ow At)(Y:bV w S (.slice A ls.length cap) (.list ls))(a1:ls≠[]->Dr w ow A)(hh:∀d∈ls,Has rA d)(a2:Lm=min ls.length 100)(m1:9<=r)(z:r<=120)(m2:q<=4)(V:ra E B g)(U:tP Lm (121-r) r q B=true)(k:Kn 227 a (uM (r:Int) (q:Int) ((0:Nat):Int) (.slice At oq.length wX) (.slice A ls.length cap) b))(G:∀a R W S' cE,Kn 227 a [(2,.bool true)]->bB LG ax w S ow R S' cE->Kp R W->Q .ret a W)(C:∀a W S' cE g' (q':Nat),Kn 227 a (uM (r:Int) (q':Int) ((0:Nat):Int) (.slice At oq.length wX) (.slice A ls.length cap) b)->bB LG ax w S ow W S' cE->iA W S' cE b g'->mF cE->GI 5 L (N+2) g'->HI Lm (r+1) q' 0 g'->Q .normal a W/\Q (.exit 3) a W):MP.wp Try.prog Q a w:=by
 have y:=hg.wf;rw[show 121-r=(120-r)+1 by omega]at U;unfold tP at U;obtain⟨hj,u⟩:=js U;dsimp only at u;unfold MP;unfold uM at k
 have m:∀(a:Act) (W:Tan) (T:bG) (o:Ow) (P:GS) (E5:Tah) (L5:Nat) (N5:Int),Kn 227 a (uM (r:Int) (q:Int) ((0:Nat):Int) (.slice At oq.length wX) (.slice A ls.length cap) b)->bB LG ax w S ow W T o->iA W T o b P->GI 5 (L5+28) N5 P->L<=L5->N5<=N+1->ra E5 (if r<Lm then kP 0 B else B) P->
   (Code.seq (.seq (.region 30 Fh false) (.cond (.tmp 142) Ar .skip)) Ax).wp Try.prog Q a W:=by
  intro a W T o P E5 L5 N5 k j f J a3 a5 a4;refine RC (by exact hQ) f (tf hn j) J (by omega) (X.O j) (a0.O j) z m2 a4 u m1 a2 k ?_ ?_
  .intro a R W2 k h kp;exact G a R W2 T o k (jl y f.wf j h nE) kp
  intro a W6 S6 x g6 q6 k h F Z n M;exact C a W6 S6 x g6 q6 k (jl y f.wf j h nE) F Z (n.le a3 (by omega)) M
 refine wp_seq (wp_seq (fV (n0:=0) ax mix (by exact hQ) abM (by decide) ?_));intro O e5;have f:=hg.W e5;have rb:bB LG ax w S ow O S ow:=bB.W e5 LG ax S ow;have s0:=SX.refl ax O
 repeat refine sm k fun a k=>?_
 refine cm (c:=decide ((r:Int)<(ls.length:Int))) k rfl rfl rfl fun a k=>?_;by_cases h1:(r:Int)<(ls.length:Int)
 .rw[decide_eq_true h1]at k
  repeat refine sm k fun a k=>?_
  refine cm (c:=decide ((r:Int)<100)) k rfl rfl rfl fun a k=>?_;refine pk (c:=true) (v:=.bool (decide ((r:Int)<100))) k rfl rfl fun a k=>?_;refine av (bw k rfl ?_);have k:=k.sb (l:=uM (r:Int) (q:Int) ((0:Nat):Int) (.slice At oq.length wX) (.slice A ls.length cap) b);by_cases h2:(r:Int)<100
  .rw[if_pos (decide_eq_true h2)];have H:r<Lm:=by omega
   have I:mN 0 B=true:=by rw[decide_eq_true H]at hj;simpa using hj
   have p:r<ls.length:=by omega
   refine Yc (i:=0) (by exact hQ) f hn t (by omega) (by decide) (Y.O rb) (aR p) (hh _ (aF p)) ((a1 (fun e=>by rw[e]at p;cases p)).O rb) k ?_;intro a W S6 x c k h F n;obtain⟨-,E',hC⟩:=V.prop (t.get (by decide)).1 (R1 c) I;exact m a W S6 x _ _ L _ k (jl y f.wf rb h nE) F n (aM _) (by omega) (by rw[if_pos H];exact hC)
  rw[if_neg (by simpa using h2)];exact wp_skip (m _ O S ow g E (L+28) _ k rb f t (by omega) (by omega) (by rw[if_neg (by omega)];exact V))
 rw[decide_eq_false h1]at k
 repeat refine sm k fun a k=>?_
 refine pk (c:=false) (v:=.bool false) k rfl rfl fun a k=>?_;refine av (bw k rfl (wp_skip ?_));exact m _ O S ow g E (L+28) _ (k.sb) rb f t (by omega) (by omega) (by rw[if_neg (by omega)];exact V)
def PK(y:QP Q)(hg:iA w S ow b g)(hn:mF ow)(a8:GI 5 (L+36400) N g)(hN:N<=99960000)(x:HI Lm r q dl g)(a3:bV w S (.slice At oq.length wX) (.list oq))(b0:Dr w ow At)(a4:bV w S (.slice A ls.length cap) (.list ls))(b1:ls≠[]->Dr w ow A)(hh:∀d∈ls,Has rA d)(b2:Lm=min ls.length 100)(k:Kn 227 a (uM (r:Int) (q:Int) dl (.slice At oq.length wX) (.slice A ls.length cap) b))(F:∀a X W S' cE,Kn 227 a [(2,.bool true)]->bB LG ax w S ow X S' cE->Kp X W->Q .ret a W)(n:∀a W S' cE g' (q':Nat) dl',Kn 227 a (uM (r:Int) (q':Int) dl' (.slice At oq.length wX) (.slice A ls.length cap) b)->bB LG ax w S ow W S' cE->iA W S' cE b g'->mF cE->GI 5 L (N+1300) g'->HI Lm (r+1) q' dl' g'->Q .normal a W/\Q (.exit 3) a W):Hp.wp Try.prog Q a w:=by
 have m:=hg.wf;have a7:=x.le;unfold Hp;have t:GI 5 ((L+56)+36120+140) N g:=a8.le (by omega) (aJ _);refine wp_seq (PJ (L:=L+56+36120) (by exact y) hg hn t (by omega) k ?_);intro a w1 S1 b3 k D O M;have H:=tf hn D;refine wp_seq (X8 (K:=L+56) (by exact y) O H M (by omega) k ?_);intro a w2 S2 a2 k C v f a6;have Y:=jl m O.wf D C nE;have G:=tf H C;obtain⟨R,b4⟩:=x.mid (L:=L+56) (by omega) t (by omega) a6;generalize I8 (ql g) 3=g2 at v f R;refine wp_seq (RB (by exact y) v f k ?_);intro a w3 k Z p;have z:=jl m v.wf Y Z nE;rcases R with⟨m1,m2,m3⟩|⟨m1,m2,E,B,m3,m4⟩
 ·
  have P:dl=-1:=by
   rcases x with⟨_,_,_,h⟩|⟨h,_⟩
   .exact h
   omega
  rw[Ru m1 m2,P]at k;subst m3;unfold uM at k;refine wp_seq (wp_seq (fV (n0:=0) ax mix (by exact y) Th (by decide) ?_));intro V U;have o:=p.W U;have s0:=SX.refl ax V
  repeat refine sm k fun a k=>?_
  refine cm (c:=true) k rfl rfl rfl fun a k=>?_;refine av (bw k rfl ?_);exact wp_exit (n a V S2 a2 g2 0 (-1) (k.sb) (z.eN m p.wf U) o G (f.le (by omega) (by omega)) (.inl ⟨by omega,m2,rfl,rfl⟩)).2
 rw[Py m3]at k;unfold uM at k;refine wp_seq (wp_seq (fV (n0:=0) ax mix (by exact y) Th (by decide) ?_));intro V U;have o:=p.W U;have j:=z.eN m p.wf U;have s0:=SX.refl ax V
 repeat refine sm k fun a k=>?_
 refine cm (c:=false) k rfl rfl rfl fun a k=>?_;refine av (bw k rfl (wp_skip ?_));have k:=k.sb (l:=uM (r:Int) (q:Int) ((0:Nat):Int) (.slice At oq.length wX) (.slice A ls.length cap) b);clear s0;have J:GI 5 ((L+28)+28) (N+5+1290) g2:=f.le (by omega) (aJ _);refine Yb (by exact y) o G J (by omega) (a3.O j) (b0.O j) (a4.O j) (fun e=>(b1 e).O j) hh b2 m1 a7.1 m2 m3 m4 k ?_ ?_
 .intro a X W2 S5 a1 k u kp;exact F a X W2 S5 a1 k (jl m o.wf j u nE) kp
 intro a W6 S6 a0 g6 q6 k u a9 a5 I T;exact n a W6 S6 a0 g6 q6 0 k (jl m o.wf j u nE) a9 a5 (I.le (aM _) (by omega)) T
end
end Go.Proofs.Ytjhmkaninmgilaa
namespace Go.Proofs.Ytjhmkaninmgilaa
open Go Go.RowKit Go.dG Go.Proofs
attribute [local irreducible] TL AT
def iV(l:List Int):Tad:=l.map (Value.int i64)
def QM(w:Tan){t T:Tbb}{kk n:Nat}{b:Tac}{cells:Tad}(h:Cq Try.prog t T kk=true)(l:0<n)(o:0<kk)(hs:n*kk<=100)(p:∀f:Tak,Instr.fill (fun i=>some (i*kk,kk)) ((Array.range (n*kk)).map f) b=some cells.toArray):(Instr.buildSlice t n b.toArray).run Try.prog w=.ok (.slice (some ⟨w.heap.size,0,none⟩) n n) (w.alloc (.cells cells.toArray T)):=by
 unfold Cq at h;split at h
 .rename_i e q;rw[aP,beq_iff_eq]at h;obtain⟨rfl,h⟩:=h;split at h
  .rename_i j c;simp only[aP,beq_iff_eq,bg]at h;obtain⟨⟨⟨g,s⟩,x⟩,v⟩:=h;obtain⟨z,k⟩:=cW.1 s;have u:0<n*kk:=Nat.mul_pos l o;refine run_buildSlice w _ _ n _ _ j z q c k (by rw[g];omega) (by rw[g];omega) ?_;rw[g,List.toList_toArray];exact p _
  cases h
 cases h
section
variable{Q:O3}{SS:Taf}{ops:Tae}{n n0 i d m:Nat}{a:Act}{w:Tan}{mm:Tac}{gd:Tap (Nat×Bool)}{LL r:List OK}
def oG{t T:Tbb}{kk:Nat}{b:Tbe (Nat×Tbc)}{ps:Tac}{cells:Tad}(k:Kn n a mm)(F:n0<=i)(G:qd LL mm gd=some true)(I:d<n)(B:b.toList.map (fun y=>(lq mm y.2).map fun v=>(y.1,v))=ps.map some)(D:Cq Try.prog t T kk=true)(C:0<m)(E:0<kk)(hs:m*kk<=100)(H:∀f:Tak,Instr.fill (fun i=>some (i*kk,kk)) ((Array.range (m*kk)).map f) ps=some cells.toArray)(J:r≠[]->SS (w.alloc (.cells cells.toArray T)))(h:∀j,Kn n j ((d,.slice (some ⟨w.heap.size,0,none⟩) m m)::mm)->TL Try.prog ops Q SS n0 LL r (i+1) j (w.alloc (.cells cells.toArray T))):
  TL Try.prog ops Q SS n0 LL ((some d,.buildSlice t m b,gd)::r) i a w:=by
 refine tO k F G I (fun L s M=>⟨_,_,?_,J,h⟩);have K:=QM w D C E hs H;unfold execOp;simp only[bz]
 have c:(b.map fun(i,x)=>(i,a.eval x))=ps.toArray:=by
  have e:(b.map fun(i,x)=>(i,a.eval x)).toList=ps:=by
   rw[fI]
   have g:∀(l:List (Nat×Tbc)) (q:Tac),l.map (fun y=>(lq mm y.2).map fun v=>(y.1,v))=q.map some->l.map (fun(i,x)=>(i,a.eval x))=q:=by
    intro l
    induction l with
    |nil=>intro q c;cases q with
     |nil=>rfl
     |cons=>simp at c
    |cons y l ih=>
     intro q c;cases q with
     |nil=>simp at c
     |cons z q=>
      simp only[ct,dD]at c;obtain⟨v,A,u⟩:=cQ.1 c.1;rw[ct,ih q c.2,<-u];obtain⟨p,o⟩:=y;show(p,a.eval o)::q=_;rw[k.op A]
   exact g _ _ B
  rw[<-e]
 rw[c,K];rfl
end
def nO{w:Tan}{S:bG}{ow:Ow}{b:Nat}{g:GS}(h:iA w S ow b g)(l:List Int)(t:l≠[]):
  ∃e,bB ax ax w S ow (w.alloc (.cells (iV l).toArray 3)) e ow/\iA (w.alloc (.cells (iV l).toArray 3)) e ow b g/\bV (w.alloc (.cells (iV l).toArray 3)) e (.slice (some ⟨w.heap.size,0,none⟩) l.length l.length) (.list (l.map (D.int i64))):=by
 obtain⟨R,p,z,v⟩:=h
 obtain⟨e,k,s,o⟩:=PW (us:=iV l) (ds:=l.map (D.int i64)) (T:=3) p.wf (by unfold iV;simp) (fun d c=>by obtain⟨x,_,rfl⟩:=bf.1 c;rfl) (by simpa using t) (fun i u d j c=>by unfold iV at j;rw[ab,cQ]at j c;obtain⟨x,q,rfl⟩:=j;obtain⟨y,f,rfl⟩:=c;rw[q]at f;injection f with f;subst f;exact .int _ _) (fun d c=>by obtain⟨x,_,rfl⟩:=bf.1 c;rfl)
 rw[aj]at o;exact⟨e,k,⟨R,p.O k s,z,v⟩,o⟩
def K6{w:Tan}{S:bG}{ow:Ow}{b:Nat}{g:GS}{T:Tbb}(h:iA w S ow b g)(us:Tad)(ds:Tah)(y:ds≠[])(q:us.length=ds.length*2)(G:∀d∈ds,d.cells.length=2)(F:∀(i:Nat) d (j:Nat) v c,ds[i]?=some d->d.cells[j]?=some c->us[i*2+j]?=some v->bV w S v c):
  ∃B,bB ax ax w S ow (w.alloc (.cells us.toArray T)) B ow/\iA (w.alloc (.cells us.toArray T)) B ow b g/\bV (w.alloc (.cells us.toArray T)) B (.slice (some ⟨w.heap.size,0,none⟩) ds.length ds.length) (.list ds):=by obtain⟨R,E,I,H⟩:=h;have C:=E.wf;obtain⟨f,k⟩:=bB.alloc C (.cells us.toArray T);have t:=fU.new C T us;have p:bB ax ax w S ow (w.alloc (.cells us.toArray T)) (fun b o=>S b o\/b=w.heap.size) ow:=⟨f.size,f.os,f.tape,f.output,f.E1,f.free,fun _ _ h=>.inl h,f.cell,f.keep,fun b o h=>h.imp id (fun e=>.inl (by omega)),f.qT,f.iu⟩;have u:Wf (w.alloc (.cells us.toArray T)) (fun b o=>S b o\/b=w.heap.size) ow:=⟨fun b o h=>h.elim (k.s b o) (fun e=>by rw[e];exact t.lt),k.o,fun b o l h q=>h.elim (fun h=>k.d b o l h q) (fun e=>by rw[e,t.ow]at q;cases q)⟩;refine⟨_,p,⟨R,E.O p u,I,H⟩,?_⟩;refine .list w.heap.size 0 ds.length 2 us ds (by omega) y (aM _) q (fun i _=>.inr rfl) (fun i v x=>by rw[aq];exact iq t.heap x) (fun i d z=>G d (bT z)) ?_;intro i d j v c z A x;exact(F i d j v c z A x).keep (fun _ _ h=>.inl h) f.cell
def gN(j:Nat):GS:={gB 3 2 5 with fl:=[],eT:=(List.range j).map (uh 3 0)++((List.range 5).drop j).map (uh 3 2)}
def ahk:gN 5=Qm:=rfl
def Ye{i:Nat}(h:i<5):ic i (uh 3 0 i) (gN i)=gN (i+1):=by
 match i,h with
 |0,_|1,_|2,_|3,_|4,_=>rfl
section
variable{w w0 w':Tan}{S S0 S':bG}{ow kJ cE:Ow}{b i s K L:Nat}{g:GS}{vl:Tao}{Q:O3}{a:Act}
def GM.Rq{R:GR}{vs:Tad}{X:Taj}{bs:Nat}{s':RS}(h:GM w S ow b vs R g)(c:bB (iF (1000+i)) X w S ow w' S' cE)(o:Wf w' S' cE)(p:i<g.eT.length)(q:kK w' S' cE (1000+i) (dS 0) bs [cR s',cL s'])(f:dr (.Y eV) (encS s'))(u:g.aT.length<=5):
  GM w' S' cE b vs {R with lb:=R.lb.set i bs} {g with eT:=g.eT.set i s'} where
 wf:=o
 obj:=h.obj.O c cw
 fv:=h.fv.O c
 fl:=h.fl.O c
 arr:=h.arr.O h.wf c cw
 qV:=by rw[aK,aK];exact h.qV
 eT:=fun j s d=>by
  have k:i<R.lb.length:=by rw[h.qV];exact p
  rw[bF]at d;by_cases e:i=j
  .subst e;rw[if_pos rfl,if_pos p]at d;injection d with d;subst d;exact⟨bs,by rw[bF,if_pos rfl,if_pos k],q,f⟩
  rw[if_neg e]at d;obtain⟨t,n,m,r⟩:=h.eT j s d;exact⟨t,by rw[bF,if_neg e];exact n,m.O h.wf o c cw rfl,r⟩
 saved:=h.saved.O h.wf c cw
 eI:=h.eI.O h.wf c cw
 told:=h.told.O h.wf c cw
 br:=h.br.O h.wf c cw
 cu:=h.cu.O h.wf c cw
 read:=h.read.O h.wf c cw
 tL:=h.tL.O h.wf c cw
 wM:=h.wM
 oa:=fun j l d=>let ⟨v,n,m⟩:=h.oa j l d;⟨v,n,m.O h.wf c (by have x:j<g.aT.length:=(aD.1 d).1;simp only[iF];omega)⟩
def nM(b:Nat)(vl:Tao):Tac:=[(3,bM b),(2,.bool false),(0,vl)]
def PL(J:QP Q)(h:iA w S ow b (gB 3 2 5))(k:Kn 227 a (nM b vl))(j:∀a W S',Kn 227 a (nM b vl)->bB LG ax w S ow W S' ow->iA W S' ow b (gN 0)->Q .normal a W):(Code.region 2 Qx false).wp Try.prog Q a w:=by
 have q:=h.wf;unfold nM at k;refine fV (n0:=0) ax mix (by exact J) agj (by decide) ?_;intro l E;have D:=h.W E;have u:bB LG ax w S ow l S ow:=bB.W E LG ax S ow;have M:=SX.refl ax l
 repeat refine sm k fun a k=>?_
 obtain⟨F,p,C,e⟩:=nO D [1,2,3] (by decide);have B:SX ax l (l.alloc (.cells (iV [1,2,3]).toArray 3)):=SX.alloc _ _ _;refine oG (T:=3) (kk:=1) (ps:=[(0,.int i64 1),(1,.int i64 2),(2,.int i64 3)]) (cells:=iV [1,2,3]) k (by decide) rfl (by decide) rfl (by kernel_rfl) (by decide) (by decide) (by decide) (by intro f;rw[show Array.range (3*1)=#[0,1,2] from rfl];simp[Instr.fill,Value.cells,iV]) (fun _=>B) fun a k=>?_;generalize I:l.heap.size=m at k e;have o:=u.eC q D.wf p nE;generalize l.alloc _=H at p C e B o⊢;refine gU (ps:=[(0,.slice (some ⟨m,0,none⟩) 3 3)]) (vs:=[.slice (some ⟨m,0,none⟩) 3 3,eM]) k (by assumption) rfl (by decide) rfl (by kernel_rfl) fun a k=>?_
 repeat refine sm k fun a k=>?_
 obtain⟨R,t,z,y⟩:=C;refine lv (vs:=[.slice (some ⟨m,0,none⟩) 3 3,eM]) (cur:=(R.cells (gB 3 2 5).bad).toArray) (off:=0) k (by decide) rfl (by kernel_rfl) rfl rfl rfl t.obj.heap (by show 0+2<=11;omega) (by simp[eM,Value.oneCell']) (fun h=>absurd rfl h) fun a k=>?_;refine av ?_;obtain⟨d,x,v⟩:=t.obj.set t.wf (us:=(R.cells (gB 3 2 5).bad).toArray.toList.take 0++[.slice (some ⟨m,0,none⟩) 3 3,eM]++(R.cells (gB 3 2 5).bad).toArray.toList.drop (0+[Value.slice (some ⟨m,0,none⟩) 3 3,eM].length));have c:=t.setObj d x v;have n:=o.fF q t.wf d (.inl (by decide));have r:=e.O d;generalize H.setRow _ _=G at c n r⊢;have A:iA G F ow b (gN 0):=⟨{R with fv:=.slice (some ⟨m,0,none⟩) 3 3,fl:=eM},⟨c.wf,c.obj,r,.nil _ _,c.arr,c.qV,c.eT,c.saved,c.eI,c.told,c.br,c.cu,c.read,c.tL,c.wM,c.oa⟩,z,y⟩;exact j _ _ F (k.sb) n A
def Rz(hQ:QP Q)(h:iA w S ow b (gN i))(hi:i<5)(k:Kn 227 a ((4,.int i64 (i:Int))::nM b vl))(z:∀a W S' cE,Kn 227 a ((4,.int i64 (i:Int))::nM b vl)->bB LG ax w S ow W S' cE->iA W S' cE b (gN (i+1))->Q .normal a W):(Code.region 6 Qw true).wp Try.prog Q a w:=by
 have G:=h.wf
 have r:(gN i).eT.length=5:=by show((List.range i).map (uh 3 0)++((List.range 5).drop i).map (uh 3 2)).length=5;rw[ah,aj,aj,bh,dW,dW];omega
 obtain⟨R,gm,J,a1⟩:=h;unfold nM at k;refine MO (n0:=12) (fun V=>ow V=some (1000+i)) mix (by exact hQ) age (by kernel_rfl) ?_;intro C e8;have m:=gm.W e8;have Z:bB LG ax w S ow C S ow:=bB.W e8 LG ax S ow;have s0:=SX.refl (fun V=>ow V=some (1000+i)) C;have x:¬ow b=some (1000+i):=by rw[m.obj.ow];intro h;injection h with h;omega
 have A:i<(R.la.map bM).length:=by rw[aj,J,gm.qV,r];exact hi
 obtain⟨bl,b4,U,b3,b0,b2⟩:=m.arr.elem (i:=i) (u:=(R.la.map bM)[i]) (aR A)
 repeat (first|refine sm k fun a k=>?_|refine ld k (m.cell x (j:=2) rfl) fun a k=>?_)
 rw[U]at k
 repeat refine sm k fun a k=>?_
 refine iK (s:=((i+1:Nat):Int)) k (by assumption) rfl (by decide) rfl rfl (wrap64 (by omega) (by omega)) fun a k=>?_
 repeat refine sm k fun a k=>?_
 refine lN (vs:=[R.fv,R.fl]) k rfl rfl (fun w' H j v I=>by
  match j,I with
  |0,I=>exact m.cell x (j:=0) I w' H
  |1,I=>exact m.cell x (j:=1) I w' H) fun a k=>?_
 refine gU (ps:=[]) (vs:=zV) k (by assumption) rfl (by decide) rfl (by kernel_rfl) fun a k=>?_;have M:nY ((i+1:Nat):Int) 1 5=true:=by simp only[nY,aP,bg];omega
 have N:kL i64 ((i+1:Nat):Int):=⟨by have:i64.min=-9223372036854775808:=rfl;omega,by have:i64.max=9223372036854775807:=rfl;omega⟩;have B:(iv 0 0 [] 0 0 []).2=[]:=rfl;have a3:bV C S R.fv (.list (BL 3)):=m.fv;have a4:bV C S R.fl (.list (I4 3 0)):=m.fl
 have p:=CU (l:=1000+i) (id:=((i+1:Nat):Int)) (term:=0) (vote:=0) (fv:=BL 3) (fl:=I4 3 0) (es:=[]) (c0:=R.fv) (c1:=R.fl) (s4:=eM) (s5:=eM) (s6:=eM) (s7:=eM) m.wf (by omega) M N
  (.agg [R.fv,R.fl] _ rfl (fun q u y d n=>by
   match q,d,n with
   |0,d,n=>injection d with d;injection n with n;subst d n;exact a3
   |1,d,n=>injection d with d;injection n with n;subst d n;exact a4)) (F3 (by omega)) (FO (by omega) (by omega))
  (.agg [.int i64 0,.int i64 0,.int i64 0,.int i64 0,eM,eM,eM,eM] _ rfl (fun q u c d f=>by
   match q,d,f with
   |0,d,f=>injection d with d;injection f with f;subst d f;exact .int _ _
   |1,d,f=>injection d with d;injection f with f;subst d f;exact .int _ _
   |2,d,f=>injection d with d;injection f with f;subst d f;exact .int _ _
   |3,d,f=>injection d with d;injection f with f;subst d f;exact .int _ _
   |4,d,f=>injection d with d;injection f with f;subst d f;exact .nil _ _
   |5,d,f=>injection d with d;injection f with f;subst d f;exact .nil _ _
   |6,d,f=>injection d with d;injection f with f;subst d f;exact .nil _ _
   |7,d,f=>injection d with d;injection f with f;subst d f;exact .nil _ _)) uI (by decide) (by decide) (by decide) (by decide) (by rw[B];decide) (by decide) (by rw[B];decide)
 rw[B]at p;refine iB (vs:=[.int i64 ((i+1:Nat):Int),.agg [R.fv,R.fl].toArray,.agg zV.toArray]) k (by decide) rfl (by decide) J4 rfl p ?_;rintro e w9 ⟨bs,S9,ow9,rfl,YU,hw9,aaX,hbs⟩;have s9:SX (fun V=>ow V=some (1000+i)) C w9:=SX.iu (fun _ h=>h) YU;refine⟨_,rfl,fun _=>s9,fun a k=>?_⟩;refine zg (el:=52) (sz:=1) k rfl rfl A fun a k=>?_;have o:=m.Rq (i:=i) (s':=uh 3 0 i) YU hw9 (by rw[r];exact hi) aaX (gE aaX) (by show(List.replicate 5 ([]:Tah)).length<=5;decide);have Y:=Z.fF G m.wf YU (.inr (by omega));obtain⟨b5,a9,a6,T,P,b1,a8,a7,E,a0,a2⟩:=o.arr.set (i:=i) (u:=bM bs) o.wf A;have t:R.l=_:=T;rw[U]at t;injection t with F q2 q3;injection F with F;injection F with F _ _;subst F;refine lv (vs:=[bM bs]) (off:=i) (cur:=a6) k (by decide) rfl (by kernel_rfl) (by show some (Value.pointer _)=_;first|rw[bL,aq] |rw[bL]) rfl rfl P (by simp only[ba];omega) (by simp[bM,Value.oneCell']) (fun h=>absurd rfl h) fun a k=>?_;refine av ?_;have a5:=o.OI (la:=R.la.set i bs) E a0 (by rw[List.map_set];exact a2);have X:=Y.fF G o.wf E (.inl (by decide));have O:iA _ S9 ow9 b (ic i (uh 3 0 i) (gN i)):=⟨{R with lb:=R.lb.set i bs,la:=R.la.set i bs},a5,by show R.la.set i bs=R.lb.set i bs;rw[J],a1⟩;rw[Ye hi]at O;exact z _ _ S9 ow9 (k.sb) X O
noncomputable def HP:Code:=.seq (.region 3 Wc false) (.block 0 (.loop (.seq (.seq (.region 4 Wb false) (.cond (.tmp 28) .skip (.exit 0))) (.seq (.block 1 (.region 6 Qw true)) (.region 5 Wa false)))))
def Ya(p:QP Q)(h:iA w S ow b (gN 0))(k:Kn 227 a (nM b vl))(f:∀a W S' cE,Kn 227 a (nM b vl)->bB LG ax w S ow W S' cE->iA W S' cE b Qm->Q .normal a W):HP.wp Try.prog Q a w:=by
 have e:=h.wf;unfold HP;unfold nM at k;refine wp_seq (rg ax p agi ?_);intro E C;have u:=SX.refl ax E
 repeat refine sm k fun a k=>?_
 refine av ?_
 refine wp_block (wp_loop_ghost (fun z a W=>∃(s:Nat) (q:bG) (d:Ow),z=5-s/\s<=5/\Kn 227 a ((4,.int i64 (s:Int))::nM b vl)/\bB LG ax w S ow W q d/\iA W q d b (gN s)) (5-0)
  ⟨0,S,ow,rfl,by omega,k.sb,bB.W C LG ax S ow,h.W C⟩ ?_)
 clear k u;rintro z a W ⟨s,q,d,rfl,hs,k,st,hg⟩;unfold nM at k;refine wp_seq (wp_seq (rg ax p agh ?_));intro y B;have j:=hg.W B;have m:=st.eN e hg.wf B;have u:=SX.refl ax y
 repeat refine sm k fun a k=>?_
 refine cm (c:=decide ((s:Int)<5)) k rfl rfl rfl fun a k=>?_;refine av (bw k rfl ?_);have k:=k.sb (l:=(4,.int i64 (s:Int))::nM b vl);by_cases n:(s:Int)<5
 .rw[if_pos (by simpa using n)];refine wp_skip ?_;refine wp_seq (wp_block (Rz (by exact p) j (by omega) k ?_));intro a W F v k t o;have r:=jl e j.wf m t nE;unfold nM at k;refine rg ax p agf ?_;intro D A;have u:=SX.refl ax D
  repeat refine sm k fun a k=>?_
  refine iK (s:=((s+1:Nat):Int)) k (by assumption) rfl (by decide) rfl rfl (wrap64 (by omega) (by omega)) fun a k=>?_
  repeat refine sm k fun a k=>?_
  exact av ⟨5-(s+1),by omega,s+1,F,v,rfl,by omega,k.sb,r.eN e o.wf A,o.W A⟩
 rw[if_neg (by simpa using n)];refine wp_exit ?_;have x:s=5:=by omega
 subst x;exact f a y q d (k.sb) m (by rw[<-ahk];exact j)
end
end Go.Proofs.Ytjhmkaninmgilaa
