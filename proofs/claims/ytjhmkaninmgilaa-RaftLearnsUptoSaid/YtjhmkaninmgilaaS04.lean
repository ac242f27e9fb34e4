/- Part 4 of the proof of RaftLearns; no condition. -/
import Derived.Test.YtjhmkaninmgilaaS03
import Derived.Test.YtjhmkaninmgilaaProg
import Derived.KernelRfl
set_option linter.defProp false
set_option linter.unusedVariables false
set_option linter.unusedSimpArgs false
set_option maxHeartbeats 4000000
open Go.IntKind (i64)
namespace Go.dF
open Go
section
variable{α:Type}(Φ:Taa)
def VC.GX(b:D->α)(ag:Nat->Taf->α)(lp:Nat->(Nat->D)->Taf->α)(bad:α):VC->(Nat->D)->α
 |.kx _ _ k,ρ=>k.GX b ag lp bad ρ
 |.call p f a _ k,ρ=>k.GX b ag lp bad (fC ρ p (Φ f (den ρ a).A))
 |.room _ _ _ k,ρ=>k.GX b ag lp bad ρ
 |.branch e t f,ρ=>if(den ρ e).W=true then t.GX b ag lp bad ρ else f.GX b ag lp bad ρ
 |.loop v0 es _ _,ρ=>lp v0 ρ (es.map (den ρ))
 |.again i es,ρ=>ag i (es.map (den ρ))
 |.ret e,ρ=>b (den ρ e)
 |_,_=>bad
def VC.qu:VC->(Nat->D)->Taf
 |.kx _ _ k,ρ=>k.qu ρ
 |.call p f a _ k,ρ=>k.qu (fC ρ p (Φ f (den ρ a).A))
 |.room _ _ _ k,ρ=>k.qu ρ
 |.branch _ t f,ρ=>t.qu ρ++f.qu ρ
 |.ret e,ρ=>[den ρ e]
 |_,_=>[]
def VC.kR:VC->(Nat->D)->List (Taf)
 |.kx _ _ k,ρ=>k.kR ρ
 |.call p f a _ k,ρ=>k.kR (fC ρ p (Φ f (den ρ a).A))
 |.room _ _ _ k,ρ=>k.kR ρ
 |.branch _ t f,ρ=>t.kR ρ++f.kR ρ
 |.again _ es,ρ=>[es.map (den ρ)]
 |_,_=>[]
end
def VC.flat:Bool->VC->Bool
 |b,.kx _ _ k|b,.room _ _ _ k=>k.flat b
 |b,.call _ _ _ _ k=>k.flat b
 |b,.branch _ t f=>t.flat b&&f.flat b
 |b,.again i _=>b&&i==0
 |_,_=>true
def VC.quiet(triv:Nat->Bool):VC->Bool
 |.call _ f _ _ k=>triv f&&k.quiet triv
 |.branch _ t f=>t.quiet triv&&f.quiet triv
 |.again .. =>true
 |.ret _=>true
 |_=>false
section
variable(Φ:Taa)(Pre:eN)(triv:Nat->Bool)
def VC.Mo(L:VC->(Nat->D)->Prop):VC->(Nat->D)->Prop
 |.kx pc e k,ρ=>(bc ρ pc=true->(den ρ e).W=true)/\(if k.quiet triv then True else k.Mo L ρ)
 |.call p f a pc k,ρ=>(if triv f then True else(bc ρ pc=true->Pre f (den ρ a).A))/\(if k.quiet triv then True else k.Mo L (fC ρ p (Φ f (den ρ a).A)))
 |.room pc e bytes k,ρ=>(bc ρ pc=true->(den ρ e).A.length<=maxLen/\(den ρ e).A.length*bytes<=140737488355328)/\(if k.quiet triv then True else k.Mo L ρ)
 |.branch e t f,ρ=>(if t.quiet triv then True else((den ρ e).W=true->t.Mo L ρ))/\(if f.quiet triv then True else((den ρ e).W=false->f.Mo L ρ))
 |.loop v0 es GZ body,ρ=>L (.loop v0 es GZ body) ρ
 |.again ..,_=>True
 |.ret _,_=>True
 |_,_=>False
def VC.yG(L:VC->(Nat->D)->Prop)(v:VC)(ρ:Nat->D):Prop:=if v.quiet triv then True else v.Mo Φ Pre triv L ρ
end
section
variable{Φ:Taa}{Pre:eN}{triv:Nat->Bool}
def VC.ia{R q:D->Prop}(g:∀d,R d->q d):∀(v:VC) (ρ:Nat->D) (e:List (Taf->Prop)),v.holds Φ Pre R ρ e->v.holds Φ Pre q ρ e
 |.kx _ _ k,ρ,e,h=>⟨h.1,ia g k ρ e h.2⟩
 |.call _ _ _ _ k,ρ,e,h=>⟨h.1,fun d l=>ia g k _ e (h.2 d l)⟩
 |.room _ _ _ k,ρ,e,h=>⟨h.1,ia g k ρ e h.2⟩
 |.branch _ t f,ρ,e,h=>⟨fun n=>ia g t ρ e (h.1 n),fun n=>ia g f ρ e (h.2 n)⟩
 |.loop _ _ _ body,ρ,e,h=>by obtain⟨I,m,p,o⟩:=h;exact⟨I,m,p,fun j r s=>ia g body _ _ (o j r s)⟩
 |.again _ _,_,_,h=>h
 |.ret _,_,_,h=>g _ h
 |.any _ _ k,ρ,e,h=>fun d l=>ia g k _ e (h d l)
 |.Ym _ _ k,ρ,e,h=>fun d l=>ia g k _ e (h d l)
 |.range _ _ _ _ _ _ body done,ρ,e,h=>by obtain⟨w,I,p,o,u⟩:=h;exact⟨w,I,p,fun i x j a b c d=>ia g body _ _ (o i x j a b c d),fun j a b=>ia g done _ _ (u j a b)⟩
 |.stuck _,_,_,h=>h.elim
def VC.xx(L:VC->(Nat->D)->Prop):∀(v:VC) (ρ:Nat->D),v.quiet triv=true->v.Mo Φ Pre triv L ρ
 |.kx ..,_,h=>by cases h
 |.call _ f _ _ k,ρ,h=>by simp only[VC.quiet,aT]at h;exact⟨by rw[if_pos h.1];trivial,by rw[if_pos h.2];trivial⟩
 |.room ..,_,h=>by cases h
 |.branch _ t f,ρ,h=>by simp only[VC.quiet,aT]at h;exact⟨by rw[if_pos h.1];trivial,by rw[if_pos h.2];trivial⟩
 |.loop ..,_,h=>by cases h
 |.again ..,_,_=>trivial
 |.ret _,_,_=>trivial
 |.any ..,_,h=>by cases h
 |.Ym ..,_,h=>by cases h
 |.range ..,_,h=>by cases h
 |.stuck _,_,h=>by cases h
def VC.Ap{L:VC->(Nat->D)->Prop}{v:VC}{ρ:Nat->D}(h:v.yG Φ Pre triv L ρ):v.Mo Φ Pre triv L ρ:=by
 unfold VC.yG at h;split at h
 .rename_i a;exact VC.xx L v ρ a
 exact h
def VC.Hs{L:VC->(Nat->D)->Prop}{v:VC}{ρ:Nat->D}(h:if v.quiet triv then True else v.Mo Φ Pre triv L ρ):v.Mo Φ Pre triv L ρ:=VC.Ap h
def VC.holds_of{A B:Type}{decL:Taf->A}{encL:A->Taf}{dec:D->B}{enc:B->D}{lp:Nat->(Nat->D)->Taf->B}{bad:A⊕B}{R:D->Prop}{J:Taf->Prop}{b:Bool}{m:List (Taf->Prop)}(c:∀f a,triv f=true->Pre f a)(g:b=true->m.head? =some J)(L:VC->(Nat->D)->Prop)(u:∀o s j h ρ,L (.loop o s j h) ρ->R (enc (lp o ρ (s.map (den ρ))))->(VC.loop o s j h).holds Φ Pre R ρ m):
  ∀(v:VC) (ρ:Nat->D),v.flat b=true->v.Mo Φ Pre triv L ρ->(v.qu Φ ρ).map (fun d=>enc (dec d))=v.qu Φ ρ->(v.kR Φ ρ).map (fun l=>encL (decL l))=v.kR Φ ρ->
   (match v.GX Φ (fun d=>.inr (dec d)) (fun _ l=>.inl (decL l)) (fun o ρ l=>.inr (lp o ρ l)) bad ρ with| .inl a=>J (encL a)| .inr y=>R (enc y))->v.holds Φ Pre R ρ m
 |.kx pc e k,ρ,hf,ho,hr,ha,hv=>⟨ho.1,holds_of c g L u k ρ hf (VC.Hs ho.2) hr ha hv⟩
 |.call p f a pc k,ρ,hf,ho,hr,ha,hv=>by
  refine⟨fun E=>?_,fun d C=>?_⟩
  .have w:=ho.1;split at w
   .exact c f _ (by assumption)
   exact w E
  subst C;exact holds_of c g L u k _ hf (VC.Hs ho.2) hr ha hv
 |.room pc e n k,ρ,hf,ho,hr,ha,hv=>⟨ho.1,holds_of c g L u k ρ hf (VC.Hs ho.2) hr ha hv⟩
 |.branch e t f,ρ,hf,ho,hr,ha,hv=>by
  simp only[VC.flat,aT]at hf;simp only[VC.qu,ck]at hr;simp only[VC.kR,ck]at ha;have x:=List.append_inj hr (by simp);have z:=List.append_inj ha (by simp);refine⟨fun q=>?_,fun q=>?_⟩
  .refine holds_of (bad:=bad) c g L u t ρ hf.1 ?_ x.1 z.1 ?_
   .have:=ho.1;split at this
    .exact VC.xx L t ρ (by assumption)
    exact this q
   simp only[VC.GX]at hv;rw[if_pos q]at hv;exact hv
  refine holds_of (bad:=bad) c g L u f ρ hf.2 ?_ x.2 z.2 ?_
  .have:=ho.2;split at this
   .exact VC.xx L f ρ (by assumption)
   exact this q
  simp only[VC.GX]at hv;rw[if_neg (by rw[q];simp)]at hv;exact hv
 |.loop o s j h,ρ,_,ho,_,_,hv=>u o s j h ρ ho hv
 |.again i s,ρ,hf,_,_,ha,hv=>by
  simp only[VC.flat,aT,beq_iff_eq]at hf;obtain⟨q,rfl⟩:=hf;have w:=g q;simp only[VC.kR,cM,List.map_nil,eI,and_true]at ha;cases m with
  |nil=>cases w
  |cons J' r=>
   simp only[List.head?_cons,aa]at w;subst w;show J' (s.map (den ρ));rw[<-ha];exact hv
 |.ret e,ρ,_,_,hr,_,hv=>by simp only[VC.qu,cM,List.map_nil,eI,and_true]at hr;show R (den ρ e);rw[<-hr];exact hv
 |.any ..,_,_,ho,_,_,_=>ho.elim
 |.Ym ..,_,_,ho,_,_,_=>ho.elim
 |.range ..,_,_,ho,_,_,_=>ho.elim
 |.stuck _,_,_,ho,_,_,_=>ho.elim
def VC.IZ{L:VC->(Nat->D)->Prop}{v:VC}{ρ:Nat->D}(h:v.quiet triv=true):v.yG Φ Pre triv L ρ:=by unfold VC.yG;rw[if_pos h];trivial
def VC.EP(Φ:Taa)(Pre:eN){B:Type}(enc:B->D)(lp:Nat->(Nat->D)->Taf->B)(a:List (Taf->Prop))(v:VC)(ρ:Nat->D):Prop:=
 match v with
 |.loop v0 es GZ body=>(VC.loop v0 es GZ body).holds Φ Pre (fun d=>d=enc (lp v0 ρ (es.map (den ρ)))) ρ a
 |_=>True
def VC.VZ(Φ:Taa)(Pre:eN){B:Type}(enc:B->D)(lp:Nat->(Nat->D)->Taf->B)(a:List (Taf->Prop))(v:VC)(ρ:Nat->D):Prop:=∀J:Taf->Prop,VC.EP Φ Pre enc lp (J::a) v ρ
def VC.FQ{B:Type}{dec:D->B}{enc:B->D}{lp:Nat->(Nat->D)->Taf->B}{bad:B}{y:B}{v:VC}{ρ:Nat->D}{kV:List (Taf->Prop)}(c:∀f a,triv f=true->Pre f a)(g:v.flat false=true)(w:v.yG Φ Pre triv (VC.EP Φ Pre enc lp kV) ρ)(u:(v.qu Φ ρ).map (fun d=>enc (dec d))=v.qu Φ ρ)(s:v.GX Φ dec (fun _ _=>bad) lp bad ρ=y):v.holds Φ Pre (fun d=>d=enc y) ρ kV:=by
 have m:∀(v:VC) (ρ:Nat->D),v.flat false=true->v.kR Φ ρ=[]:=by
  intro v
  induction v with
  |kx _ _ k ih=>intro ρ h;exact ih ρ h
  |call _ _ _ _ k ih=>intro ρ h;exact ih _ h
  |room _ _ _ k ih=>intro ρ h;exact ih ρ h
  |branch _ t f Yf P4=>
   intro ρ h;simp only[VC.flat,aT]at h;simp only[VC.kR,Yf ρ h.1,P4 ρ h.2,dh]
  |again i o=>intro ρ h;simp[VC.flat]at h
  |_=>intro ρ _;rfl
 have j:∀(v:VC) (ρ:Nat->D),v.flat false=true->v.GX Φ (fun d=>(.inr (dec d):Unit⊕B)) (fun _ l=>.inl ((fun _=>()) l)) (fun n ρ l=>.inr (lp n ρ l)) (.inr bad) ρ=.inr (v.GX Φ dec (fun _ _=>bad) lp bad ρ):=by
  intro v
  induction v with
  |kx _ _ k ih=>intro ρ h;exact ih ρ h
  |call _ _ _ _ k ih=>intro ρ h;exact ih _ h
  |room _ _ _ k ih=>intro ρ h;exact ih ρ h
  |branch e t f Yf P4=>
   intro ρ h;simp only[VC.flat,aT]at h;simp only[VC.GX,Yf ρ h.1,P4 ρ h.2];split<;>rfl
  |again i o=>intro ρ h;simp[VC.flat]at h
  |_=>intro ρ _;rfl
 subst s;refine VC.holds_of (A:=Unit) (decL:=fun _=>()) (encL:=fun _=>[]) (dec:=dec) (enc:=enc) (lp:=lp) (bad:=.inr bad) (J:=fun _=>False) (b:=false) c (fun h=>by cases h) _ ?_ v ρ g (VC.Ap w) u (by rw[m v ρ g];rfl) ?_
 .intro n o r p q C x;refine VC.ia (fun d z=>?_) _ _ _ C;rw[z];exact x
 rw[j v ρ g]
def VC.I9{A B:Type}{decL:Taf->A}{encL:A->Taf}{dec:D->B}{enc:B->D}{lp:A->Nat->(Nat->D)->Taf->B}{bad:A⊕B}{R:D->Prop}{kV:List (Taf->Prop)}{v0:Nat}{es:List E}{j:Tal}{c:VC}{ρ:Nat->D}(step:A->A⊕B)(F:A->B)(inv:A->Prop)(m:A->Nat)(i:A)(g:∀f a,triv f=true->Pre f a)(M:es.map (den ρ)=encL i)(hi:inv i)(k:∀a,decL (encL a)=a)(L:∀a,inv a->(match step a with| .inl a'=>F a=F a'/\inv a'/\m a'<m a| .inr y=>F a=y))(q:c.flat true=true)(r:∀a,inv a->c.GX Φ (fun d=>.inr (dec d)) (fun _ l=>.inl (decL l)) (fun v0 ρ l=>.inr (lp a v0 ρ l)) bad (fX ρ v0 (encL a))=step a)(x:∀a,(c.qu Φ (fX ρ v0 (encL a))).map (fun d=>enc (dec d))=c.qu Φ (fX ρ v0 (encL a)))(G:∀a,(c.kR Φ (fX ρ v0 (encL a))).map (fun l=>encL (decL l))=c.kR Φ (fX ρ v0 (encL a)))(p:∀a,inv a->dx (.V j) (encL a)->c.yG Φ Pre triv (VC.VZ Φ Pre enc (lp a) kV) (fX ρ v0 (encL a)))(H:R (enc (F i))):(VC.loop v0 es j c).holds Φ Pre R ρ kV:=by
 refine⟨fun o=>∃a,inv a/\o=encL a/\F a=F i,fun o=>m (decL o),⟨i,hi,M,rfl⟩,fun o w K=>?_⟩;obtain⟨a,h,rfl,n⟩:=K;refine VC.holds_of (decL:=decL) (encL:=encL) (dec:=dec) (enc:=enc) (lp:=lp a) (bad:=bad) (J:=fun t=>(∃a,inv a/\t=encL a/\F a=F i)/\m (decL t)<m (decL (encL a))) (b:=true) g (fun _=>rfl) _ ?_ c _ q (VC.Ap (p a h w)) (x a) (G a) ?_
 .intro O N u s v I z;refine VC.ia (fun d C=>?_) _ _ _ (I _);rw[C];exact z
 rw[r a h];have e:=L a h;revert e;cases step a with
 |inl a'=>
  intro e;exact⟨⟨a',e.2.1,rfl,e.1.symm.trans n⟩,by rw[k,k];exact e.2.2⟩
 |inr y=>
  intro e;simp only at e⊢;rw[<-e,n];exact H
end
def iz{A B:Type}(step:A->A⊕B)(bad:B):Nat->A->B
 |0,_=>bad
 |n+1,a=>match step a with
  |.inl a'=>iz step bad n a'
  |.inr b=>b
def CE{A B:Type}{step:A->A⊕B}{bad:B}{inv:A->Prop}{m:A->Nat}(h:∀a,inv a->(match step a with| .inl a'=>inv a'/\m a'<m a| .inr _=>True)):
  ∀(k:Nat) (a:A),inv a->m a<=k->∀n d,m a<n->m a<d->iz step bad n a=iz step bad d a
 |k,a,hi,hk,0,d,h1,h2=>by omega
 |k,a,hi,hk,n+1,0,h1,h2=>by omega
 |0,a,hi,hk,n+1,d+1,h1,h2=>by
  have c:=h a hi;simp only[iz];revert c;cases step a with
  |inl a'=>intro c;simp only at c;omega
  |inr b=>intro _;rfl
 |k+1,a,hi,hk,n+1,d+1,h1,h2=>by
  have c:=h a hi;simp only[iz];revert c;cases step a with
  |inl a'=>intro c;simp only at c;exact CE h k a' c.1 (by omega) n d (by omega) (by omega)
  |inr b=>intro _;rfl
def I8{A B:Type}{step:A->A⊕B}{bad:B}{inv:A->Prop}{m:A->Nat}(h:∀a,inv a->(match step a with| .inl a'=>inv a'/\m a'<m a| .inr _=>True))(a:A)(hi:inv a):
  (match step a with| .inl a'=>iz step bad (m a+1) a=iz step bad (m a'+1) a'/\inv a'/\m a'<m a| .inr y=>iz step bad (m a+1) a=y):=by
 have c:=h a hi;have e:iz step bad (m a+1) a=(match step a with| .inl a'=>iz step bad (m a) a'| .inr b=>b):=rfl;rw[e];revert c;cases step a with
 |inl a'=>intro c;simp only at c⊢;exact⟨CE h (m a') a' c.1 (aU _) _ _ c.2 (ca _),c.1,c.2⟩
 |inr y=>intro _;rfl
def fZ{A B:Type}{step:A->A⊕B}{bad:B}(I:A->Prop)(Q:B->Prop)(m:A->Nat)(h:∀a,I a->(match step a with| .inl a'=>I a'/\m a'<m a| .inr b=>Q b)):∀(n:Nat) (a:A),I a->m a<n->Q (iz step bad n a)
 |0,a,_,hn=>by omega
 |n+1,a,hi,hn=>by
  have c:=h a hi;simp only[iz];revert c;cases step a with
  |inl a'=>intro c;simp only at c;exact fZ I Q m h n a' c.1 (by omega)
  |inr b=>intro c;exact c
def VC.Yx(v0:Nat):VC->Tao VC
 |.kx _ _ k| .room _ _ _ k| .call _ _ _ _ k| .any _ _ k| .Ym _ _ k=>k.Yx v0
 |.branch _ t f=>match t.Yx v0 with|some v=>some v|none=>f.Yx v0
 |.loop v1 es GZ body=>if v1=v0 then some (.loop v1 es GZ body) else body.Yx v0
 |_=>none
def VC.lp(v0:Nat)(v:VC):VC:=(v.Yx v0).getD (.stuck 0)
def VC.lEs:VC->List E
 |.loop _ es _ _=>es
 |_=>[]
def VC.V1:VC->Tal
 |.loop _ _ GZ _=>GZ
 |_=>[]
def VC.vF:VC->VC
 |.loop _ _ _ b=>b
 |_=>.stuck 0
section
variable{Φ:Taa}{Pre:eN}{triv:Nat->Bool}
def VC.iq{A B:Type}{decL:Taf->A}{encL:A->Taf}{dec:D->B}{enc:B->D}{lp:A->Nat->(Nat->D)->Taf->B}{bad:A⊕B}{bd:B}{R:D->Prop}{kV:List (Taf->Prop)}{v:VC}{v0:Nat}{ρ:Nat->D}(k:v=.loop v0 v.lEs v.V1 v.vF)(step:A->A⊕B)(inv:A->Prop)(m:A->Nat)(c:A)(b:∀f a,triv f=true->Pre f a)(r:v.lEs.map (den ρ)=encL c)(hi:inv c)(j:∀a,decL (encL a)=a)(n:∀a,inv a->(match step a with| .inl a'=>inv a'/\m a'<m a| .inr _=>True))(h:v.vF.flat true=true)(i:∀a,inv a->v.vF.GX Φ (fun d=>.inr (dec d)) (fun _ l=>.inl (decL l)) (fun v0 ρ l=>.inr (lp a v0 ρ l)) bad (fX ρ v0 (encL a))=step a)(o:∀a,(v.vF.qu Φ (fX ρ v0 (encL a))).map (fun d=>enc (dec d))=v.vF.qu Φ (fX ρ v0 (encL a)))(p:∀a,(v.vF.kR Φ (fX ρ v0 (encL a))).map (fun l=>encL (decL l))=v.vF.kR Φ (fX ρ v0 (encL a)))(e:∀a,inv a->dx (.V v.V1) (encL a)->v.vF.yG Φ Pre triv (VC.VZ Φ Pre enc (lp a) kV) (fX ρ v0 (encL a)))(q:R (enc (iz step bd (m c+1) c))):v.holds Φ Pre R ρ kV:=by rw[k];exact VC.I9 step (fun a=>iz step bd (m a+1) a) inv m c b r hi j (fun a g=>I8 n a g) h i o p e q
end
section
variable{Φ:Taa}{Pre:eN}
def VC.js{B:Type}{enc:B->D}{lp:Nat->(Nat->D)->Taf->B}{a:List (Taf->Prop)}{v:VC}{ρ:Nat->D}(v0:Nat)(b:v=.loop v0 v.lEs v.V1 v.vF)(h:v.holds Φ Pre (fun d=>d=enc (lp v0 ρ (v.lEs.map (den ρ)))) ρ a):VC.EP Φ Pre enc lp a v ρ:=by rw[b]at h⊢;exact h
end
end Go.dF
namespace Go.Proofs.Ytjhmkaninmgilaa
open Go Go.RowKit Go.dF Go.Proofs
def ae1:Ty:=.agg (.V [.int i64,.int i64])
def ab5:Tal:=[.int i64,.int i64,.int i64,.list (.int i64),.list ON,.bool]
def afT:Tal:=[.int i64,.int i64,.int i64,.int i64,.list agf,.int i64,.bool]
def acu:Tal:=[.int i64,.int i64,.int i64,.bool,.bool,.int i64,.int i64,.int i64]
def C6:Tal:=[.int i64,.int i64,.int i64]++afT++acu++[.list ae1]++ab5++[.list (.int i64),.list (.int i64)]
def vw:Ty:=.agg (.V C6)
def dY:Ty:=.agg (.V ([.int i64,.int i64]++C6))
def ji:List bF:=[(.int i64,none),(.int i64,none),(dY,some (0,78))]
def mI:Ty:=.agg (.V [.list (.int i64),.list (.int i64)])
def I6:Ty:=.int i64
def VY:Tal:=[I6,I6,I6,I6,I6,I6,I6,.bool,I6,I6,I6,I6,.list dY,.list I6,.list I6,.list (.int .u8)]++C6++[I6,I6,.list ON]
def hP:Ty:=.agg (.V VY)
def zu:Tal:=[I6,I6]
def kz:Tal:=[I6,I6,.list I6,.list I6,.list (.int .u8)]
def Sn:Ty:=.agg (.V kz)
def iU:Ty:=.agg (.V (zu++kz++[.list dY]))
def uM:Ty:=.agg (.V [I6,I6])
def aa2:Ty:=.agg (.V [I6,I6,I6,.list I6])
def pl(l:Tal):List bF:=l.map fun t=>(t,none)
def lP:List bF:=pl [.bool,I6,I6]++[(dY,some (1,78)),(.ptr (.V kz),none),(hP,some (2,49)),(dY,some (3,78)),(uM,some (4,153))]++
 pl [I6,.list I6,.list I6,I6,I6]++[(.box .nil,none)]++pl kz++pl [I6,I6,I6,I6,I6]++[(I6,some (5,3))]++pl (List.replicate 18 I6)++pl [I6,.list aa2]++pl [I6,I6,I6,I6,I6]++[(.int .u8,some (6,5))]
def Hb:Ty:=.box (.V [I6,I6,.list dY])
def ue:Ty:=.box (.V (lP.map fun r=>if r=Jq then Hb else ET r))
def eZ:Tal:=lP.map ET++ji.map ET
def yK:List (Nat×List (Nat×Tba)):=[(0,[(3,78),(5,49),(6,78),(7,153),(24,3),(50,5),(1002,78)])]
def dG(k:Nat):Ob:=⟨true::List.replicate k false,[lP,ji],[lP,ji],false⟩
def X9:dL:=⟨[.list (.int i64),.int i64],[(false,[(.int i64,none)])],none⟩
def Zx:List (Nat×dL):=(79,X9):: []
def s56:dL:=⟨[.list (.int i64),.int i64],[(false,[(.bool,none)])],none⟩
def ZK:List (Nat×dL):=(56,s56)::Zx
def s61:dL:=⟨[.list (.int i64)],[(false,[(.int i64,some (1,3))])],none⟩
def ZG:List (Nat×dL):=(61,s61)::ZK
def s82:dL:=⟨[.list (.int i64)],[],some ⟨[],[],[[],[]],false⟩⟩
def Zw:List (Nat×dL):=(82,s82)::ZG
def s83:dL:=⟨[.list (.int i64)],[(false,[(.list (.int i64),none)])],some ⟨[],[],[[],[]],false⟩⟩
def Zv:List (Nat×dL):=(83,s83)::Zw
def s55:dL:=⟨[.list (.int i64)],[(false,[(.bool,none)])],none⟩
def ZL:List (Nat×dL):=(55,s55)::Zv
def s21:dL:=⟨[mI],[(false,[(.bool,none)])],none⟩
def Z2:List (Nat×dL):=(21,s21)::ZL
def s36:dL:=⟨[mI,.int i64],[(false,[(.bool,none)])],none⟩
def ZT:List (Nat×dL):=(36,s36)::Z2
def s63:dL:=⟨[mI],[(false,[(.list (.int i64),none)])],none⟩
def ZF:List (Nat×dL):=(63,s63)::ZT
def s66:dL:=⟨[mI,.list (.int i64)],[(false,[(.bool,none)])],none⟩
def ZE:List (Nat×dL):=(66,s66)::ZF
def UO:dL:=⟨[mI,.list (.int i64)],[(false,[(.int i64,none)])],none⟩
def ZA:List (Nat×dL):=(72,UO)::ZE
def Yv:dL:=⟨[mI,mI],[(false,[(.bool,none)])],none⟩
def ZC:List (Nat×dL):=(70,Yv)::ZA
def s20:dL:=⟨[.int i64,.int i64,.int i64],[(false,[(.bool,none)])],none⟩
def Z3:List (Nat×dL):=(20,s20)::ZC
def s52:dL:=⟨[.list (.int .u8)],[(false,[(.int .u8,some (1,5))])],none⟩
def ZN:List (Nat×dL):=(52,s52)::Z3
def s60:dL:=⟨[dY],[(false,[(.bool,none)])],none⟩
def ZH:List (Nat×dL):=(60,s60)::ZN
def MT:dL:=⟨[.list dY,.fn 60 .nil],[(false,[(.int i64,none)])],none⟩
def N6:List (Nat×dL):=(80,MT)::ZH
def MU:dL:=⟨[.list dY,.fn 60 .nil],[(false,[(.bool,none)])],none⟩
def N7:List (Nat×dL):=(59,MU)::N6
def s24:dL:=⟨[.list dY],[(false,[(.bool,none)])],none⟩
def Z0:List (Nat×dL):=(24,s24)::N7
def s26:dL:=⟨[mI],[(true,[(I6,some (11,3)),(I6,some (12,3))])],none⟩
def ZY:List (Nat×dL):=(26,s26)::Z0
def s28:dL:=⟨[Hb],[(false,[(.int i64,none)]),(false,[(.int i64,none)])],none⟩
def ZX:List (Nat×dL):=(28,s28)::ZY
def s25:dL:=⟨[Hb],[(false,[(.int i64,none)]),(false,[(.int i64,none)])],none⟩
def ZZ:List (Nat×dL):=(25,s25)::ZX
def s50:dL:=⟨[Hb,I6],[(false,[(.int i64,none)]),(false,[(.int i64,none)])],none⟩
def ZP:List (Nat×dL):=(50,s50)::ZZ
def rm:dL:=⟨[Hb,I6,I6],[(false,[(.bool,none)])],none⟩
def Zz:List (Nat×dL):=(74,rm)::ZP
def s65:dL:=⟨[Hb,I6,I6],[(false,[(dY,some (9,78))])],none⟩
def Vl:List (Nat×dL):=(65,s65)::Zz
def s49:dL:=⟨[ue,I6],[(true,[(I6,some (11,3)),(I6,some (12,3))])],none⟩
def ZQ:List (Nat×dL):=(49,s49)::Vl
def s29:dL:=⟨[ue],[(true,[(I6,some (11,3)),(I6,some (12,3))])],none⟩
def Vx:List (Nat×dL):=(29,s29)::ZQ
def s32:dL:=⟨[ue,mI],[(false,[(I6,some (10,3))])],none⟩
def ZW:List (Nat×dL):=(32,s32)::Vx
def s76:dL:=⟨[ue,I6],[(false,[(.bool,none)])],none⟩
def Vh:List (Nat×dL):=(76,s76)::ZW
def s69:dL:=⟨[ue],[(false,[(.bool,none)])],none⟩
def ZD:List (Nat×dL):=(69,s69)::Vh
def xI:dL:=⟨[ue],[(false,[(.bool,none)])],none⟩
def Vj:List (Nat×dL):=(68,xI)::ZD
def s38:dL:=⟨[ue,vw],[(false,[(.int i64,none)])],none⟩
def aeU:List (Nat×dL):=(38,s38)::Vj
def s12:dL:=⟨[ue],[(true,pl [I6,I6,I6,I6,I6,I6,I6]++[(I6,some (11,3)),(I6,some (12,3))])],none⟩
def s57:dL:=⟨[.int i64,.int i64,.int i64],[(false,[(.bool,none)])],none⟩
def Si:List (Nat×dL):=[(12,s12),(38,s38),(68,xI),(69,s69),(76,s76),(32,s32),(29,s29),(49,s49),(65,s65),(74,rm),(50,s50),(25,s25),(28,s28),(26,s26),(24,s24),(59,MU),(80,MT),(60,s60),(52,s52),(20,s20),(70,Yv),(72,UO),(66,s66),(63,s63),(36,s36),(21,s21),(55,s55),(61,s61),(56,s56),(79,X9)]
def ZJ:List (Nat×dL):=(57,s57)::Si
def lK:dL:=⟨[.int i64,.int i64,.list (dY)],[(false,[(.bool,none)])],none⟩
def ZI:List (Nat×dL):=(58,lK)::ZJ
def s23:dL:=⟨[.int i64,.int i64,.list dY,.int i64,.int i64,.list dY],[(false,[(.int i64,none)]),(false,[(.bool,none)])],some ⟨[true,false,false,false],[ji],[ji],false⟩⟩
def Z1:List (Nat×dL):=(23,s23)::ZI
def s71:dL:=⟨[.int i64,vw,.int i64,.int i64,.list dY],[(true,dY.cells.map fun c=>(c,none)),(false,[(.int i64,none)])],some ⟨[true,false,false],[ji],[ji],false⟩⟩
def ZB:List (Nat×dL):=(71,s71)::Z1
def s51:dL:=⟨[.int i64,.int i64,.int i64,.list dY],[(false,[(.int i64,none)])],some ⟨[true,false],[ji],[ji],false⟩⟩
def ZO:List (Nat×dL):=(51,s51)::ZB
def snw:dL:=⟨[.int i64,.int i64],[],some ⟨[false,false],[],[ji],true⟩⟩
def snl:dL:=⟨[I6,I6],[(false,[(.ptr (.V [I6,I6,.list dY]),none)])],none⟩
def Z4:dL:=⟨[.int i64,.int i64,.int i64,.int i64,.list dY],[(false,[(.list dY,none)])],some ⟨[true,false,false],[ji],[ji],false⟩⟩
def Sh:List (Nat×dL):=(65,Z4)::ZO
def s53:dL:=⟨[]++eZ,[],some (dG 0)⟩
def ZM:List (Nat×dL):=(53,s53)::Sh
def s35:dL:=⟨[]++eZ,[],some (dG 0)⟩
def ZU:List (Nat×dL):=(35,s35)::ZM
def s64:dL:=⟨[hP]++eZ,[],some (dG 1)⟩
def Vm:List (Nat×dL):=(64,s64)::ZU
def s41:dL:=⟨[I6,I6]++eZ,[],some (dG 2)⟩
def ZS:List (Nat×dL):=(41,s41)::Vm
def s34:dL:=⟨[]++eZ,[(true,pl [.bool,I6,I6,.list dY,.ptr (.V kz),.list hP,.list dY,.list uM])],some (dG 0)⟩
def Vw:List (Nat×dL):=(34,s34)::ZS
def s39:dL:=⟨[vw]++eZ,[(true,pl dY.cells),(false,[(.int i64,none)])],some (dG 1)⟩
def Vu:List (Nat×dL):=(39,s39)::Vw
def s33:dL:=⟨[I6]++eZ,[],some (dG 1)⟩
def ZV:List (Nat×dL):=(33,s33)::Vu
def ED:dL:=⟨[dY],[(false,[(.bool,none)])],none⟩
def Zu:List (Nat×dL):=(84,ED)::ZV
def Sr:dL:=⟨[.list dY,.fn 84 .nil],[(false,[(.int i64,none)])],none⟩
def N5:List (Nat×dL):=(80,Sr)::Zu
def Ss:dL:=⟨[.list dY,.fn 84 .nil],[(false,[(.bool,none)])],none⟩
def Hj:List (Nat×dL):=(59,Ss)::N5
def s73:dL:=⟨[I6]++eZ,[(false,[(.bool,none)])],some (dG 1)⟩
def Vi:List (Nat×dL):=(73,s73)::Hj
def s40:dL:=⟨[]++eZ,[],some (dG 0)⟩
def Vt:List (Nat×dL):=(40,s40)::Vi
def jr:dL:=⟨[]++eZ,[],some (dG 0)⟩
def Vk:List (Nat×dL):=(67,jr)::Vt
def s37:dL:=⟨[mI]++eZ,[],some (dG 1)⟩
def Vv:List (Nat×dL):=(37,s37)::Vk
def s42:dL:=⟨[hP]++eZ,[],some (dG 1)⟩
def Vs:List (Nat×dL):=(42,s42)::Vv
def s43:dL:=⟨[hP]++eZ,[],some (dG 1)⟩
def Vr:List (Nat×dL):=(43,s43)::Vs
def s44:dL:=⟨[hP]++eZ,[],some (dG 1)⟩
def Vq:List (Nat×dL):=(44,s44)::Vr
def Yb:dL:=⟨[hP]++eZ,[(false,[(.bool,none)])],some (dG 1)⟩
def Zy:List (Nat×dL):=(75,Yb)::Vq
def Z5:dL:=⟨[.int i64,.int i64,.int i64,.int i64,.list dY],[(false,[(dY,some (1,78))])],some ⟨[true,false,false],[ji],[ji],false⟩⟩
def MR:List (Nat×dL):=(65,Z5)::Zy
def s45:dL:=⟨[hP]++eZ,[],some (dG 1)⟩
def Vp:List (Nat×dL):=(45,s45)::MR
def nQ:dL:=⟨[hP]++eZ,[],some (dG 1)⟩
def Vg:List (Nat×dL):=(77,nQ)::Vp
def Ya:dL:=⟨[I6,I6]++eZ,[],some (dG 2)⟩
def Vf:List (Nat×dL):=(78,Ya)::Vg
def s46:dL:=⟨[hP]++eZ,[],some (dG 1)⟩
def Vo:List (Nat×dL):=(46,s46)::Vf
def s48:dL:=⟨[hP]++eZ,[],some (dG 1)⟩
def ZR:List (Nat×dL):=(48,s48)::Vo
def s27:dL:=⟨[Sn],[(true,pl [I6,I6]++[(I6,some (11,3)),(I6,some (12,3)),(.int .u8,some (13,5))])],none⟩
def Vy:List (Nat×dL):=(27,s27)::ZR
def s47:dL:=⟨[hP]++eZ,[],some {dG 1 with fresh:=true}⟩
def aeX:dL:=⟨[.int i64,.int i64],[],some ⟨[false,false],[],[ji],true⟩⟩
def JS:List (Nat×z8):=[(22,⟨[],I6,0,I6,0,some (aeX,.ptr (.V [I6,I6,.list dY]))⟩)]
def Vn:List (Nat×dL):=(47,s47)::Vy
def s17:dL:=⟨[hP]++eZ,[(true,pl [.bool,I6,I6,.list dY,.ptr (.V kz),.list hP,.list dY,.list uM])],some {dG 1 with fresh:=true}⟩
def Vz:List (Nat×dL):=(17,s17)::Vn
def s15:dL:=⟨[I6]++eZ,[(true,pl [.bool,I6,I6,.list dY,.ptr (.V kz),.list hP,.list dY,.list uM])],some (dG 1)⟩
def VA:List (Nat×dL):=(15,s15)::Vz
def s16:dL:=⟨[vw]++eZ,[(true,pl dY.cells),(false,[(.int i64,none)]),(true,pl [.bool,I6,I6,.list dY,.ptr (.V kz),.list hP,.list dY,.list uM])],some (dG 1)⟩
def s18:dL:=⟨[I6,.list (.int .u8)]++eZ,[(false,[(.int i64,none)]),(true,pl [.bool,I6,I6,.list dY,.ptr (.V kz),.list hP,.list dY,.list uM])],some (dG 2)⟩
def s81:dL:=⟨[.list (.int i64),.list (.int i64)],[(false,[(.bool,none)])],none⟩
def s62:dL:=⟨[mI,mI],[(false,[(.bool,none)])],none⟩
def s31:dL:=⟨[vw,vw],[(false,[(.bool,none)])],none⟩
def s8:dL:=⟨[.int i64,.int i64],[(false,[(.int i64,none)])],none⟩
noncomputable section
def YR:VC:=
 .loop 6 [.aZ i64 (0),.aZ i64 (0)] [.int i64,.int i64] (
  .branch (.bin (.lt) (.var 7) (.un (.len) (.var 0))) (
   .kx [] (.bin (.and) (.bin (.le) (.aZ i64 (0)) (.var 7)) (.bin (.lt) (.var 7) (.un (.len) (.var 0))))<|
   .branch (.bin (.eq) (.var 1) (.bin (.idx) (.var 0) (.var 7))) (
    .ret (.var 7))
    (
    .again 0 [.var 6,.bin (.add i64) (.var 7) (.aZ i64 (1))]))
   (
   .ret (.aZ i64 (-1))))
def Y5:VC:=
 .call 5 79 (.cons (.var 0) (.cons (.var 1) (.nil))) []<|
 .ret (.bin (.ge) (.var 5) (.aZ i64 (0)))
def Y6:VC:=
 .loop 5 [.fa false,.aZ i64 (0)] [.bool,.int i64] (
  .branch (.bin (.lt) (.var 6) (.un (.len) (.var 0))) (
   .kx [] (.bin (.and) (.bin (.le) (.aZ i64 (0)) (.var 6)) (.bin (.lt) (.var 6) (.un (.len) (.var 0))))<|
   .kx [(.bin (.lt) (.bin (.idx) (.var 0) (.var 6)) (.aZ i64 (1)),false)] (.bin (.and) (.bin (.le) (.aZ i64 (0)) (.var 6)) (.bin (.lt) (.var 6) (.un (.len) (.var 0))))<|
   .kx [(.bin (.gt) (.var 6) (.aZ i64 (0)),true),(.bin (.or) (.bin (.lt) (.bin (.idx) (.var 0) (.var 6)) (.aZ i64 (1))) (.bin (.gt) (.bin (.idx) (.var 0) (.var 6)) (.aZ i64 (5))),false)] (.bin (.and) (.bin (.le) (.aZ i64 (0)) (.bin (.sub i64) (.var 6) (.aZ i64 (1)))) (.bin (.lt) (.bin (.sub i64) (.var 6) (.aZ i64 (1))) (.un (.len) (.var 0))))<|
   .kx [(.bin (.gt) (.var 6) (.aZ i64 (0)),true),(.bin (.or) (.bin (.lt) (.bin (.idx) (.var 0) (.var 6)) (.aZ i64 (1))) (.bin (.gt) (.bin (.idx) (.var 0) (.var 6)) (.aZ i64 (5))),false)] (.bin (.and) (.bin (.le) (.aZ i64 (0)) (.var 6)) (.bin (.lt) (.var 6) (.un (.len) (.var 0))))<|
   .branch (.bin (.or) (.bin (.or) (.bin (.lt) (.bin (.idx) (.var 0) (.var 6)) (.aZ i64 (1))) (.bin (.gt) (.bin (.idx) (.var 0) (.var 6)) (.aZ i64 (5)))) (.bin (.and) (.bin (.gt) (.var 6) (.aZ i64 (0))) (.bin (.ge) (.bin (.idx) (.var 0) (.bin (.sub i64) (.var 6) (.aZ i64 (1)))) (.bin (.idx) (.var 0) (.var 6))))) (
    .ret (.fa false))
    (
    .again 0 [.var 5,.bin (.add i64) (.var 6) (.aZ i64 (1))]))
   (
   .ret (.fa true)))
def Zr:VC:=
 .call 5 55 (.cons (.un (.cell 0) (.var 0)) (.nil)) []<|
 .call 10 55 (.cons (.un (.cell 1) (.var 0)) (.nil)) [(.un (.not) (.var 5),false)]<|
 .branch (.bin (.or) (.bin (.or) (.un (.not) (.var 5)) (.un (.not) (.var 10))) (.bin (.eq) (.un (.len) (.un (.cell 0) (.var 0))) (.aZ i64 (0)))) (
  .ret (.fa false))
  (
  .loop 23 [.fa false,.aZ i64 (0)] [.bool,.int i64] (
   .branch (.bin (.lt) (.var 24) (.un (.len) (.un (.cell 1) (.var 0)))) (
    .kx [] (.bin (.and) (.bin (.le) (.aZ i64 (0)) (.var 24)) (.bin (.lt) (.var 24) (.un (.len) (.un (.cell 1) (.var 0)))))<|
    .call 35 56 (.cons (.un (.cell 0) (.var 0)) (.cons (.bin (.idx) (.un (.cell 1) (.var 0)) (.var 24)) (.nil))) []<|
    .branch (.var 35) (
     .ret (.fa false))
     (
     .again 0 [.var 23,.bin (.add i64) (.var 24) (.aZ i64 (1))]))
    (
    .ret (.fa true))))
def Zk:VC:=
 .call 7 56 (.cons (.un (.cell 0) (.var 0)) (.cons (.var 1) (.nil))) []<|
 .ret (.var 7)
def Y1:VC:=
 .call 5 61 (.cons (.un (.cell 0) (.var 0)) (.nil)) []<|
 .room [] (.bin (.cat) (.var 5) (.un (.cell 1) (.var 0))) 8<|
 .call 11 82 (.cons (.bin (.cat) (.var 5) (.un (.cell 1) (.var 0))) (.nil)) []<|
 .call 13 83 (.cons (.var 11) (.nil)) []<|
 .ret (.var 13)
def YZ:VC:=
 .loop 9 [.aZ i64 (0),.aZ i64 (0)] [.int i64,.int i64] (
  .branch (.bin (.lt) (.var 10) (.un (.len) (.un (.cell 0) (.var 0)))) (
   .kx [] (.bin (.and) (.bin (.le) (.aZ i64 (0)) (.var 10)) (.bin (.lt) (.var 10) (.un (.len) (.un (.cell 0) (.var 0)))))<|
   .call 20 56 (.cons (.var 1) (.cons (.bin (.idx) (.un (.cell 0) (.var 0)) (.var 10)) (.nil))) []<|
   .branch (.var 20) (
    .again 0 [.bin (.add i64) (.var 9) (.aZ i64 (1)),.bin (.add i64) (.var 10) (.aZ i64 (1))])
    (
    .again 0 [.var 9,.bin (.add i64) (.var 10) (.aZ i64 (1))]))
   (
   .ret (.bin (.gt) (.bin (.mul i64) (.aZ i64 (2)) (.var 9)) (.un (.len) (.un (.cell 0) (.var 0))))))
def YW:VC:=
 .loop 9 [.nil,.aZ i64 (0)] [.list (.int i64),.int i64] (
  .branch (.bin (.lt) (.var 10) (.un (.len) (.un (.cell 0) (.var 0)))) (
   .kx [] (.bin (.and) (.bin (.le) (.aZ i64 (0)) (.var 10)) (.bin (.lt) (.var 10) (.un (.len) (.un (.cell 0) (.var 0)))))<|
   .branch (.bin (.and) (.bin (.ge) (.bin (.idx) (.un (.cell 0) (.var 0)) (.var 10)) (.aZ i64 (1))) (.bin (.le) (.bin (.idx) (.un (.cell 0) (.var 0)) (.var 10)) (.un (.len) (.var 1)))) (
    .kx [] (.bin (.and) (.bin (.le) (.aZ i64 (0)) (.bin (.sub i64) (.bin (.idx) (.un (.cell 0) (.var 0)) (.var 10)) (.aZ i64 (1)))) (.bin (.lt) (.bin (.sub i64) (.bin (.idx) (.un (.cell 0) (.var 0)) (.var 10)) (.aZ i64 (1))) (.un (.len) (.var 1))))<|
    .room [] (.bin (.cat) (.var 9) (.cons (.bin (.max i64) (.aZ i64 (0)) (.bin (.idx) (.var 1) (.bin (.sub i64) (.bin (.idx) (.un (.cell 0) (.var 0)) (.var 10)) (.aZ i64 (1))))) (.nil))) 8<|
    .again 0 [.bin (.cat) (.var 9) (.cons (.bin (.max i64) (.aZ i64 (0)) (.bin (.idx) (.var 1) (.bin (.sub i64) (.bin (.idx) (.un (.cell 0) (.var 0)) (.var 10)) (.aZ i64 (1))))) (.nil)),.bin (.add i64) (.var 10) (.aZ i64 (1))])
    (
    .room [] (.bin (.cat) (.var 9) (.cons (.aZ i64 (0)) (.nil))) 8<|
    .again 0 [.bin (.cat) (.var 9) (.cons (.aZ i64 (0)) (.nil)),.bin (.add i64) (.var 10) (.aZ i64 (1))]))
   (
   .branch (.bin (.eq) (.un (.len) (.var 9)) (.aZ i64 (0))) (
    .ret (.aZ i64 (0)))
    (
    .call 16 82 (.cons (.var 9) (.nil)) []<|
    .kx [] (.bin (.ne) (.aZ i64 (2)) (.aZ i64 (0)))<|
    .kx [] (.bin (.and) (.bin (.le) (.aZ i64 (0)) (.bin (.quo i64) (.bin (.sub i64) (.un (.len) (.var 16)) (.aZ i64 (1))) (.aZ i64 (2)))) (.bin (.lt) (.bin (.quo i64) (.bin (.sub i64) (.un (.len) (.var 16)) (.aZ i64 (1))) (.aZ i64 (2))) (.un (.len) (.var 16))))<|
    .ret (.bin (.idx) (.var 16) (.bin (.quo i64) (.bin (.sub i64) (.un (.len) (.var 16)) (.aZ i64 (1))) (.aZ i64 (2)))))))
def YY:VC:=
 .call 6 21 (.cons (.un (.agg) (.cons (.un (.cell 0) (.var 0)) (.cons (.un (.cell 1) (.var 0)) (.nil)))) (.nil)) []<|
 .call 10 21 (.cons (.un (.agg) (.cons (.un (.cell 0) (.var 1)) (.cons (.un (.cell 1) (.var 1)) (.nil)))) (.nil)) [(.un (.not) (.var 6),false)]<|
 .branch (.bin (.or) (.un (.not) (.var 6)) (.un (.not) (.var 10))) (
  .ret (.fa false))
  (
  .loop 15 [.aZ i64 (0),.aZ i64 (0)] [.int i64,.int i64] (
   .branch (.bin (.lt) (.var 16) (.aZ i64 (6))) (
    .call 22 36 (.cons (.un (.agg) (.cons (.un (.cell 0) (.var 0)) (.cons (.un (.cell 1) (.var 0)) (.nil)))) (.cons (.var 16) (.nil))) []<|
    .call 25 36 (.cons (.un (.agg) (.cons (.un (.cell 0) (.var 1)) (.cons (.un (.cell 1) (.var 1)) (.nil)))) (.cons (.var 16) (.nil))) []<|
    .branch (.un (.not) (.bin (.beq) (.var 22) (.var 25))) (
     .again 0 [.bin (.add i64) (.var 15) (.aZ i64 (1)),.bin (.add i64) (.var 16) (.aZ i64 (1))])
     (
     .again 0 [.var 15,.bin (.add i64) (.var 16) (.aZ i64 (1))]))
    (
    .ret (.bin (.le) (.var 15) (.aZ i64 (1))))))
def Zs:VC:=
 .ret (.bin (.and) (.bin (.ge) (.var 0) (.var 1)) (.bin (.le) (.var 0) (.var 2)))
def Y7:VC:=
 .branch (.bin (.eq) (.un (.len) (.var 0)) (.aZ i64 (0))) (
  .any 3 (.bool)<|
  .branch (.var 3) (
   .ret (.nil))
   (
   .room [] (.bin (.cat) (.nil) (.var 0)) 1<|
   .ret (.bin (.cat) (.nil) (.var 0))))
  (
  .any 3 (.bool)<|
  .room [] (.bin (.cat) (.nil) (.var 0)) 1<|
  .ret (.bin (.cat) (.nil) (.var 0)))
def aeJ:VC:=
 .call 11 21 (.cons (.un (.agg) (.cons (.un (.cell 27) (.var 0)) (.cons (.un (.cell 28) (.var 0)) (.nil)))) (.nil)) [(.bin (.eq) (.un (.cell 2) (.var 0)) (.aZ i64 (2)),true)]<|
 .ret (.bin (.and) (.bin (.eq) (.un (.cell 2) (.var 0)) (.aZ i64 (2))) (.un (.not) (.var 11)))
def N0:VC:=
 .loop 6 [.aZ i64 (0),.aZ i64 (0)] [.int i64,.int i64] (
  .branch (.bin (.lt) (.var 7) (.un (.len) (.var 0))) (
   .kx [] (.bin (.and) (.bin (.le) (.aZ i64 (0)) (.var 7)) (.bin (.lt) (.var 7) (.un (.len) (.var 0))))<|
   .call 16 60 (.cons (.bin (.idx) (.var 0) (.var 7)) (.nil)) []<|
   .branch (.var 16) (
    .ret (.var 7))
    (
    .again 0 [.var 6,.bin (.add i64) (.var 7) (.aZ i64 (1))]))
   (
   .ret (.aZ i64 (-1))))
def N2:VC:=
 .call 5 80 (.cons (.var 0) (.cons (.var 1) (.nil))) []<|
 .ret (.bin (.ge) (.var 5) (.aZ i64 (0)))
def Zp:VC:=
 .call 3 59 (.cons (.var 0) (.cons (.un (.fnc 60) (.nil)) (.nil))) []<|
 .ret (.un (.not) (.var 3))
def Zn:VC:=
 .call 5 61 (.cons (.un (.cell 0) (.var 0)) (.nil)) []<|
 .call 8 61 (.cons (.un (.cell 1) (.var 0)) (.nil)) []<|
 .ret (.un (.agg) (.cons (.var 5) (.cons (.var 8) (.nil))))
def Zm:VC:=
 .ret (.un (.ff) (.cons (.un (.cell 0) (.un (.agg) (.var 0))) (.cons (.un (.cell 1) (.un (.agg) (.var 0))) (.nil))))
def Zo:VC:=
 .branch (.bin (.eq) (.un (.len) (.un (.cell 2) (.un (.agg) (.var 0)))) (.aZ i64 (0))) (
  .call 10 28 (.cons (.var 0) (.nil)) []<|
  .ret (.un (.ff) (.cons (.un (.cell 0) (.var 10)) (.cons (.un (.cell 1) (.var 10)) (.nil)))))
  (
  .kx [] (.bin (.and) (.bin (.le) (.aZ i64 (0)) (.bin (.sub i64) (.un (.len) (.un (.cell 2) (.un (.agg) (.var 0)))) (.aZ i64 (1)))) (.bin (.lt) (.bin (.sub i64) (.un (.len) (.un (.cell 2) (.un (.agg) (.var 0)))) (.aZ i64 (1))) (.un (.len) (.un (.cell 2) (.un (.agg) (.var 0))))))<|
  .ret (.un (.ff) (.cons (.un (.cell 0) (.bin (.idx) (.un (.cell 2) (.un (.agg) (.var 0))) (.bin (.sub i64) (.un (.len) (.un (.cell 2) (.un (.agg) (.var 0)))) (.aZ i64 (1))))) (.cons (.un (.cell 1) (.bin (.idx) (.un (.cell 2) (.un (.agg) (.var 0))) (.bin (.sub i64) (.un (.len) (.un (.cell 2) (.un (.agg) (.var 0)))) (.aZ i64 (1))))) (.nil)))))
def Y9:VC:=
 .branch (.bin (.lt) (.var 1) (.un (.cell 0) (.un (.agg) (.var 0)))) (
  .ret (.un (.ff) (.cons (.aZ i64 (0)) (.cons (.aZ i64 (23)) (.nil)))))
  (
  .branch (.bin (.eq) (.var 1) (.un (.cell 0) (.un (.agg) (.var 0)))) (
   .ret (.un (.ff) (.cons (.un (.cell 1) (.un (.agg) (.var 0))) (.cons (.aZ i64 (0)) (.nil)))))
   (
   .branch (.bin (.gt) (.bin (.sub i64) (.var 1) (.un (.cell 0) (.un (.agg) (.var 0)))) (.un (.len) (.un (.cell 2) (.un (.agg) (.var 0))))) (
    .ret (.un (.ff) (.cons (.aZ i64 (0)) (.cons (.aZ i64 (3)) (.nil)))))
    (
    .kx [] (.bin (.and) (.bin (.le) (.aZ i64 (0)) (.bin (.sub i64) (.bin (.sub i64) (.var 1) (.un (.cell 0) (.un (.agg) (.var 0)))) (.aZ i64 (1)))) (.bin (.lt) (.bin (.sub i64) (.bin (.sub i64) (.var 1) (.un (.cell 0) (.un (.agg) (.var 0)))) (.aZ i64 (1))) (.un (.len) (.un (.cell 2) (.un (.agg) (.var 0))))))<|
    .ret (.un (.ff) (.cons (.un (.cell 1) (.bin (.idx) (.un (.cell 2) (.un (.agg) (.var 0))) (.bin (.sub i64) (.bin (.sub i64) (.var 1) (.un (.cell 0) (.un (.agg) (.var 0)))) (.aZ i64 (1))))) (.cons (.aZ i64 (0)) (.nil)))))))
def YU:VC:=
 .call 5 25 (.cons (.var 0) (.nil)) []<|
 .ret (.bin (.or) (.bin (.gt) (.var 2) (.un (.cell 1) (.var 5))) (.bin (.and) (.bin (.eq) (.var 2) (.un (.cell 1) (.var 5))) (.bin (.ge) (.var 1) (.un (.cell 0) (.var 5)))))
def Y0:VC:=
 .branch (.bin (.or) (.bin (.or) (.bin (.lt) (.var 2) (.aZ i64 (1))) (.bin (.le) (.var 1) (.un (.cell 0) (.un (.agg) (.var 0))))) (.bin (.ge) (.bin (.sub i64) (.bin (.sub i64) (.var 1) (.un (.cell 0) (.un (.agg) (.var 0)))) (.aZ i64 (1))) (.un (.len) (.un (.cell 2) (.un (.agg) (.var 0)))))) (
  .ret (.nil))
  (
  .branch (.bin (.lt) (.var 2) (.bin (.sub i64) (.un (.len) (.un (.cell 2) (.un (.agg) (.var 0)))) (.bin (.sub i64) (.bin (.sub i64) (.var 1) (.un (.cell 0) (.un (.agg) (.var 0)))) (.aZ i64 (1))))) (
   .kx [] (.bin (.and) (.bin (.le) (.aZ i64 (0)) (.bin (.sub i64) (.bin (.sub i64) (.var 1) (.un (.cell 0) (.un (.agg) (.var 0)))) (.aZ i64 (1)))) (.bin (.and) (.bin (.le) (.bin (.sub i64) (.bin (.sub i64) (.var 1) (.un (.cell 0) (.un (.agg) (.var 0)))) (.aZ i64 (1))) (.bin (.add i64) (.bin (.sub i64) (.bin (.sub i64) (.var 1) (.un (.cell 0) (.un (.agg) (.var 0)))) (.aZ i64 (1))) (.var 2))) (.bin (.le) (.bin (.add i64) (.bin (.sub i64) (.bin (.sub i64) (.var 1) (.un (.cell 0) (.un (.agg) (.var 0)))) (.aZ i64 (1))) (.var 2)) (.un (.len) (.un (.cell 2) (.un (.agg) (.var 0)))))))<|
   .room [] (.bin (.cat) (.nil) (.bin (.drop) (.bin (.take) (.un (.cell 2) (.un (.agg) (.var 0))) (.bin (.add i64) (.bin (.sub i64) (.bin (.sub i64) (.var 1) (.un (.cell 0) (.un (.agg) (.var 0)))) (.aZ i64 (1))) (.var 2))) (.bin (.sub i64) (.bin (.sub i64) (.var 1) (.un (.cell 0) (.un (.agg) (.var 0)))) (.aZ i64 (1))))) 320<|
   .ret (.bin (.cat) (.nil) (.bin (.drop) (.bin (.take) (.un (.cell 2) (.un (.agg) (.var 0))) (.bin (.add i64) (.bin (.sub i64) (.bin (.sub i64) (.var 1) (.un (.cell 0) (.un (.agg) (.var 0)))) (.aZ i64 (1))) (.var 2))) (.bin (.sub i64) (.bin (.sub i64) (.var 1) (.un (.cell 0) (.un (.agg) (.var 0)))) (.aZ i64 (1))))))
   (
   .kx [] (.bin (.and) (.bin (.le) (.aZ i64 (0)) (.bin (.sub i64) (.bin (.sub i64) (.var 1) (.un (.cell 0) (.un (.agg) (.var 0)))) (.aZ i64 (1)))) (.bin (.and) (.bin (.le) (.bin (.sub i64) (.bin (.sub i64) (.var 1) (.un (.cell 0) (.un (.agg) (.var 0)))) (.aZ i64 (1))) (.un (.len) (.un (.cell 2) (.un (.agg) (.var 0))))) (.bin (.le) (.un (.len) (.un (.cell 2) (.un (.agg) (.var 0)))) (.un (.len) (.un (.cell 2) (.un (.agg) (.var 0)))))))<|
   .room [] (.bin (.cat) (.nil) (.bin (.drop) (.bin (.take) (.un (.cell 2) (.un (.agg) (.var 0))) (.un (.len) (.un (.cell 2) (.un (.agg) (.var 0))))) (.bin (.sub i64) (.bin (.sub i64) (.var 1) (.un (.cell 0) (.un (.agg) (.var 0)))) (.aZ i64 (1))))) 320<|
   .ret (.bin (.cat) (.nil) (.bin (.drop) (.bin (.take) (.un (.cell 2) (.un (.agg) (.var 0))) (.un (.len) (.un (.cell 2) (.un (.agg) (.var 0))))) (.bin (.sub i64) (.bin (.sub i64) (.var 1) (.un (.cell 0) (.un (.agg) (.var 0)))) (.aZ i64 (1)))))))
def Va:VC:=KQ Try.prog Vl [] s49 Try.f49
def aeO:VC:=
 .call 6 25 (.cons (.un (.cell 13) (.un (.agg) (.var 0))) (.nil)) []<|
 .call 14 49 (.cons (.var 0) (.cons (.un (.cell 0) (.var 6)) (.nil))) []<|
 .ret (.un (.agg) (.cons (.un (.cell 0) (.var 14)) (.cons (.un (.cell 1) (.var 14)) (.nil))))
def Vd:VC:=KQ Try.prog Vx [] s32 Try.f32
def aeG:VC:=
 .call 4 29 (.cons (.var 0) (.nil)) []<|
 .call 5 63 (.cons (.un (.agg) (.cons (.un (.cell 0) (.var 4)) (.cons (.un (.cell 1) (.var 4)) (.nil)))) (.nil)) []<|
 .call 7 56 (.cons (.var 5) (.cons (.var 1) (.nil))) []<|
 .ret (.var 7)
def U9:VC:=KQ Try.prog Vh [] s69 Try.f69
def aeH:VC:=
 .call 10 50 (.cons (.un (.cell 13) (.un (.agg) (.var 0))) (.cons (.un (.cell 19) (.un (.agg) (.var 0))) (.nil))) []<|
 .ret (.bin (.and) (.bin (.eq) (.un (.cell 1) (.var 10)) (.aZ i64 (0))) (.bin (.eq) (.un (.cell 0) (.var 10)) (.un (.cell 11) (.un (.agg) (.var 0)))))
def Zj:VC:=KQ Try.prog Vj [] s38 Try.f38
def aeQ:VC:=
 .call 6 28 (.cons (.un (.cell 13) (.un (.agg) (.var 0))) (.nil)) []<|
 .call 16 25 (.cons (.un (.cell 13) (.un (.agg) (.var 0))) (.nil)) []<|
 .call 41 29 (.cons (.var 0) (.nil)) []<|
 .ret (.un (.agg) (.V (fl [[.un (.cell 20) (.un (.agg) (.var 0))],[.un (.cell 21) (.un (.agg) (.var 0))],[.un (.cell 0) (.un (.part 11 2) (.un (.agg) (.var 0)))],[.un (.cell 1) (.un (.part 11 2) (.un (.agg) (.var 0)))],[.un (.cell 19) (.un (.agg) (.var 0))],[.un (.cell 0) (.var 16)],[.un (.cell 0) (.var 6)],[.un (.cell 0) (.var 41)],[.un (.cell 1) (.var 41)]])))
def Y4:VC:=
 .ret (.bin (.and) (.bin (.ge) (.var 0) (.var 1)) (.bin (.le) (.var 0) (.var 2)))
def Y3:VC:=
 .call 5 57 (.cons (.var 0) (.cons (.aZ i64 (0)) (.cons (.aZ i64 (1099511627776)) (.nil)))) []<|
 .call 9 57 (.cons (.var 1) (.cons (.aZ i64 (0)) (.cons (.aZ i64 (1099511627776)) (.nil)))) [(.un (.not) (.var 5),false)]<|
 .branch (.bin (.or) (.un (.not) (.var 5)) (.un (.not) (.var 9))) (
  .ret (.fa false))
  (
  .loop 15 [.fa false,.var 0,.var 1,.aZ i64 (0)] [.bool,.int i64,.int i64,.int i64] (
   .branch (.bin (.lt) (.var 18) (.un (.len) (.var 2))) (
    .kx [] (.bin (.and) (.bin (.le) (.aZ i64 (0)) (.var 18)) (.bin (.lt) (.var 18) (.un (.len) (.var 2))))<|
    .call 42 57 (.cons (.un (.cell 0) (.bin (.idx) (.var 2) (.var 18))) (.cons (.aZ i64 (1)) (.cons (.aZ i64 (1099511627776)) (.nil)))) [(.bin (.or) (.bin (.ne) (.bin (.sub i64) (.un (.cell 0) (.bin (.idx) (.var 2) (.var 18))) (.aZ i64 (1))) (.var 16)) (.bin (.lt) (.un (.cell 1) (.bin (.idx) (.var 2) (.var 18))) (.var 17)),false)]<|
    .call 48 57 (.cons (.un (.cell 1) (.bin (.idx) (.var 2) (.var 18))) (.cons (.aZ i64 (0)) (.cons (.aZ i64 (1099511627776)) (.nil)))) [(.bin (.or) (.bin (.or) (.bin (.ne) (.bin (.sub i64) (.un (.cell 0) (.bin (.idx) (.var 2) (.var 18))) (.aZ i64 (1))) (.var 16)) (.bin (.lt) (.un (.cell 1) (.bin (.idx) (.var 2) (.var 18))) (.var 17))) (.un (.not) (.var 42)),false)]<|
    .branch (.bin (.or) (.bin (.or) (.bin (.or) (.bin (.ne) (.bin (.sub i64) (.un (.cell 0) (.bin (.idx) (.var 2) (.var 18))) (.aZ i64 (1))) (.var 16)) (.bin (.lt) (.un (.cell 1) (.bin (.idx) (.var 2) (.var 18))) (.var 17))) (.un (.not) (.var 42))) (.un (.not) (.var 48))) (
     .ret (.fa false))
     (
     .again 0 [.var 15,.un (.cell 0) (.bin (.idx) (.var 2) (.var 18)),.un (.cell 1) (.bin (.idx) (.var 2) (.var 18)),.bin (.add i64) (.var 18) (.aZ i64 (1))]))
    (
    .ret (.fa true))))
def Zq:VC:=
 .call 11 58 (.cons (.var 0) (.cons (.var 1) (.cons (.var 2) (.nil)))) []<|
 .branch (.un (.not) (.var 11)) (
  .ret (.un (.ff) (.cons (.un (.ff) (.cons (.aZ i64 (0)) (.cons (.fa false) (.nil)))) (.cons (.un (.agg) (.cons (.var 3) (.cons (.var 4) (.cons (.var 5) (.nil))))) (.nil)))))
  (
  .call 15 50 (.cons (.un (.qv) (.cons (.var 3) (.cons (.var 4) (.cons (.var 5) (.nil))))) (.cons (.var 0) (.nil))) []<|
  .branch (.bin (.or) (.bin (.ne) (.un (.cell 1) (.var 15)) (.aZ i64 (0))) (.bin (.ne) (.un (.cell 0) (.var 15)) (.var 1))) (
   .ret (.un (.ff) (.cons (.un (.ff) (.cons (.aZ i64 (0)) (.cons (.fa false) (.nil)))) (.cons (.un (.agg) (.cons (.var 3) (.cons (.var 4) (.cons (.var 5) (.nil))))) (.nil)))))
   (
   .loop 31 (fl [[.aZ i64 (0)],[.fa false],[.aZ i64 (0)],vr 3 3]) [.int i64,.bool,.int i64,.int i64,.int i64,.list (.agg (.cons (.int i64) (.cons (.int i64) (.cons (.int i64) (.cons (.int i64) (.cons (.int i64) (.cons (.int i64) (.cons (.int i64) (.cons (.int i64) (.cons (.int i64) (.cons (.list (.agg (.cons (.int i64) (.cons (.int i64) (.cons (.int i64) (.nil)))))) (.cons (.int i64) (.cons (.bool) (.cons (.int i64) (.cons (.int i64) (.cons (.int i64) (.cons (.bool) (.cons (.bool) (.cons (.int i64) (.cons (.int i64) (.cons (.int i64) (.cons (.list (.agg (.cons (.int i64) (.cons (.int i64) (.nil))))) (.cons (.int i64) (.cons (.int i64) (.cons (.int i64) (.cons (.list (.int i64)) (.cons (.list (.agg (.cons (.int i64) (.cons (.int i64) (.cons (.int i64) (.cons (.int i64) (.cons (.int i64) (.cons (.int i64) (.cons (.int i64) (.cons (.int i64) (.cons (.int i64) (.cons (.bool) (.cons (.int i64) (.nil)))))))))))))) (.cons (.bool) (.cons (.list (.int i64)) (.cons (.list (.int i64)) (.nil)))))))))))))))))))))))))))))))] (
    .branch (.bin (.lt) (.var 33) (.un (.len) (.var 2))) (
     .kx [] (.bin (.and) (.bin (.le) (.aZ i64 (0)) (.var 33)) (.bin (.lt) (.var 33) (.un (.len) (.var 2))))<|
     .call 49 50 (.cons (.un (.qv) (.cons (.var 34) (.cons (.var 35) (.cons (.var 36) (.nil))))) (.cons (.un (.cell 0) (.bin (.idx) (.var 2) (.var 33))) (.nil))) []<|
     .branch (.bin (.and) (.bin (.eq) (.un (.cell 1) (.var 49)) (.aZ i64 (0))) (.bin (.eq) (.un (.cell 0) (.var 49)) (.un (.cell 1) (.bin (.idx) (.var 2) (.var 33))))) (
      .again 0 (fl [[.var 31],[.var 32],[.bin (.add i64) (.var 33) (.aZ i64 (1))],vr 34 3]))
      (
      .kx [] (.bin (.and) (.bin (.le) (.aZ i64 (0)) (.bin (.sub i64) (.bin (.sub i64) (.un (.cell 0) (.bin (.idx) (.var 2) (.var 33))) (.var 34)) (.aZ i64 (1)))) (.bin (.le) (.bin (.sub i64) (.bin (.sub i64) (.un (.cell 0) (.bin (.idx) (.var 2) (.var 33))) (.var 34)) (.aZ i64 (1))) (.un (.len) (.var 36))))<|
      .kx [] (.bin (.and) (.bin (.le) (.aZ i64 (0)) (.var 33)) (.bin (.and) (.bin (.le) (.var 33) (.un (.len) (.var 2))) (.bin (.le) (.un (.len) (.var 2)) (.un (.len) (.var 2)))))<|
      .room [] (.bin (.cat) (.bin (.take) (.var 36) (.bin (.sub i64) (.bin (.sub i64) (.un (.cell 0) (.bin (.idx) (.var 2) (.var 33))) (.var 34)) (.aZ i64 (1)))) (.bin (.drop) (.bin (.take) (.var 2) (.un (.len) (.var 2))) (.var 33))) 320<|
      .kx [] (.bin (.lt) (.aZ i64 (0)) (.un (.len) (.bin (.drop) (.bin (.take) (.var 2) (.un (.len) (.var 2))) (.var 33))))<|
      .ret (.un (.ff) (.cons (.un (.ff) (.cons (.un (.cell 0) (.bin (.idx) (.var 2) (.var 33))) (.cons (.fa true) (.nil)))) (.cons (.un (.agg) (.cons (.var 34) (.cons (.var 35) (.cons (.bin (.cat) (.bin (.take) (.var 36) (.bin (.sub i64) (.bin (.sub i64) (.un (.cell 0) (.bin (.idx) (.var 2) (.var 33))) (.var 34)) (.aZ i64 (1)))) (.bin (.drop) (.bin (.take) (.var 2) (.un (.len) (.var 2))) (.var 33))) (.nil))))) (.nil))))))
     (
     .ret (.un (.ff) (.cons (.un (.ff) (.cons (.aZ i64 (0)) (.cons (.fa true) (.nil)))) (.cons (.un (.agg) (.cons (.var 34) (.cons (.var 35) (.cons (.var 36) (.nil))))) (.nil))))))))
def YX:VC:=
 .call 9 25 (.cons (.un (.qv) (.cons (.var 2) (.cons (.var 3) (.cons (.var 4) (.nil))))) (.nil)) []<|
 .call 20 57 (.cons (.var 0) (.cons (.aZ i64 (1)) (.cons (.aZ i64 (1099511627776)) (.nil)))) [(.bin (.lt) (.var 0) (.un (.cell 1) (.var 9)),false)]<|
 .branch (.bin (.or) (.bin (.lt) (.var 0) (.un (.cell 1) (.var 9))) (.un (.not) (.var 20))) (
  .ret (.un (.ff) (.cons (.un (.ff) (.cons (.un (.agg) (.V (fl [rp 9 (.aZ i64 (0)),[.nil],[.aZ i64 (0)],[.fa false],rp 3 (.aZ i64 (0)),rp 2 (.fa false),rp 3 (.aZ i64 (0)),[.nil],rp 3 (.aZ i64 (0)),rp 2 (.nil),[.fa false],rp 2 (.nil)]))) (.cons (.aZ i64 (1)) (.nil)))) (.cons (.un (.agg) (.cons (.var 2) (.cons (.var 3) (.cons (.var 4) (.nil))))) (.nil)))))
  (
  .branch (.bin (.ge) (.un (.cell 0) (.var 9)) (.aZ i64 (1099511627776))) (
   .ret (.un (.ff) (.cons (.un (.ff) (.cons (.un (.agg) (.V (fl [rp 9 (.aZ i64 (0)),[.nil],[.aZ i64 (0)],[.fa false],rp 3 (.aZ i64 (0)),rp 2 (.fa false),rp 3 (.aZ i64 (0)),[.nil],rp 3 (.aZ i64 (0)),rp 2 (.nil),[.fa false],rp 2 (.nil)]))) (.cons (.aZ i64 (2)) (.nil)))) (.cons (.un (.agg) (.cons (.var 2) (.cons (.var 3) (.cons (.var 4) (.nil))))) (.nil)))))
   (
   .room [] (.bin (.cat) (.var 4) (.cons (.un (.agg) (.V (fl [[.bin (.add i64) (.un (.cell 0) (.var 9)) (.aZ i64 (1))],[.var 0],cr 0 27 (.var 1)]))) (.nil))) 320<|
   .ret (.un (.ff) (.cons (.un (.ff) (.cons (.un (.agg) (.V (fl [[.bin (.add i64) (.un (.cell 0) (.var 9)) (.aZ i64 (1))],[.var 0],cr 0 27 (.var 1)]))) (.cons (.aZ i64 (0)) (.nil)))) (.cons (.un (.agg) (.cons (.var 2) (.cons (.var 3) (.cons (.bin (.cat) (.var 4) (.cons (.un (.agg) (.V (fl [[.bin (.add i64) (.un (.cell 0) (.var 9)) (.aZ i64 (1))],[.var 0],cr 0 27 (.var 1)]))) (.nil))) (.nil))))) (.nil))))))
def Y8:VC:=
 .call 6 25 (.cons (.un (.qv) (.cons (.var 1) (.cons (.var 2) (.cons (.var 3) (.nil))))) (.nil)) []<|
 .branch (.bin (.gt) (.var 0) (.un (.cell 0) (.var 6))) (
  .ret (.un (.ff) (.cons (.aZ i64 (3)) (.cons (.un (.agg) (.cons (.var 1) (.cons (.var 2) (.cons (.var 3) (.nil))))) (.nil)))))
  (
  .branch (.bin (.le) (.var 0) (.var 1)) (
   .ret (.un (.ff) (.cons (.aZ i64 (0)) (.cons (.un (.agg) (.cons (.var 1) (.cons (.var 2) (.cons (.var 3) (.nil))))) (.nil)))))
   (
   .call 25 50 (.cons (.un (.qv) (.cons (.var 1) (.cons (.var 2) (.cons (.var 3) (.nil))))) (.cons (.var 0) (.nil))) []<|
   .kx [] (.bin (.and) (.bin (.le) (.aZ i64 (0)) (.bin (.sub i64) (.var 0) (.var 1))) (.bin (.and) (.bin (.le) (.bin (.sub i64) (.var 0) (.var 1)) (.un (.len) (.var 3))) (.bin (.le) (.un (.len) (.var 3)) (.un (.len) (.var 3)))))<|
   .room [] (.bin (.cat) (.nil) (.bin (.drop) (.bin (.take) (.var 3) (.un (.len) (.var 3))) (.bin (.sub i64) (.var 0) (.var 1)))) 320<|
   .ret (.un (.ff) (.cons (.aZ i64 (0)) (.cons (.un (.agg) (.cons (.var 0) (.cons (.un (.cell 0) (.var 25)) (.cons (.bin (.cat) (.nil) (.bin (.drop) (.bin (.take) (.var 3) (.un (.len) (.var 3))) (.bin (.sub i64) (.var 0) (.var 1)))) (.nil))))) (.nil))))))
def YO:VC:=
 .call 4 57 (.cons (.var 0) (.cons (.aZ i64 (0)) (.cons (.aZ i64 (1099511627776)) (.nil)))) []<|
 .call 8 57 (.cons (.var 1) (.cons (.aZ i64 (0)) (.cons (.aZ i64 (1099511627776)) (.nil)))) [(.un (.not) (.var 4),false)]<|
 .branch (.bin (.or) (.bin (.or) (.un (.not) (.var 4)) (.un (.not) (.var 8))) (.un (.not) (.bin (.beq) (.bin (.eq) (.var 0) (.aZ i64 (0))) (.bin (.eq) (.var 1) (.aZ i64 (0)))))) (
  .stuck 11)
  (
  .ret (.un (.ff) (.cons (.un (.ff) (.nil)) (.cons (.un (.agg) (.cons (.var 0) (.cons (.var 1) (.cons (.nil) (.nil))))) (.nil)))))
def YP:VC:=
 .call 4 57 (.cons (.var 0) (.cons (.aZ i64 (0)) (.cons (.aZ i64 (1099511627776)) (.nil)))) []<|
 .call 8 57 (.cons (.var 1) (.cons (.aZ i64 (0)) (.cons (.aZ i64 (1099511627776)) (.nil)))) [(.un (.not) (.var 4),false)]<|
 .branch (.bin (.or) (.bin (.or) (.un (.not) (.var 4)) (.un (.not) (.var 8))) (.un (.not) (.bin (.beq) (.bin (.eq) (.var 0) (.aZ i64 (0))) (.bin (.eq) (.var 1) (.aZ i64 (0)))))) (
  .ret (.gI))
  (
  .stuck 11)
def R9:VC:=
 .branch (.bin (.or) (.bin (.or) (.bin (.lt) (.var 1) (.aZ i64 (1))) (.bin (.le) (.var 0) (.var 2))) (.bin (.ge) (.bin (.sub i64) (.bin (.sub i64) (.var 0) (.var 2)) (.aZ i64 (1))) (.un (.len) (.var 4)))) (
  .ret (.un (.ff) (.cons (.nil) (.cons (.un (.agg) (.cons (.var 2) (.cons (.var 3) (.cons (.var 4) (.nil))))) (.nil)))))
  (
  .branch (.bin (.lt) (.var 1) (.bin (.sub i64) (.un (.len) (.var 4)) (.bin (.sub i64) (.bin (.sub i64) (.var 0) (.var 2)) (.aZ i64 (1))))) (
   .kx [] (.bin (.and) (.bin (.le) (.aZ i64 (0)) (.bin (.sub i64) (.bin (.sub i64) (.var 0) (.var 2)) (.aZ i64 (1)))) (.bin (.and) (.bin (.le) (.bin (.sub i64) (.bin (.sub i64) (.var 0) (.var 2)) (.aZ i64 (1))) (.bin (.add i64) (.bin (.sub i64) (.bin (.sub i64) (.var 0) (.var 2)) (.aZ i64 (1))) (.var 1))) (.bin (.le) (.bin (.add i64) (.bin (.sub i64) (.bin (.sub i64) (.var 0) (.var 2)) (.aZ i64 (1))) (.var 1)) (.un (.len) (.var 4)))))<|
   .room [] (.bin (.cat) (.nil) (.bin (.drop) (.bin (.take) (.var 4) (.bin (.add i64) (.bin (.sub i64) (.bin (.sub i64) (.var 0) (.var 2)) (.aZ i64 (1))) (.var 1))) (.bin (.sub i64) (.bin (.sub i64) (.var 0) (.var 2)) (.aZ i64 (1))))) 320<|
   .ret (.un (.ff) (.cons (.bin (.cat) (.nil) (.bin (.drop) (.bin (.take) (.var 4) (.bin (.add i64) (.bin (.sub i64) (.bin (.sub i64) (.var 0) (.var 2)) (.aZ i64 (1))) (.var 1))) (.bin (.sub i64) (.bin (.sub i64) (.var 0) (.var 2)) (.aZ i64 (1))))) (.cons (.un (.agg) (.cons (.var 2) (.cons (.var 3) (.cons (.var 4) (.nil))))) (.nil)))))
   (
   .kx [] (.bin (.and) (.bin (.le) (.aZ i64 (0)) (.bin (.sub i64) (.bin (.sub i64) (.var 0) (.var 2)) (.aZ i64 (1)))) (.bin (.and) (.bin (.le) (.bin (.sub i64) (.bin (.sub i64) (.var 0) (.var 2)) (.aZ i64 (1))) (.un (.len) (.var 4))) (.bin (.le) (.un (.len) (.var 4)) (.un (.len) (.var 4)))))<|
   .room [] (.bin (.cat) (.nil) (.bin (.drop) (.bin (.take) (.var 4) (.un (.len) (.var 4))) (.bin (.sub i64) (.bin (.sub i64) (.var 0) (.var 2)) (.aZ i64 (1))))) 320<|
   .ret (.un (.ff) (.cons (.bin (.cat) (.nil) (.bin (.drop) (.bin (.take) (.var 4) (.un (.len) (.var 4))) (.bin (.sub i64) (.bin (.sub i64) (.var 0) (.var 2)) (.aZ i64 (1))))) (.cons (.un (.agg) (.cons (.var 2) (.cons (.var 3) (.cons (.var 4) (.nil))))) (.nil))))))
def aeK:VC:=
 .ret (.un (.ff) (.cons (.un (.ff) (.nil)) (.cons (.un (.agg) (.V (fl [[.fa true],vr 1 12,[.un (.qv) (.nil)],vr 14 37]))) (.cons (.un (.agg) (.cons (.var 51) (.cons (.var 52) (.cons (.var 53) (.nil))))) (.nil)))))
def aeL:VC:=
 .ret (.un (.ff) (.cons (.un (.ff) (.nil)) (.cons (.un (.agg) (.V (fl [vr 0 13,[.un (.qv) (.nil)],vr 14 8,rp 2 (.aZ i64 (0)),vr 24 27]))) (.cons (.un (.agg) (.cons (.var 51) (.cons (.var 52) (.cons (.var 53) (.nil))))) (.nil)))))
def aeI:VC:=
 .room [] (.bin (.cat) (.var 6) (.cons (.un (.agg) (.V (fl [[.un (.cell 0) (.var 0)],[.var 9],[.un (.cell 2) (.var 0)],[.var 12],cr 4 42 (.var 0)]))) (.nil))) 536<|
 .ret (.un (.ff) (.cons (.un (.ff) (.nil)) (.cons (.un (.agg) (.V (fl [vr 1 5,[.bin (.cat) (.var 6) (.cons (.un (.agg) (.V (fl [[.un (.cell 0) (.var 0)],[.var 9],[.un (.cell 2) (.var 0)],[.var 12],cr 4 42 (.var 0)]))) (.nil))],vr 7 7,[.un (.qv) (.nil)],vr 15 37]))) (.cons (.un (.agg) (.cons (.var 52) (.cons (.var 53) (.cons (.var 54) (.nil))))) (.nil)))))
def Zh:VC:=nR Try.prog Vm [] s41 Try.f41
def aeM:VC:=
 .ret (.un (.ff) (.cons (.un (.agg) (.V (fl [[.var 0],[.var 11],[.var 12],vr 3 5]))) (.cons (.un (.agg) (.V (fl [[.fa false],rp 2 (.aZ i64 (0)),[.nil],[.gI],rp 3 (.nil),vr 8 5,[.un (.qv) (.nil)],vr 14 37]))) (.cons (.un (.agg) (.cons (.var 51) (.cons (.var 52) (.cons (.var 53) (.nil))))) (.nil)))))
def Zi:VC:=nR Try.prog Vw [] s39 Try.f39
def Zl:VC:=nR Try.prog Vu [(0,{drop:=[4006001]})] s33 Try.f33
def aeF:VC:=
 .ret (.bin (.eq) (.un (.cell 2) (.var 0)) (.aZ i64 (2)))
def NZ:VC:=
 .loop 6 [.aZ i64 (0),.aZ i64 (0)] [.int i64,.int i64] (
  .branch (.bin (.lt) (.var 7) (.un (.len) (.var 0))) (
   .kx [] (.bin (.and) (.bin (.le) (.aZ i64 (0)) (.var 7)) (.bin (.lt) (.var 7) (.un (.len) (.var 0))))<|
   .call 16 84 (.cons (.bin (.idx) (.var 0) (.var 7)) (.nil)) []<|
   .branch (.var 16) (
    .ret (.var 7))
    (
    .again 0 [.var 6,.bin (.add i64) (.var 7) (.aZ i64 (1))]))
   (
   .ret (.aZ i64 (-1))))
def N1:VC:=
 .call 5 80 (.cons (.var 0) (.cons (.var 1) (.nil))) []<|
 .ret (.bin (.ge) (.var 5) (.aZ i64 (0)))
def YV:VC:=nR Try.prog Hj [] s73 Try.f73
def Vb:VC:=nR Try.prog Vi [(1000000,{drop:=[18]}),(3,{own:=[(4,3)]}),(5,{drop:=[4005005]})] s40 Try.f40
def Qd:VC:=nR Try.prog Vt [(3,{boxes:=yK}),(9,{boxes:=yK}),(5,{drop:=[4006004]})] jr Try.f67
def Vc:VC:=nR Try.prog Vk [(8,{boxes:=yK})] s37 Try.f37
def Zg:VC:=nR Try.prog Vv [] s42 Try.f42
def Zf:VC:=nR Try.prog Vs [] s43 Try.f43
def Ze:VC:=nR Try.prog Vr [] s44 Try.f44
def YT:VC:=nR Try.prog Vq [] Yb Try.f75
def Sb:VC:=
 .branch (.bin (.or) (.bin (.or) (.bin (.lt) (.var 1) (.aZ i64 (1))) (.bin (.le) (.var 0) (.var 2))) (.bin (.ge) (.bin (.sub i64) (.bin (.sub i64) (.var 0) (.var 2)) (.aZ i64 (1))) (.un (.len) (.var 4)))) (
  .ret (.un (.ff) (.cons (.nil) (.cons (.un (.agg) (.cons (.var 2) (.cons (.var 3) (.cons (.var 4) (.nil))))) (.nil)))))
  (
  .branch (.bin (.lt) (.var 1) (.bin (.sub i64) (.un (.len) (.var 4)) (.bin (.sub i64) (.bin (.sub i64) (.var 0) (.var 2)) (.aZ i64 (1))))) (
   .kx [] (.bin (.and) (.bin (.le) (.aZ i64 (0)) (.bin (.sub i64) (.bin (.sub i64) (.var 0) (.var 2)) (.aZ i64 (1)))) (.bin (.and) (.bin (.le) (.bin (.sub i64) (.bin (.sub i64) (.var 0) (.var 2)) (.aZ i64 (1))) (.bin (.add i64) (.bin (.sub i64) (.bin (.sub i64) (.var 0) (.var 2)) (.aZ i64 (1))) (.var 1))) (.bin (.le) (.bin (.add i64) (.bin (.sub i64) (.bin (.sub i64) (.var 0) (.var 2)) (.aZ i64 (1))) (.var 1)) (.un (.len) (.var 4)))))<|
   .room [] (.bin (.cat) (.nil) (.bin (.drop) (.bin (.take) (.var 4) (.bin (.add i64) (.bin (.sub i64) (.bin (.sub i64) (.var 0) (.var 2)) (.aZ i64 (1))) (.var 1))) (.bin (.sub i64) (.bin (.sub i64) (.var 0) (.var 2)) (.aZ i64 (1))))) 320<|
   .ret (.un (.ff) (.cons (.bin (.cat) (.nil) (.bin (.drop) (.bin (.take) (.var 4) (.bin (.add i64) (.bin (.sub i64) (.bin (.sub i64) (.var 0) (.var 2)) (.aZ i64 (1))) (.var 1))) (.bin (.sub i64) (.bin (.sub i64) (.var 0) (.var 2)) (.aZ i64 (1))))) (.cons (.un (.agg) (.cons (.var 2) (.cons (.var 3) (.cons (.var 4) (.nil))))) (.nil)))))
   (
   .kx [] (.bin (.and) (.bin (.le) (.aZ i64 (0)) (.bin (.sub i64) (.bin (.sub i64) (.var 0) (.var 2)) (.aZ i64 (1)))) (.bin (.and) (.bin (.le) (.bin (.sub i64) (.bin (.sub i64) (.var 0) (.var 2)) (.aZ i64 (1))) (.un (.len) (.var 4))) (.bin (.le) (.un (.len) (.var 4)) (.un (.len) (.var 4)))))<|
   .room [] (.bin (.cat) (.nil) (.bin (.drop) (.bin (.take) (.var 4) (.un (.len) (.var 4))) (.bin (.sub i64) (.bin (.sub i64) (.var 0) (.var 2)) (.aZ i64 (1))))) 320<|
   .ret (.un (.ff) (.cons (.bin (.cat) (.nil) (.bin (.drop) (.bin (.take) (.var 4) (.un (.len) (.var 4))) (.bin (.sub i64) (.bin (.sub i64) (.var 0) (.var 2)) (.aZ i64 (1))))) (.cons (.un (.agg) (.cons (.var 2) (.cons (.var 3) (.cons (.var 4) (.nil))))) (.nil))))))
def Zd:VC:=nR Try.prog MR [] s45 Try.f45
def U8:VC:=nR Try.prog Vp [(4,{boxes:=yK})] nQ Try.f77
def YS:VC:=nR Try.prog Vg [(1,{drop:=[4006001]})] Ya Try.f78
def Zc:VC:=nR Try.prog Vf [(3,{drop:=[5106003]})] s46 Try.f46
def Za:VC:=nR Try.prog Vo [(5,{drop:=[5106003]})] s48 Try.f48
def aeP:VC:=
 .call 5 26 (.cons (.un (.agg) (.cons (.un (.cell 2) (.var 0)) (.cons (.un (.cell 3) (.var 0)) (.nil)))) (.nil)) []<|
 .call 8 52 (.cons (.un (.cell 4) (.var 0)) (.nil)) []<|
 .ret (.un (.agg) (.V (fl [[.un (.cell 0) (.var 0)],[.un (.cell 1) (.var 0)],[.un (.cell 0) (.var 5)],[.un (.cell 1) (.var 5)],[.var 8]])))
def Zb:VC:=Wa Try.prog Vy JS [(21,{drop:=[9000000010]})] s47 Try.f47
def Zt:VC:=nR Try.prog Vn [] s17 Try.f17
def Ve:VC:=nR Try.prog Vz [(6,{boxes:=yK})] s15 Try.f15
def YQ:VC:=
 .branch (.bin (.ne) (.un (.len) (.var 0)) (.un (.len) (.var 1))) (
  .ret (.fa false))
  (
  .loop 9 [.fa false,.aZ i64 (0)] [.bool,.int i64] (
   .branch (.bin (.lt) (.var 10) (.un (.len) (.var 0))) (
    .kx [] (.bin (.and) (.bin (.le) (.aZ i64 (0)) (.var 10)) (.bin (.lt) (.var 10) (.un (.len) (.var 0))))<|
    .kx [] (.bin (.and) (.bin (.le) (.aZ i64 (0)) (.var 10)) (.bin (.lt) (.var 10) (.un (.len) (.var 1))))<|
    .branch (.bin (.ne) (.bin (.idx) (.var 0) (.var 10)) (.bin (.idx) (.var 1) (.var 10))) (
     .ret (.fa false))
     (
     .again 0 [.var 9,.bin (.add i64) (.var 10) (.aZ i64 (1))]))
    (
    .ret (.fa true))))
def Y2:VC:=
 .call 9 81 (.cons (.un (.cell 0) (.var 0)) (.cons (.un (.cell 0) (.var 1)) (.nil))) []<|
 .call 15 81 (.cons (.un (.cell 1) (.var 0)) (.cons (.un (.cell 1) (.var 1)) (.nil))) []<|
 .ret (.bin (.and) (.var 9) (.var 15))
def aeN:VC:=
 .call 9 62 (.cons (.un (.agg) (.cons (.un (.cell 25) (.var 0)) (.cons (.un (.cell 26) (.var 0)) (.nil)))) (.cons (.un (.agg) (.cons (.un (.cell 25) (.var 1)) (.cons (.un (.cell 26) (.var 1)) (.nil)))) (.nil))) []<|
 .ret (.bin (.and) (.bin (.and) (.bin (.and) (.bin (.and) (.bin (.and) (.var 9) (.bin (.eq) (.un (.cell 0) (.var 0)) (.un (.cell 0) (.var 1)))) (.bin (.eq) (.un (.cell 1) (.var 0)) (.un (.cell 1) (.var 1)))) (.bin (.eq) (.un (.cell 2) (.var 0)) (.un (.cell 2) (.var 1)))) (.bin (.eq) (.un (.cell 3) (.var 0)) (.un (.cell 3) (.var 1)))) (.bin (.eq) (.un (.cell 8) (.var 0)) (.un (.cell 8) (.var 1))))
def vc8:VC:=
 .branch (.bin (.lt) (.var 0) (.aZ i64 (0))) (
  .kx [] (.bin (.ne) (.var 1) (.aZ i64 (0)))<|
  .ret (.bin (.rem i64) (.un (.neg i64) (.bin (.add i64) (.var 0) (.aZ i64 (1)))) (.var 1)))
  (
  .kx [] (.bin (.ne) (.var 1) (.aZ i64 (0)))<|
  .ret (.bin (.rem i64) (.var 0) (.var 1)))
attribute [irreducible] Va Vd U9 Zj Zh Zi Zl YV Vb Qd Vc Zg Zf Ze YT Zd U8 YS Zc Za Zb Zt Ve
end
def vG{d:D}(h:Has (.list (.int i64)) d):∃l:List Int,d=.list (l.map (D.int i64))/\l.length*8<=140737488355328/\∀x∈l,-9223372036854775808<=x/\x<=9223372036854775807:=by obtain⟨l,rfl,_,g⟩:=bO.1 h;obtain⟨a,rfl⟩:=sX g;obtain⟨f,e⟩:=qg.1 h;exact⟨a,rfl,f,fun x c=>ui.1 (e x c)⟩
def vJ{d:D}(h:Has mI d):∃v l:List Int,d=.agg [.list (v.map (D.int i64)),.list (l.map (D.int i64))]/\v.length*8<=140737488355328/\(∀x∈v,-9223372036854775808<=x/\x<=9223372036854775807)/\l.length*8<=140737488355328/\∀x∈l,-9223372036854775808<=x/\x<=9223372036854775807:=by obtain⟨_,rfl,_,_,rfl,c,_,_,rfl,a,rfl⟩:=h;obtain⟨v,rfl,i,g⟩:=vG c;obtain⟨l,rfl,f,e⟩:=vG a;exact⟨v,l,rfl,i,g,f,e⟩
def rL:Int->List Int->Bool
 |_,[]=>true
 |p,x::r=>(decide (1<=x)&&decide (x<=5)&&decide (p<x))&&rL x r
def vE:Int->List Int->Int
 |p,[]=>p
 |_,x::r=>vE x r
def re:∀{a b:List Int} {p:Int},vE p (a++b)=vE (vE p a) b
 |[],_,_=>rfl
 |x::a,b,_=>by simp only[eL,vE,re (a:=a)]
def vo(d:D):List Int:=hR (d.A.getD 0 .top)
def lr(d:D):List Int:=hR (d.A.getD 1 .top)
def xJ(v l:List Int):vo (.agg [.list (v.map (D.int i64)),.list (l.map (D.int i64))])=v:=fh v
def E8(v l:List Int):lr (.agg [.list (v.map (D.int i64)),.list (l.map (D.int i64))])=l:=fh l
def zl(v l:List Int):Bool:=rL 0 v&&rL 0 l&& !v.isEmpty&&decide (∀x∈l,x∉v)
def EU(v l:List Int):List Int:=Lib.compact (kg (v++l))
def wX(v a:List Int):Nat:=v.countP fun x=>decide (x∈a)
def zm(v a:List Int):Bool:=decide ((v.length:Int)<2*(wX v a:Int))
def nj(m:List Int)(s:Int):Int:=if 1<=s/\s<=m.length then(if 0<m.getD (s-1).toNat 0 then m.getD (s-1).toNat 0 else 0) else 0
def vA(v m:List Int):Int:=if v=[] then 0 else(kg (v.map (nj m))).getD ((v.length-1)/2) 0
def yJ(a b:List Int)(n:Nat):Nat:=(List.range n).countP fun s:Nat=>decide ((s:Int)∈a) !=decide ((s:Int)∈b)
def G9(c la a d:List Int):Bool:=zl c la&&zl a d&&decide (yJ c a 6<=1)
def L1(a b:List Int)(n:Nat):yJ a b (n+1)=yJ a b n+(if decide ((n:Int)∈a) !=decide ((n:Int)∈b) then 1 else 0):=by unfold yJ;rw[List.range_succ,List.countP_append];simp[List.countP_cons]
def RB(a b:List Int)(n:Nat):yJ a b n<=n:=by unfold yJ;have:=List.countP_le_length (p:=fun s:Nat=>decide ((s:Int)∈a) !=decide ((s:Int)∈b)) (l:=List.range n);simpa using this
def RE(v y:List Int):wX v y<=v.length:=List.countP_le_length
def L9{v y:List Int}{n:Nat}{x:Int}(h:v[n]?=some x):wX (v.take (n+1)) y=wX (v.take n) y+(if x∈y then 1 else 0):=by unfold wX;rw[cT,h,eX,List.countP_append];simp[List.countP_cons]
def vT(v m:List Int):(kg (v.map (nj m))).length=v.length:=by rw[qj,ao]
def Af:∀{l:List Int} {p:Int},0<=p->rL p l=true->(l.length:Int)<=max 0 (5-p)
 |[],p,_,_=>by simp;omega
 |x::r,p,hp,h=>by simp only[rL,aT,bk]at h;obtain⟨⟨⟨e,d⟩,c⟩,a⟩:=h;have:=Af (by omega) a;simp only[bg];omega
def FI{v l:List Int}:zl v l=true↔rL 0 v=true/\rL 0 l=true/\v≠[]/\∀x∈l,x∉v:=by simp[zl,and_assoc]
def Ae:∀{l:List Int} {p:Int},rL p l=true->∀x∈l,1<=x/\x<=5
 |[],_,_,x,a=>by simp at a
 |y::r,p,h,x,a=>by
  simp only[rL,aT,bk]at h;obtain⟨⟨⟨e,d⟩,_⟩,c⟩:=h;rcases aH.1 a with rfl|a
  .exact⟨e,d⟩
  exact Ae c x a
def wU:List Int->Int->List Int
 |[],n=>[n]
 |x::r,n=>if x<n then x::wU r n else if x=n then x::r else n::x::r
def Jz(v l:List Int):List Int:=l.foldl wU (v.foldl wU [])
def wE(l:List Int):(kg l).Pairwise (· <= ·):=by have:=List.pairwise_mergeSort (le:=fun x y:Int=>decide (x<=y)) (by intro a b c e d;simp only[bk]at*;omega) (by intro a b;simp only[bW,bk];omega) l;exact this.imp (by intro a b h;simpa using h)
def IQ(l:List Int):(kg l).Perm l:=List.mergeSort_perm l _
def LK{d:Tbd Int}{m:Nat}(h:Lib.keeps d m=false):0<m/\d[m]! =d[m-1]! :=by
 refine⟨?_,?_⟩
 .rcases Nat.eq_zero_or_pos m with a|a
  .rw[Lib.keeps_lt_one d m (by omega)]at h;cases h
  exact a
 by_cases e:d[m]! =d[m-1]!
 .exact e
 rw[Lib.keeps_pos e]at h;cases h
def nd{d:Tbd Int}:∀{m j:Nat},j<m->d[j]! ∈Lib.compactUpTo d m
 |0,j,h=>by omega
 |m+1,j,h=>by
  rw[Lib.compactUpTo_succ];rcases eH j m with a|a
  .exact aG _ (nd a)
  obtain rfl:j=m:=by omega
  cases hk:Lib.keeps d j with
  |true=>exact bC _ (by simp)
  |false=>
   obtain⟨e,c⟩:=LK hk;rw[c];exact aG _ (nd (by omega))
def yQ{l:List Int}{x:Int}:x∈Lib.compact l↔x∈l:=by
 refine⟨yd,fun h=>?_⟩;obtain⟨j,a,rfl⟩:=fP h;have:=nd (d:=l.toArray) (m:=l.length) a
 rwa [getElem!_pos _ j (by simpa using a)]at this
def FH{v l:List Int}{x:Int}:x∈EU v l↔x∈v\/x∈l:=by rw[EU,yQ,xy,aM]
def Bv{l:List Int}(t:l.Pairwise (· <= ·)):(Lib.compact l).Pairwise (· < ·):=by
 have d:∀i j,i<=j->j<l.length->l.toArray[i]! <=l.toArray[j]! :=by
  intro i j g p;rw[getElem!_pos _ i (by simp;omega),getElem!_pos _ j (by simpa using p)];rcases Nat.eq_or_lt_of_le g with h|h
  .subst h;exact ar _
  exact List.pairwise_iff_getElem.1 t i j (by omega) p h
 have f:∀m,m<=l.length->(Lib.compactUpTo l.toArray m).Pairwise (· < ·)/\∀x∈Lib.compactUpTo l.toArray m,0<m/\x<=l.toArray[m-1]! :=by
  intro m
  induction m with
  |zero=>intro _;exact⟨by simp[Lib.compactUpTo],by simp[Lib.compactUpTo]⟩
  |succ m ih=>
   intro z;obtain⟨s,q⟩:=ih (by omega);rw[Lib.compactUpTo_succ]
   have c:∀x∈Lib.compactUpTo l.toArray m,x<=l.toArray[m]! :=fun x a=>by obtain⟨n,k⟩:=q x a;exact cW k (d (m-1) m (by omega) (by omega))
   cases hk:Lib.keeps l.toArray m with
   |true=>
    rw[if_pos rfl];refine⟨?_,?_⟩
    .rw[List.pairwise_append];refine⟨s,by simp,fun x a y o=>?_⟩;rw[ax]at o;subst o;obtain⟨n,k⟩:=q x a;have u:l.toArray[m]! ≠l.toArray[m-1]! :=fun e=>by rw[Lib.keeps_neg n e]at hk;cases hk
     have:=d (m-1) m (by omega) (by omega);omega
    intro x a;rcases aM.1 a with a|a
    .exact⟨by omega,c x a⟩
    rw[ax]at a;subst a;exact⟨by omega,ar _⟩
   |false=>
    rw[if_neg (by simp),dh];exact⟨s,fun x a=>⟨by omega,c x a⟩⟩
 exact(f l.length (aU _)).1
def AV:∀{a b:List Int},a.Pairwise (· < ·)->b.Pairwise (· < ·)->(∀x,x∈a↔x∈b)->a=b
 |[],[],_,_,_=>rfl
 |[],y::b,_,_,h=>by have:=(h y).2 (by simp);simp at this
 |x::a,[],_,_,h=>by have:=(h x).1 (by simp);simp at this
 |x::a,y::b,ha,hb,h=>by
  rw[gf]at ha hb
  have g:x=y:=by
   have f:=(h x).1 (by simp);have d:=(h y).2 (by simp);rcases aH.1 f with f|f
   .exact f
   rcases aH.1 d with d|d
   .exact d.symm
   have:=hb.1 x f;have:=ha.1 y d;omega
  subst g
  rw[AV ha.2 hb.2 (fun z=>⟨fun c=>by
   rcases aH.1 ((h z).1 (aK _ c)) with e|e
   .have:=ha.1 z c;omega
   .exact e,fun c=>by
   rcases aH.1 ((h z).2 (aK _ c)) with e|e
   .have:=hb.1 z c;omega
   exact e⟩)]
def Ka{b:Int}:∀{l:List Int},l.Pairwise (· < ·)->(wU l b).Pairwise (· < ·)/\∀x,x∈wU l b↔x∈l\/x=b
 |[],_=>by simp[wU]
 |y::r,h=>by
  rw[gf]at h;obtain⟨i,f⟩:=Ka (b:=b) h.2;unfold wU;split
  .rename_i c;refine⟨gf.2 ⟨fun z a=>?_,i⟩,fun x=>?_⟩
   .rcases (f z).1 a with d|d
    .exact h.1 z d
    rw[d];exact c
   rw[aH,f,aH];exact(or_assoc).symm
  split
  .rename_i c e;subst e;exact⟨gf.2 h,fun x=>⟨.inl,fun g=>g.elim id fun e=>by simp[e]⟩⟩
  rename_i c e;refine⟨gf.2 ⟨fun z a=>?_,gf.2 h⟩,fun x=>?_⟩
  .rcases aH.1 a with rfl|a
   .omega
   have:=h.1 z a;omega
  rw[aH];exact or_comm
def ot:∀{v o:List Int},o.Pairwise (· < ·)->(v.foldl wU o).Pairwise (· < ·)/\∀x,x∈v.foldl wU o↔x∈o\/x∈v
 |[],o,h=>⟨h,by simp⟩
 |y::r,o,h=>by obtain⟨e,d⟩:=Ka (b:=y) h;obtain⟨c,a⟩:=ot (v:=r) e;refine⟨c,fun x=>?_⟩;show x∈r.foldl wU (wU o y)↔_;rw[a,d,aH,or_assoc]
def LA{v l:List Int}{x:Int}:x∈Jz v l↔x∈v\/x∈l:=by have a:=ot (v:=v) (o:=[]) List.Pairwise.nil;have c:=ot (v:=l) a.1;show x∈l.foldl wU (v.foldl wU [])↔_;rw[c.2,a.2];simp
def Gt(v l:List Int):(EU v l).Pairwise (· < ·):=Bv (wE _)
def D9(v l:List Int):(Jz v l).Pairwise (· < ·):=(ot (ot (v:=v) (o:=[]) List.Pairwise.nil).1).1
def Ip(v l:List Int):EU v l=Jz v l:=AV (Gt v l) (D9 v l) fun x=>by rw[FH,LA]
def U7(m:List Int)(t:Int)(n:Nat):List Int:=((List.range n).filter fun i=>decide (t<=m.getD i 0)).map fun i:Nat=>(i:Int)+1
def CZ(m:List Int)(t:Int):List Int:=U7 m t m.length
def Ph{m:List Int}{t s:Int}:s∈CZ m t↔1<=s/\s<=m.length/\t<=m.getD (s-1).toNat 0:=by
 unfold CZ U7;simp only[bq,List.mem_filter,cI,bk];constructor
 .rintro⟨i,⟨d,a⟩,rfl⟩;exact⟨by omega,by omega,by rw[show((i:Int)+1-1).toNat=i by omega];exact a⟩
 rintro⟨d,a,c⟩;exact⟨(s-1).toNat,⟨by omega,c⟩,by omega⟩
def Qr{m:List Int}{t s:Int}(c:0<t):s∈CZ m t↔t<=nj m s:=by
 rw[Ph];unfold nj;split
 .rename_i h;split
  .exact⟨fun a=>a.2.2,fun a=>⟨h.1,h.2,a⟩⟩
  exact⟨fun a=>by omega,fun a=>by omega⟩
 rename_i h;exact⟨fun a=>absurd ⟨a.1,a.2.1⟩ h,fun a=>by omega⟩
def RD{v m:List Int}{t:Int}(a:0<t):wX v (CZ m t)=(kg (v.map (nj m))).countP fun x=>decide (t<=x):=by rw[(IQ _).countP_eq,List.countP_map];unfold wX;congr 1;funext s;simp only[Function.comp_apply];rw[dJ,bk,bk,Qr a]
def D7{L:List Int}(y:L.Pairwise (· <= ·))(m:L≠[])(t:Int):t<=L.getD ((L.length-1)/2) 0↔L.length<2*L.countP fun x=>decide (t<=x):=by
 have o:0<L.length:=eQ.2 m;have f:(L.length-1)/2<L.length:=by omega
 have d:L.getD ((L.length-1)/2) 0=L[(L.length-1)/2]:=by rw[ae,aS f];rfl
 rw[d];generalize z:(L.length-1)/2=j at f
 have c:∀i k (a:i<L.length) (q:k<L.length),i<=k->L[i] <=L[k]:=by
  intro i k a q n;rcases Nat.eq_or_lt_of_le n with h|h
  .subst h;exact ar _
  exact List.pairwise_iff_getElem.1 y i k a q h
 constructor
 .intro h;have e:L.countP (fun x=>decide (t<=x))=(L.take j).countP (fun x=>decide (t<=x))+(L.drop j).countP (fun x=>decide (t<=x)):=by rw[<-List.countP_append,dq]
  have s:(L.drop j).countP (fun x=>decide (t<=x))=(L.drop j).length:=by rw[List.countP_eq_length];intro x g;obtain⟨i,a,rfl⟩:=fP g;rw[ba]at a;rw[List.getElem_drop,bk];exact cW h (c j (j+i) f (by omega) (by omega))
  rw[ba]at s;omega
 intro h;rcases Int.lt_or_le L[j] t with u|u
 .exfalso;have e:L.countP (fun x=>decide (t<=x))=(L.take (j+1)).countP (fun x=>decide (t<=x))+(L.drop (j+1)).countP (fun x=>decide (t<=x)):=by rw[<-List.countP_append,dq]
  have s:(L.take (j+1)).countP (fun x=>decide (t<=x))=0:=by rw[List.countP_eq_zero];intro x g;obtain⟨i,a,rfl⟩:=fP g;rw[aA]at a;rw[List.getElem_take,bk];have:=c i j (by omega) f (by omega);omega
  have A:=List.countP_le_length (p:=fun x=>decide (t<=x)) (l:=L.drop (j+1));rw[ba]at A;omega
 exact u
def Kf{v m:List Int}{t:Int}(d:0<t):zm v (CZ m t)=decide (t<=vA v m):=by
 unfold zm vA;rw[RD d];by_cases a:v=[]
 .subst a;simp[kg];omega
 rw[if_neg a]
 have c:kg (v.map (nj m))≠[]:=fun e=>by have:=vT v m;rw[e]at this;exact a (au this.symm)
 have:=D7 (wE (v.map (nj m))) c t;rw[vT]at this;rw[dJ,bk,bk,this];omega
def Bm(v m:List Int):0<=vA v m/\(0<vA v m->∃i,i<m.length/\m.getD i 0=vA v m):=by
 unfold vA;split
 .exact⟨ar 0,fun h=>by omega⟩
 rename_i d;have a:0<v.length:=eQ.2 d;have c:(v.length-1)/2<(kg (v.map (nj m))).length:=by rw[vT];omega
 rw[ae,aS c,bz];have f:(kg (v.map (nj m)))[(v.length-1)/2] ∈v.map (nj m):=xy.1 (aN c);obtain⟨s,_,e⟩:=bq.1 f;rw[<-e];unfold nj;split
 .rename_i h;split
  .rename_i g;exact⟨by omega,fun _=>⟨(s-1).toNat,by omega,rfl⟩⟩
  exact⟨ar 0,fun h=>by omega⟩
 exact⟨ar 0,fun h=>by omega⟩
def vn(v m:List Int):Nat->Int
 |0=>0
 |k+1=>if zm v (CZ m (m.getD k 0))&&decide (vn v m k<m.getD k 0) then m.getD k 0 else vn v m k
def J6(v m:List Int):∀k,0<=vn v m k/\vn v m k<=vA v m/\∀i,i<k->m.getD i 0<=vA v m->m.getD i 0<=vn v m k
 |0=>⟨ar 0,(Bm v m).1,fun i h=>by omega⟩
 |k+1=>by
  obtain⟨n,j,f⟩:=J6 v m k;unfold vn;split
  .rename_i c;simp only[aT,bk]at c;have e:=c.1;rw[Kf (by omega),bk]at e;refine⟨by omega,e,fun i g a=>?_⟩;rcases eH i k with h|h
   .have:=f i h a;omega
   obtain rfl:i=k:=by omega
   exact ar _
  rename_i c;refine⟨n,j,fun i g a=>?_⟩;rcases eH i k with h|h
  .exact f i h a
  obtain rfl:i=k:=by omega
  rcases Int.lt_or_le (vn v m i) (m.getD i 0) with d|d
  .exfalso;apply c;rw[Kf (by omega)];rw[aT,bk,bk];exact⟨a,d⟩
  exact d
def Wr(v m:List Int):vn v m m.length=vA v m:=by
 obtain⟨g,f,c⟩:=J6 v m m.length;obtain⟨j,d⟩:=Bm v m;rcases Int.lt_or_le 0 (vA v m) with h|h
 .obtain⟨i,a,e⟩:=d h;have:=c i a (by omega);omega
 omega
def MX:Int:=1099511627776
def ix(d:D):Int:=I d 0
def tm(d:D):Int:=I d 1
def rr:Int->Int->Taf->Bool
 |_,_,[]=>true
 |i,t,x::r=>(ix x==i+1)&&decide (t<=tm x)&&decide (ix x<=MX)&&decide (tm x<=MX)&&rr (ix x) (tm x) r
def okB(i t:Int):Bool:=decide (0<=i)&&decide (i<=MX)&&decide (0<=t)&&decide (t<=MX)
def gn(i t:Int)(l:Taf):Bool:=okB i t&&rr i t l
def cZ:Int->Taf->Int
 |t,[]=>t
 |_,x::r=>cZ (tm x) r
def jE{i t:Int}:okB i t=true↔0<=i/\i<=MX/\0<=t/\t<=MX:=by simp[okB,and_assoc]
def iu{i t:Int}{x:D}{r:Taf}:rr i t (x::r)=true↔ix x=i+1/\t<=tm x/\ix x<=MX/\tm x<=MX/\rr (ix x) (tm x) r=true:=by simp[rr,and_assoc]
def jS:∀{a b:Taf} {i t:Int},rr i t (a++b)=true↔rr i t a=true/\rr (i+a.length) (cZ t a) b=true
 |[],b,i,t=>by simp[rr,cZ]
 |x::a,b,i,t=>by
  rw[eL,iu,iu,jS (a:=a)];constructor
  .rintro⟨h,g,f,e,d,c⟩;refine⟨⟨h,g,f,e,d⟩,?_⟩;simp only[cZ,bg];rw[show i+((a.length+1:Nat):Int)=ix x+a.length by omega];exact c
  rintro⟨⟨h,g,f,e,d⟩,c⟩;refine⟨h,g,f,e,d,?_⟩;simp only[cZ,bg]at c;rw[show i+((a.length+1:Nat):Int)=ix x+a.length by omega]at c;exact c
def ke:∀{a b:Taf} {t:Int},cZ t (a++b)=cZ (cZ t a) b
 |[],_,_=>rfl
 |x::a,b,t=>by simp only[eL,cZ,ke (a:=a)]
def tN:∀{l:Taf} {t:Int} {x:D},l[l.length-1]?=some x->cZ t l=tm x
 |[],t,x,h=>by simp at h
 | [y],t,x,h=>by simp at h;subst h;rfl
 |y::z::r,t,x,h=>by have:=tN (l:=z::r) (t:=tm y) (x:=x) (by simpa using h);simpa [cZ]using this
def zX{l:Taf}{i t:Int}{n:Nat}{x:D}(h:rr i t l=true)(d:l[n]?=some x):ix x=i+n+1/\cZ t (l.take n)<=tm x/\ix x<=MX/\tm x<=MX:=by
 have c:=(aO.1 d).1
 have e:l=l.take n++x::l.drop (n+1):=by have a:=cY c;rw[(aO.1 d).2]at a;rw[<-a,dq]
 rw[e,jS,iu]at h;obtain⟨_,a,k,j,g,_⟩:=h;have f:(l.take n).length=n:=by simp;omega
 rw[f]at a;exact⟨a,k,j,g⟩
def kT{l:Taf}{t:Int}{n:Nat}{x:D}(a:l[n]?=some x):cZ t (l.take (n+1))=tm x:=by rw[cT,a,eX,ke];rfl
def tB{l:Taf}{i t:Int}(n:Nat)(h:rr i t l=true):rr i t (l.take n)=true:=by rw[<-dq n l,jS]at h;exact h.1
def DZ{l:Taf}{i t:Int}(n:Nat)(a:n<=l.length)(h:rr i t l=true):rr (i+n) (cZ t (l.take n)) (l.drop n)=true:=by
 rw[<-dq n l,jS]at h;have:=h.2
 rwa [aA,Nat.min_eq_left a]at this
def Aw:∀{l:Taf} {i t:Int},rr i t l=true->t<=cZ t l
 |[],_,_,_=>ar _
 |x::r,i,t,h=>by obtain⟨_,c,_,_,a⟩:=iu.1 h;have:=Aw a;simp only[cZ];omega
def FL:∀{l:Taf} {i t:Int},t<=MX->rr i t l=true->cZ t l<=MX
 |[],_,_,h,_=>h
 |x::r,i,t,_,h=>by obtain⟨_,_,_,c,a⟩:=iu.1 h;exact FL (l:=r) c a
def pN:∀{l:Taf} {i t:Int},i<=MX->rr i t l=true->i+l.length<=MX
 |[],i,_,h,_=>by simpa using h
 |x::r,i,t,_,h=>by obtain⟨d,_,c,_,a⟩:=iu.1 h;have:=pN c a;simp only[bg];omega
def eU{i t:Int}{l:Taf}:gn i t l=true↔(0<=i/\i<=MX/\0<=t/\t<=MX)/\rr i t l=true:=by simp[gn,jE]
def gl(i t:Int)(l:Taf)(k:Int):Int×Int:=
 if k<i then(0,23) else if k=i then(t,0) else match l[(k-i-1).toNat]? with
  |some x=>(tm x,0)
  |none=>(0,3)
def gu(i:Int)(l:Taf)(f m:Int):Taf:=if m<1\/f<=i then [] else(l.drop (f-i-1).toNat).take m.toNat
def Ds(i t:Int)(l:Taf)(a term:Int):Bool:=decide (term>cZ t l)||(decide (term=cZ t l)&&decide (a≥i+l.length))
def qw:D:=.agg [.int i64 0,.int i64 0,.int i64 0,.int i64 0,.int i64 0,.int i64 0,.int i64 0,.int i64 0,.int i64 0,.list [],.int i64 0,.bool false,.int i64 0,.int i64 0,.int i64 0,.bool false,.bool false,.int i64 0,.int i64 0,.int i64 0,.list [],.int i64 0,.int i64 0,.int i64 0,.list [],.list [],.bool false,.list [],.list []]
def vp(i t:Int)(l:Taf)(term:Int)(a:D):D:=.agg (.int i64 (i+l.length+1):: .int i64 term::a.A)
def mY(i t:Int)(l:Taf)(term:Int):Int:=if term<cZ t l\/term<1\/MX<term then 1 else if MX<=i+l.length then 2 else 0
def tZ(i t:Int)(l:Taf)(term:Int)(a:D):D:=if mY i t l term=0 then vp i t l term a else qw
def pE(i t:Int)(l:Taf)(term:Int)(a:D):Taf:=if mY i t l term=0 then l++[vp i t l term a] else l
def uq(i:Int)(l:Taf)(k:Int):Int:=if i+l.length<k then 3 else 0
def iT(i t:Int)(l:Taf)(k:Int):Int×Int×Taf:=if i+l.length<k\/k<=i then(i,t,l) else(k,(gl i t l k).1,l.drop (k-i).toNat)
def rO(i t:Int)(l:Taf)(x:D):Bool:=(gl i t l (ix x)).2==0&&(gl i t l (ix x)).1==tm x
def qb(i t:Int)(l:Taf):Taf->Int×Taf
 |[]=>(0,l)
 |x::r=>if rO i t l x then qb i t l r else(ix x,l.take (ix x-i-1).toNat++x::r)
def jf(i t:Int)(l:Taf)(pi pt:Int)(es:Taf):Bool:=gn pi pt es&&(gl i t l pi).2==0&&(gl i t l pi).1==pt
def iD(i t:Int)(l:Taf)(pi pt:Int)(es:Taf):Int×Taf:=if jf i t l pi pt es then qb i t l es else(0,l)
def iF{i t:Int}{l:Taf}{k:Int}(h:(gl i t l k).2=0):i<=k/\k<=i+l.length/\(gl i t l k).1=cZ t (l.take (k-i).toNat):=by
 unfold gl at h⊢;split at h
 .simp at h
 split at h
 .rename_i d c;subst c;rw[if_neg (by omega),if_pos rfl];exact⟨by omega,by omega,by simp[cZ]⟩
 rename_i d c;split at h
 .rename_i x a;have e:=(aO.1 a).1;rw[if_neg d,if_neg c];refine⟨by omega,by omega,?_⟩;simp only[a];rw[show(k-i).toNat=(k-i-1).toNat+1 by omega,kT a]
 simp at h
def KC{i t:Int}{l:Taf}(d:rr i t l=true):∀{es:Taf} {n:Nat},n<=l.length->rr (i+n) (cZ t (l.take n)) es=true->rr i t (qb i t l es).2=true/\(qb i t l es).2.length<=l.length+es.length/\
  (∀x r,es=x::r->rO i t l x=false->ix x-i-1=n)
 |[],n,hn,h=>⟨d,by simp[qb],by simp⟩
 |x::r,n,hn,h=>by
  obtain⟨A,z,u,q,m⟩:=iu.1 h;refine⟨?_,?_,fun y s e _=>by injection e with f B;subst f;omega⟩
  all_goals
   unfold qb;by_cases a:rO i t l x=true
   .rw[if_pos a];simp only[rO,aT,beq_iff_eq]at a;obtain⟨p,o,g⟩:=iF a.1;have c:n+1<=l.length:=by omega
    have f:(ix x-i).toNat=n+1:=by omega
    rw[f]at g
    have k:rr (i+((n+1:Nat):Int)) (cZ t (l.take (n+1))) r=true:=by rw[<-g,a.2,show i+((n+1:Nat):Int)=ix x by omega];exact m
    have j:=KC d c k
    first
    |exact j.1
    |(simp only[bg];have:=j.2.1;omega)
   rw[if_neg a];have e:(ix x-i-1).toNat=n:=by omega
   rw[e]
   first
   |(rw[jS,aA,Nat.min_eq_left hn];exact⟨tB n d,h⟩)
   |(simp only[ai,aA,bg];omega)
def F3{i t:Int}{l:Taf}{s:Nat}{x:D}{r:Taf}(j:s<=l.length)(h:rr (i+s) (cZ t (l.take s)) (x::r)=true)(a:rO i t l x=true):s+1<=l.length/\rr (i+((s+1:Nat):Int)) (cZ t (l.take (s+1))) r=true:=by
 obtain⟨o,n,m,k,d⟩:=iu.1 h;simp only[rO,aT,beq_iff_eq]at a;obtain⟨g,f,c⟩:=iF a.1;have e:(ix x-i).toNat=s+1:=by omega
 rw[e]at c;refine⟨by omega,?_⟩;rw[<-c,a.2,show i+((s+1:Nat):Int)=ix x by omega];exact d
def AJ(i t:Int)(l es:Taf)(xs:Taf):Prop:=∃n s:Nat,xs=[.int i64 0,.bool false,.int i64 n,.int i64 i,.int i64 t,.list l]/\n<=es.length/\s<=l.length/\rr (i+s) (cZ t (l.take s)) (es.drop n)=true/\qb i t l (es.drop n)=qb i t l es
def RF{x:D}(h:Has vw x): [x.A[0]?.getD .top,x.A[1]?.getD .top,x.A[2]?.getD .top,x.A[3]?.getD .top,x.A[4]?.getD .top,x.A[5]?.getD .top,x.A[6]?.getD .top,x.A[7]?.getD .top,x.A[8]?.getD .top,x.A[9]?.getD .top,x.A[10]?.getD .top,x.A[11]?.getD .top,x.A[12]?.getD .top,x.A[13]?.getD .top,x.A[14]?.getD .top,x.A[15]?.getD .top,x.A[16]?.getD .top,x.A[17]?.getD .top,x.A[18]?.getD .top,x.A[19]?.getD .top,x.A[20]?.getD .top,x.A[21]?.getD .top,x.A[22]?.getD .top,x.A[23]?.getD .top,x.A[24]?.getD .top,x.A[25]?.getD .top,x.A[26]?.getD .top]=x.A:=by obtain⟨_,rfl,_,_,rfl,_,_,_,rfl,_,_,_,rfl,_,_,_,rfl,_,_,_,rfl,_,_,_,rfl,_,_,_,rfl,_,_,_,rfl,_,_,_,rfl,_,_,_,rfl,_,_,_,rfl,_,_,_,rfl,_,_,_,rfl,_,_,_,rfl,_,_,_,rfl,_,_,_,rfl,_,_,_,rfl,_,_,_,rfl,_,_,_,rfl,_,_,_,rfl,_,_,_,rfl,_,_,_,rfl,_,_,_,rfl,_,_,_,rfl,_,_,_,rfl,_,_,_,rfl,_,_,_,rfl,_,rfl⟩:=h;rfl
def ou:dY.bytes=320:=by kernel_rfl
def FM{a:Type}(l:List a)(k:Nat)(xs:Taf):Nat:=l.length-(I (.list xs) k).toNat
def MJ(i t:Int)(l:Taf)(xs:Taf):Prop:=∃(n:Nat) (j u:Int),xs=[.bool false,.int i64 j,.int i64 u,.int i64 n]/\n<=l.length/\okB j u=true/\rr j u (l.drop n)=rr i t l
def ny(n lo hi:Int):Bool:=decide (lo<=n)&&decide (n<=hi)
def qp(i t:Int)(l:Taf):D:=.agg [.int i64 i,.int i64 t,.list l]
def DA{x:D}(h:Has dY x):x.A[0]?.getD .top=.int i64 (ix x)/\x.A[1]?.getD .top=.int i64 (tm x)/\jX i64 (ix x)/\jX i64 (tm x):=by obtain⟨_,rfl,_,_,rfl,⟨i,rfl,c⟩,_,_,rfl,⟨t,rfl,a⟩,_⟩:=h;exact⟨rfl,rfl,c,a⟩
def tF{i f m:Int}{l:Taf}:(gu i l f m).length<=l.length:=by
 unfold gu;split
 .simp
 simp;omega
def Fq{i t:Int}{l:Taf}{k:Int}(c:i<=k)(a:k<=i+l.length):(gl i t l k).2=0:=by
 unfold gl;rw[if_neg (by omega)];split
 .rfl
 have:(k-i-1).toNat<l.length:=by omega
 rw[aS this]
def O3{i t:Int}{l:Taf}{m:Int}{c:D}(h:gn i t l=true):gn i t (pE i t l m c)=true/\(pE i t l m c).length<=l.length+1:=by
 obtain⟨d,e⟩:=eU.1 h;unfold pE;split
 .rename_i a;unfold mY at a;split at a
  .simp at a
  split at a
  .simp at a
  refine⟨eU.2 ⟨d,?_⟩,by simp⟩;rw[jS];refine⟨e,iu.2 ⟨rfl,?_,?_,?_,rfl⟩⟩
  .show cZ t l<=m;omega
  .show i+l.length+1<=MX;omega
  show m<=MX;omega
 exact⟨h,by omega⟩
def L7{i t:Int}{l:Taf}{k:Int}(h:gn i t l=true):gn (iT i t l k).1 (iT i t l k).2.1 (iT i t l k).2.2=true/\(iT i t l k).2.2.length<=l.length:=by
 obtain⟨⟨n,e,m,d⟩,a⟩:=eU.1 h;have f:=pN e a;unfold iT;split
 .exact⟨h,aU _⟩
 rename_i o;obtain⟨j,g,c⟩:=iF (Fq (i:=i) (t:=t) (l:=l) (k:=k) (by omega) (by omega));refine⟨eU.2 ⟨⟨by omega,by omega,?_,?_⟩,?_⟩,by simp⟩
 .show 0<=(gl i t l k).1;rw[c];have:=Aw (tB (k-i).toNat a);omega
 .show(gl i t l k).1<=MX;rw[c];exact FL d (tB _ a)
 show rr k (gl i t l k).1 (l.drop (k-i).toNat)=true;rw[c];have:=DZ (k-i).toNat (by omega) a
 rwa [show i+(((k-i).toNat:Nat):Int)=k by omega]at this
def PQ{i t:Int}{l:Taf}{pi pt:Int}{es:Taf}(h:gn i t l=true):gn i t (iD i t l pi pt es).2=true/\(iD i t l pi pt es).2.length<=l.length+es.length:=by
 obtain⟨e,f⟩:=eU.1 h;unfold iD;split
 .rename_i c;simp only[jf,aT,beq_iff_eq]at c;obtain⟨⟨k,j⟩,g⟩:=c;obtain⟨o,m,d⟩:=iF j;obtain⟨_,a⟩:=eU.1 k;have:=KC f (es:=es) (n:=(pi-i).toNat) (by omega) (by rw[<-d,g,show i+(((pi-i).toNat:Nat):Int)=pi by omega];exact a);exact⟨eU.2 ⟨e,this.1⟩,this.2.1⟩
 exact⟨h,by simp⟩
def Fk{Φ:Taa}{Pre:eN}{R:D->Prop}{ρ:Nat->D}{a:List (Taf->Prop)}{w:Nat}:(VC.stuck w).holds Φ Pre R ρ a=False:=rfl
def cD(j:Nat)(d:D):D:=d.A.getD j .top
def lkD:List (Nat×D)->Nat->Tao D
 |[],_=>none
 |(k,v)::r,j=>if k=j then some v else lkD r j
def aC(n:Nat)(b:D)(l:List (Nat×D)):D:=.agg ((List.range n).map fun j=>match lkD l j with|some d=>d|none=>cD j b)
def iN(x y:Int):Int:=if y<x then y else x
def lL(x y:Int):Int:=if y>x then y else x
def C4:D:=.agg [.int i64 0,.int i64 0,.int i64 0,.int i64 0,.int i64 0,.int i64 0,.int i64 0,.list [],.int i64 0,.bool false,.int i64 0,.int i64 0,.int i64 0,.bool false,.bool false,.int i64 0,.int i64 0,.int i64 0,.list [],.int i64 0,.int i64 0,.int i64 0,.list [],.list [],.bool false,.list [],.list []]
def oK:D:=.agg [.int i64 0,.int i64 0,.int i64 0,.int i64 0,.int i64 0,.int i64 0,.int i64 0,.bool false,.int i64 0,.int i64 0,.int i64 0,.int i64 0,.list [],.list [],.list [],.list [],.int i64 0,.int i64 0,.int i64 0,.int i64 0,.int i64 0,.int i64 0,.int i64 0,.list [],.int i64 0,.bool false,.int i64 0,.int i64 0,.int i64 0,.bool false,.bool false,.int i64 0,.int i64 0,.int i64 0,.list [],.int i64 0,.int i64 0,.int i64 0,.list [],.list [],.bool false,.list [],.list [],.int i64 0,.int i64 0,.list []]
@[ext] structure RS where
 save:Bool
 M0:Int
 MZ:Int
 dX:Taf
 il:D
 msgs:Taf
 bM:Taf
 rX:Taf
 id:Int
 fv:Taf
 fl:Taf
 term:Int
 vote:Int
 pZ:Int
 ng:Int
 sv:Taf
 sl:Taf
 gN:Taf
 bB:Int
 role:Int
 bG:Int
 wait:Int
 end_ : Int
 aX:Taf
 GQ:Int
 Bx:Int
 EN:Int
 BW:Int
 yC:Int
 EM:Int
 BV:Int
 yB:Int
 EL:Int
 BU:Int
 yA:Int
 EK:Int
 BT:Int
 yz:Int
 EJ:Int
 BS:Int
 yx:Int
 EI:Int
 round:Int
 reads:Taf
 nW:Int
 qc:Int
 lW:Int
 wV:Int
 lV:Int
 fR:Taf
 li:Int
 lt:Int
 le:Taf
def cR(s:RS):Taf:=[.bool s.save,.int i64 s.M0,.int i64 s.MZ,.list s.dX,s.il,.list s.msgs,.list s.bM,.list s.rX,.int i64 s.id,.list s.fv,.list s.fl,.int i64 s.term,.int i64 s.vote,.ptr [],.int i64 s.pZ,.int i64 s.ng,.list s.sv,.list s.sl,.list s.gN,.int i64 s.bB,.int i64 s.role,.int i64 s.bG,.int i64 s.wait,.int i64 s.end_,.list s.aX,.int i64 s.GQ,.int i64 s.Bx,.int i64 s.EN,.int i64 s.BW,.int i64 s.yC,.int i64 s.EM,.int i64 s.BV,.int i64 s.yB,.int i64 s.EL,.int i64 s.BU,.int i64 s.yA,.int i64 s.EK,.int i64 s.BT,.int i64 s.yz,.int i64 s.EJ,.int i64 s.BS,.int i64 s.yx,.int i64 s.EI,.int i64 s.round,.list s.reads,.int i64 s.nW,.int i64 s.qc,.int i64 s.lW,.int i64 s.wV,.int i64 s.lV,.list s.fR]
def cL(s:RS):Taf:=[.int i64 s.li,.int i64 s.lt,.list s.le]
def encS(s:RS):Taf:=cR s++cL s
def C3(s:RS):D:=.ptr [.bool s.save,.int i64 s.M0,.int i64 s.MZ,.list s.dX,s.il,.list s.msgs,.list s.bM,.list s.rX,.int i64 s.id,.list s.fv,.list s.fl,.int i64 s.term,.int i64 s.vote,.ptr (cL s),.int i64 s.pZ,.int i64 s.ng,.list s.sv,.list s.sl,.list s.gN,.int i64 s.bB,.int i64 s.role,.int i64 s.bG,.int i64 s.wait,.int i64 s.end_,.list s.aX,.int i64 s.GQ,.int i64 s.Bx,.int i64 s.EN,.int i64 s.BW,.int i64 s.yC,.int i64 s.EM,.int i64 s.BV,.int i64 s.yB,.int i64 s.EL,.int i64 s.BU,.int i64 s.yA,.int i64 s.EK,.int i64 s.BT,.int i64 s.yz,.int i64 s.EJ,.int i64 s.BS,.int i64 s.yx,.int i64 s.EI,.int i64 s.round,.list s.reads,.int i64 s.nW,.int i64 s.qc,.int i64 s.lW,.int i64 s.wV,.int i64 s.lV,.list s.fR]
def ig(l:Taf):RS:=⟨(l.getD 0 .top).W,(l.getD 1 .top).q,(l.getD 2 .top).q,(l.getD 3 .top).A,(l.getD 4 .top),(l.getD 5 .top).A,(l.getD 6 .top).A,(l.getD 7 .top).A,(l.getD 8 .top).q,(l.getD 9 .top).A,(l.getD 10 .top).A,(l.getD 11 .top).q,(l.getD 12 .top).q,(l.getD 14 .top).q,(l.getD 15 .top).q,(l.getD 16 .top).A,(l.getD 17 .top).A,(l.getD 18 .top).A,(l.getD 19 .top).q,(l.getD 20 .top).q,(l.getD 21 .top).q,(l.getD 22 .top).q,(l.getD 23 .top).q,(l.getD 24 .top).A,(l.getD 25 .top).q,(l.getD 26 .top).q,(l.getD 27 .top).q,(l.getD 28 .top).q,(l.getD 29 .top).q,(l.getD 30 .top).q,(l.getD 31 .top).q,(l.getD 32 .top).q,(l.getD 33 .top).q,(l.getD 34 .top).q,(l.getD 35 .top).q,(l.getD 36 .top).q,(l.getD 37 .top).q,(l.getD 38 .top).q,(l.getD 39 .top).q,(l.getD 40 .top).q,(l.getD 41 .top).q,(l.getD 42 .top).q,(l.getD 43 .top).q,(l.getD 44 .top).A,(l.getD 45 .top).q,(l.getD 46 .top).q,(l.getD 47 .top).q,(l.getD 48 .top).q,(l.getD 49 .top).q,(l.getD 50 .top).A,(l.getD 51 .top).q,(l.getD 52 .top).q,(l.getD 53 .top).A⟩
def pG(d:D):RS:=
 let l:=d.A;let g:=(l.getD 13 .top).A
 ⟨(l.getD 0 .top).W,(l.getD 1 .top).q,(l.getD 2 .top).q,(l.getD 3 .top).A,(l.getD 4 .top),(l.getD 5 .top).A,(l.getD 6 .top).A,(l.getD 7 .top).A,(l.getD 8 .top).q,(l.getD 9 .top).A,(l.getD 10 .top).A,(l.getD 11 .top).q,(l.getD 12 .top).q,(l.getD 14 .top).q,(l.getD 15 .top).q,(l.getD 16 .top).A,(l.getD 17 .top).A,(l.getD 18 .top).A,(l.getD 19 .top).q,(l.getD 20 .top).q,(l.getD 21 .top).q,(l.getD 22 .top).q,(l.getD 23 .top).q,(l.getD 24 .top).A,(l.getD 25 .top).q,(l.getD 26 .top).q,(l.getD 27 .top).q,(l.getD 28 .top).q,(l.getD 29 .top).q,(l.getD 30 .top).q,(l.getD 31 .top).q,(l.getD 32 .top).q,(l.getD 33 .top).q,(l.getD 34 .top).q,(l.getD 35 .top).q,(l.getD 36 .top).q,(l.getD 37 .top).q,(l.getD 38 .top).q,(l.getD 39 .top).q,(l.getD 40 .top).q,(l.getD 41 .top).q,(l.getD 42 .top).q,(l.getD 43 .top).q,(l.getD 44 .top).A,(l.getD 45 .top).q,(l.getD 46 .top).q,(l.getD 47 .top).q,(l.getD 48 .top).q,(l.getD 49 .top).q,(l.getD 50 .top).A,(g.getD 0 .top).q,(g.getD 1 .top).q,(g.getD 2 .top).A⟩
def dN:RS:=⟨false,0,0,[],.top,[],[],[],0,[],[],0,0,0,0,[],[],[],0,0,0,0,0,[],0,0,0,0,0,0,0,0,0,0,0,0,0,0,0,0,0,0,0,[],0,0,0,0,0,[],0,0,[]⟩
def iA(s:RS):D:=.ff [.ff [],.agg (cR s),.agg (cL s)]
def JU(x:Bool×RS):D:=.ff [.bool x.1,.agg (cR x.2),.agg (cL x.2)]
def EY(x:D×RS):D:=.ff [x.1,.agg (cR x.2),.agg (cL x.2)]
def JT(x:(D×Int)×RS):D:=.ff [.ff [x.1.1,.int i64 x.1.2],.agg (cR x.2),.agg (cL x.2)]
def TE(x:(Int×D)×RS):D:=.ff [.ff [.int i64 x.1.1,x.1.2],.agg (cR x.2),.agg (cL x.2)]
def DB(x:(D×Int×D)×RS):D:=.ff [.ff [x.1.1,.int i64 x.1.2.1,x.1.2.2],.agg (cR x.2),.agg (cL x.2)]
def KN(d:D):RS:=ig ((cD 1 d).A++(cD 2 d).A)
def oO(d:D):RS:=KN d
def TI(d:D):Bool×RS:=((cD 0 d).W,KN d)
def Ql(d:D):D×RS:=(cD 0 d,KN d)
def acM(d:D):(D×Int)×RS:=((cD 0 (cD 0 d),(cD 1 (cD 0 d)).q),KN d)
def acL(d:D):(Int×D)×RS:=(((cD 0 (cD 0 d)).q,cD 1 (cD 0 d)),KN d)
def OF(d:D):(D×Int×D)×RS:=((cD 0 (cD 0 d),(cD 1 (cD 0 d)).q,cD 2 (cD 0 d)),KN d)
def Hc(s:RS):Taf:=(cR s).take 13++((cR s).drop 14++cL s)
def rK(l:Taf):RS:=ig (l.take 13++ .top::l.drop 13)
def gF(a:D):Bool:=zl (vo a) (lr a)
def jM(a:D)(b:Int):Bool:=decide (b∈vo a)
def jP(a:D):Taf:=(Jz (vo a) (lr a)).map (D.int i64)
def ju(a b:D):Bool:=zm (vo a) (hR b)
def pj(a b:D):Int:=vn (vo a) (hR b) (hR b).length
def Kl(a b:D):Bool:=G9 (vo a) (lr a) (vo b) (lr b)
def lY(x:D):Bool:=(cD 2 x).q==2
def YL(x:D):D:=.agg [cD 27 x,cD 28 x]
def eW(l:Taf):Bool:= !(l.any fun x=>lY x&& !gF (YL x))
def qK(a:D):D:=a
def XL(l:Taf):Taf:=l
def Qk(a:D):D:=.agg [cD 0 a,cD 1 a,cD 2 a,cD 3 a,cD 4 a]
def LX(l:Taf)(b:Int):Bool:=decide (b∈l.map D.q)
def wY(f:D)(x:D):Bool:=match f with
 |.fn k _=>if k=84 then lY x else lY x&& !gF (YL x)
 |_=>false
def mR(l:Taf)(f:D):Bool:=l.any (wY f)
def lT(i t:Int):D:=if okB i t=true/\(i=0↔t=0) then .ff [.ff [],qp i t []] else .ff [.gI]
def QF:Taf->D
 | [.ptr c,f,m]=>.list (gu (c.getD 0 .top).q (c.getD 2 .top).A f.q m.q)
 | [f,m,i,t,l]=>.ff [.list (gu i.q l.A f.q m.q),qp i.q t.q l.A]
 |_=>.top
def afm:Taf->Prop
 | [.ptr c,_,_]=>okB (c.getD 0 .top).q (c.getD 1 .top).q=true
 | [_,_,i,t,_]=>okB i.q t.q=true
 |_=>False
def EZ(a b:D):Bool:=((((((decide (vo (.agg [cD 25 a,cD 26 a])=vo (.agg [cD 25 b,cD 26 b]))&&decide (lr (.agg [cD 25 a,cD 26 a])=lr (.agg [cD 25 b,cD 26 b])))&&((cD 0 a).q==(cD 0 b).q))&&((cD 1 a).q==(cD 1 b).q))&&((cD 2 a).q==(cD 2 b).q))&&((cD 3 a).q==(cD 3 b).q))&&((cD 8 a).q==(cD 8 b).q))
def ib(a b:Int):Int:=if a<0 then(i64.wrap (0-(i64.wrap (a+1)))).tmod b else a.tmod b
def iS(i t:Int)(_:Taf):Int×Int:=(i,t)
def fM(i t:Int)(l:Taf):Int×Int:=(i+l.length,cZ t l)
def jB(i t:Int)(l:Taf)(k:Int):Int×Int:=gl i t l k
def zS(i t:Int)(l:Taf)(a b:Int):Bool:=Ds i t l a b
def eJ(i t:Int)(l:Taf)(f m:Int):Taf:=gu i l f m
def VI(i t:Int)(l:Taf)(term:Int)(c:D):(D×Int)×Int×Int×Taf:=((tZ i t l term c,mY i t l term),i,t,pE i t l term c)
def vP(i t:Int)(l:Taf)(a b:Int)(es:Taf):(Int×Bool)×Int×Int×Taf:=(((iD i t l a b es).1,jf i t l a b es),i,t,(iD i t l a b es).2)
def iY(i t:Int)(l:Taf)(k:Int):Int×Int×Int×Taf:=(uq i l k,iT i t l k)
def fL(s:RS):RS:=
 ({s with save:=true}:RS)
def kC(s:RS)(d:Int×Int):D:=
 if decide (d.1>0) then(
  let a:=(qK (D.agg [D.list s.sv,D.list s.sl]))
  aC 2 a [])
 else(
  let c:=(qK (D.agg [D.list s.fv,D.list s.fl]))
  aC 2 c [])
def mQ(s:RS)(g:Int×Int)(c:Int)(f:Taf)(e:Taf):(Int×Taf×Taf)⊕(D):=
 if decide (c>g.1) then(
  let a:=(eJ s.li s.lt s.le c 1)
  if((((a:Taf).length:Int)==1)&&(((cD 2 ((a).getD (0:Int).toNat .top)).q)==2)) then(
   let d:=(qK (D.agg ((((a).getD (0:Int).toNat .top).A.drop 27).take 2)))
   .inr (aC 2 d []))
  else(
   .inl ((i64.wrap (c-1)),f,e)))
 else .inr (kC s g)
def FB(s:RS)(c:Int×Int)(a:Int)(e:Taf)(d:Taf):Nat:=(a-c.1).toNat
def qe(s:RS)(f:Int×Int)(e:Int)(d:Taf)(c:Taf):D:=iz (fun a:Int×Taf×Taf=>mQ s f a.1 a.2.1 a.2.2) .top (FB s f e d c+1) (e,d,c)
def oV(x:Int)(s:RS):D:=
 let a:=(iS s.li s.lt s.le)
 qe s a x [] []
def dR(s:RS):D:=
 let c:=(fM s.li s.lt s.le);let a:=(oV c.1 s)
 aC 2 a []
def Lh(a:Taf):Taf:=
 a
def tH(s:RS)(c:Taf)(d:Taf)(a:Int):(Taf×Int)⊕(Taf):=
 if decide (a<((c:Taf).length:Int)) then(
  if(((((c).getD (a:Int).toNat .top)).q) !=s.id) then(
   .inl ((d++([((c).getD (a:Int).toNat .top)]:Taf)),(i64.wrap (a+1))))
  else(
   .inl (d,(i64.wrap (a+1)))))
 else .inr (Lh d)
def Cu(s:RS)(a:Taf)(d:Taf)(c:Int):Nat:=a.length-c.toNat
def tI(s:RS)(c:Taf)(e:Taf)(d:Int):Taf:=iz (fun a:Taf×Int=>tH s c a.1 a.2) [] (Cu s c e d+1) (e,d)
def fV(x:D)(s:RS):Taf:=
 let a:=(jP (aC 2 x []))
 tI s a [] 0
def pf(x:Int)(s:RS):Bool:=
 let d:=(dR s);let c:=(jP (aC 2 d []));let a:=(LX c x)
 a
def Ed:Bool:=
 false
def qY(c:Taf)(d:Bool)(a:Int):(Bool×Int)⊕(Bool):=
 if decide (a<((c:Taf).length:Int)) then(
  if(((cD 2 ((c).getD (a:Int).toNat .top)).q)==2) then(
   .inr (true))
  else(
   .inl (d,(i64.wrap (a+1)))))
 else .inr (Ed)
def wJ(a:Taf)(d:Bool)(c:Int):Nat:=a.length-c.toNat
def qZ(c:Taf)(e:Bool)(d:Int):Bool:=iz (fun a:Bool×Int=>qY c a.1 a.2) false (wJ c e d+1) (e,d)
def tJ(s:RS):Bool:=
 let c:=(fM s.li s.lt s.le);let a:=(eJ s.li s.lt s.le (i64.wrap (s.bB+1)) (i64.wrap (c.1-s.bB)))
 qZ a false 0
def vX(s:RS):Bool:=
 let a:=(jB s.li s.lt s.le s.bB)
 ((a.2==0)&&(a.1==s.term))
def wT(x:D)(s:RS):Int:=
 if(s.role !=2) then(
  20)
 else(
  if((cD 0 x).q==1) then(
   1)
  else(
   if((cD 0 x).q !=2) then(
    0)
   else(
    let e:=(vX s);let d:=(tJ s)
    if((!e)||d) then(
     21)
    else(
     let c:=(dR s);let a:=(Kl (aC 2 c []) (D.agg [(cD 25 x),(cD 26 x)]))
     if(!a) then(
      22)
     else(
      0)))))
def J7(s:RS):D:=
 let d:=(iS s.li s.lt s.le);let c:=(fM s.li s.lt s.le);let a:=(dR s)
 D.agg [D.int i64 s.role,D.int i64 s.bG,(cD 0 (D.agg [D.int i64 s.term,D.int i64 s.vote])),(cD 1 (D.agg [D.int i64 s.term,D.int i64 s.vote])),D.int i64 s.bB,D.int i64 c.1,D.int i64 d.1,(cD 0 a),(cD 1 a)]
def kA(s:RS):RS:=
 ({s with wait:=0,end_:=0}:RS)
def gq(x:D)(s:RS):RS:=
 ({s with msgs:=(s.msgs++([aC 46 x [(1,D.int i64 s.id),(3,D.int i64 s.term)]]:Taf))}:RS)
def eR(x:Int)(y:Int)(s:RS):RS:=
 if decide (x>s.term) then(
  let UO:=fL ({s with term:=x,vote:=0}:RS)
  ({UO with role:=0,bG:=y,aX:=[],reads:=[]}:RS))
 else(
  ({s with role:=0,bG:=y,aX:=[],reads:=[]}:RS))
def bR(s:RS):D×RS:=
 (D.agg [D.bool s.save,D.int i64 s.term,D.int i64 s.vote,D.list s.dX,s.il,D.list s.msgs,D.list s.bM,D.list s.rX],({s with save:=false,M0:=0,MZ:=0,dX:=[],il:=D.gI,msgs:=[],bM:=[],rX:=[]}:RS))
def jY(x:D)(s:RS):(D×Int)×RS:=
 let xI:=VI s.li s.lt s.le s.term (aC 27 x [])
 if(xI.1.2==0) then(
  let a:=fL ({s with li:=xI.2.1,lt:=xI.2.2.1,le:=xI.2.2.2}:RS)
  ((aC 29 xI.1.1 [],xI.1.2),({a with dX:=(a.dX++([aC 29 xI.1.1 []]:Taf))}:RS)))
 else(
  ((aC 29 xI.1.1 [],xI.1.2),({s with li:=xI.2.1,lt:=xI.2.2.1,le:=xI.2.2.2}:RS)))
def PS(x n o:Int)(a s:RS):RS:=
 if decide (n<=(iS s.li s.lt s.le).1) then
  gq (aC 46 oK [(0,D.int i64 5),(2,D.int i64 x),(4,D.int i64 s.pZ),(5,D.int i64 s.ng),(9,D.int i64 o),(10,D.int i64 (s.gN.length:Int)),(13,.list s.sv),(14,.list s.sl),(15,D.list ((s.gN.take (iN (i64.wrap (o+256)) (s.gN.length:Int)).toNat).drop o.toNat))]) a
 else gq (aC 46 oK [(0,D.int i64 3),(2,D.int i64 x),(4,D.int i64 (i64.wrap (n-1))),(5,D.int i64 (jB s.li s.lt s.le (i64.wrap (n-1))).1),(6,D.int i64 s.bB),(8,D.int i64 s.round),(12,D.list (eJ s.li s.lt s.le n 8))]) s
def jv(o:Int)(s:RS):Int:=iN (lL 0 o) (s.gN.length:Int)
def fy(x:Int)(s:RS):RS:=
 if(x==0) then PS 0 s.Bx (jv s.EN s) {s with EN:=jv s.EN s} s else if(x==1) then PS 1 s.yC (jv s.EM s) {s with EM:=jv s.EM s} s else if(x==2) then PS 2 s.yB (jv s.EL s) {s with EL:=jv s.EL s} s else if(x==3) then PS 3 s.yA (jv s.EK s) {s with EK:=jv s.EK s} s else if(x==4) then PS 4 s.yz (jv s.EJ s) {s with EJ:=jv s.EJ s} s else if(x==5) then PS 5 s.yx (jv s.EI s) {s with EI:=jv s.EI s} s else dN
def en(x:Int)(s:RS):Bool×RS:=
 if decide (x<=s.bB) then(
  (false,s))
 else(
  let a:=eJ s.li s.lt s.le (i64.wrap (s.bB+1)) (i64.wrap (x-s.bB));let c:=(mR a (D.fn 84 []))
  (c,({s with bM:=(s.bM++a),bB:=x}:RS)))
def nF(s:RS)(k:Int×Int)(i:Taf):RS:=
 let j:=(dR s);let c:=(pj (aC 2 j []) (D.list ((i.take ((i64.wrap (s.id-1)):Int).toNat)++(D.int i64 k.1::((i.drop ((i64.wrap (s.id-1)):Int).toNat).drop (1:Int).toNat)))));let d:=(jB s.li s.lt s.le c)
 if(((decide (c<=s.bB))||(d.2 !=0))||(d.1 !=s.term)) then(
  s)
 else(
  let a:=en c s;let f:=(dR a.2);let e:=(jM (aC 2 f []) a.2.id)
  if(a.1&&(!e)) then(
   let h:=eR a.2.term 0 a.2;let g:=kA h
   g)
  else(
   a.2))
def lZ(s:RS)(d:Int×Int)(c:Taf)(a:Int):(Taf×Int)⊕(RS):=
 if decide (a<((([D.int i64 0,D.int i64 0,D.int i64 0,D.int i64 0,D.int i64 0]:Taf):Taf).length:Int)) then(
  if(a==0) then(
   .inl (((c.take (0:Int).toNat)++(D.int i64 s.BW::((c.drop (0:Int).toNat).drop (1:Int).toNat))),(i64.wrap (a+1))))
  else(
   if(a==1) then(
    .inl (((c.take (1:Int).toNat)++(D.int i64 s.BV::((c.drop (1:Int).toNat).drop (1:Int).toNat))),(i64.wrap (a+1))))
   else(
    if(a==2) then(
     .inl (((c.take (2:Int).toNat)++(D.int i64 s.BU::((c.drop (2:Int).toNat).drop (1:Int).toNat))),(i64.wrap (a+1))))
    else(
     if(a==3) then(
      .inl (((c.take (3:Int).toNat)++(D.int i64 s.BT::((c.drop (3:Int).toNat).drop (1:Int).toNat))),(i64.wrap (a+1))))
     else(
      if(a==4) then(
       .inl (((c.take (4:Int).toNat)++(D.int i64 s.BS::((c.drop (4:Int).toNat).drop (1:Int).toNat))),(i64.wrap (a+1))))
      else(
       .inr dN))))))
 else .inr (nF s d c)
def ma(s:RS)(c:Int×Int)(d:Taf)(a:Int):Nat:=5-a.toNat
def nD(s:RS)(c:Int×Int)(e:Taf)(d:Int):RS:=iz (fun a:Taf×Int=>lZ s c a.1 a.2) dN (ma s c e d+1) (e,d)
def gS(s:RS):RS:=
 let a:=(fM s.li s.lt s.le)
 nD s a ([D.int i64 0,D.int i64 0,D.int i64 0,D.int i64 0,D.int i64 0]:Taf) 0
def Lg(a:RS):RS:=
 let c:=gS a
 c
def xq(c:Taf)(a:Int)(d:RS):(Int×RS)⊕(RS):=
 if decide (a<((c:Taf).length:Int)) then(
  let e:=fy ((((c).getD (a:Int).toNat .top)).q) d
  .inl ((i64.wrap (a+1)),e))
 else .inr (Lg d)
def Cs(a:Taf)(c:Int)(d:RS):Nat:=a.length-c.toNat
def xr(c:Taf)(e:Int)(d:RS):RS:=iz (fun a:Int×RS=>xq c a.1 a.2) dN (Cs c e d+1) (e,d)
def oh(e:RS):RS:=
 let a:=jY (aC 27 C4 [(0,D.int i64 1)]) e;let d:=(dR a.2);let c:=(fV (aC 2 d []) a.2)
 xr c 0 a.2
def r8(d:Int×Int)(a:Int)(c:RS):(Int×RS)⊕(RS):=
 if decide (a<6) then(
  if(a==0) then(
   .inl ((i64.wrap (a+1)),({c with GQ:=0,Bx:=(i64.wrap (d.1+1)),EN:=0}:RS)))
  else(
   if(a==1) then(
    .inl ((i64.wrap (a+1)),({c with BW:=0,yC:=(i64.wrap (d.1+1)),EM:=0}:RS)))
   else(
    if(a==2) then(
     .inl ((i64.wrap (a+1)),({c with BV:=0,yB:=(i64.wrap (d.1+1)),EL:=0}:RS)))
    else(
     if(a==3) then(
      .inl ((i64.wrap (a+1)),({c with BU:=0,yA:=(i64.wrap (d.1+1)),EK:=0}:RS)))
     else(
      if(a==4) then(
       .inl ((i64.wrap (a+1)),({c with BT:=0,yz:=(i64.wrap (d.1+1)),EJ:=0}:RS)))
      else(
       if(a==5) then(
        .inl ((i64.wrap (a+1)),({c with BS:=0,yx:=(i64.wrap (d.1+1)),EI:=0}:RS)))
       else(
        .inr dN)))))))
 else .inr (oh c)
def mO(c:Int×Int)(a:Int)(d:RS):Nat:=6-a.toNat
def qd(c:Int×Int)(e:Int)(d:RS):RS:=iz (fun a:Int×RS=>r8 c a.1 a.2) dN (mO c e d+1) (e,d)
def rB(s:RS):RS:=
 let a:=(fM s.li s.lt s.le)
 qd a 0 ({s with role:=2,bG:=s.id,wait:=0,round:=0,reads:=[]}:RS)
def IN(a:RS):RS:=
 a
def mf(x:D)(e:Int×Int)(c:Taf)(a:Int)(d:RS):(Int×RS)⊕(RS):=
 if decide (a<((c:Taf).length:Int)) then(
  let f:=(jM (aC 2 x []) ((((c).getD (a:Int).toNat .top)).q))
  if f then(
   let g:=gq (aC 46 oK [(0,D.int i64 1),(2,((c).getD (a:Int).toNat .top)),(4,D.int i64 e.1),(5,D.int i64 e.2)]) d
   .inl ((i64.wrap (a+1)),g))
  else(
   .inl ((i64.wrap (a+1)),d)))
 else .inr (IN d)
def A4(x:D)(d:Int×Int)(a:Taf)(c:Int)(e:RS):Nat:=a.length-c.toNat
def kS(x:D)(d:Int×Int)(c:Taf)(f:Int)(e:RS):RS:=iz (fun a:Int×RS=>mf x d c a.1 a.2) dN (A4 x d c f e+1) (f,e)
def ks(x:D)(s:RS):RS:=
 let rm:=fL ({s with term:=(i64.wrap (s.term+1)),vote:=s.id}:RS);let d:=(ju (aC 2 x []) (D.list ([D.int i64 rm.id]:Taf)))
 if d then(
  let e:=rB ({rm with role:=1,bG:=0,aX:=([D.int i64 rm.id]:Taf)}:RS)
  e)
 else(
  let c:=(fM rm.li rm.lt rm.le);let a:=(fV (aC 2 x []) ({rm with role:=1,bG:=0,aX:=([D.int i64 rm.id]:Taf)}:RS))
  kS x c a 0 ({rm with role:=1,bG:=0,aX:=([D.int i64 rm.id]:Taf)}:RS))
def lE(x:D)(s:RS):RS:=
 let a:=(fM s.li s.lt s.le)
 if((cD 0 x).q==1) then(
  let rm:=gq (aC 46 oK [(0,D.int i64 2),(2,(cD 1 x)),(7,D.bool true)]) s
  rm)
 else(
  if((cD 0 x).q==3) then(
   let nQ:=gq (aC 46 oK [(0,D.int i64 4),(2,(cD 1 x)),(4,D.int i64 a.1),(7,D.bool true)]) s
   nQ)
  else(
   if((cD 0 x).q==5) then(
    let c:=gq (aC 46 oK [(0,D.int i64 6),(2,(cD 1 x)),(4,(cD 4 x)),(7,D.bool true),(10,D.int i64 1)]) s
    c)
   else(
    s)))
def nU(x:D)(s:RS):RS:=
 let a:=(zS s.li s.lt s.le (cD 4 x).q (cD 5 x).q)
 if((((s.vote==0)||(s.vote==(cD 1 x).q))&&(s.role !=2))&&a) then(
  if(s.vote==0) then(
   let e:=fL ({s with vote:=(cD 1 x).q}:RS);let d:=kA e;let c:=gq (aC 46 oK [(0,D.int i64 2),(2,(cD 1 x)),(7,D.bool (!((((s.vote==0)||(s.vote==(cD 1 x).q))&&(s.role !=2))&&a)))]) d
   c)
  else(
   let g:=kA s;let f:=gq (aC 46 oK [(0,D.int i64 2),(2,(cD 1 x)),(7,D.bool (!((((s.vote==0)||(s.vote==(cD 1 x).q))&&(s.role !=2))&&a)))]) g
   f))
 else(
  let h:=gq (aC 46 oK [(0,D.int i64 2),(2,(cD 1 x)),(7,D.bool (!((((s.vote==0)||(s.vote==(cD 1 x).q))&&(s.role !=2))&&a)))]) s
  h)
def kO(x:D)(s:RS):RS:=
 if((s.role !=1)||(cD 7 x).W) then(
  s)
 else(
  let c:=(dR ({s with aX:=(s.aX++([(cD 1 x)]:Taf))}:RS));let a:=(ju (aC 2 c []) (D.list (s.aX++([(cD 1 x)]:Taf))))
  if a then(
   let d:=rB ({s with aX:=(s.aX++([(cD 1 x)]:Taf))}:RS)
   d)
  else(
   ({s with aX:=(s.aX++([(cD 1 x)]:Taf))}:RS)))
def gR(x:D)(s:RS):Bool×RS:=
 if(s.role==2) then(
  (false,s))
 else(
  let Yv:=eR s.term (cD 1 x).q s;let UO:=kA Yv
  (true,UO))
def jj(x:D)(s:RS):RS:=
 let lK:=gR (aC 46 x []) s
 if(!lK.1) then(
  lK.2)
 else(
  if decide ((cD 4 x).q<lK.2.bB) then(
   let nQ:=gq (aC 46 oK [(0,D.int i64 4),(2,(cD 1 x)),(4,D.int i64 lK.2.bB),(8,(cD 8 x))]) lK.2
   nQ)
  else(
   let nQ:=vP lK.2.li lK.2.lt lK.2.le (cD 4 x).q (cD 5 x).q (cD 12 x).A
   if(!nQ.1.2) then(
    let h:=(fM nQ.2.1 nQ.2.2.1 nQ.2.2.2);let g:=gq (aC 46 oK [(0,D.int i64 4),(2,(cD 1 x)),(4,D.int i64 (iN h.1 (i64.wrap ((cD 4 x).q-1)))),(7,D.bool true),(8,(cD 8 x))]) ({lK.2 with li:=nQ.2.1,lt:=nQ.2.2.1,le:=nQ.2.2.2}:RS)
    g)
   else(
    if decide (nQ.1.1>0) then(
     let a:=fL ({lK.2 with li:=nQ.2.1,lt:=nQ.2.2.1,le:=nQ.2.2.2}:RS);let c:=eJ a.li a.lt a.le nQ.1.1 (i64.wrap ((cD 4 x).q+(((cD 12 x).A:Taf).length:Int)));let e:=en (iN (cD 6 x).q (i64.wrap ((cD 4 x).q+(((cD 12 x).A:Taf).length:Int)))) ({a with dX:=c}:RS);let d:=gq (aC 46 oK [(0,D.int i64 4),(2,(cD 1 x)),(4,D.int i64 (i64.wrap ((cD 4 x).q+(((cD 12 x).A:Taf).length:Int)))),(8,(cD 8 x))]) e.2
     d)
    else(
     let i:=en (iN (cD 6 x).q (i64.wrap ((cD 4 x).q+(((cD 12 x).A:Taf).length:Int)))) ({lK.2 with li:=nQ.2.1,lt:=nQ.2.2.1,le:=nQ.2.2.2}:RS);let f:=gq (aC 46 oK [(0,D.int i64 4),(2,(cD 1 x)),(4,D.int i64 (i64.wrap ((cD 4 x).q+(((cD 12 x).A:Taf).length:Int)))),(8,(cD 8 x))]) i.2
     f))))
def Eb(c:Taf)(a:RS):RS:=
 ({a with reads:=c}:RS)
def ka(x:D)(s:RS)(f:D)(d:Taf)(a:Int)(c:RS):(Taf×Int×RS)⊕(RS):=
 if decide (a<(s.reads.length:Int)) then(
  if((decide ((cD 8 x).q≥((cD 2 ((s.reads).getD (a:Int).toNat .top)).q)))&&(decide ((cD 8 x).q<=c.round))) then(
   .inr dN)
  else(
   let e:=(ju (aC 2 f []) (cD 3 ((s.reads).getD (a:Int).toNat .top)))
   if e then(
    .inl (d,(i64.wrap (a+1)),({c with rX:=(c.rX++([aC 2 ((s.reads).getD (a:Int).toNat .top) []]:Taf))}:RS)))
   else(
    .inl ((d++([aC 4 ((s.reads).getD (a:Int).toNat .top) []]:Taf)),(i64.wrap (a+1)),c))))
 else .inr (Eb d c)
def wI(x:D)(s:RS)(c:D)(e:Taf)(a:Int)(d:RS):Nat:=s.reads.length-a.toNat
def kb(x:D)(s:RS)(c:D)(f:Taf)(e:Int)(d:RS):RS:=iz (fun a:Taf×Int×RS=>ka x s c a.1 a.2.1 a.2.2) dN (wI x s c f e d+1) (f,e,d)
def fN(x:D)(s:RS):RS:=
 let a:=(dR s)
 kb x s a [] 0 s
def ER(m y l:Int):Int:=lL m (iN y l)
def GV(m n y l:Int):Int:=lL n (i64.wrap (ER m y l+1))
def Yc(x l:Int)(q:RS->Int)(t:RS):RS:=let u:=gS t;if((u.role==2)&&(decide (q u<=l))) then fy x u else u
def tY(x:Int)(y:Int)(s:RS):RS:=
 let l:=(fM s.li s.lt s.le).1
 if(x==0) then Yc 0 l RS.Bx {s with GQ:=ER s.GQ y l,Bx:=GV s.GQ s.Bx y l,EN:=0} else if(x==1) then Yc 1 l RS.yC {s with BW:=ER s.BW y l,yC:=GV s.BW s.yC y l,EM:=0} else if(x==2) then Yc 2 l RS.yB {s with BV:=ER s.BV y l,yB:=GV s.BV s.yB y l,EL:=0} else if(x==3) then Yc 3 l RS.yA {s with BU:=ER s.BU y l,yA:=GV s.BU s.yA y l,EK:=0} else if(x==4) then Yc 4 l RS.yz {s with BT:=ER s.BT y l,yz:=GV s.BT s.yz y l,EJ:=0} else if(x==5) then Yc 5 l RS.yx {s with BS:=ER s.BS y l,yx:=GV s.BS s.yx y l,EI:=0} else dN
def Jv(m n i:Int)(s:RS):Int:=lL (i64.wrap (m+1)) (iN (i64.wrap (n-1)) (i64.wrap ((iN (lL 0 i) (fM s.li s.lt s.le).1)+1)))
def hH(x:D)(s:RS):RS:=
 if((s.role !=2)||(!(pf (cD 1 x).q s))) then s
 else
  let u:=fN (aC 46 x []) s
  if((cD 1 x).q==0) then(if(cD 7 x).W then fy 0 {u with Bx:=Jv u.GQ u.Bx (cD 4 x).q u} else tY 0 (cD 4 x).q u) else if((cD 1 x).q==1) then(if(cD 7 x).W then fy 1 {u with yC:=Jv u.BW u.yC (cD 4 x).q u} else tY 1 (cD 4 x).q u) else if((cD 1 x).q==2) then(if(cD 7 x).W then fy 2 {u with yB:=Jv u.BV u.yB (cD 4 x).q u} else tY 2 (cD 4 x).q u) else if((cD 1 x).q==3) then(if(cD 7 x).W then fy 3 {u with yA:=Jv u.BU u.yA (cD 4 x).q u} else tY 3 (cD 4 x).q u) else if((cD 1 x).q==4) then(if(cD 7 x).W then fy 4 {u with yz:=Jv u.BT u.yz (cD 4 x).q u} else tY 4 (cD 4 x).q u) else if((cD 1 x).q==5) then(if(cD 7 x).W then fy 5 {u with yx:=Jv u.BS u.yx (cD 4 x).q u} else tY 5 (cD 4 x).q u) else dN
def iH(x:D)(s:RS):RS:=
 if((s.role !=2)||(!(pf (cD 1 x).q s))) then s
 else if((!(cD 7 x).W)&&((cD 10 x).q==0)) then tY (cD 1 x).q (cD 4 x).q s
 else if((cD 4 x).q==s.pZ) then
  (if((cD 1 x).q==0) then fy 0 {s with EN:=jv (cD 9 x).q s} else if((cD 1 x).q==1) then fy 1 {s with EM:=jv (cD 9 x).q s} else if((cD 1 x).q==2) then fy 2 {s with EL:=jv (cD 9 x).q s} else if((cD 1 x).q==3) then fy 3 {s with EK:=jv (cD 9 x).q s} else if((cD 1 x).q==4) then fy 4 {s with EJ:=jv (cD 9 x).q s} else if((cD 1 x).q==5) then fy 5 {s with EI:=jv (cD 9 x).q s} else dN)
 else s
def rR(x:D)(u:RS)(pd:Taf)(c:RS):RS:=
 let a:=lT (cD 4 x).q (cD 5 x).q
 if(cD 0 a).iV then gq (aC 46 oK [(0,D.int i64 6),(2,(cD 1 x)),(4,(cD 4 x)),(9,D.int i64 (pd.length:Int)),(10,D.int i64 (lL 1 (cD 10 x).q))]) c
 else if(((((pd.length:Int) !=(cD 10 x).q)||(decide ((cD 10 x).q<1)))&&true)||(!gF (D.agg [(cD 13 x),(cD 14 x)]))) then gq (aC 46 oK [(0,D.int i64 6),(2,(cD 1 x)),(4,(cD 4 x)),(9,D.int i64 (pd.length:Int)),(10,D.int i64 (lL 1 (cD 10 x).q))]) c
 else if(((jB u.li u.lt u.le (cD 4 x).q).2==0)&&((jB u.li u.lt u.le (cD 4 x).q).1==(cD 5 x).q)) then
  gq (aC 46 oK [(0,D.int i64 6),(2,(cD 1 x)),(4,(cD 4 x))]) (fL ({u with il:=(D.ptr [cD 4 x,cD 5 x,cD 13 x,cD 14 x,.list pd]),pZ:=(cD 4 x).q,ng:=(cD 5 x).q,sv:=(cD 13 x).A,sl:=(cD 14 x).A,gN:=pd,bB:=(cD 4 x).q,nW:=0,qc:=0,lW:=0,wV:=0,lV:=0,fR:=[],li:=(iY u.li u.lt u.le (cD 4 x).q).2.1,lt:=(iY u.li u.lt u.le (cD 4 x).q).2.2.1,le:=(iY u.li u.lt u.le (cD 4 x).q).2.2.2}:RS))
 else gq (aC 46 oK [(0,D.int i64 6),(2,(cD 1 x)),(4,(cD 4 x))]) (fL ({u with il:=(D.ptr [cD 4 x,cD 5 x,cD 13 x,cD 14 x,.list pd]),pZ:=(cD 4 x).q,ng:=(cD 5 x).q,sv:=(cD 13 x).A,sl:=(cD 14 x).A,gN:=pd,bB:=(cD 4 x).q,nW:=0,qc:=0,lW:=0,wV:=0,lV:=0,fR:=[],li:=((cD 0 (cD 1 a)).q),lt:=((cD 1 (cD 1 a)).q),le:=((cD 2 (cD 1 a)).A)}:RS))
def nV(x:D)(s:RS):RS:=
 if(!(gR (aC 46 x []) s).1) then(gR (aC 46 x []) s).2 else
  let u:=(gR (aC 46 x []) s).2
  if decide ((cD 4 x).q<=u.bB) then gq (aC 46 oK [(0,D.int i64 6),(2,(cD 1 x)),(4,D.int i64 u.bB)]) u
  else if((!(((((u.nW==(cD 3 x).q)&&(u.qc==(cD 1 x).q))&&(u.lW==(cD 4 x).q))&&(u.wV==(cD 5 x).q))&&(u.lV==(cD 10 x).q)))||((cD 9 x).q==0)) then
   (if((((cD 9 x).q==(([]:Taf).length:Int))&&(decide ((((cD 15 x).A:Taf).length:Int)<=(i64.wrap ((cD 10 x).q-(([]:Taf).length:Int))))))&&(ny (cD 10 x).q 1 1048576)) then
    rR x u ([]++(cD 15 x).A) ({u with nW:=(cD 3 x).q,qc:=(cD 1 x).q,lW:=(cD 4 x).q,wV:=(cD 5 x).q,lV:=(cD 10 x).q,fR:=([]++(cD 15 x).A)}:RS)
   else rR x u [] ({u with nW:=(cD 3 x).q,qc:=(cD 1 x).q,lW:=(cD 4 x).q,wV:=(cD 5 x).q,lV:=(cD 10 x).q,fR:=[]}:RS))
  else(if((((cD 9 x).q==((u.fR:Taf).length:Int))&&(decide ((((cD 15 x).A:Taf).length:Int)<=(i64.wrap ((cD 10 x).q-((u.fR:Taf).length:Int))))))&&(ny (cD 10 x).q 1 1048576)) then
    rR x u (u.fR++(cD 15 x).A) ({u with fR:=(u.fR++(cD 15 x).A)}:RS)
   else rR x u u.fR u)
def yF(u:RS):D×RS:=(aC 8 (bR u).1 [],(bR u).2)
def Qg(x:D)(t:RS):D×RS:=
 if decide ((cD 3 x).q<t.term) then yF (lE (aC 46 x []) t)
 else if((cD 0 x).q==1) then yF (nU (aC 46 x []) t)
 else if((cD 0 x).q==2) then yF (kO (aC 46 x []) t)
 else if((cD 0 x).q==3) then yF (jj (aC 46 x []) t)
 else if((cD 0 x).q==4) then yF (hH (aC 46 x []) t)
 else if((cD 0 x).q==5) then yF (nV (aC 46 x []) t)
 else if((cD 0 x).q==6) then yF (iH (aC 46 x []) t)
 else yF t
def jo(x:D)(s:RS):D×RS:=
 if(((decide ((cD 5 x).q>(cD 3 x).q))||((decide ((((cD 12 x).A:Taf).length:Int)>0))&&(decide (((cD 1 (((cD 12 x).A).getD ((i64.wrap ((((cD 12 x).A:Taf).length:Int)-1)):Int).toNat .top)).q)>(cD 3 x).q))))||(!eW (cD 12 x).A)) then yF s
 else if(((!(((((cD 2 x).q==s.id)&&((cD 1 x).q !=s.id))&&ny (cD 1 x).q 1 5)&&ny (cD 3 x).q 1 1099511627776))||(decide ((cD 0 x).q<1)))||(decide ((cD 0 x).q>6))) then yF s
 else if decide ((cD 3 x).q>s.term) then Qg x (eR (cD 3 x).q 0 s)
 else Qg x s
def O1(c:RS):D×RS:=
 let a:=bR c
 (aC 8 a.1 [],a.2)
def Ai(c:Taf)(a:Int)(d:RS):(Int×RS)⊕(D×RS):=
 if decide (a<((c:Taf).length:Int)) then(
  let e:=fy ((((c).getD (a:Int).toNat .top)).q) d
  .inl ((i64.wrap (a+1)),e))
 else .inr (O1 d)
def FA(a:Taf)(c:Int)(d:RS):Nat:=a.length-c.toNat
def og(c:Taf)(e:Int)(d:RS):D×RS:=iz (fun a:Int×RS=>Ai c a.1 a.2) (.top,dN) (FA c e d+1) (e,d)
def jz(x:Int)(s:RS):D×RS:=
 if(s.role==2) then(
  if decide ((i64.wrap (s.wait+1))≥2) then(
   let z:=(dR ({s with wait:=0}:RS));let y:=(fV (aC 2 z []) ({s with wait:=0}:RS))
   og y 0 ({s with wait:=0}:RS))
  else(
   let Yb:=bR ({s with wait:=(i64.wrap (s.wait+1))}:RS)
   (aC 8 Yb.1 [],Yb.2)))
 else(
  if(s.end_==0) then(
   if decide (x<0) then(
    if decide ((i64.wrap (s.wait+1))≥(i64.wrap (10+((i64.wrap (0-(i64.wrap (x+1)))).tmod 10)))) then(
     let a:=kA ({s with wait:=(i64.wrap (s.wait+1)),end_:=(i64.wrap (10+((i64.wrap (0-(i64.wrap (x+1)))).tmod 10)))}:RS);let j:=(dR a);let n:=(jM (aC 2 j []) a.id)
     if(n&&(decide (a.term<1099511627776))) then(
      let p:=ks (aC 2 j []) a;let d:=bR p
      (aC 8 d.1 [],d.2))
     else(
      let e:=bR a
      (aC 8 e.1 [],e.2)))
    else(
     let a:=bR ({s with wait:=(i64.wrap (s.wait+1)),end_:=(i64.wrap (10+((i64.wrap (0-(i64.wrap (x+1)))).tmod 10)))}:RS)
     (aC 8 a.1 [],a.2)))
   else(
    if decide ((i64.wrap (s.wait+1))≥(i64.wrap (10+(x.tmod 10)))) then(
     let c:=kA ({s with wait:=(i64.wrap (s.wait+1)),end_:=(i64.wrap (10+(x.tmod 10)))}:RS);let k:=(dR c);let o:=(jM (aC 2 k []) c.id)
     if(o&&(decide (c.term<1099511627776))) then(
      let q:=ks (aC 2 k []) c;let f:=bR q
      (aC 8 f.1 [],f.2))
     else(
      let g:=bR c
      (aC 8 g.1 [],g.2)))
    else(
     let c:=bR ({s with wait:=(i64.wrap (s.wait+1)),end_:=(i64.wrap (10+(x.tmod 10)))}:RS)
     (aC 8 c.1 [],c.2))))
  else(
   if decide ((i64.wrap (s.wait+1))≥s.end_) then(
    let ED:=kA ({s with wait:=(i64.wrap (s.wait+1))}:RS);let m:=(dR ED);let u:=(jM (aC 2 m []) ED.id)
    if(u&&(decide (ED.term<1099511627776))) then(
     let t:=ks (aC 2 m []) ED;let h:=bR t
     (aC 8 h.1 [],h.2))
    else(
     let i:=bR ED
     (aC 8 i.1 [],i.2)))
   else(
    let ED:=bR ({s with wait:=(i64.wrap (s.wait+1))}:RS)
    (aC 8 ED.1 [],ED.2))))
def Gk(jr:(D×Int)×RS)(d:RS):(D×Int×D)×RS:=
 let c:=gS d;let a:=bR c
 ((aC 29 jr.1.1 [],0,aC 8 a.1 []),a.2)
def mV(jr:(D×Int)×RS)(e:Taf)(c:Int)(a:RS):(Int×RS)⊕((D×Int×D)×RS):=
 if decide (c<((e:Taf).length:Int)) then(
  if(((((e).getD (c:Int).toNat .top)).q)==0) then(
   if(a.Bx==((cD 0 jr.1.1).q)) then(
    let d:=fy 0 a
    .inl ((i64.wrap (c+1)),d))
   else(
    .inl ((i64.wrap (c+1)),a)))
  else(
   if(((((e).getD (c:Int).toNat .top)).q)==1) then(
    if(a.yC==((cD 0 jr.1.1).q)) then(
     let d:=fy 1 a
     .inl ((i64.wrap (c+1)),d))
    else(
     .inl ((i64.wrap (c+1)),a)))
   else(
    if(((((e).getD (c:Int).toNat .top)).q)==2) then(
     if(a.yB==((cD 0 jr.1.1).q)) then(
      let d:=fy 2 a
      .inl ((i64.wrap (c+1)),d))
     else(
      .inl ((i64.wrap (c+1)),a)))
    else(
     if(((((e).getD (c:Int).toNat .top)).q)==3) then(
      if(a.yA==((cD 0 jr.1.1).q)) then(
       let d:=fy 3 a
       .inl ((i64.wrap (c+1)),d))
      else(
       .inl ((i64.wrap (c+1)),a)))
     else(
      if(((((e).getD (c:Int).toNat .top)).q)==4) then(
       if(a.yz==((cD 0 jr.1.1).q)) then(
        let d:=fy 4 a
        .inl ((i64.wrap (c+1)),d))
       else(
        .inl ((i64.wrap (c+1)),a)))
      else(
       if(((((e).getD (c:Int).toNat .top)).q)==5) then(
        if(a.yx==((cD 0 jr.1.1).q)) then(
         let d:=fy 5 a
         .inl ((i64.wrap (c+1)),d))
        else(
         .inl ((i64.wrap (c+1)),a)))
       else(
        .inr ((.top,0,.top),dN))))))))
 else .inr (Gk jr a)
def x9(jr:(D×Int)×RS)(a:Taf)(c:Int)(d:RS):Nat:=a.length-c.toNat
def mW(jr:(D×Int)×RS)(c:Taf)(e:Int)(d:RS):(D×Int×D)×RS:=iz (fun a:Int×RS=>mV jr c a.1 a.2) ((.top,0,.top),dN) (x9 jr c e d+1) (e,d)
def dH(x:D)(s:RS):(D×Int×D)×RS:=
 let a:=(wT (aC 27 x []) s)
 if(a !=0) then(
  let xI:=bR s
  ((aC 29 qw [],a,aC 8 xI.1 []),xI.2))
 else(
  let jr:=jY (aC 27 x []) s
  if(jr.1.2 !=0) then(
   let X9:=bR jr.2
   ((aC 29 qw [],jr.1.2,aC 8 X9.1 []),X9.2))
  else(
   let d:=(dR jr.2);let c:=(fV (aC 2 d []) jr.2)
   mW jr c 0 jr.2))
def eG(x:Int)(y:Taf)(s:RS):(Int×D)×RS:=
 let k:=(iS s.li s.lt s.le)
 if((decide (((y:Taf).length:Int)<1))||(decide (((y:Taf).length:Int)>1048576))) then(
  let Ya:=bR s
  ((1,aC 8 Ya.1 []),Ya.2))
 else(
  if decide (x>s.bB) then(
   let i:=bR s
   ((3,aC 8 i.1 []),i.2))
  else(
   if decide (x<=k.1) then(
    let h:=bR s
    ((0,aC 8 h.1 []),h.2))
   else(
    let d:=(oV x s);let g:=(jB s.li s.lt s.le x);let c:=iY s.li s.lt s.le x;let e:=(XL y);let a:=(Qk (D.agg [D.int i64 x,D.int i64 g.1,(cD 0 d),(cD 1 d),D.list e]));let j:=fL ({s with il:=(D.ptr [(cD 0 a),(cD 1 a),(cD 2 a),(cD 3 a),(cD 4 a)]),pZ:=x,ng:=g.1,sv:=(cD 0 d).A,sl:=(cD 1 d).A,gN:=e,li:=c.2.1,lt:=c.2.2.1,le:=c.2.2.2}:RS);let f:=bR j
    ((0,aC 8 f.1 []),f.2))))
def cnD(d:D):Ty->D
 |.int k=>.int k d.q
 |.bool=>.bool d.W
 |.list _=>.list d.A
 |.box .nil=>.ptr []
 |_=>d
def acT{t:Ty}{d:D}(h:Has t d):d=cnD d t:=by
 unfold cnD;split
 .obtain⟨n,rfl,_⟩:=dt.1 h;rfl
 .obtain⟨n,rfl⟩:=dg.1 h;rfl
 .obtain⟨n,rfl,_⟩:=bO.1 h;rfl
 .obtain⟨n,rfl,e⟩:=ik.1 h;rw[dy.1 e]
 rfl
def DY{ts:Tal}{l:Taf}(h:dx (.V ts) l):l=(List.range ts.length).map fun j=>cnD (l.getD j .top) (ts.getD j .nil):=by
 refine dD fun j=>?_;have c:=fH h;rw[Ty.dm]at c;rw[ab];by_cases e:j<l.length
 .obtain⟨x,a,d⟩:=cJ h j _ (by rw[Ty.dm];exact aS (show j<ts.length by omega));rw[da (by omega),a,aV,ae,a,ae,aS (show j<ts.length by omega)];exact congrArg some (acT d)
 rw[cC (by omega),cC (by rw[fi];omega)];rfl
def fU{l:Taf}(h:dx (.V eZ) l):∃s:RS,l=encS s:=⟨ig l,(DY h).trans rfl⟩
@[irreducible] def G (k:Nat):Nat:=k*1073741824
def DF(k:Nat):G (k+1)=G k+1073741824:=by unfold G;rw[cn,Nat.one_mul]
def aaJ{j k:Nat}(h:j<=k):G j<=G k:=by unfold G;exact aw _ h
structure cK(C M:Nat)(s:RS)(k:Nat):Prop where
 may:gn s.li s.lt s.le=true
 uA:1<=s.id
 vj:s.id<=5
 rI:s.le.length+k<=1073741824
 nm:s.msgs.length+k<=M
 ne:s.dX.length+k<=4294967296
 nc:s.bM.length+G k<=C
 nv:s.aX.length+k<=4294967296
 cf:gF (.agg [.list s.fv,.list s.fl])=true
 cs:0<s.li->gF (.agg [.list s.sv,.list s.sl])=true
 cl:eW s.le=true
 tm:0<=s.term
 tx:s.term<=MX
 rd:s.reads=[]
abbrev Ok(s:RS)(k:Nat):Prop:=cK 274877906944 4294967296 s k
def mN{d:D}(h:Has ue d):∃s:RS,d=C3 s:=by
 obtain⟨l,rfl,a⟩:=ik.1 h;refine⟨pG (.ptr l),?_⟩;obtain⟨x,f,i⟩:=cJ a 13 _ (by rw[Ty.dm];rfl);obtain⟨g,rfl,j⟩:=ik.1 i;have e:l.getD 13 .top=.ptr g:=by rw[ae,f];rfl
 have k:g=cL (pG (.ptr l)):=(DY j).trans (by show _=[D.int i64 (((l.getD 13 .top).A.getD 0 .top).q),.int i64 (((l.getD 13 .top).A.getD 1 .top).q),.list (((l.getD 13 .top).A.getD 2 .top).A)];rw[e];rfl);have c:l=(cR (pG (.ptr l))).set 13 (l.getD 13 .top):=(DY a).trans rfl;rw[e]at c;show D.ptr l=.ptr ((cR (pG (.ptr l))).set 13 (.ptr (cL (pG (.ptr l)))));rw[<-k,<-c]
def cF(f:Nat)(ds:Taf):D:=
 let a:=ds.getD 0 .top;let b:=ds.getD 1 .top;let c:=ds.getD 2 .top;let d:=ds.getD 3 .top
 match f with
 |79=>.int i64 (findF (fun y=>y==b.q) (hR a) 0)
 |56=>.bool (decide (b.q∈hR a))
 |61=>wB ds
 |82=>yY ds
 |83=>zf ds
 |55=>.bool (rL 0 (hR a))
 |21=>.bool (zl (vo a) (lr a))
 |36=>.bool (decide (b.q∈vo a))
 |63=>.list (jP a)
 |66=>.bool (zm (vo a) (hR b))
 |72=>.int i64 (pj a b)
 |70=>.bool (G9 (vo a) (lr a) (vo b) (lr b))
 |20=>.bool (ny a.q b.q c.q)
 |52=>a
 |60=>.bool (wY (.fn 0 []) a)
 |80=>.int i64 (findF (wY b) a.A 0)
 |59=>.bool (mR a.A b)
 |24=>.bool (eW a.A)
 |26=>a
 |28=>.ff [.int i64 (iS (cD 0 (ds.getD 0 .top)).q (cD 1 (ds.getD 0 .top)).q (cD 2 (ds.getD 0 .top)).A).1,.int i64 (iS (cD 0 (ds.getD 0 .top)).q (cD 1 (ds.getD 0 .top)).q (cD 2 (ds.getD 0 .top)).A).2]
 |25=>.ff [.int i64 (fM (cD 0 (ds.getD 0 .top)).q (cD 1 (ds.getD 0 .top)).q (cD 2 (ds.getD 0 .top)).A).1,.int i64 (fM (cD 0 (ds.getD 0 .top)).q (cD 1 (ds.getD 0 .top)).q (cD 2 (ds.getD 0 .top)).A).2]
 |50=>.ff [.int i64 (jB (cD 0 (ds.getD 0 .top)).q (cD 1 (ds.getD 0 .top)).q (cD 2 (ds.getD 0 .top)).A (ds.getD 1 .top).q).1,.int i64 (jB (cD 0 (ds.getD 0 .top)).q (cD 1 (ds.getD 0 .top)).q (cD 2 (ds.getD 0 .top)).A (ds.getD 1 .top).q).2]
 |74=>.bool (zS (cD 0 (ds.getD 0 .top)).q (cD 1 (ds.getD 0 .top)).q (cD 2 (ds.getD 0 .top)).A (ds.getD 1 .top).q (ds.getD 2 .top).q)
 |65=>QF ds
 |49=>(oV (ds.getD 1 .top).q (pG (ds.getD 0 .top)))
 |29=>(dR (pG (ds.getD 0 .top)))
 |32=>.list (fV (ds.getD 1 .top) (pG (ds.getD 0 .top)))
 |76=>.bool (pf (ds.getD 1 .top).q (pG (ds.getD 0 .top)))
 |69=>.bool (tJ (pG (ds.getD 0 .top)))
 |68=>.bool (vX (pG (ds.getD 0 .top)))
 |38=>.int i64 (wT (ds.getD 1 .top) (pG (ds.getD 0 .top)))
 |12=>(J7 (pG (ds.getD 0 .top)))
 |57=>.bool (ny a.q b.q c.q)
 |58=>.bool (gn a.q b.q c.A)
 |23=>.ff [.ff [.int i64 (iD (ds.getD 3 .top).q (ds.getD 4 .top).q (ds.getD 5 .top).A a.q b.q c.A).1,.bool (jf (ds.getD 3 .top).q (ds.getD 4 .top).q (ds.getD 5 .top).A a.q b.q c.A)],qp (ds.getD 3 .top).q (ds.getD 4 .top).q (iD (ds.getD 3 .top).q (ds.getD 4 .top).q (ds.getD 5 .top).A a.q b.q c.A).2]
 |71=>.ff [.ff [tZ (ds.getD 2 .top).q (ds.getD 3 .top).q (ds.getD 4 .top).A a.q b,.int i64 (mY (ds.getD 2 .top).q (ds.getD 3 .top).q (ds.getD 4 .top).A a.q)],qp (ds.getD 2 .top).q (ds.getD 3 .top).q (pE (ds.getD 2 .top).q (ds.getD 3 .top).q (ds.getD 4 .top).A a.q b)]
 |51=>.ff [.int i64 (uq (ds.getD 1 .top).q (ds.getD 3 .top).A a.q),qp (iT (ds.getD 1 .top).q (ds.getD 2 .top).q (ds.getD 3 .top).A a.q).1 (iT (ds.getD 1 .top).q (ds.getD 2 .top).q (ds.getD 3 .top).A a.q).2.1 (iT (ds.getD 1 .top).q (ds.getD 2 .top).q (ds.getD 3 .top).A a.q).2.2]
 |53=>iA (fL (ig (ds.drop 0)))
 |35=>iA (kA (ig (ds.drop 0)))
 |64=>iA (gq (ds.getD 0 .top) (ig (ds.drop 1)))
 |41=>iA (eR (ds.getD 0 .top).q (ds.getD 1 .top).q (ig (ds.drop 2)))
 |34=>EY (bR (ig (ds.drop 0)))
 |39=>JT (jY (ds.getD 0 .top) (ig (ds.drop 1)))
 |33=>iA (fy (ds.getD 0 .top).q (ig (ds.drop 1)))
 |84=>.bool (lY a)
 |73=>JU (en (ds.getD 0 .top).q (ig (ds.drop 1)))
 |40=>iA (gS (ig (ds.drop 0)))
 |67=>iA (rB (ig (ds.drop 0)))
 |37=>iA (ks (ds.getD 0 .top) (ig (ds.drop 1)))
 |42=>iA (lE (ds.getD 0 .top) (ig (ds.drop 1)))
 |43=>iA (nU (ds.getD 0 .top) (ig (ds.drop 1)))
 |44=>iA (kO (ds.getD 0 .top) (ig (ds.drop 1)))
 |75=>JU (gR (ds.getD 0 .top) (ig (ds.drop 1)))
 |45=>iA (jj (ds.getD 0 .top) (ig (ds.drop 1)))
 |77=>iA (fN (ds.getD 0 .top) (ig (ds.drop 1)))
 |78=>iA (tY (ds.getD 0 .top).q (ds.getD 1 .top).q (ig (ds.drop 2)))
 |46=>iA (hH (ds.getD 0 .top) (ig (ds.drop 1)))
 |48=>iA (iH (ds.getD 0 .top) (ig (ds.drop 1)))
 |27=>Qk a
 |47=>iA (nV (ds.getD 0 .top) (ig (ds.drop 1)))
 |17=>EY (jo (ds.getD 0 .top) (ig (ds.drop 1)))
 |15=>EY (jz (ds.getD 0 .top).q (ig (ds.drop 1)))
 |81=>.bool (decide (hR a=hR b))
 |62=>.bool (decide (vo a=vo b)&&decide (lr a=lr b))
 |31=>.bool (EZ a b)
 |8=>.int i64 (ib a.q b.q)
 |22=>lT a.q b.q
 |_=>.bool true
def pre(f:Nat)(ds:Taf):Prop:=
 let a:=ds.getD 0 .top;let b:=ds.getD 1 .top;let c:=ds.getD 2 .top;let d:=ds.getD 3 .top
 match f with
 |63=>((vo a).length+(lr a).length)*8<=140737488355328
 |25=>gn (cD 0 a).q (cD 1 a).q (cD 2 a).A=true
 |50=>gn (cD 0 a).q (cD 1 a).q (cD 2 a).A=true
 |74=>gn (cD 0 a).q (cD 1 a).q (cD 2 a).A=true
 |65=>afm ds
 |49=>Ok (pG a) 0
 |29=>Ok (pG a) 0
 |32=>Ok (pG a) 0/\gF b=true
 |76=>Ok (pG a) 0
 |69=>Ok (pG a) 0
 |68=>Ok (pG a) 0
 |38=>Ok (pG a) 0
 |12=>Ok (pG a) 0
 |23=>gn (ds.getD 3 .top).q (ds.getD 4 .top).q (ds.getD 5 .top).A=true/\(ds.getD 5 .top).A.length<4294967296/\(ds.getD 2 .top).A.length<4294967296
 |71=>gn (ds.getD 2 .top).q (ds.getD 3 .top).q (ds.getD 4 .top).A=true/\(ds.getD 4 .top).A.length<4294967296
 |51=>gn (ds.getD 1 .top).q (ds.getD 2 .top).q (ds.getD 3 .top).A=true
 |64=>Ok (ig (ds.drop 1)) 1
 |39=>Ok (ig (ds.drop 1)) 1
 |33=>Ok (ig (ds.drop 1)) 1/\0<=a.q/\a.q<=5
 |73=>Ok (ig (ds.drop 1)) 1
 |40=>Ok (ig (ds.drop 0)) 1
 |67=>Ok (ig (ds.drop 0)) 13
 |37=>Ok (ig (ds.drop 1)) 14/\gF a=true/\(ig (ds.drop 1)).term<MX
 |42=>Ok (ig (ds.drop 1)) 1
 |43=>Ok (ig (ds.drop 1)) 1
 |44=>Ok (ig (ds.drop 1)) 15
 |45=>Ok (ig (ds.drop 1)) (4+(cD 12 a).A.length)/\(cD 12 a).A.length<=2147483648/\eW (cD 12 a).A=true
 |77=>Ok (ig (ds.drop 1)) 0
 |78=>Ok (ig (ds.drop 2)) 2/\0<=a.q/\a.q<=5
 |46=>Ok (ig (ds.drop 1)) 4/\0<=(cD 1 a).q/\(cD 1 a).q<=5
 |48=>Ok (ig (ds.drop 1)) 4/\0<=(cD 1 a).q/\(cD 1 a).q<=5
 |47=>Ok (ig (ds.drop 1)) 2
 |17=>Ok (ig (ds.drop 1)) (20+(cD 12 a).A.length)/\(cD 12 a).A.length<=2147483648
 |15=>Ok (ig (ds.drop 1)) 20
 |8=>b.q≠0
 |_=>True
def Z9:Tah:=[8,12,15,17,23,25,29,32,33,37,38,39,40,42,43,44,45,46,47,48,49,50,51,63,64,65,67,68,69,71,73,74,76,77,78]
def mix:Try.prog.follows .mixedOrders=true:=by kernel_rfl
section
variable(l r v w:List Int)(b:Int)
def V8:cF 56 [.list (l.map (D.int i64)),.int i64 b]=.bool (decide (b∈l)):=by simp[cF,fh,bU]
def agd:cF 61 [.list (l.map (D.int i64))]=.list (l.map (D.int i64)):=rfl
def aaC:cF 82 [.list (l.map (D.int i64))]=.list ((kg l).map (D.int i64)):=by simp[cF,yY,fh]
def acC:cF 82 [.list (l.map (D.int i64)++r.map (D.int i64))]=.list ((kg (l++r)).map (D.int i64)):=by rw[<-ck];exact aaC _
def agc:cF 83 [.list (l.map (D.int i64))]=.list ((Lib.compact l).map (D.int i64)):=by simp[cF,zf,fh]
def af7:cF 55 [.list (l.map (D.int i64))]=.bool (rL 0 l):=by simp[cF,fh]
def aaD:cF 21 [.agg [.list (v.map (D.int i64)),.list (l.map (D.int i64))]]=.bool (zl v l):=by simp[cF,xJ,E8]
def aaB:cF 36 [.agg [.list (v.map (D.int i64)),.list (l.map (D.int i64))],.int i64 b]=.bool (decide (b∈v)):=by simp[cF,xJ,bU]
def af9:cF 63 [.agg [.list (v.map (D.int i64)),.list (l.map (D.int i64))]]=.list ((EU v l).map (D.int i64)):=by simp[cF,jP,Ip,xJ,E8]
def aga:cF 66 [.agg [.list (v.map (D.int i64)),.list (l.map (D.int i64))],.list (r.map (D.int i64))]=.bool (zm v r):=by simp[cF,xJ,fh]
def age:cF 72 [.agg [.list (v.map (D.int i64)),.list (l.map (D.int i64))],.list (r.map (D.int i64))]=.int i64 (vA v r):=by simp[cF,pj,Wr,xJ,fh]
def af6:cF 70 [.agg [.list (v.map (D.int i64)),.list (l.map (D.int i64))],.agg [.list (w.map (D.int i64)),.list (r.map (D.int i64))]]=.bool (G9 v l w r):=by simp[cF,xJ,E8]
def agb:cF 81 [.list (l.map (D.int i64)),.list (r.map (D.int i64))]=.bool (decide (l=r)):=by simp[cF,fh]
def acE:cF 62 [.agg [.list (v.map (D.int i64)),.list (l.map (D.int i64))],.agg [.list (w.map (D.int i64)),.list (r.map (D.int i64))]]=.bool (decide (v=w)&&decide (l=r)):=by simp[cF,xJ,E8]
end
def triv(f:Nat):Bool:= !(Z9.contains f)
def kH:∀f a,triv f=true->pre f a:=by intro f a h;unfold pre;split<;>first|trivial|(simp[triv,Z9]at h)
variable{C M:Nat}
def cK.le{s:RS}{k j:Nat}(h:cK C M s k)(a:j<=k):cK C M s j:=
 ⟨h.may,h.uA,h.vj,by have:=h.rI;omega,by have:=h.nm;omega,by have:=h.ne;omega,by have:=h.nc;have:=aaJ a;omega,by have:=h.nv;omega,h.cf,h.cs,h.cl,h.tm,h.tx,h.rd⟩
structure BF(s t:RS):Prop where
 li:t.li=s.li
 lt:t.lt=s.lt
 le:t.le=s.le
 id:t.id=s.id
 msgs:t.msgs=s.msgs
 dX:t.dX=s.dX
 bM:t.bM=s.bM
 aX:t.aX=s.aX
 fv:t.fv=s.fv
 fl:t.fl=s.fl
 sv:t.sv=s.sv
 sl:t.sl=s.sl
 term:t.term=s.term
 reads:t.reads=s.reads
abbrev MV(s:RS):=(s.li,s.lt,s.le,s.id,s.msgs,s.dX,s.bM,s.aX,s.fv,s.fl,s.sv,s.sl,s.term,s.reads)
def iR{s t:RS}(h:MV t=MV s:=by rfl):BF s t:=by unfold MV at h;simp only[ah]at h;obtain⟨o,n,m,l,k,j,i,g,f,e,d,c,b,a⟩:=h;exact⟨o,n,m,l,k,j,i,g,f,e,d,c,b,a⟩
def cK.same{s t:RS}{k:Nat}(h:cK C M s k)(e:BF s t):cK C M t k:=by
 obtain⟨i,q,g,p,o,n,m,l,j,f,d,c,b,a⟩:=e;refine⟨?_,?_,?_,?_,?_,?_,?_,?_,?_,?_,?_,?_,?_,?_⟩
 all_goals first
  |(rw[i,q,g];exact h.may)
  |(rw[p];first|exact h.uA|exact h.vj)
  |(rw[g];first|exact h.rI|exact h.cl)
  |(rw[o];exact h.nm)
  |(rw[n];exact h.ne)
  |(rw[m];exact h.nc)
  |(rw[l];exact h.nv)
  |(rw[j,f];exact h.cf)
  |(rw[i,d,c];exact h.cs)
  |(rw[b];first|exact h.tm|exact h.tx)
  |(rw[a];exact h.rd)
def cK.send{s:RS}{k:Nat}{x:D}(h:cK C M s (k+1)):cK C M (gq x s) k:=by refine⟨h.may,h.uA,h.vj,by have:=h.rI;show s.le.length+k<=_;omega,?_,by have:=h.ne;show s.dX.length+_<=_;omega,by have:=h.nc;have:=DF k;show s.bM.length+_<=_;omega,by have:=h.nv;show s.aX.length+k<=_;omega,h.cf,h.cs,h.cl,h.tm,h.tx,h.rd⟩;have:=h.nm;simp only[gq,ai,aW];omega
def cK.saved{s:RS}{k:Nat}(h:cK C M s k):cK C M (fL s) k:=h.same iR
def cK.Oj{s:RS}{k:Nat}(h:cK C M s k):cK C M (kA s) k:=h.same iR
def cK.follow{s:RS}{k:Nat}{x y:Int}(h:cK C M s k)(c:0<=x)(b:x<=MX):cK C M (eR x y s) k:=by
 have a:([]:Taf).length+k<=4294967296:=by have:=h.nv;simp;omega
 unfold eR;split
 .exact⟨h.may,h.uA,h.vj,h.rI,h.nm,h.ne,h.nc,a,h.cf,h.cs,h.cl,c,b,rfl⟩
 exact⟨h.may,h.uA,h.vj,h.rI,h.nm,h.ne,h.nc,a,h.cf,h.cs,h.cl,h.tm,h.tx,rfl⟩
def cK.done{s:RS}{k:Nat}(h:cK C M s k):cK C M (bR s).2 k:=
 ⟨h.may,h.uA,h.vj,h.rI,by have:=h.nm;show([]:Taf).length+k<=_;simp;omega,by have:=h.ne;show([]:Taf).length+_<=_;simp;omega,by have:=h.nc;show([]:Taf).length+_<=_;simp;omega,h.nv,h.cf,h.cs,h.cl,h.tm,h.tx,h.rd⟩
def cK.MB{s:RS}{k:Nat}(h:cK C M s k):okB s.li s.lt=true:=by have:=h.may;unfold gn at this;exact(aT _ _▸this).1
def cK.li{s:RS}{k:Nat}(h:cK C M s k):0<=s.li/\s.li+s.le.length<=MX:=by obtain⟨⟨c,b,_,_⟩,a⟩:=eU.1 h.may;exact⟨c,pN b a⟩
def qk{i f m:Int}{l:Taf}{x:D}(h:x∈gu i l f m):x∈l:=by
 unfold gu at h;split at h
 .simp at h
 exact cz (cw h)
def cK.bM{s:RS}{k:Nat}{x:Int}(h:cK C M s (k+1)):cK C M (en x s).2 k:=by
 have e:en x s=if decide (x<=s.bB) then(false,s) else(mR (eJ s.li s.lt s.le (i64.wrap (s.bB+1)) (i64.wrap (x-s.bB))) (D.fn 84 []),{s with bM:=s.bM++eJ s.li s.lt s.le (i64.wrap (s.bB+1)) (i64.wrap (x-s.bB)),bB:=x}):=rfl
 rw[e];by_cases a:decide (x<=s.bB)=true
 .rw[if_pos a];exact h.le (by omega)
 rw[if_neg a];refine⟨h.may,h.uA,h.vj,by have:=h.rI;show s.le.length+k<=_;omega,by have:=h.nm;show s.msgs.length+_<=_;omega,by have:=h.ne;show s.dX.length+_<=_;omega,?_,by have:=h.nv;show s.aX.length+k<=_;omega,h.cf,h.cs,h.cl,h.tm,h.tx,h.rd⟩;have g:=h.nc;have b:=DF k;have d:=h.rI;have c:=tF (i:=s.li) (f:=i64.wrap (s.bB+1)) (m:=i64.wrap (x-s.bB)) (l:=s.le);show(s.bM++gu _ _ _ _).length+_<=_;rw[ai];omega
def gP{l:Taf}:eW l=true↔ ∀x∈l,lY x=true->gF (YL x)=true:=by
 unfold eW;rw[eT,List.any_eq_false];constructor
 .intro h x b a;have:=h x b;rw[a]at this;simpa using this
 intro h x b a;rw[aT]at a;rw[h x b a.1]at a;simp at a
def Er{l r:Taf}(h:eW l=true)(b:∀x∈r,x∈l):eW r=true:=gP.2 fun x a=>gP.1 h x (b x a)
def Es{l r:Taf}(h:eW l=true)(b:eW r=true):eW (l++r)=true:=gP.2 fun x a=>(aM.1 a).elim (gP.1 h x) (gP.1 b x)
def cK.put{s:RS}{k:Nat}{c:D}(h:cK C M s (k+1))(g:(cD 0 c).q=2->gF (.agg [cD 25 c,cD 26 c])=true):cK C M (jY c s).2 k:=by
 obtain⟨d,i⟩:=O3 (m:=s.term) (c:=aC 27 c []) h.may
 have a:eW (pE s.li s.lt s.le s.term (aC 27 c []))=true:=by
  unfold pE;split
  .refine Es h.cl (gP.2 fun x f b=>?_);rw[ax]at f;subst f;exact g (eq_of_beq (show((cD 0 c).q==2)=true from b))
  exact h.cl
 have q:=h.rI;have p:=h.nm;have o:=h.ne;have n:=h.nc;have l:=h.nv;have j:=DF k
 have e:jY c s=if(mY s.li s.lt s.le s.term==0) then((aC 29 (tZ s.li s.lt s.le s.term (aC 27 c [])) [],mY s.li s.lt s.le s.term),{fL {s with li:=s.li,lt:=s.lt,le:=pE s.li s.lt s.le s.term (aC 27 c [])} with dX:=s.dX++[aC 29 (tZ s.li s.lt s.le s.term (aC 27 c [])) []]})
  else((aC 29 (tZ s.li s.lt s.le s.term (aC 27 c [])) [],mY s.li s.lt s.le s.term),{s with li:=s.li,lt:=s.lt,le:=pE s.li s.lt s.le s.term (aC 27 c [])}):=rfl
 rw[e];by_cases b:(mY s.li s.lt s.le s.term==0)=true
 .rw[if_pos b];refine⟨d,h.uA,h.vj,?_,?_,?_,?_,?_,h.cf,h.cs,a,h.tm,h.tx,h.rd⟩
  .show(pE _ _ _ _ _).length+k<=_;omega
  .show s.msgs.length+k<=_;omega
  .show(s.dX++[_]).length+k<=_;rw[ai,aW];omega
  .show s.bM.length+_<=_;omega
  show s.aX.length+k<=_;omega
 rw[if_neg b];refine⟨d,h.uA,h.vj,?_,?_,?_,?_,?_,h.cf,h.cs,a,h.tm,h.tx,h.rd⟩
 .show(pE _ _ _ _ _).length+k<=_;omega
 .show s.msgs.length+k<=_;omega
 .show s.dX.length+_<=_;omega
 .show s.bM.length+_<=_;omega
 show s.aX.length+k<=_;omega
def er(s:RS):RS:={s with GQ:=0,Bx:=0,EN:=0,BW:=0,yC:=0,EM:=0,BV:=0,yB:=0,EL:=0,BU:=0,yA:=0,EK:=0,BT:=0,yz:=0,EJ:=0,BS:=0,yx:=0,EI:=0}
def Bz(s:RS):List (Int×Int×Int):=[(0,s.GQ,s.Bx),(1,s.BW,s.yC),(2,s.BV,s.yB),(3,s.BU,s.yA),(4,s.BT,s.yz),(5,s.BS,s.yx)]
def lD{s t:RS}(e:er t=er s):BF s t:=⟨(congrArg RS.li e:),(congrArg RS.lt e:),(congrArg RS.le e:),(congrArg RS.id e:),(congrArg RS.msgs e:),(congrArg RS.dX e:),(congrArg RS.bM e:),(congrArg RS.aX e:),(congrArg RS.fv e:),(congrArg RS.fl e:),(congrArg RS.sv e:),(congrArg RS.sl e:),(congrArg RS.term e:),(congrArg RS.reads e:)⟩
def uV{P:RS->Prop}{s:RS}{x:Int}(e:0<=x)(d:x<=5)(c:∀m n o a,(Bz s)[x.toNat]?=some (x,m,n)->er a=er s->Bz a=Bz s->P (PS x n o a s)):P (fy x s):=by
 have b:x=0\/x=1\/x=2\/x=3\/x=4\/x=5:=by omega
 rcases b with rfl|rfl|rfl|rfl|rfl|rfl<;>exact c _ _ _ _ rfl rfl rfl
def xB{P:RS->Prop}{s:RS}{x y:Int}(e:0<=x)(d:x<=5)(b:∀m n t c,(Bz s)[x.toNat]?=some (x,m,n)->er t=er s->Bz t=(Bz s).set x.toNat (x,ER m y (fM s.li s.lt s.le).1,GV m n y (fM s.li s.lt s.le).1)->P (if(((gS t).role==2)&&c)=true then fy x (gS t) else gS t)):P (tY x y s):=by
 have a:x=0\/x=1\/x=2\/x=3\/x=4\/x=5:=by omega
 rcases a with rfl|rfl|rfl|rfl|rfl|rfl<;>exact b _ _ _ _ rfl rfl rfl
def oD{P:RS->Prop}{s u:RS}{x:D}(d:fN (aC 46 x []) s=u)(h:0<=(cD 1 x).q)(e:(cD 1 x).q<=5)(g:P s)(h2:s.role=2->∀m n t,(Bz u)[(cD 1 x).q.toNat]?=some ((cD 1 x).q,m,n)->er t=er u->Bz t=(Bz u).set (cD 1 x).q.toNat ((cD 1 x).q,m,Jv m n (cD 4 x).q u)->P (fy (cD 1 x).q t))(h3:s.role=2->(cD 7 x).W=false->P (tY (cD 1 x).q (cD 4 x).q u)):P (hH x s):=by
 unfold hH;rw[d];dsimp only;by_cases a:((s.role !=2)||(!(pf (cD 1 x).q s)))=true
 .rw[if_pos a];exact g
 rw[if_neg a]
 have c:s.role=2:=by simp only[bW,bne_iff_ne,ne_eq,not_or,fK]at a;exact a.1
 replace h2:=h2 c;replace h3:=h3 c;generalize (cD 1 x).q=f at h e h2 h3;have b:f=0\/f=1\/f=2\/f=3\/f=4\/f=5:=by omega
 cases hb:(cD 7 x).W
 .rcases b with rfl|rfl|rfl|rfl|rfl|rfl<;>(repeat (first|rw[if_pos (by decide)] |rw[if_neg (by decide)]))<;>exact h3 hb
 rcases b with rfl|rfl|rfl|rfl|rfl|rfl<;>(repeat (first|rw[if_pos (by decide)] |rw[if_neg (by decide)]))<;>exact h2 _ _ _ rfl rfl rfl
def pP{P:RS->Prop}{s:RS}{x:D}(i:0<=(cD 1 x).q)(g:(cD 1 x).q<=5)(d:P s)(h:s.role=2->(cD 7 x).W=false->(cD 10 x).q=0->P (tY (cD 1 x).q (cD 4 x).q s))(h3:s.role=2->∀t,er t=er s->Bz t=Bz s->P (fy (cD 1 x).q t)):P (iH x s):=by
 unfold iH;by_cases c:((s.role !=2)||(!(pf (cD 1 x).q s)))=true
 .rw[if_pos c];exact d
 rw[if_neg c];simp only[bW,bne_iff_ne,ne_eq,not_or,fK]at c;by_cases a:((!(cD 7 x).W)&&((cD 10 x).q==0))=true
 .rw[if_pos a];rw[aT,beq_iff_eq,eT]at a;exact h c.1 a.1 a.2
 rw[if_neg a];by_cases b:((cD 4 x).q==s.pZ)=true
 .rw[if_pos b];replace h3:=h3 c.1;generalize (cD 1 x).q=f at i g h3;have e:f=0\/f=1\/f=2\/f=3\/f=4\/f=5:=by omega
  rcases e with rfl|rfl|rfl|rfl|rfl|rfl<;>(repeat (first|rw[if_pos (by decide)] |rw[if_neg (by decide)]))<;>exact h3 _ rfl rfl
 rw[if_neg b];exact d
def cK.mZ{s:RS}{k:Nat}{x:Int}(h:cK C M s (k+1))(b:0<=x)(a:x<=5):cK C M (fy x s) k:=by
 refine uV (P:=fun t=>cK C M t k) b a fun m n o c _ e _=>?_;unfold PS;split
 .exact(h.same (lD e)).send
 exact h.send
def cK.refuse{s:RS}{k:Nat}{x:D}(h:cK C M s (k+1)):cK C M (lE x s) k:=by
 unfold lE
 repeat' split
 all_goals first
  |exact h.send
  |exact h.le (by omega)
def cK.vote{s:RS}{k:Nat}{x:D}(h:cK C M s (k+1)):cK C M (nU x s) k:=by
 unfold nU;have go:∀(t:RS) (m:D),BF s t->cK C M (gq m t) k:=fun t m e=>(h.same e).send;dsimp only;split
 .split
  .exact go _ _ iR
  exact go _ _ iR
 exact h.send
def cK.vH{s:RS}{k:Nat}{x:D}(h:cK C M s k):cK C M (gR x s).2 k:=by
 unfold gR;split
 .exact h
 exact(h.follow h.tm h.tx).Oj
def Eu(x:D):gF (D.agg ((x.A.drop 27).take 2))=gF (YL x):=by
 have e:∀j,j<2->((x.A.drop 27).take 2).getD j .top=x.A.getD (27+j) .top:=by intro j a;rw[ae,ae,aq,if_pos a,aD]
 unfold gF vo lr;show zl (hR (((x.A.drop 27).take 2).getD 0 .top)) (hR (((x.A.drop 27).take 2).getD 1 .top))=_;rw[e 0 (by omega),e 1 (by omega)];rfl
def Ct{s:RS}{k:Nat}{x:Int}(h:cK C M s k)(o:x<=9223372036854775807):gF (oV x s)=true:=by
 obtain⟨v,u⟩:=h.li;unfold oV qe;refine fZ (fun a:Int×Taf×Taf=>a.1<=9223372036854775807) (fun d=>gF d=true) (fun a=>(a.1-s.li).toNat) ?_ _ _ o (ca _);intro a w
 have e:mQ s (iS s.li s.lt s.le) a.1 a.2.1 a.2.2=if decide (a.1>s.li) then
   (if(decide (((eJ s.li s.lt s.le a.1 1).length:Int)=1))&&((cD 2 ((eJ s.li s.lt s.le a.1 1).getD 0 .top)).q==2) then .inr (aC 2 (D.agg ((((eJ s.li s.lt s.le a.1 1).getD 0 .top).A.drop 27).take 2)) [])
    else .inl (IntKind.wrap i64 (a.1-1),a.2.1,a.2.2)) else .inr (kC s (iS s.li s.lt s.le)):=rfl
 rw[e];by_cases b:decide (a.1>s.li)=true
 .rw[if_pos b];rw[bk]at b;generalize n:((decide (((eJ s.li s.lt s.le a.1 1).length:Int)=1))&&((cD 2 ((eJ s.li s.lt s.le a.1 1).getD 0 .top)).q==2))=c;cases c with
  |true=>
   simp only[aT,bk,beq_iff_eq]at n;show gF (D.agg ((((eJ s.li s.lt s.le a.1 1).getD 0 .top).A.drop 27).take 2))=true;rw[Eu];obtain⟨r,g⟩:=n;have q:(eJ s.li s.lt s.le a.1 1).length=1:=by omega
   obtain⟨y,l⟩:=bI.1 q;rw[l]at g⊢;have p:y∈s.le:=qk (i:=s.li) (f:=a.1) (m:=1) (by show y∈eJ s.li s.lt s.le a.1 1;rw[l];simp);exact gP.1 h.cl y p (by unfold lY;rw[beq_iff_eq];exact g)
  |false=>
   show IntKind.wrap i64 (a.1-1)<=_/\(IntKind.wrap i64 (a.1-1)-s.li).toNat<_;rw[wrap64 (by omega) (by omega)];exact⟨by omega,by omega⟩
 rw[if_neg b];show gF (kC s (iS s.li s.lt s.le))=true;have t:kC s (iS s.li s.lt s.le)=if decide (s.li>0) then aC 2 (D.agg [.list s.sv,.list s.sl]) [] else aC 2 (D.agg [.list s.fv,.list s.fl]) []:=rfl
 rw[t];by_cases j:decide (s.li>0)=true
 .rw[if_pos j];exact h.cs (by simpa using j)
 rw[if_neg j];exact h.cf
def gL{s:RS}{k:Nat}(h:cK C M s k):gF (dR s)=true:=by obtain⟨b,a⟩:=h.li;show gF (oV (s.li+s.le.length) s)=true;refine Ct h ?_;simp only[MX]at a;omega
def Ej{c y:D}(d:gF c=true)(a:y∈jP c):1<=y.q/\y.q<=5:=by
 unfold jP at a;rw[<-Ip]at a;obtain⟨n,b,rfl⟩:=bq.1 a;obtain⟨f,e,_,_⟩:=FI.1 d;rcases FH.1 b with h|h
 .exact Ae f n h
 exact Ae e n h
def AG{c:D}(d:gF c=true):(vo c).length<=5/\(lr c).length<=5:=by obtain⟨f,e,_,_⟩:=FI.1 d;have a:=Af (ar 0) f;have b:=Af (ar 0) e;omega
def wN{c:D}(d:gF c=true):(jP c).length<=10:=by
 obtain⟨a,b⟩:=AG d
 have h:(EU (vo c) (lr c)).length<=(vo c++lr c).length:=by unfold EU;exact aY (Lib.compact_length_le _) (by rw[qj];exact aU _)
 unfold jP;rw[<-Ip,ao];simp only[ai]at h;omega
def gz{c:D}{s:RS}(p:gF c=true):(fV c s).length<=10/\∀y∈fV c s,1<=y.q/\y.q<=5:=by
 have i:gF (aC 2 c [])=true:=p;have g:=wN i;unfold fV tI;generalize m:jP (aC 2 c [])=b at g;have o:∀y∈b,1<=y.q/\y.q<=5:=fun y d=>Ej i (m▸d);refine fZ (fun a:Taf×Int=>0<=a.2/\a.1.length<=a.2.toNat/\a.2.toNat<=b.length/\∀y∈a.1,1<=y.q/\y.q<=5) (fun(l:Taf)=>l.length<=10/\∀y∈l,1<=y.q/\y.q<=5) (fun a=>b.length-a.2.toNat) ?_ _ _ ⟨by show(0:Int)<=0;omega,by simp,by simp,by simp⟩ (ca _);rintro⟨l,j⟩ ⟨t,r,q,k⟩;simp only at t r q k;unfold tH;by_cases e:decide (j<(b.length:Int))=true
 .rw[if_pos e];rw[bk]at e;have n:IntKind.wrap i64 (j+1)=j+1:=wrap64 (by omega) (by omega);have h:j.toNat<b.length:=by omega
  by_cases f:((b.getD j.toNat .top).q !=s.id)=true
  .rw[if_pos f,n];refine⟨⟨by show 0<=j+1;omega,?_,by show(j+1).toNat<=_;omega,?_⟩,by show b.length-(j+1).toNat<b.length-j.toNat;omega⟩
   .show(l++[_]).length<=(j+1).toNat;rw[ai,aW];omega
   intro y d;rcases aM.1 d with d|d
   .exact k y d
   rw[ax]at d;subst d;rw[ae,aS h,bz];exact o _ (aN h)
  rw[if_neg f,n];exact⟨⟨by show 0<=j+1;omega,by show l.length<=(j+1).toNat;omega,by show(j+1).toNat<=_;omega,k⟩,by show b.length-(j+1).toNat<b.length-j.toNat;omega⟩
 rw[if_neg e];exact⟨by show l.length<=10;omega,k⟩
def O6(o:Int)(n:Nat)(d:n<=140737488355328):(decide (0<=iN (lL 0 o) n)&&(decide (iN (lL 0 o) n<=iN (i64.wrap (iN (lL 0 o) n+256)) n)&&decide (iN (i64.wrap (iN (lL 0 o) n+256)) n<=n)))=true:=by
 have c:0<=iN (lL 0 o) n/\iN (lL 0 o) n<=n:=by unfold iN lL;split<;>split<;>omega
 obtain⟨a,b⟩:=c;generalize iN (lL 0 o) n=m at a b;rw[wrap64 (by omega) (by omega)];simp only[aT,bk];unfold iN;split<;>omega
def K9{s:RS}(d:dx (.V eZ) (encS s)):s.gN.length<=140737488355328:=by obtain⟨x,a,f⟩:=cJ d 18 (.list (.int .u8)) (by rw[Ty.dm];rfl);have e:(encS s)[18]?=some (.list s.gN):=rfl;rw[e]at a;injection a with a;subst a;obtain⟨l,b,h,_⟩:=bO.1 f;injection b with b;subst b;have c:=h.2;have g:(Ty.int .u8).bytes=1:=rfl;rw[g,bK]at c;exact c
def cK.alike{s t:RS}{k j:Nat}(h:cK C M s k)(a:j<=k)(e:BF s t):cK C M t j:=(h.same e).le a
variable{C M:Nat}
def cK.XY{s:RS}{k:Nat}{a:Int×Int}{l:Taf}(h:cK C M s (k+1)):cK C M (nF s a l) k:=by
 unfold nF;dsimp only;split
 .exact h.le (by omega)
 split
 .have b:=h.bM (x:=pj (aC 2 (dR s) []) (.list (l.take (i64.wrap (s.id-1)).toNat++(.int i64 a.1::(l.drop (i64.wrap (s.id-1)).toNat).drop (1:Int).toNat))));exact(b.follow b.tm b.tx).Oj
 exact h.bM
def cK.agree{s:RS}{k:Nat}(h:cK C M s (k+1)):cK C M (gS s) k:=by
 unfold gS nD;refine fZ (fun a:Taf×Int=>0<=a.2/\a.2<=5) (fun t=>cK C M t k) (fun a=>5-a.2.toNat) ?_ _ _ ⟨by show(0:Int)<=0;omega,by show(0:Int)<=5;omega⟩ (ca _);intro a c;revert c;generalize a.2=j;generalize a.1=l;rintro⟨e,d⟩;unfold lZ;have b:j=0\/j=1\/j=2\/j=3\/j=4\/j=5:=by omega
 rcases b with rfl|rfl|rfl|rfl|rfl|rfl
 .rw[if_pos (by decide),if_pos (by decide)];refine⟨⟨?_,?_⟩,?_⟩<;>(dsimp only;decide)
 .rw[if_pos (by decide),if_neg (by decide),if_pos (by decide)];refine⟨⟨?_,?_⟩,?_⟩<;>(dsimp only;decide)
 .rw[if_pos (by decide),if_neg (by decide),if_neg (by decide),if_pos (by decide)];refine⟨⟨?_,?_⟩,?_⟩<;>(dsimp only;decide)
 .rw[if_pos (by decide),if_neg (by decide),if_neg (by decide),if_neg (by decide),if_pos (by decide)];refine⟨⟨?_,?_⟩,?_⟩<;>(dsimp only;decide)
 .rw[if_pos (by decide),if_neg (by decide),if_neg (by decide),if_neg (by decide),if_neg (by decide),if_pos (by decide)];refine⟨⟨?_,?_⟩,?_⟩<;>(dsimp only;decide)
 rw[if_neg (by decide)];exact h.XY
def I5{B:Type}{x:Taf}{step:Int->RS->(Int×RS)⊕B}{ex:RS->B}{bad:B}{m:Int->RS->Nat}{Q:B->Prop}{k:Nat}{s:RS}(h:x.length<=10/\∀y∈x,1<=y.q/\y.q<=5)(d:∀i t,step i t=if decide (i<(x.length:Int)) then .inl (i64.wrap (i+1),fy ((x.getD i.toNat .top).q) t) else .inr (ex t))(f:∀i t,m i t=x.length-i.toNat)(j:cK C M s (k+10))(o:∀t,cK C M t k->Q (ex t)):
  Q (iz (fun a:Int×RS=>step a.1 a.2) bad (m 0 s+1) (0,s)):=by
 refine fZ (fun a:Int×RS=>0<=a.1/\a.1<=x.length/\cK C M a.2 (k+(10-a.1.toNat))) Q (fun a=>m a.1 a.2) ?_ _ _ ⟨ar 0,dp _,j⟩ (ca _);rintro⟨i,t⟩ ⟨q,p,e⟩;simp only at q p e;obtain⟨r,l⟩:=h;rw[d];by_cases b:decide (i<(x.length:Int))=true
 .rw[if_pos b];rw[bk]at b;have c:i.toNat<x.length:=by omega
  have g:=l _ (aN c);have n:x.getD i.toNat .top=x[i.toNat]:=by rw[ae,aS c];rfl
  rw[n,wrap64 (by omega) (by omega)];refine⟨⟨by show 0<=i+1;omega,by show i+1<=_;omega,?_⟩,by show m (i+1) _<m i t;rw[f,f];omega⟩;show cK C M (fy _ t) (k+(10-(i+1).toNat));refine cK.mZ (e.le ?_) (by omega) g.2;omega
 rw[if_neg b];exact o t (e.le (by omega))
def cK.acv{s:RS}{k:Nat}(h:cK C M s (k+12)):cK C M (oh s) k:=by unfold oh;dsimp only;have a:cK C M (jY (aC 27 C4 [(0,.int i64 1)]) s).2 (k+11):=h.put (by intro d;exact absurd d (by decide));exact I5 (k:=k+1) (Q:=fun t=>cK C M t k) (gz (c:=aC 2 (dR _) []) (gL a)) (fun _ _=>rfl) (fun _ _=>rfl) a (fun t b=>b.agree)
def cK.lead{s:RS}{k:Nat}(h:cK C M s (k+12)):cK C M (rB s) k:=by
 unfold rB qd;refine fZ (fun a:Int×RS=>0<=a.1/\a.1<=6/\cK C M a.2 (k+12)) (fun t=>cK C M t k) (fun a=>6-a.1.toNat) ?_ _ _ ⟨by show(0:Int)<=0;omega,by show(0:Int)<=6;omega,⟨h.may,h.uA,h.vj,h.rI,h.nm,h.ne,h.nc,h.nv,h.cf,h.cs,h.cl,h.tm,h.tx,rfl⟩⟩ (ca _);intro a d;revert d;generalize a.2=t;generalize a.1=j;rintro⟨f,e,b⟩;unfold r8;have c:j=0\/j=1\/j=2\/j=3\/j=4\/j=5\/j=6:=by omega
 rcases c with rfl|rfl|rfl|rfl|rfl|rfl|rfl
 .rw[if_pos (by decide),if_pos (by decide)];refine⟨⟨?_,?_,b.same iR⟩,?_⟩<;>(dsimp only;decide)
 .rw[if_pos (by decide),if_neg (by decide),if_pos (by decide)];refine⟨⟨?_,?_,b.same iR⟩,?_⟩<;>(dsimp only;decide)
 .rw[if_pos (by decide),if_neg (by decide),if_neg (by decide),if_pos (by decide)];refine⟨⟨?_,?_,b.same iR⟩,?_⟩<;>(dsimp only;decide)
 .rw[if_pos (by decide),if_neg (by decide),if_neg (by decide),if_neg (by decide),if_pos (by decide)];refine⟨⟨?_,?_,b.same iR⟩,?_⟩<;>(dsimp only;decide)
 .rw[if_pos (by decide),if_neg (by decide),if_neg (by decide),if_neg (by decide),if_neg (by decide),if_pos (by decide)];refine⟨⟨?_,?_,b.same iR⟩,?_⟩<;>(dsimp only;decide)
 .rw[if_pos (by decide),if_neg (by decide),if_neg (by decide),if_neg (by decide),if_neg (by decide),if_neg (by decide),if_pos (by decide)];refine⟨⟨?_,?_,b.same iR⟩,?_⟩<;>(dsimp only;decide)
 rw[if_neg (by decide)];exact b.acv
def Ge{c:D}{p:Int×Int}{x:Taf}{f:RS}{k:Nat}(n:x.length<=10)(h:cK C M f (k+10)):cK C M (kS c p x 0 f) k:=by
 unfold kS;refine fZ (fun a:Int×RS=>0<=a.1/\a.1<=x.length/\cK C M a.2 (k+(10-a.1.toNat))) (fun t=>cK C M t k) (fun a=>x.length-a.1.toNat) ?_ _ _ ⟨ar 0,dp _,h⟩ (ca _);intro a j;revert j;generalize a.2=t;generalize a.1=i;rintro⟨m,l,d⟩;unfold mf;dsimp only;by_cases b:decide (i<(x.length:Int))=true
 .rw[if_pos b];rw[bk]at b;have e:IntKind.wrap i64 (i+1)=i+1:=wrap64 (by omega) (by omega);rw[e];by_cases g:jM (aC 2 c []) ((x.getD i.toNat .top).q)=true
  .rw[if_pos g];refine⟨⟨by show 0<=i+1;omega,by show i+1<=_;omega,?_⟩,by show x.length-(i+1).toNat<x.length-i.toNat;omega⟩;show cK C M (gq _ t) (k+(10-(i+1).toNat));exact cK.send (d.le (by omega))
  rw[if_neg g];exact⟨⟨by show 0<=i+1;omega,by show i+1<=_;omega,d.le (by show k+(10-(i+1).toNat)<=_;omega)⟩,by show x.length-(i+1).toNat<x.length-i.toNat;omega⟩
 rw[if_neg b];exact d.le (by omega)
def cK.Dc{s:RS}{k:Nat}(h:cK C M s k)(b:s.term<MX):cK C M ({fL ({s with term:=i64.wrap (s.term+1),vote:=s.id}:RS) with role:=1,bG:=0,aX:=[.int i64 s.id]}:RS) k:=by
 have a:IntKind.wrap i64 (s.term+1)=s.term+1:=wrap64 (by have:=h.tm;omega) (by simp only[MX]at b;omega);have d:=h.tm;have c:=h.rI;refine⟨h.may,h.uA,h.vj,h.rI,h.nm,h.ne,h.nc,?_,h.cf,h.cs,h.cl,?_,?_,h.rd⟩
 .show([D.int i64 s.id]:Taf).length+k<=_;simp only[aW];omega
 .show 0<=IntKind.wrap i64 (s.term+1);rw[a];omega
 show IntKind.wrap i64 (s.term+1)<=MX;rw[a];omega
def cK.E3{s:RS}{k:Nat}{c:D}(h:cK C M s (k+13))(d:gF c=true)(b:s.term<MX):cK C M (ks c s) k:=by
 have a:=h.Dc b;unfold ks;dsimp only;split
 .exact(a.le (by omega:k+12<=k+13)).lead
 exact Ge (gz d).1 (a.le (by omega))
variable{C M:Nat}
def cK.ite{k:Nat}{c:Prop}[Decidable c]{a b:RS}(e:c->cK C M a k)(d:¬c->cK C M b k):cK C M (if c then a else b) k:=by
 split
 .exact e (by assumption)
 exact d (by assumption)
def cK.aap{d:Type}{k:Nat}{c:Prop}[Decidable c]{a b:d×RS}(f:c->cK C M a.2 k)(e:¬c->cK C M b.2 k):cK C M (if c then a else b).2 k:=by
 split
 .exact f (by assumption)
 exact e (by assumption)
def cK.om{s:RS}{k:Nat}{x:D}(h:cK C M s k):cK C M (fN x s) k:=by unfold fN kb;dsimp only;unfold iz ka;rw[if_neg (by rw[h.rd];exact(by decide:¬decide ((0:Int)<(([]:Taf).length:Int))=true))];exact⟨h.may,h.uA,h.vj,h.rI,h.nm,h.ne,h.nc,h.nv,h.cf,h.cs,h.cl,h.tm,h.tx,rfl⟩
def cK.has{s:RS}{k:Nat}{x y:Int}(h:cK C M s (k+2))(d:0<=x)(b:x<=5):cK C M (tY x y s) k:=by refine xB (P:=fun t=>cK C M t k) d b fun m n t c _ e _=>?_;have a:cK C M (gS t) (k+1):=(h.same (lD e)).agree;exact cK.ite (fun _=>a.mZ d b) (fun _=>a.le (by omega))
def Gb{i t:Int}{l:Taf}{y:D}:∀{es:Taf},y∈(qb i t l es).2->y∈l\/y∈es
 |[],h=>.inl h
 |x::r,h=>by
  unfold qb at h;split at h
  .exact(Gb h).imp id (aK _)
  rcases aM.1 h with h|h
  .exact .inl (cw h)
  exact .inr h
def PO{i t:Int}{l es:Taf}{pi pt:Int}{y:D}(h:y∈(iD i t l pi pt es).2):y∈l\/y∈es:=by
 unfold iD at h;split at h
 .exact Gb h
 exact .inl h
def cK.log{s t:RS}{k j:Nat}(h:cK C M s k)(c:j<=k)(l:gn t.li t.lt t.le=true)(m:t.le.length+j<=1073741824)(e:eW t.le=true)(d:0<t.li->gF (.agg [.list t.sv,.list t.sl])=true)(n:t.id=s.id/\t.msgs=s.msgs/\t.dX=s.dX/\t.bM=s.bM/\t.aX=s.aX/\t.fv=s.fv/\t.fl=s.fl/\t.term=s.term/\t.reads=s.reads):cK C M t j:=by obtain⟨i,u,r,q,p,o,g,a,f⟩:=n;have b:=h.le c;refine⟨l,by rw[i];exact h.uA,by rw[i];exact h.vj,m,by rw[u];exact b.nm,by rw[r];exact b.ne,by rw[q];exact b.nc,by rw[p];exact b.nv,by rw[o,g];exact h.cf,d,e,by rw[a];exact h.tm,by rw[a];exact h.tx,by rw[f];exact h.rd⟩
def cK.accept{s:RS}{k:Nat}{pi pt:Int}{es:Taf}(h:cK C M s (k+es.length))(b:eW es=true):cK C M ({s with li:=s.li,lt:=s.lt,le:=(iD s.li s.lt s.le pi pt es).2}:RS) k:=by
 obtain⟨c,e⟩:=PQ (pi:=pi) (pt:=pt) (es:=es) h.may;have d:=h.rI;refine h.log (by omega) c ?_ ?_ h.cs ⟨rfl,rfl,rfl,rfl,rfl,rfl,rfl,rfl,rfl⟩
 .show(iD s.li s.lt s.le pi pt es).2.length+k<=_;omega
 refine gP.2 fun y a=>?_;rcases PO a with a|a
 .exact gP.1 h.cl y a
 exact gP.1 b y a
def cK.dX{s:RS}{k:Nat}{f m:Int}(h:cK C M s k):cK C M ({fL s with dX:=eJ s.li s.lt s.le f m}:RS) k:=by have b:=h.rI;have a:=tF (i:=s.li) (f:=f) (m:=m) (l:=s.le);refine⟨h.may,h.uA,h.vj,h.rI,h.nm,?_,h.nc,h.nv,h.cf,h.cs,h.cl,h.tm,h.tx,h.rd⟩;show(gu s.li s.le f m).length+k<=_;omega
def cK.append{s:RS}{k:Nat}{x:D}(h:cK C M s (k+3+(cD 12 x).A.length))(b:eW (cD 12 x).A=true):cK C M (jj x s) k:=by
 have a:cK C M (gR (aC 46 x []) s).2 (k+3+(cD 12 x).A.length):=h.vH;unfold jj;generalize gR (aC 46 x []) s=lK at a;dsimp only;have c:=cK.accept (pi:=(cD 4 x).q) (pt:=(cD 5 x).q) a b;split
 .exact a.le (by omega)
 split
 .exact cK.send (a.le (by omega))
 split
 .exact cK.send (c.le (by omega))
 split
 .exact cK.send (cK.bM ((cK.dX c).le (by omega)))
 exact cK.send (cK.bM (c.le (by omega)))
def cK.appended{s:RS}{k:Nat}{x:D}(h:cK C M s (k+2))(b:0<=(cD 1 x).q)(a:(cD 1 x).q<=5):cK C M (hH x s) k:=by have c:cK C M (fN (aC 46 x []) s) (k+2):=h.om;exact oD (P:=fun t=>cK C M t k) rfl b a (h.le (by omega)) (fun _ m n t _ e _=>((c.same (lD e)).le (by omega:k+1<=k+2)).mZ b a) (fun _ _=>c.has b a)
def cK.vL{s:RS}{k:Nat}{x:D}(h:cK C M s (k+2))(b:0<=(cD 1 x).q)(a:(cD 1 x).q<=5):cK C M (iH x s) k:=
 pP (P:=fun t=>cK C M t k) b a (h.le (by omega)) (fun _ _ _=>h.has b a) (fun _ t e _=>((h.same (lD e)).le (by omega:k+1<=k+2)).mZ b a)
def vY{a b:Bool}(h:¬(a|| !b)=true):b=true:=by cases a<;>cases b<;>simp_all
def L6{i t:Int}{l:Taf}{k:Int}{y:D}(h:y∈(iT i t l k).2.2):y∈l:=by
 unfold iT at h;split at h
 .exact h
 exact cz h
def DV{i t:Int}(h:¬(cD 0 (lT i t)).iV=true):okB i t=true/\cD 1 (lT i t)=qp i t []:=by
 unfold lT at h⊢;split
 .rename_i a;exact⟨a.1,rfl⟩
 rename_i a;rw[if_neg a]at h;exact absurd rfl h
def cK.MS{s t:RS}{k j:Nat}{c:Int}(h:cK C M s k)(a:j<=k)(d:(t.li,t.lt,t.le)=iT s.li s.lt s.le c)(l:gF (.agg [.list t.sv,.list t.sl])=true)(g:t.id=s.id/\t.msgs=s.msgs/\t.dX=s.dX/\t.bM=s.bM/\t.aX=s.aX/\t.fv=s.fv/\t.fl=s.fl/\t.term=s.term/\t.reads=s.reads):cK C M t j:=by obtain⟨b,e⟩:=L7 (k:=c) h.may;have m:=h.rI;rw[<-d]at b e;simp only at b e;refine h.log a b (by omega) (Er h.cl fun y f=>L6 (i:=s.li) (t:=s.lt) (k:=c) ?_) (fun _=>l) g;rw[<-d];exact f
def cK.Sp{s t:RS}{k j:Nat}{i m:Int}(h:cK C M s k)(c:j<=k)(f:¬(cD 0 (lT i m)).iV=true)(e:(t.li,t.lt,t.le)=((cD 0 (cD 1 (lT i m))).q,(cD 1 (cD 1 (lT i m))).q,(cD 2 (cD 1 (lT i m))).A))(l:gF (.agg [.list t.sv,.list t.sl])=true)(g:t.id=s.id/\t.msgs=s.msgs/\t.dX=s.dX/\t.bM=s.bM/\t.aX=s.aX/\t.fv=s.fv/\t.fl=s.fl/\t.term=s.term/\t.reads=s.reads):cK C M t j:=by obtain⟨o,n⟩:=DV f;have p:=h.rI;rw[n]at e;injection e with d b;injection b with b a;replace d:t.li=i:=d;replace b:t.lt=m:=b;replace a:t.le=[]:=a;refine h.log c ?_ (by rw[a];simp;omega) (by rw[a];rfl) (fun _=>l) g;rw[d,b,a];exact eU.2 ⟨jE.1 o,rfl⟩
def cK.snap{s:RS}{k:Nat}{x:D}(h:cK C M s (k+1)):cK C M (nV x s) k:=by
 have a:cK C M (gR (aC 46 x []) s).2 (k+1):=h.vH;unfold nV;generalize gR (aC 46 x []) s=lK at a;dsimp only;refine cK.ite (fun _=>a.le (by omega)) (fun _=>?_);refine cK.ite (fun _=>cK.send a) (fun _=>?_);unfold rR;dsimp only;have l:∀(t:RS) (m:D),BF lK.2 t->cK C M (gq m t) k:=fun t m e=>cK.send (a.same e);have j:∀(t:RS) (m:D) (c:Int),(t.li,t.lt,t.le)=iT lK.2.li lK.2.lt lK.2.le c->gF (.agg [.list t.sv,.list t.sl])=true->(t.id=lK.2.id/\t.msgs=lK.2.msgs/\t.dX=lK.2.dX/\t.bM=lK.2.bM/\t.aX=lK.2.aX/\t.fv=lK.2.fv/\t.fl=lK.2.fl/\t.term=lK.2.term/\t.reads=lK.2.reads)->cK C M (gq m (fL t)) k:=fun t m c f d b=>cK.send (cK.saved (a.MS (aU _) f d b));have g:∀(t:RS) (m:D) (i n:Int),¬(cD 0 (lT i n)).iV=true->(t.li,t.lt,t.le)=((cD 0 (cD 1 (lT i n))).q,(cD 1 (cD 1 (lT i n))).q,(cD 2 (cD 1 (lT i n))).A)->gF (.agg [.list t.sv,.list t.sl])=true->(t.id=lK.2.id/\t.msgs=lK.2.msgs/\t.dX=lK.2.dX/\t.bM=lK.2.bM/\t.aX=lK.2.aX/\t.fv=lK.2.fv/\t.fl=lK.2.fl/\t.term=lK.2.term/\t.reads=lK.2.reads)->cK C M (gq m (fL t)) k:=fun t m i n o f d b=>cK.send (cK.saved (a.Sp (aU _) o f d b))
 (repeat' (first|(with_reducible refine cK.ite (fun _=>?_) (fun _=>?_))|(with_reducible refine cK.aap (fun _=>?_) (fun _=>?_))))
 all_goals first
  |(refine l _ _ ?_;exact⟨rfl,rfl,rfl,rfl,rfl,rfl,rfl,rfl,rfl,rfl,rfl,rfl,rfl,rfl⟩)
  |(refine j _ _ (cD 4 x).q ?_ ?_ ?_;exact rfl;exact vY ‹¬(_|| !_)=true›;exact⟨rfl,rfl,rfl,rfl,rfl,rfl,rfl,rfl,rfl⟩)
  |(refine g _ _ (cD 4 x).q (cD 5 x).q ?_ ?_ ?_ ?_;assumption;exact rfl;exact vY ‹¬(_|| !_)=true›;exact⟨rfl,rfl,rfl,rfl,rfl,rfl,rfl,rfl,rfl⟩)
def cK.E2{s:RS}{k:Nat}{x:D}(h:cK C M s (k+13)):cK C M (kO x s) k:=by
 have c:=h.nv
 have b:cK C M ({s with aX:=s.aX++[cD 1 x]}:RS) (k+12):=by have a:=h.le (by omega:k+12<=k+13);refine⟨a.may,a.uA,a.vj,a.rI,a.nm,a.ne,a.nc,?_,a.cf,a.cs,a.cl,a.tm,a.tx,a.rd⟩;show(s.aX++[cD 1 x]).length+(k+12)<=_;rw[ai,aW];omega
 unfold kO;dsimp only
 (repeat' (first|(with_reducible refine cK.ite (fun _=>?_) (fun _=>?_))|(with_reducible refine cK.aap (fun _=>?_) (fun _=>?_))))
 all_goals first
  |exact h.le (by omega)
  |exact b.le (by omega)
  |exact b.lead
def Gz(x:D)(s:RS):(gR x s).2.fR.length<=s.fR.length:=by
 unfold gR eR;by_cases h:(s.role==2)=true
 .rw[if_pos h];exact aU _
 rw[if_neg h];by_cases a:decide (s.term>s.term)=true
 .rw[if_pos a];exact aU _
 rw[if_neg a];exact aU _
def Lm{s:RS}(d:dx (.V eZ) (encS s)):s.fR.length<=140737488355328:=by obtain⟨x,a,f⟩:=cJ d 50 (.list (.int .u8)) (by rw[Ty.dm];rfl);have e:(encS s)[50]?=some (.list s.fR):=rfl;rw[e]at a;injection a with a;subst a;obtain⟨l,b,h,_⟩:=bO.1 f;injection b with b;subst b;have c:=h.2;have g:(Ty.int .u8).bytes=1:=rfl;rw[g,bK]at c;exact c
end Go.Proofs.Ytjhmkaninmgilaa
