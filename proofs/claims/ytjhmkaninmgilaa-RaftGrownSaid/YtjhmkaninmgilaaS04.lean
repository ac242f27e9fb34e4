/- Part 4 of the proof of RaftGrown; no condition. -/
import Derived.Test.YtjhmkaninmgilaaS03
import Derived.Test.YtjhmkaninmgilaaProg
import Derived.KernelRfl
set_option linter.defProp false
set_option linter.unusedVariables false
set_option linter.unusedSimpArgs false
set_option maxHeartbeats 4000000
open Go.IntKind (i64)
namespace Go.dG
open Go
section
variable{α:Type}(Φ:Tab)
def VC.G0(b:D->α)(c:Nat->Tah->α)(lp:Nat->(Nat->D)->Tah->α)(bad:α):VC->(Nat->D)->α
 |.jY _ _ k,ρ=>k.G0 b c lp bad ρ
 |.call p f a _ k,ρ=>k.G0 b c lp bad (fy ρ p (Φ f (den ρ a).V))
 |.room _ _ _ k,ρ=>k.G0 b c lp bad ρ
 |.branch e t f,ρ=>if(den ρ e).Z=true then t.G0 b c lp bad ρ else f.G0 b c lp bad ρ
 |.loop v0 es _ _,ρ=>lp v0 ρ (es.map (den ρ))
 |.again i es,ρ=>c i (es.map (den ρ))
 |.ret e,ρ=>b (den ρ e)
 |_,_=>bad
def VC.qf:VC->(Nat->D)->Tah
 |.jY _ _ k,ρ=>k.qf ρ
 |.call p f a _ k,ρ=>k.qf (fy ρ p (Φ f (den ρ a).V))
 |.room _ _ _ k,ρ=>k.qf ρ
 |.branch _ t f,ρ=>t.qf ρ++f.qf ρ
 |.ret e,ρ=>[den ρ e]
 |_,_=>[]
def VC.ku:VC->(Nat->D)->List (Tah)
 |.jY _ _ k,ρ=>k.ku ρ
 |.call p f a _ k,ρ=>k.ku (fy ρ p (Φ f (den ρ a).V))
 |.room _ _ _ k,ρ=>k.ku ρ
 |.branch _ t f,ρ=>t.ku ρ++f.ku ρ
 |.again _ es,ρ=>[es.map (den ρ)]
 |_,_=>[]
end
def VC.flat:Bool->VC->Bool
 |b,.jY _ _ k|b,.room _ _ _ k=>k.flat b
 |b,.call _ _ _ _ k=>k.flat b
 |b,.branch _ t f=>t.flat b&&f.flat b
 |b,.again i _=>b&&i==0
 |_,_=>true
def VC.quiet(triv:Nat->Bool):VC->Bool
 |.call _ f _ _ k=>triv f&&k.quiet triv
 |.branch _ t f=>t.quiet triv&&f.quiet triv
 |.again .. =>true
 |.ret _=>true
 |_=>false
section
variable(Φ:Tab)(Pre:Taa)(triv:Nat->Bool)
def VC.Ma(L:VC->(Nat->D)->Prop):VC->(Nat->D)->Prop
 |.jY pc e k,ρ=>(aV ρ pc=true->(den ρ e).Z=true)/\(if k.quiet triv then True else k.Ma L ρ)
 |.call p f a pc k,ρ=>(if triv f then True else(aV ρ pc=true->Pre f (den ρ a).V))/\(if k.quiet triv then True else k.Ma L (fy ρ p (Φ f (den ρ a).V)))
 |.room pc e bytes k,ρ=>(aV ρ pc=true->(den ρ e).V.length<=maxLen/\(den ρ e).V.length*bytes<=140737488355328)/\(if k.quiet triv then True else k.Ma L ρ)
 |.branch e t f,ρ=>(if t.quiet triv then True else((den ρ e).Z=true->t.Ma L ρ))/\(if f.quiet triv then True else((den ρ e).Z=false->f.Ma L ρ))
 |.loop v0 es G4 body,ρ=>L (.loop v0 es G4 body) ρ
 |.again ..,_=>True
 |.ret _,_=>True
 |_,_=>False
def VC.yR(L:VC->(Nat->D)->Prop)(v:VC)(ρ:Nat->D):Prop:=if v.quiet triv then True else v.Ma Φ Pre triv L ρ
end
section
variable{Φ:Tab}{Pre:Taa}{triv:Nat->Bool}
def VC.gS{R q:D->Prop}(g:∀d,R d->q d):∀(v:VC) (ρ:Nat->D) (e:List (Tah->Prop)),v.holds Φ Pre R ρ e->v.holds Φ Pre q ρ e
 |.jY _ _ k,ρ,e,h=>⟨h.1,gS g k ρ e h.2⟩
 |.call _ _ _ _ k,ρ,e,h=>⟨h.1,fun d l=>gS g k _ e (h.2 d l)⟩
 |.room _ _ _ k,ρ,e,h=>⟨h.1,gS g k ρ e h.2⟩
 |.branch _ t f,ρ,e,h=>⟨fun n=>gS g t ρ e (h.1 n),fun n=>gS g f ρ e (h.2 n)⟩
 |.loop _ _ _ body,ρ,e,h=>by obtain⟨I,m,p,o⟩:=h;exact⟨I,m,p,fun j r s=>gS g body _ _ (o j r s)⟩
 |.again _ _,_,_,h=>h
 |.ret _,_,_,h=>g _ h
 |.any _ _ k,ρ,e,h=>fun d l=>gS g k _ e (h d l)
 |.YN _ _ k,ρ,e,h=>fun d l=>gS g k _ e (h d l)
 |.range _ _ _ _ _ _ body done,ρ,e,h=>by obtain⟨w,I,p,o,u⟩:=h;exact⟨w,I,p,fun i x j a b c d=>gS g body _ _ (o i x j a b c d),fun j a b=>gS g done _ _ (u j a b)⟩
 |.stuck _,_,_,h=>h.elim
def VC.xz(L:VC->(Nat->D)->Prop):∀(v:VC) (ρ:Nat->D),v.quiet triv=true->v.Ma Φ Pre triv L ρ
 |.jY ..,_,h=>by cases h
 |.call _ f _ _ k,ρ,h=>by simp only[VC.quiet,aP]at h;exact⟨by rw[if_pos h.1];trivial,by rw[if_pos h.2];trivial⟩
 |.room ..,_,h=>by cases h
 |.branch _ t f,ρ,h=>by simp only[VC.quiet,aP]at h;exact⟨by rw[if_pos h.1];trivial,by rw[if_pos h.2];trivial⟩
 |.loop ..,_,h=>by cases h
 |.again ..,_,_=>trivial
 |.ret _,_,_=>trivial
 |.any ..,_,h=>by cases h
 |.YN ..,_,h=>by cases h
 |.range ..,_,h=>by cases h
 |.stuck _,_,h=>by cases h
def VC.AO{L:VC->(Nat->D)->Prop}{v:VC}{ρ:Nat->D}(h:v.yR Φ Pre triv L ρ):v.Ma Φ Pre triv L ρ:=by
 unfold VC.yR at h;split at h
 .rename_i a;exact VC.xz L v ρ a
 exact h
def VC.Hu{L:VC->(Nat->D)->Prop}{v:VC}{ρ:Nat->D}(h:if v.quiet triv then True else v.Ma Φ Pre triv L ρ):v.Ma Φ Pre triv L ρ:=VC.AO h
def VC.holds_of{A B:Type}{decL:Tah->A}{encL:A->Tah}{dec:D->B}{enc:B->D}{lp:Nat->(Nat->D)->Tah->B}{bad:A⊕B}{R:D->Prop}{J:Tah->Prop}{b:Bool}{m:List (Tah->Prop)}(c:∀f a,triv f=true->Pre f a)(g:b=true->m.head? =some J)(L:VC->(Nat->D)->Prop)(u:∀o s j h ρ,L (.loop o s j h) ρ->R (enc (lp o ρ (s.map (den ρ))))->(VC.loop o s j h).holds Φ Pre R ρ m):
  ∀(v:VC) (ρ:Nat->D),v.flat b=true->v.Ma Φ Pre triv L ρ->(v.qf Φ ρ).map (fun d=>enc (dec d))=v.qf Φ ρ->(v.ku Φ ρ).map (fun l=>encL (decL l))=v.ku Φ ρ->
   (match v.G0 Φ (fun d=>.inr (dec d)) (fun _ l=>.inl (decL l)) (fun o ρ l=>.inr (lp o ρ l)) bad ρ with| .inl a=>J (encL a)| .inr y=>R (enc y))->v.holds Φ Pre R ρ m
 |.jY pc e k,ρ,hf,ho,hr,ha,hv=>⟨ho.1,holds_of c g L u k ρ hf (VC.Hu ho.2) hr ha hv⟩
 |.call p f a pc k,ρ,hf,ho,hr,ha,hv=>by
  refine⟨fun E=>?_,fun d C=>?_⟩
  .have w:=ho.1;split at w
   .exact c f _ (by assumption)
   exact w E
  subst C;exact holds_of c g L u k _ hf (VC.Hu ho.2) hr ha hv
 |.room pc e n k,ρ,hf,ho,hr,ha,hv=>⟨ho.1,holds_of c g L u k ρ hf (VC.Hu ho.2) hr ha hv⟩
 |.branch e t f,ρ,hf,ho,hr,ha,hv=>by
  simp only[VC.flat,aP]at hf;simp only[VC.qf,bX]at hr;simp only[VC.ku,bX]at ha;have x:=List.append_inj hr (by simp);have z:=List.append_inj ha (by simp);refine⟨fun q=>?_,fun q=>?_⟩
  .refine holds_of (bad:=bad) c g L u t ρ hf.1 ?_ x.1 z.1 ?_
   .have:=ho.1;split at this
    .exact VC.xz L t ρ (by assumption)
    exact this q
   simp only[VC.G0]at hv;rw[if_pos q]at hv;exact hv
  refine holds_of (bad:=bad) c g L u f ρ hf.2 ?_ x.2 z.2 ?_
  .have:=ho.2;split at this
   .exact VC.xz L f ρ (by assumption)
   exact this q
  simp only[VC.G0]at hv;rw[if_neg (by rw[q];simp)]at hv;exact hv
 |.loop o s j h,ρ,_,ho,_,_,hv=>u o s j h ρ ho hv
 |.again i s,ρ,hf,_,_,ha,hv=>by
  simp only[VC.flat,aP,beq_iff_eq]at hf;obtain⟨q,rfl⟩:=hf;have w:=g q;simp only[VC.ku,ct,List.map_nil,dD,and_true]at ha;cases m with
  |nil=>cases w
  |cons J' r=>
   simp only[List.head?_cons,aa]at w;subst w;show J' (s.map (den ρ));rw[<-ha];exact hv
 |.ret e,ρ,_,_,hr,_,hv=>by simp only[VC.qf,ct,List.map_nil,dD,and_true]at hr;show R (den ρ e);rw[<-hr];exact hv
 |.any ..,_,_,ho,_,_,_=>ho.elim
 |.YN ..,_,_,ho,_,_,_=>ho.elim
 |.range ..,_,_,ho,_,_,_=>ho.elim
 |.stuck _,_,_,ho,_,_,_=>ho.elim
def VC.Iw{L:VC->(Nat->D)->Prop}{v:VC}{ρ:Nat->D}(h:v.quiet triv=true):v.yR Φ Pre triv L ρ:=by unfold VC.yR;rw[if_pos h];trivial
def VC.E0(Φ:Tab)(Pre:Taa){B:Type}(enc:B->D)(lp:Nat->(Nat->D)->Tah->B)(a:List (Tah->Prop))(v:VC)(ρ:Nat->D):Prop:=
 match v with
 |.loop v0 es G4 body=>(VC.loop v0 es G4 body).holds Φ Pre (fun d=>d=enc (lp v0 ρ (es.map (den ρ)))) ρ a
 |_=>True
def VC.Wj(Φ:Tab)(Pre:Taa){B:Type}(enc:B->D)(lp:Nat->(Nat->D)->Tah->B)(a:List (Tah->Prop))(v:VC)(ρ:Nat->D):Prop:=∀J:Tah->Prop,VC.E0 Φ Pre enc lp (J::a) v ρ
def VC.FY{B:Type}{dec:D->B}{enc:B->D}{lp:Nat->(Nat->D)->Tah->B}{bad:B}{y:B}{v:VC}{ρ:Nat->D}{kv:List (Tah->Prop)}(c:∀f a,triv f=true->Pre f a)(g:v.flat false=true)(w:v.yR Φ Pre triv (VC.E0 Φ Pre enc lp kv) ρ)(u:(v.qf Φ ρ).map (fun d=>enc (dec d))=v.qf Φ ρ)(s:v.G0 Φ dec (fun _ _=>bad) lp bad ρ=y):v.holds Φ Pre (fun d=>d=enc y) ρ kv:=by
 have m:∀(v:VC) (ρ:Nat->D),v.flat false=true->v.ku Φ ρ=[]:=by
  intro v
  induction v with
  |jY _ _ k ih=>intro ρ h;exact ih ρ h
  |call _ _ _ _ k ih=>intro ρ h;exact ih _ h
  |room _ _ _ k ih=>intro ρ h;exact ih ρ h
  |branch _ t f YG Qg=>
   intro ρ h;simp only[VC.flat,aP]at h;simp only[VC.ku,YG ρ h.1,Qg ρ h.2,aX]
  |again i o=>intro ρ h;simp[VC.flat]at h
  |_=>intro ρ _;rfl
 have j:∀(v:VC) (ρ:Nat->D),v.flat false=true->v.G0 Φ (fun d=>(.inr (dec d):Unit⊕B)) (fun _ l=>.inl ((fun _=>()) l)) (fun n ρ l=>.inr (lp n ρ l)) (.inr bad) ρ=.inr (v.G0 Φ dec (fun _ _=>bad) lp bad ρ):=by
  intro v
  induction v with
  |jY _ _ k ih=>intro ρ h;exact ih ρ h
  |call _ _ _ _ k ih=>intro ρ h;exact ih _ h
  |room _ _ _ k ih=>intro ρ h;exact ih ρ h
  |branch e t f YG Qg=>
   intro ρ h;simp only[VC.flat,aP]at h;simp only[VC.G0,YG ρ h.1,Qg ρ h.2];split<;>rfl
  |again i o=>intro ρ h;simp[VC.flat]at h
  |_=>intro ρ _;rfl
 subst s;refine VC.holds_of (A:=Unit) (decL:=fun _=>()) (encL:=fun _=>[]) (dec:=dec) (enc:=enc) (lp:=lp) (bad:=.inr bad) (J:=fun _=>False) (b:=false) c (fun h=>by cases h) _ ?_ v ρ g (VC.AO w) u (by rw[m v ρ g];rfl) ?_
 .intro n o r p q C x;refine VC.gS (fun d z=>?_) _ _ _ C;rw[z];exact x
 rw[j v ρ g]
def VC.IK{A B:Type}{decL:Tah->A}{encL:A->Tah}{dec:D->B}{enc:B->D}{lp:A->Nat->(Nat->D)->Tah->B}{bad:A⊕B}{R:D->Prop}{kv:List (Tah->Prop)}{v0:Nat}{es:List E}{j:Tam}{c:VC}{ρ:Nat->D}(step:A->A⊕B)(F:A->B)(inv:A->Prop)(m:A->Nat)(i:A)(g:∀f a,triv f=true->Pre f a)(N:es.map (den ρ)=encL i)(C:inv i)(k:∀a,decL (encL a)=a)(M:∀a,inv a->(match step a with| .inl a'=>F a=F a'/\inv a'/\m a'<m a| .inr y=>F a=y))(q:c.flat true=true)(r:∀a,inv a->c.G0 Φ (fun d=>.inr (dec d)) (fun _ l=>.inl (decL l)) (fun v0 ρ l=>.inr (lp a v0 ρ l)) bad (fJ ρ v0 (encL a))=step a)(x:∀a,(c.qf Φ (fJ ρ v0 (encL a))).map (fun d=>enc (dec d))=c.qf Φ (fJ ρ v0 (encL a)))(H:∀a,(c.ku Φ (fJ ρ v0 (encL a))).map (fun l=>encL (decL l))=c.ku Φ (fJ ρ v0 (encL a)))(p:∀a,inv a->dr (.Y j) (encL a)->c.yR Φ Pre triv (VC.Wj Φ Pre enc (lp a) kv) (fJ ρ v0 (encL a)))(I:R (enc (F i))):(VC.loop v0 es j c).holds Φ Pre R ρ kv:=by
 refine⟨fun o=>∃a,inv a/\o=encL a/\F a=F i,fun o=>m (decL o),⟨i,C,N,rfl⟩,fun o w L=>?_⟩;obtain⟨a,h,rfl,n⟩:=L;refine VC.holds_of (decL:=decL) (encL:=encL) (dec:=dec) (enc:=enc) (lp:=lp a) (bad:=bad) (J:=fun t=>(∃a,inv a/\t=encL a/\F a=F i)/\m (decL t)<m (decL (encL a))) (b:=true) g (fun _=>rfl) _ ?_ c _ q (VC.AO (p a h w)) (x a) (H a) ?_
 .intro P O u s v K z;refine VC.gS (fun d G=>?_) _ _ _ (K _);rw[G];exact z
 rw[r a h];have e:=M a h;revert e;cases step a with
 |inl a'=>
  intro e;exact⟨⟨a',e.2.1,rfl,e.1.symm.trans n⟩,by rw[k,k];exact e.2.2⟩
 |inr y=>
  intro e;simp only at e⊢;rw[<-e,n];exact I
end
def gY{A B:Type}(step:A->A⊕B)(bad:B):Nat->A->B
 |0,_=>bad
 |n+1,a=>match step a with
  |.inl a'=>gY step bad n a'
  |.inr b=>b
def CZ{A B:Type}{step:A->A⊕B}{bad:B}{inv:A->Prop}{m:A->Nat}(h:∀a,inv a->(match step a with| .inl a'=>inv a'/\m a'<m a| .inr _=>True)):
  ∀(k:Nat) (a:A),inv a->m a<=k->∀n d,m a<n->m a<d->gY step bad n a=gY step bad d a
 |k,a,hi,hk,0,d,h1,h2=>by omega
 |k,a,hi,hk,n+1,0,h1,h2=>by omega
 |0,a,hi,hk,n+1,d+1,h1,h2=>by
  have c:=h a hi;simp only[gY];revert c;cases step a with
  |inl a'=>intro c;simp only at c;omega
  |inr b=>intro _;rfl
 |k+1,a,hi,hk,n+1,d+1,h1,h2=>by
  have c:=h a hi;simp only[gY];revert c;cases step a with
  |inl a'=>intro c;simp only at c;exact CZ h k a' c.1 (by omega) n d (by omega) (by omega)
  |inr b=>intro _;rfl
def IJ{A B:Type}{step:A->A⊕B}{bad:B}{inv:A->Prop}{m:A->Nat}(h:∀a,inv a->(match step a with| .inl a'=>inv a'/\m a'<m a| .inr _=>True))(a:A)(d:inv a):
  (match step a with| .inl a'=>gY step bad (m a+1) a=gY step bad (m a'+1) a'/\inv a'/\m a'<m a| .inr y=>gY step bad (m a+1) a=y):=by
 have c:=h a d;have e:gY step bad (m a+1) a=(match step a with| .inl a'=>gY step bad (m a) a'| .inr b=>b):=rfl;rw[e];revert c;cases step a with
 |inl a'=>intro c;simp only at c⊢;exact⟨CZ h (m a') a' c.1 (aM _) _ _ c.2 (du _),c.1,c.2⟩
 |inr y=>intro _;rfl
def gO{A B:Type}{step:A->A⊕B}{bad:B}(I:A->Prop)(Q:B->Prop)(m:A->Nat)(h:∀a,I a->(match step a with| .inl a'=>I a'/\m a'<m a| .inr b=>Q b)):∀(n:Nat) (a:A),I a->m a<n->Q (gY step bad n a)
 |0,a,_,hn=>by omega
 |n+1,a,hi,hn=>by
  have c:=h a hi;simp only[gY];revert c;cases step a with
  |inl a'=>intro c;simp only at c;exact gO I Q m h n a' c.1 (by omega)
  |inr b=>intro c;exact c
def VC.YZ(v0:Nat):VC->Tap VC
 |.jY _ _ k| .room _ _ _ k| .call _ _ _ _ k| .any _ _ k| .YN _ _ k=>k.YZ v0
 |.branch _ t f=>match t.YZ v0 with|some v=>some v|none=>f.YZ v0
 |.loop v1 es G4 body=>if v1=v0 then some (.loop v1 es G4 body) else body.YZ v0
 |_=>none
def VC.lp(v0:Nat)(v:VC):VC:=(v.YZ v0).getD (.stuck 0)
def VC.lEs:VC->List E
 |.loop _ es _ _=>es
 |_=>[]
def VC.Wl:VC->Tam
 |.loop _ _ G4 _=>G4
 |_=>[]
def VC.vq:VC->VC
 |.loop _ _ _ b=>b
 |_=>.stuck 0
section
variable{Φ:Tab}{Pre:Taa}{triv:Nat->Bool}
def VC.hH{A B:Type}{decL:Tah->A}{encL:A->Tah}{dec:D->B}{enc:B->D}{lp:A->Nat->(Nat->D)->Tah->B}{bad:A⊕B}{bd:B}{R:D->Prop}{kv:List (Tah->Prop)}{v:VC}{v0:Nat}{ρ:Nat->D}(k:v=.loop v0 v.lEs v.Wl v.vq)(step:A->A⊕B)(inv:A->Prop)(m:A->Nat)(c:A)(b:∀f a,triv f=true->Pre f a)(r:v.lEs.map (den ρ)=encL c)(o:inv c)(j:∀a,decL (encL a)=a)(hs:∀a,inv a->(match step a with| .inl a'=>inv a'/\m a'<m a| .inr _=>True))(h:v.vq.flat true=true)(i:∀a,inv a->v.vq.G0 Φ (fun d=>.inr (dec d)) (fun _ l=>.inl (decL l)) (fun v0 ρ l=>.inr (lp a v0 ρ l)) bad (fJ ρ v0 (encL a))=step a)(n:∀a,(v.vq.qf Φ (fJ ρ v0 (encL a))).map (fun d=>enc (dec d))=v.vq.qf Φ (fJ ρ v0 (encL a)))(p:∀a,(v.vq.ku Φ (fJ ρ v0 (encL a))).map (fun l=>encL (decL l))=v.vq.ku Φ (fJ ρ v0 (encL a)))(e:∀a,inv a->dr (.Y v.Wl) (encL a)->v.vq.yR Φ Pre triv (VC.Wj Φ Pre enc (lp a) kv) (fJ ρ v0 (encL a)))(q:R (enc (gY step bd (m c+1) c))):v.holds Φ Pre R ρ kv:=by rw[k];exact VC.IK step (fun a=>gY step bd (m a+1) a) inv m c b r o j (fun a g=>IJ hs a g) h i n p e q
end
section
variable{Φ:Tab}{Pre:Taa}
def VC.jk{B:Type}{enc:B->D}{lp:Nat->(Nat->D)->Tah->B}{a:List (Tah->Prop)}{v:VC}{ρ:Nat->D}(v0:Nat)(b:v=.loop v0 v.lEs v.Wl v.vq)(h:v.holds Φ Pre (fun d=>d=enc (lp v0 ρ (v.lEs.map (den ρ)))) ρ a):VC.E0 Φ Pre enc lp a v ρ:=by rw[b]at h⊢;exact h
end
end Go.dG
namespace Go.Proofs.Ytjhmkaninmgilaa
open Go Go.RowKit Go.dG Go.Proofs
def af0:Ty:=.agg (.Y [.int i64,.int i64])
def ac5:Tam:=[.int i64,.int i64,.int i64,.list (.int i64),.list O2,.bool]
def agW:Tam:=[.int i64,.int i64,.int i64,.int i64,.list ahj,.int i64,.bool]
def adq:Tam:=[.int i64,.int i64,.int i64,.bool,.bool,.int i64,.int i64,.int i64]
def Dw:Tam:=[.int i64,.int i64,.int i64]++agW++adq++[.list af0]++ac5++[.list (.int i64),.list (.int i64)]
def zR:Ty:=.agg (.Y Dw)
def eD:Ty:=.agg (.Y ([.int i64,.int i64]++Dw))
def ja:List bC:=[(.int i64,none),(.int i64,none),(eD,some (0,78))]
def lB:Ty:=.agg (.Y [.list (.int i64),.list (.int i64)])
def I6:Ty:=.int i64
def aaN:Tam:=[I6,I6,I6,I6,I6,I6,I6,.bool,I6,I6,I6,I6,.list eD,.list I6,.list I6,.list (.int .u8)]++Dw++[I6,I6,.list O2]
def iC:Ty:=.agg (.Y aaN)
def zY:Tam:=[I6,I6]
def ky:Tam:=[I6,I6,.list I6,.list I6,.list (.int .u8)]
def SU:Ty:=.agg (.Y ky)
def jm:Ty:=.agg (.Y (zY++ky++[.list eD]))
def xa:Ty:=.agg (.Y [I6,I6])
def abo:Ty:=.agg (.Y [I6,I6,I6,.list I6])
def pl(l:Tam):List bC:=l.map fun t=>(t,none)
def ly:List bC:=pl [.bool,I6,I6]++[(eD,some (1,78)),(.ptr (.Y ky),none),(iC,some (2,49)),(eD,some (3,78)),(xa,some (4,153))]++
 pl [I6,.list I6,.list I6,I6,I6]++[(.box .nil,none)]++pl ky++pl [I6,I6,I6,I6,I6]++[(I6,some (5,3))]++pl (List.replicate 18 I6)++pl [I6,.list abo]++pl [I6,I6,I6,I6,I6]++[(.int .u8,some (6,5))]
def Hb:Ty:=.box (.Y [I6,I6,.list eD])
def tR:Ty:=.box (.Y (ly.map fun r=>if r=I5 then Hb else E3 r))
def eV:Tam:=ly.map E3++ja.map E3
def yY:List (Nat×List (Nat×Tbb)):=[(0,[(3,78),(5,49),(6,78),(7,153),(24,3),(50,5),(1002,78)])]
def dS(k:Nat):Ob:=⟨true::List.replicate k false,[ly,ja],[ly,ja],false⟩
def YC:dI:=⟨[.list (.int i64),.int i64],[(false,[(.int i64,none)])],none⟩
def Z0:List (Nat×dI):=(79,YC):: []
def s56:dI:=⟨[.list (.int i64),.int i64],[(false,[(.bool,none)])],none⟩
def aad:List (Nat×dI):=(56,s56)::Z0
def s61:dI:=⟨[.list (.int i64)],[(false,[(.int i64,some (1,3))])],none⟩
def Z9:List (Nat×dI):=(61,s61)::aad
def s82:dI:=⟨[.list (.int i64)],[],some ⟨[],[],[[],[]],false⟩⟩
def ZZ:List (Nat×dI):=(82,s82)::Z9
def s83:dI:=⟨[.list (.int i64)],[(false,[(.list (.int i64),none)])],some ⟨[],[],[[],[]],false⟩⟩
def ZY:List (Nat×dI):=(83,s83)::ZZ
def s55:dI:=⟨[.list (.int i64)],[(false,[(.bool,none)])],none⟩
def aae:List (Nat×dI):=(55,s55)::ZY
def s21:dI:=⟨[lB],[(false,[(.bool,none)])],none⟩
def aav:List (Nat×dI):=(21,s21)::aae
def s36:dI:=⟨[lB,.int i64],[(false,[(.bool,none)])],none⟩
def aam:List (Nat×dI):=(36,s36)::aav
def s63:dI:=⟨[lB],[(false,[(.list (.int i64),none)])],none⟩
def Z8:List (Nat×dI):=(63,s63)::aam
def s66:dI:=⟨[lB,.list (.int i64)],[(false,[(.bool,none)])],none⟩
def Z7:List (Nat×dI):=(66,s66)::Z8
def Vb:dI:=⟨[lB,.list (.int i64)],[(false,[(.int i64,none)])],none⟩
def Z3:List (Nat×dI):=(72,Vb)::Z7
def YW:dI:=⟨[lB,lB],[(false,[(.bool,none)])],none⟩
def Z5:List (Nat×dI):=(70,YW)::Z3
def s20:dI:=⟨[.int i64,.int i64,.int i64],[(false,[(.bool,none)])],none⟩
def aaw:List (Nat×dI):=(20,s20)::Z5
def s52:dI:=⟨[.list (.int .u8)],[(false,[(.int .u8,some (1,5))])],none⟩
def aag:List (Nat×dI):=(52,s52)::aaw
def s60:dI:=⟨[eD],[(false,[(.bool,none)])],none⟩
def aaa:List (Nat×dI):=(60,s60)::aag
def MH:dI:=⟨[.list eD,.fn 60 .nil],[(false,[(.int i64,none)])],none⟩
def Ov:List (Nat×dI):=(80,MH)::aaa
def MK:dI:=⟨[.list eD,.fn 60 .nil],[(false,[(.bool,none)])],none⟩
def Ox:List (Nat×dI):=(59,MK)::Ov
def s24:dI:=⟨[.list eD],[(false,[(.bool,none)])],none⟩
def aat:List (Nat×dI):=(24,s24)::Ox
def s26:dI:=⟨[lB],[(true,[(I6,some (11,3)),(I6,some (12,3))])],none⟩
def aar:List (Nat×dI):=(26,s26)::aat
def s28:dI:=⟨[Hb],[(false,[(.int i64,none)]),(false,[(.int i64,none)])],none⟩
def aaq:List (Nat×dI):=(28,s28)::aar
def s25:dI:=⟨[Hb],[(false,[(.int i64,none)]),(false,[(.int i64,none)])],none⟩
def aas:List (Nat×dI):=(25,s25)::aaq
def s50:dI:=⟨[Hb,I6],[(false,[(.int i64,none)]),(false,[(.int i64,none)])],none⟩
def aai:List (Nat×dI):=(50,s50)::aas
def qN:dI:=⟨[Hb,I6,I6],[(false,[(.bool,none)])],none⟩
def Z2:List (Nat×dI):=(74,qN)::aai
def s65:dI:=⟨[Hb,I6,I6],[(false,[(eD,some (9,78))])],none⟩
def VK:List (Nat×dI):=(65,s65)::Z2
def s49:dI:=⟨[tR,I6],[(true,[(I6,some (11,3)),(I6,some (12,3))])],none⟩
def aaj:List (Nat×dI):=(49,s49)::VK
def s29:dI:=⟨[tR],[(true,[(I6,some (11,3)),(I6,some (12,3))])],none⟩
def VX:List (Nat×dI):=(29,s29)::aaj
def s32:dI:=⟨[tR,lB],[(false,[(I6,some (10,3))])],none⟩
def aap:List (Nat×dI):=(32,s32)::VX
def s76:dI:=⟨[tR,I6],[(false,[(.bool,none)])],none⟩
def VG:List (Nat×dI):=(76,s76)::aap
def s69:dI:=⟨[tR],[(false,[(.bool,none)])],none⟩
def Z6:List (Nat×dI):=(69,s69)::VG
def xM:dI:=⟨[tR],[(false,[(.bool,none)])],none⟩
def VI:List (Nat×dI):=(68,xM)::Z6
def s38:dI:=⟨[tR,zR],[(false,[(.int i64,none)])],none⟩
def afS:List (Nat×dI):=(38,s38)::VI
def s12:dI:=⟨[tR],[(true,pl [I6,I6,I6,I6,I6,I6,I6]++[(I6,some (11,3)),(I6,some (12,3))])],none⟩
def s57:dI:=⟨[.int i64,.int i64,.int i64],[(false,[(.bool,none)])],none⟩
def SO:List (Nat×dI):=[(12,s12),(38,s38),(68,xM),(69,s69),(76,s76),(32,s32),(29,s29),(49,s49),(65,s65),(74,qN),(50,s50),(25,s25),(28,s28),(26,s26),(24,s24),(59,MK),(80,MH),(60,s60),(52,s52),(20,s20),(70,YW),(72,Vb),(66,s66),(63,s63),(36,s36),(21,s21),(55,s55),(61,s61),(56,s56),(79,YC)]
def aac:List (Nat×dI):=(57,s57)::SO
def ln:dI:=⟨[.int i64,.int i64,.list (eD)],[(false,[(.bool,none)])],none⟩
def aab:List (Nat×dI):=(58,ln)::aac
def s23:dI:=⟨[.int i64,.int i64,.list eD,.int i64,.int i64,.list eD],[(false,[(.int i64,none)]),(false,[(.bool,none)])],some ⟨[true,false,false,false],[ja],[ja],false⟩⟩
def aau:List (Nat×dI):=(23,s23)::aab
def s71:dI:=⟨[.int i64,zR,.int i64,.int i64,.list eD],[(true,eD.cells.map fun c=>(c,none)),(false,[(.int i64,none)])],some ⟨[true,false,false],[ja],[ja],false⟩⟩
def Z4:List (Nat×dI):=(71,s71)::aau
def s51:dI:=⟨[.int i64,.int i64,.int i64,.list eD],[(false,[(.int i64,none)])],some ⟨[true,false],[ja],[ja],false⟩⟩
def aah:List (Nat×dI):=(51,s51)::Z4
def snw:dI:=⟨[.int i64,.int i64],[],some ⟨[false,false],[],[ja],true⟩⟩
def snl:dI:=⟨[I6,I6],[(false,[(.ptr (.Y [I6,I6,.list eD]),none)])],none⟩
def aay:dI:=⟨[.int i64,.int i64,.int i64,.int i64,.list eD],[(false,[(.list eD,none)])],some ⟨[true,false,false],[ja],[ja],false⟩⟩
def SN:List (Nat×dI):=(65,aay)::aah
def s53:dI:=⟨[]++eV,[],some (dS 0)⟩
def aaf:List (Nat×dI):=(53,s53)::SN
def s35:dI:=⟨[]++eV,[],some (dS 0)⟩
def aan:List (Nat×dI):=(35,s35)::aaf
def s64:dI:=⟨[iC]++eV,[],some (dS 1)⟩
def VL:List (Nat×dI):=(64,s64)::aan
def s41:dI:=⟨[I6,I6]++eV,[],some (dS 2)⟩
def aal:List (Nat×dI):=(41,s41)::VL
def s34:dI:=⟨[]++eV,[(true,pl [.bool,I6,I6,.list eD,.ptr (.Y ky),.list iC,.list eD,.list xa])],some (dS 0)⟩
def VW:List (Nat×dI):=(34,s34)::aal
def s39:dI:=⟨[zR]++eV,[(true,pl eD.cells),(false,[(.int i64,none)])],some (dS 1)⟩
def VU:List (Nat×dI):=(39,s39)::VW
def s33:dI:=⟨[I6]++eV,[],some (dS 1)⟩
def aao:List (Nat×dI):=(33,s33)::VU
def ET:dI:=⟨[eD],[(false,[(.bool,none)])],none⟩
def ZX:List (Nat×dI):=(84,ET)::aao
def Ta:dI:=⟨[.list eD,.fn 84 .nil],[(false,[(.int i64,none)])],none⟩
def Ou:List (Nat×dI):=(80,Ta)::ZX
def Tc:dI:=⟨[.list eD,.fn 84 .nil],[(false,[(.bool,none)])],none⟩
def Hj:List (Nat×dI):=(59,Tc)::Ou
def s73:dI:=⟨[I6]++eV,[(false,[(.bool,none)])],some (dS 1)⟩
def VH:List (Nat×dI):=(73,s73)::Hj
def s40:dI:=⟨[]++eV,[],some (dS 0)⟩
def VS:List (Nat×dI):=(40,s40)::VH
def jX:dI:=⟨[]++eV,[],some (dS 0)⟩
def VJ:List (Nat×dI):=(67,jX)::VS
def s37:dI:=⟨[lB]++eV,[],some (dS 1)⟩
def VV:List (Nat×dI):=(37,s37)::VJ
def s42:dI:=⟨[iC]++eV,[],some (dS 1)⟩
def VR:List (Nat×dI):=(42,s42)::VV
def s43:dI:=⟨[iC]++eV,[],some (dS 1)⟩
def VQ:List (Nat×dI):=(43,s43)::VR
def s44:dI:=⟨[iC]++eV,[],some (dS 1)⟩
def VP:List (Nat×dI):=(44,s44)::VQ
def YD:dI:=⟨[iC]++eV,[(false,[(.bool,none)])],some (dS 1)⟩
def Z1:List (Nat×dI):=(75,YD)::VP
def aaz:dI:=⟨[.int i64,.int i64,.int i64,.int i64,.list eD],[(false,[(eD,some (1,78))])],some ⟨[true,false,false],[ja],[ja],false⟩⟩
def MF:List (Nat×dI):=(65,aaz)::Z1
def s45:dI:=⟨[iC]++eV,[],some (dS 1)⟩
def VO:List (Nat×dI):=(45,s45)::MF
def np:dI:=⟨[iC]++eV,[],some (dS 1)⟩
def VF:List (Nat×dI):=(77,np)::VO
def s78:dI:=⟨[I6,I6]++eV,[],some (dS 2)⟩
def VE:List (Nat×dI):=(78,s78)::VF
def s46:dI:=⟨[iC]++eV,[],some (dS 1)⟩
def VN:List (Nat×dI):=(46,s46)::VE
def s48:dI:=⟨[iC]++eV,[],some (dS 1)⟩
def aak:List (Nat×dI):=(48,s48)::VN
def s27:dI:=⟨[SU],[(true,pl [I6,I6]++[(I6,some (11,3)),(I6,some (12,3)),(.int .u8,some (13,5))])],none⟩
def VY:List (Nat×dI):=(27,s27)::aak
def s47:dI:=⟨[iC]++eV,[],some {dS 1 with fresh:=true}⟩
def afV:dI:=⟨[.int i64,.int i64],[],some ⟨[false,false],[],[ja],true⟩⟩
def Jz:List (Nat×Ay):=[(22,⟨[],I6,0,I6,0,some (afV,.ptr (.Y [I6,I6,.list eD]))⟩)]
def VM:List (Nat×dI):=(47,s47)::VY
def s17:dI:=⟨[iC]++eV,[(true,pl [.bool,I6,I6,.list eD,.ptr (.Y ky),.list iC,.list eD,.list xa])],some {dS 1 with fresh:=true}⟩
def VZ:List (Nat×dI):=(17,s17)::VM
def s15:dI:=⟨[I6]++eV,[(true,pl [.bool,I6,I6,.list eD,.ptr (.Y ky),.list iC,.list eD,.list xa])],some (dS 1)⟩
def aax:List (Nat×dI):=(15,s15)::VZ
def s16:dI:=⟨[zR]++eV,[(true,pl eD.cells),(false,[(.int i64,none)]),(true,pl [.bool,I6,I6,.list eD,.ptr (.Y ky),.list iC,.list eD,.list xa])],some (dS 1)⟩
def s81:dI:=⟨[.list (.int i64),.list (.int i64)],[(false,[(.bool,none)])],none⟩
def s62:dI:=⟨[lB,lB],[(false,[(.bool,none)])],none⟩
def s31:dI:=⟨[zR,zR],[(false,[(.bool,none)])],none⟩
def s8:dI:=⟨[.int i64,.int i64],[(false,[(.int i64,none)])],none⟩
noncomputable section
def Zk:VC:=
 .loop 6 [.aU i64 (0),.aU i64 (0)] [.int i64,.int i64] (
  .branch (.bin (.lt) (.var 7) (.un (.len) (.var 0))) (
   .jY [] (.bin (.and) (.bin (.le) (.aU i64 (0)) (.var 7)) (.bin (.lt) (.var 7) (.un (.len) (.var 0))))<|
   .branch (.bin (.eq) (.var 1) (.bin (.idx) (.var 0) (.var 7))) (
    .ret (.var 7))
    (
    .again 0 [.var 6,.bin (.add i64) (.var 7) (.aU i64 (1))]))
   (
   .ret (.aU i64 (-1))))
def Zy:VC:=
 .call 5 79 (.cons (.var 0) (.cons (.var 1) (.nil))) []<|
 .ret (.bin (.ge) (.var 5) (.aU i64 (0)))
def Zz:VC:=
 .loop 5 [.eQ false,.aU i64 (0)] [.bool,.int i64] (
  .branch (.bin (.lt) (.var 6) (.un (.len) (.var 0))) (
   .jY [] (.bin (.and) (.bin (.le) (.aU i64 (0)) (.var 6)) (.bin (.lt) (.var 6) (.un (.len) (.var 0))))<|
   .jY [(.bin (.lt) (.bin (.idx) (.var 0) (.var 6)) (.aU i64 (1)),false)] (.bin (.and) (.bin (.le) (.aU i64 (0)) (.var 6)) (.bin (.lt) (.var 6) (.un (.len) (.var 0))))<|
   .jY [(.bin (.gt) (.var 6) (.aU i64 (0)),true),(.bin (.or) (.bin (.lt) (.bin (.idx) (.var 0) (.var 6)) (.aU i64 (1))) (.bin (.gt) (.bin (.idx) (.var 0) (.var 6)) (.aU i64 (5))),false)] (.bin (.and) (.bin (.le) (.aU i64 (0)) (.bin (.sub i64) (.var 6) (.aU i64 (1)))) (.bin (.lt) (.bin (.sub i64) (.var 6) (.aU i64 (1))) (.un (.len) (.var 0))))<|
   .jY [(.bin (.gt) (.var 6) (.aU i64 (0)),true),(.bin (.or) (.bin (.lt) (.bin (.idx) (.var 0) (.var 6)) (.aU i64 (1))) (.bin (.gt) (.bin (.idx) (.var 0) (.var 6)) (.aU i64 (5))),false)] (.bin (.and) (.bin (.le) (.aU i64 (0)) (.var 6)) (.bin (.lt) (.var 6) (.un (.len) (.var 0))))<|
   .branch (.bin (.or) (.bin (.or) (.bin (.lt) (.bin (.idx) (.var 0) (.var 6)) (.aU i64 (1))) (.bin (.gt) (.bin (.idx) (.var 0) (.var 6)) (.aU i64 (5)))) (.bin (.and) (.bin (.gt) (.var 6) (.aU i64 (0))) (.bin (.ge) (.bin (.idx) (.var 0) (.bin (.sub i64) (.var 6) (.aU i64 (1)))) (.bin (.idx) (.var 0) (.var 6))))) (
    .ret (.eQ false))
    (
    .again 0 [.var 5,.bin (.add i64) (.var 6) (.aU i64 (1))]))
   (
   .ret (.eQ true)))
def ZU:VC:=
 .call 5 55 (.cons (.un (.cell 0) (.var 0)) (.nil)) []<|
 .call 10 55 (.cons (.un (.cell 1) (.var 0)) (.nil)) [(.un (.not) (.var 5),false)]<|
 .branch (.bin (.or) (.bin (.or) (.un (.not) (.var 5)) (.un (.not) (.var 10))) (.bin (.eq) (.un (.len) (.un (.cell 0) (.var 0))) (.aU i64 (0)))) (
  .ret (.eQ false))
  (
  .loop 23 [.eQ false,.aU i64 (0)] [.bool,.int i64] (
   .branch (.bin (.lt) (.var 24) (.un (.len) (.un (.cell 1) (.var 0)))) (
    .jY [] (.bin (.and) (.bin (.le) (.aU i64 (0)) (.var 24)) (.bin (.lt) (.var 24) (.un (.len) (.un (.cell 1) (.var 0)))))<|
    .call 35 56 (.cons (.un (.cell 0) (.var 0)) (.cons (.bin (.idx) (.un (.cell 1) (.var 0)) (.var 24)) (.nil))) []<|
    .branch (.var 35) (
     .ret (.eQ false))
     (
     .again 0 [.var 23,.bin (.add i64) (.var 24) (.aU i64 (1))]))
    (
    .ret (.eQ true))))
def ZN:VC:=
 .call 7 56 (.cons (.un (.cell 0) (.var 0)) (.cons (.var 1) (.nil))) []<|
 .ret (.var 7)
def Zu:VC:=
 .call 5 61 (.cons (.un (.cell 0) (.var 0)) (.nil)) []<|
 .room [] (.bin (.cat) (.var 5) (.un (.cell 1) (.var 0))) 8<|
 .call 11 82 (.cons (.bin (.cat) (.var 5) (.un (.cell 1) (.var 0))) (.nil)) []<|
 .call 13 83 (.cons (.var 11) (.nil)) []<|
 .ret (.var 13)
def Zs:VC:=
 .loop 9 [.aU i64 (0),.aU i64 (0)] [.int i64,.int i64] (
  .branch (.bin (.lt) (.var 10) (.un (.len) (.un (.cell 0) (.var 0)))) (
   .jY [] (.bin (.and) (.bin (.le) (.aU i64 (0)) (.var 10)) (.bin (.lt) (.var 10) (.un (.len) (.un (.cell 0) (.var 0)))))<|
   .call 20 56 (.cons (.var 1) (.cons (.bin (.idx) (.un (.cell 0) (.var 0)) (.var 10)) (.nil))) []<|
   .branch (.var 20) (
    .again 0 [.bin (.add i64) (.var 9) (.aU i64 (1)),.bin (.add i64) (.var 10) (.aU i64 (1))])
    (
    .again 0 [.var 9,.bin (.add i64) (.var 10) (.aU i64 (1))]))
   (
   .ret (.bin (.gt) (.bin (.mul i64) (.aU i64 (2)) (.var 9)) (.un (.len) (.un (.cell 0) (.var 0))))))
def Zp:VC:=
 .loop 9 [.nil,.aU i64 (0)] [.list (.int i64),.int i64] (
  .branch (.bin (.lt) (.var 10) (.un (.len) (.un (.cell 0) (.var 0)))) (
   .jY [] (.bin (.and) (.bin (.le) (.aU i64 (0)) (.var 10)) (.bin (.lt) (.var 10) (.un (.len) (.un (.cell 0) (.var 0)))))<|
   .branch (.bin (.and) (.bin (.ge) (.bin (.idx) (.un (.cell 0) (.var 0)) (.var 10)) (.aU i64 (1))) (.bin (.le) (.bin (.idx) (.un (.cell 0) (.var 0)) (.var 10)) (.un (.len) (.var 1)))) (
    .jY [] (.bin (.and) (.bin (.le) (.aU i64 (0)) (.bin (.sub i64) (.bin (.idx) (.un (.cell 0) (.var 0)) (.var 10)) (.aU i64 (1)))) (.bin (.lt) (.bin (.sub i64) (.bin (.idx) (.un (.cell 0) (.var 0)) (.var 10)) (.aU i64 (1))) (.un (.len) (.var 1))))<|
    .room [] (.bin (.cat) (.var 9) (.cons (.bin (.max i64) (.aU i64 (0)) (.bin (.idx) (.var 1) (.bin (.sub i64) (.bin (.idx) (.un (.cell 0) (.var 0)) (.var 10)) (.aU i64 (1))))) (.nil))) 8<|
    .again 0 [.bin (.cat) (.var 9) (.cons (.bin (.max i64) (.aU i64 (0)) (.bin (.idx) (.var 1) (.bin (.sub i64) (.bin (.idx) (.un (.cell 0) (.var 0)) (.var 10)) (.aU i64 (1))))) (.nil)),.bin (.add i64) (.var 10) (.aU i64 (1))])
    (
    .room [] (.bin (.cat) (.var 9) (.cons (.aU i64 (0)) (.nil))) 8<|
    .again 0 [.bin (.cat) (.var 9) (.cons (.aU i64 (0)) (.nil)),.bin (.add i64) (.var 10) (.aU i64 (1))]))
   (
   .branch (.bin (.eq) (.un (.len) (.var 9)) (.aU i64 (0))) (
    .ret (.aU i64 (0)))
    (
    .call 16 82 (.cons (.var 9) (.nil)) []<|
    .jY [] (.bin (.ne) (.aU i64 (2)) (.aU i64 (0)))<|
    .jY [] (.bin (.and) (.bin (.le) (.aU i64 (0)) (.bin (.quo i64) (.bin (.sub i64) (.un (.len) (.var 16)) (.aU i64 (1))) (.aU i64 (2)))) (.bin (.lt) (.bin (.quo i64) (.bin (.sub i64) (.un (.len) (.var 16)) (.aU i64 (1))) (.aU i64 (2))) (.un (.len) (.var 16))))<|
    .ret (.bin (.idx) (.var 16) (.bin (.quo i64) (.bin (.sub i64) (.un (.len) (.var 16)) (.aU i64 (1))) (.aU i64 (2)))))))
def Zr:VC:=
 .call 6 21 (.cons (.un (.agg) (.cons (.un (.cell 0) (.var 0)) (.cons (.un (.cell 1) (.var 0)) (.nil)))) (.nil)) []<|
 .call 10 21 (.cons (.un (.agg) (.cons (.un (.cell 0) (.var 1)) (.cons (.un (.cell 1) (.var 1)) (.nil)))) (.nil)) [(.un (.not) (.var 6),false)]<|
 .branch (.bin (.or) (.un (.not) (.var 6)) (.un (.not) (.var 10))) (
  .ret (.eQ false))
  (
  .loop 15 [.aU i64 (0),.aU i64 (0)] [.int i64,.int i64] (
   .branch (.bin (.lt) (.var 16) (.aU i64 (6))) (
    .call 22 36 (.cons (.un (.agg) (.cons (.un (.cell 0) (.var 0)) (.cons (.un (.cell 1) (.var 0)) (.nil)))) (.cons (.var 16) (.nil))) []<|
    .call 25 36 (.cons (.un (.agg) (.cons (.un (.cell 0) (.var 1)) (.cons (.un (.cell 1) (.var 1)) (.nil)))) (.cons (.var 16) (.nil))) []<|
    .branch (.un (.not) (.bin (.beq) (.var 22) (.var 25))) (
     .again 0 [.bin (.add i64) (.var 15) (.aU i64 (1)),.bin (.add i64) (.var 16) (.aU i64 (1))])
     (
     .again 0 [.var 15,.bin (.add i64) (.var 16) (.aU i64 (1))]))
    (
    .ret (.bin (.le) (.var 15) (.aU i64 (1))))))
def ZV:VC:=
 .ret (.bin (.and) (.bin (.ge) (.var 0) (.var 1)) (.bin (.le) (.var 0) (.var 2)))
def ZA:VC:=
 .branch (.bin (.eq) (.un (.len) (.var 0)) (.aU i64 (0))) (
  .any 3 (.bool)<|
  .branch (.var 3) (
   .ret (.nil))
   (
   .room [] (.bin (.cat) (.nil) (.var 0)) 1<|
   .ret (.bin (.cat) (.nil) (.var 0))))
  (
  .any 3 (.bool)<|
  .room [] (.bin (.cat) (.nil) (.var 0)) 1<|
  .ret (.bin (.cat) (.nil) (.var 0)))
def afH:VC:=
 .call 11 21 (.cons (.un (.agg) (.cons (.un (.cell 27) (.var 0)) (.cons (.un (.cell 28) (.var 0)) (.nil)))) (.nil)) [(.bin (.eq) (.un (.cell 2) (.var 0)) (.aU i64 (2)),true)]<|
 .ret (.bin (.and) (.bin (.eq) (.un (.cell 2) (.var 0)) (.aU i64 (2))) (.un (.not) (.var 11)))
def Om:VC:=
 .loop 6 [.aU i64 (0),.aU i64 (0)] [.int i64,.int i64] (
  .branch (.bin (.lt) (.var 7) (.un (.len) (.var 0))) (
   .jY [] (.bin (.and) (.bin (.le) (.aU i64 (0)) (.var 7)) (.bin (.lt) (.var 7) (.un (.len) (.var 0))))<|
   .call 16 60 (.cons (.bin (.idx) (.var 0) (.var 7)) (.nil)) []<|
   .branch (.var 16) (
    .ret (.var 7))
    (
    .again 0 [.var 6,.bin (.add i64) (.var 7) (.aU i64 (1))]))
   (
   .ret (.aU i64 (-1))))
def Oo:VC:=
 .call 5 80 (.cons (.var 0) (.cons (.var 1) (.nil))) []<|
 .ret (.bin (.ge) (.var 5) (.aU i64 (0)))
def ZS:VC:=
 .call 3 59 (.cons (.var 0) (.cons (.un (.fnc 60) (.nil)) (.nil))) []<|
 .ret (.un (.not) (.var 3))
def ZQ:VC:=
 .call 5 61 (.cons (.un (.cell 0) (.var 0)) (.nil)) []<|
 .call 8 61 (.cons (.un (.cell 1) (.var 0)) (.nil)) []<|
 .ret (.un (.agg) (.cons (.var 5) (.cons (.var 8) (.nil))))
def ZP:VC:=
 .ret (.un (.fa) (.cons (.un (.cell 0) (.un (.agg) (.var 0))) (.cons (.un (.cell 1) (.un (.agg) (.var 0))) (.nil))))
def ZR:VC:=
 .branch (.bin (.eq) (.un (.len) (.un (.cell 2) (.un (.agg) (.var 0)))) (.aU i64 (0))) (
  .call 10 28 (.cons (.var 0) (.nil)) []<|
  .ret (.un (.fa) (.cons (.un (.cell 0) (.var 10)) (.cons (.un (.cell 1) (.var 10)) (.nil)))))
  (
  .jY [] (.bin (.and) (.bin (.le) (.aU i64 (0)) (.bin (.sub i64) (.un (.len) (.un (.cell 2) (.un (.agg) (.var 0)))) (.aU i64 (1)))) (.bin (.lt) (.bin (.sub i64) (.un (.len) (.un (.cell 2) (.un (.agg) (.var 0)))) (.aU i64 (1))) (.un (.len) (.un (.cell 2) (.un (.agg) (.var 0))))))<|
  .ret (.un (.fa) (.cons (.un (.cell 0) (.bin (.idx) (.un (.cell 2) (.un (.agg) (.var 0))) (.bin (.sub i64) (.un (.len) (.un (.cell 2) (.un (.agg) (.var 0)))) (.aU i64 (1))))) (.cons (.un (.cell 1) (.bin (.idx) (.un (.cell 2) (.un (.agg) (.var 0))) (.bin (.sub i64) (.un (.len) (.un (.cell 2) (.un (.agg) (.var 0)))) (.aU i64 (1))))) (.nil)))))
def ZC:VC:=
 .branch (.bin (.lt) (.var 1) (.un (.cell 0) (.un (.agg) (.var 0)))) (
  .ret (.un (.fa) (.cons (.aU i64 (0)) (.cons (.aU i64 (23)) (.nil)))))
  (
  .branch (.bin (.eq) (.var 1) (.un (.cell 0) (.un (.agg) (.var 0)))) (
   .ret (.un (.fa) (.cons (.un (.cell 1) (.un (.agg) (.var 0))) (.cons (.aU i64 (0)) (.nil)))))
   (
   .branch (.bin (.gt) (.bin (.sub i64) (.var 1) (.un (.cell 0) (.un (.agg) (.var 0)))) (.un (.len) (.un (.cell 2) (.un (.agg) (.var 0))))) (
    .ret (.un (.fa) (.cons (.aU i64 (0)) (.cons (.aU i64 (3)) (.nil)))))
    (
    .jY [] (.bin (.and) (.bin (.le) (.aU i64 (0)) (.bin (.sub i64) (.bin (.sub i64) (.var 1) (.un (.cell 0) (.un (.agg) (.var 0)))) (.aU i64 (1)))) (.bin (.lt) (.bin (.sub i64) (.bin (.sub i64) (.var 1) (.un (.cell 0) (.un (.agg) (.var 0)))) (.aU i64 (1))) (.un (.len) (.un (.cell 2) (.un (.agg) (.var 0))))))<|
    .ret (.un (.fa) (.cons (.un (.cell 1) (.bin (.idx) (.un (.cell 2) (.un (.agg) (.var 0))) (.bin (.sub i64) (.bin (.sub i64) (.var 1) (.un (.cell 0) (.un (.agg) (.var 0)))) (.aU i64 (1))))) (.cons (.aU i64 (0)) (.nil)))))))
def Zn:VC:=
 .call 5 25 (.cons (.var 0) (.nil)) []<|
 .ret (.bin (.or) (.bin (.gt) (.var 2) (.un (.cell 1) (.var 5))) (.bin (.and) (.bin (.eq) (.var 2) (.un (.cell 1) (.var 5))) (.bin (.ge) (.var 1) (.un (.cell 0) (.var 5)))))
def Zt:VC:=
 .branch (.bin (.or) (.bin (.or) (.bin (.lt) (.var 2) (.aU i64 (1))) (.bin (.le) (.var 1) (.un (.cell 0) (.un (.agg) (.var 0))))) (.bin (.ge) (.bin (.sub i64) (.bin (.sub i64) (.var 1) (.un (.cell 0) (.un (.agg) (.var 0)))) (.aU i64 (1))) (.un (.len) (.un (.cell 2) (.un (.agg) (.var 0)))))) (
  .ret (.nil))
  (
  .branch (.bin (.lt) (.var 2) (.bin (.sub i64) (.un (.len) (.un (.cell 2) (.un (.agg) (.var 0)))) (.bin (.sub i64) (.bin (.sub i64) (.var 1) (.un (.cell 0) (.un (.agg) (.var 0)))) (.aU i64 (1))))) (
   .jY [] (.bin (.and) (.bin (.le) (.aU i64 (0)) (.bin (.sub i64) (.bin (.sub i64) (.var 1) (.un (.cell 0) (.un (.agg) (.var 0)))) (.aU i64 (1)))) (.bin (.and) (.bin (.le) (.bin (.sub i64) (.bin (.sub i64) (.var 1) (.un (.cell 0) (.un (.agg) (.var 0)))) (.aU i64 (1))) (.bin (.add i64) (.bin (.sub i64) (.bin (.sub i64) (.var 1) (.un (.cell 0) (.un (.agg) (.var 0)))) (.aU i64 (1))) (.var 2))) (.bin (.le) (.bin (.add i64) (.bin (.sub i64) (.bin (.sub i64) (.var 1) (.un (.cell 0) (.un (.agg) (.var 0)))) (.aU i64 (1))) (.var 2)) (.un (.len) (.un (.cell 2) (.un (.agg) (.var 0)))))))<|
   .room [] (.bin (.cat) (.nil) (.bin (.drop) (.bin (.take) (.un (.cell 2) (.un (.agg) (.var 0))) (.bin (.add i64) (.bin (.sub i64) (.bin (.sub i64) (.var 1) (.un (.cell 0) (.un (.agg) (.var 0)))) (.aU i64 (1))) (.var 2))) (.bin (.sub i64) (.bin (.sub i64) (.var 1) (.un (.cell 0) (.un (.agg) (.var 0)))) (.aU i64 (1))))) 320<|
   .ret (.bin (.cat) (.nil) (.bin (.drop) (.bin (.take) (.un (.cell 2) (.un (.agg) (.var 0))) (.bin (.add i64) (.bin (.sub i64) (.bin (.sub i64) (.var 1) (.un (.cell 0) (.un (.agg) (.var 0)))) (.aU i64 (1))) (.var 2))) (.bin (.sub i64) (.bin (.sub i64) (.var 1) (.un (.cell 0) (.un (.agg) (.var 0)))) (.aU i64 (1))))))
   (
   .jY [] (.bin (.and) (.bin (.le) (.aU i64 (0)) (.bin (.sub i64) (.bin (.sub i64) (.var 1) (.un (.cell 0) (.un (.agg) (.var 0)))) (.aU i64 (1)))) (.bin (.and) (.bin (.le) (.bin (.sub i64) (.bin (.sub i64) (.var 1) (.un (.cell 0) (.un (.agg) (.var 0)))) (.aU i64 (1))) (.un (.len) (.un (.cell 2) (.un (.agg) (.var 0))))) (.bin (.le) (.un (.len) (.un (.cell 2) (.un (.agg) (.var 0)))) (.un (.len) (.un (.cell 2) (.un (.agg) (.var 0)))))))<|
   .room [] (.bin (.cat) (.nil) (.bin (.drop) (.bin (.take) (.un (.cell 2) (.un (.agg) (.var 0))) (.un (.len) (.un (.cell 2) (.un (.agg) (.var 0))))) (.bin (.sub i64) (.bin (.sub i64) (.var 1) (.un (.cell 0) (.un (.agg) (.var 0)))) (.aU i64 (1))))) 320<|
   .ret (.bin (.cat) (.nil) (.bin (.drop) (.bin (.take) (.un (.cell 2) (.un (.agg) (.var 0))) (.un (.len) (.un (.cell 2) (.un (.agg) (.var 0))))) (.bin (.sub i64) (.bin (.sub i64) (.var 1) (.un (.cell 0) (.un (.agg) (.var 0)))) (.aU i64 (1)))))))
def Vy:VC:=Ku Try.prog VK [] s49 Try.f49
def afM:VC:=
 .call 6 25 (.cons (.un (.cell 13) (.un (.agg) (.var 0))) (.nil)) []<|
 .call 14 49 (.cons (.var 0) (.cons (.un (.cell 0) (.var 6)) (.nil))) []<|
 .ret (.un (.agg) (.cons (.un (.cell 0) (.var 14)) (.cons (.un (.cell 1) (.var 14)) (.nil))))
def VB:VC:=Ku Try.prog VX [] s32 Try.f32
def afE:VC:=
 .call 4 29 (.cons (.var 0) (.nil)) []<|
 .call 5 63 (.cons (.un (.agg) (.cons (.un (.cell 0) (.var 4)) (.cons (.un (.cell 1) (.var 4)) (.nil)))) (.nil)) []<|
 .call 7 56 (.cons (.var 5) (.cons (.var 1) (.nil))) []<|
 .ret (.var 7)
def Vx:VC:=Ku Try.prog VG [] s69 Try.f69
def afF:VC:=
 .call 10 50 (.cons (.un (.cell 13) (.un (.agg) (.var 0))) (.cons (.un (.cell 19) (.un (.agg) (.var 0))) (.nil))) []<|
 .ret (.bin (.and) (.bin (.eq) (.un (.cell 1) (.var 10)) (.aU i64 (0))) (.bin (.eq) (.un (.cell 0) (.var 10)) (.un (.cell 11) (.un (.agg) (.var 0)))))
def ZM:VC:=Ku Try.prog VI [] s38 Try.f38
def afO:VC:=
 .call 6 28 (.cons (.un (.cell 13) (.un (.agg) (.var 0))) (.nil)) []<|
 .call 16 25 (.cons (.un (.cell 13) (.un (.agg) (.var 0))) (.nil)) []<|
 .call 41 29 (.cons (.var 0) (.nil)) []<|
 .ret (.un (.agg) (.Y (fl [[.un (.cell 20) (.un (.agg) (.var 0))],[.un (.cell 21) (.un (.agg) (.var 0))],[.un (.cell 0) (.un (.part 11 2) (.un (.agg) (.var 0)))],[.un (.cell 1) (.un (.part 11 2) (.un (.agg) (.var 0)))],[.un (.cell 19) (.un (.agg) (.var 0))],[.un (.cell 0) (.var 16)],[.un (.cell 0) (.var 6)],[.un (.cell 0) (.var 41)],[.un (.cell 1) (.var 41)]])))
def Zx:VC:=
 .ret (.bin (.and) (.bin (.ge) (.var 0) (.var 1)) (.bin (.le) (.var 0) (.var 2)))
def Zw:VC:=
 .call 5 57 (.cons (.var 0) (.cons (.aU i64 (0)) (.cons (.aU i64 (1099511627776)) (.nil)))) []<|
 .call 9 57 (.cons (.var 1) (.cons (.aU i64 (0)) (.cons (.aU i64 (1099511627776)) (.nil)))) [(.un (.not) (.var 5),false)]<|
 .branch (.bin (.or) (.un (.not) (.var 5)) (.un (.not) (.var 9))) (
  .ret (.eQ false))
  (
  .loop 15 [.eQ false,.var 0,.var 1,.aU i64 (0)] [.bool,.int i64,.int i64,.int i64] (
   .branch (.bin (.lt) (.var 18) (.un (.len) (.var 2))) (
    .jY [] (.bin (.and) (.bin (.le) (.aU i64 (0)) (.var 18)) (.bin (.lt) (.var 18) (.un (.len) (.var 2))))<|
    .call 42 57 (.cons (.un (.cell 0) (.bin (.idx) (.var 2) (.var 18))) (.cons (.aU i64 (1)) (.cons (.aU i64 (1099511627776)) (.nil)))) [(.bin (.or) (.bin (.ne) (.bin (.sub i64) (.un (.cell 0) (.bin (.idx) (.var 2) (.var 18))) (.aU i64 (1))) (.var 16)) (.bin (.lt) (.un (.cell 1) (.bin (.idx) (.var 2) (.var 18))) (.var 17)),false)]<|
    .call 48 57 (.cons (.un (.cell 1) (.bin (.idx) (.var 2) (.var 18))) (.cons (.aU i64 (0)) (.cons (.aU i64 (1099511627776)) (.nil)))) [(.bin (.or) (.bin (.or) (.bin (.ne) (.bin (.sub i64) (.un (.cell 0) (.bin (.idx) (.var 2) (.var 18))) (.aU i64 (1))) (.var 16)) (.bin (.lt) (.un (.cell 1) (.bin (.idx) (.var 2) (.var 18))) (.var 17))) (.un (.not) (.var 42)),false)]<|
    .branch (.bin (.or) (.bin (.or) (.bin (.or) (.bin (.ne) (.bin (.sub i64) (.un (.cell 0) (.bin (.idx) (.var 2) (.var 18))) (.aU i64 (1))) (.var 16)) (.bin (.lt) (.un (.cell 1) (.bin (.idx) (.var 2) (.var 18))) (.var 17))) (.un (.not) (.var 42))) (.un (.not) (.var 48))) (
     .ret (.eQ false))
     (
     .again 0 [.var 15,.un (.cell 0) (.bin (.idx) (.var 2) (.var 18)),.un (.cell 1) (.bin (.idx) (.var 2) (.var 18)),.bin (.add i64) (.var 18) (.aU i64 (1))]))
    (
    .ret (.eQ true))))
def ZT:VC:=
 .call 11 58 (.cons (.var 0) (.cons (.var 1) (.cons (.var 2) (.nil)))) []<|
 .branch (.un (.not) (.var 11)) (
  .ret (.un (.fa) (.cons (.un (.fa) (.cons (.aU i64 (0)) (.cons (.eQ false) (.nil)))) (.cons (.un (.agg) (.cons (.var 3) (.cons (.var 4) (.cons (.var 5) (.nil))))) (.nil)))))
  (
  .call 15 50 (.cons (.un (.qg) (.cons (.var 3) (.cons (.var 4) (.cons (.var 5) (.nil))))) (.cons (.var 0) (.nil))) []<|
  .branch (.bin (.or) (.bin (.ne) (.un (.cell 1) (.var 15)) (.aU i64 (0))) (.bin (.ne) (.un (.cell 0) (.var 15)) (.var 1))) (
   .ret (.un (.fa) (.cons (.un (.fa) (.cons (.aU i64 (0)) (.cons (.eQ false) (.nil)))) (.cons (.un (.agg) (.cons (.var 3) (.cons (.var 4) (.cons (.var 5) (.nil))))) (.nil)))))
   (
   .loop 31 (fl [[.aU i64 (0)],[.eQ false],[.aU i64 (0)],vr 3 3]) [.int i64,.bool,.int i64,.int i64,.int i64,.list (.agg (.cons (.int i64) (.cons (.int i64) (.cons (.int i64) (.cons (.int i64) (.cons (.int i64) (.cons (.int i64) (.cons (.int i64) (.cons (.int i64) (.cons (.int i64) (.cons (.list (.agg (.cons (.int i64) (.cons (.int i64) (.cons (.int i64) (.nil)))))) (.cons (.int i64) (.cons (.bool) (.cons (.int i64) (.cons (.int i64) (.cons (.int i64) (.cons (.bool) (.cons (.bool) (.cons (.int i64) (.cons (.int i64) (.cons (.int i64) (.cons (.list (.agg (.cons (.int i64) (.cons (.int i64) (.nil))))) (.cons (.int i64) (.cons (.int i64) (.cons (.int i64) (.cons (.list (.int i64)) (.cons (.list (.agg (.cons (.int i64) (.cons (.int i64) (.cons (.int i64) (.cons (.int i64) (.cons (.int i64) (.cons (.int i64) (.cons (.int i64) (.cons (.int i64) (.cons (.int i64) (.cons (.bool) (.cons (.int i64) (.nil)))))))))))))) (.cons (.bool) (.cons (.list (.int i64)) (.cons (.list (.int i64)) (.nil)))))))))))))))))))))))))))))))] (
    .branch (.bin (.lt) (.var 33) (.un (.len) (.var 2))) (
     .jY [] (.bin (.and) (.bin (.le) (.aU i64 (0)) (.var 33)) (.bin (.lt) (.var 33) (.un (.len) (.var 2))))<|
     .call 49 50 (.cons (.un (.qg) (.cons (.var 34) (.cons (.var 35) (.cons (.var 36) (.nil))))) (.cons (.un (.cell 0) (.bin (.idx) (.var 2) (.var 33))) (.nil))) []<|
     .branch (.bin (.and) (.bin (.eq) (.un (.cell 1) (.var 49)) (.aU i64 (0))) (.bin (.eq) (.un (.cell 0) (.var 49)) (.un (.cell 1) (.bin (.idx) (.var 2) (.var 33))))) (
      .again 0 (fl [[.var 31],[.var 32],[.bin (.add i64) (.var 33) (.aU i64 (1))],vr 34 3]))
      (
      .jY [] (.bin (.and) (.bin (.le) (.aU i64 (0)) (.bin (.sub i64) (.bin (.sub i64) (.un (.cell 0) (.bin (.idx) (.var 2) (.var 33))) (.var 34)) (.aU i64 (1)))) (.bin (.le) (.bin (.sub i64) (.bin (.sub i64) (.un (.cell 0) (.bin (.idx) (.var 2) (.var 33))) (.var 34)) (.aU i64 (1))) (.un (.len) (.var 36))))<|
      .jY [] (.bin (.and) (.bin (.le) (.aU i64 (0)) (.var 33)) (.bin (.and) (.bin (.le) (.var 33) (.un (.len) (.var 2))) (.bin (.le) (.un (.len) (.var 2)) (.un (.len) (.var 2)))))<|
      .room [] (.bin (.cat) (.bin (.take) (.var 36) (.bin (.sub i64) (.bin (.sub i64) (.un (.cell 0) (.bin (.idx) (.var 2) (.var 33))) (.var 34)) (.aU i64 (1)))) (.bin (.drop) (.bin (.take) (.var 2) (.un (.len) (.var 2))) (.var 33))) 320<|
      .jY [] (.bin (.lt) (.aU i64 (0)) (.un (.len) (.bin (.drop) (.bin (.take) (.var 2) (.un (.len) (.var 2))) (.var 33))))<|
      .ret (.un (.fa) (.cons (.un (.fa) (.cons (.un (.cell 0) (.bin (.idx) (.var 2) (.var 33))) (.cons (.eQ true) (.nil)))) (.cons (.un (.agg) (.cons (.var 34) (.cons (.var 35) (.cons (.bin (.cat) (.bin (.take) (.var 36) (.bin (.sub i64) (.bin (.sub i64) (.un (.cell 0) (.bin (.idx) (.var 2) (.var 33))) (.var 34)) (.aU i64 (1)))) (.bin (.drop) (.bin (.take) (.var 2) (.un (.len) (.var 2))) (.var 33))) (.nil))))) (.nil))))))
     (
     .ret (.un (.fa) (.cons (.un (.fa) (.cons (.aU i64 (0)) (.cons (.eQ true) (.nil)))) (.cons (.un (.agg) (.cons (.var 34) (.cons (.var 35) (.cons (.var 36) (.nil))))) (.nil))))))))
def Zq:VC:=
 .call 9 25 (.cons (.un (.qg) (.cons (.var 2) (.cons (.var 3) (.cons (.var 4) (.nil))))) (.nil)) []<|
 .call 20 57 (.cons (.var 0) (.cons (.aU i64 (1)) (.cons (.aU i64 (1099511627776)) (.nil)))) [(.bin (.lt) (.var 0) (.un (.cell 1) (.var 9)),false)]<|
 .branch (.bin (.or) (.bin (.lt) (.var 0) (.un (.cell 1) (.var 9))) (.un (.not) (.var 20))) (
  .ret (.un (.fa) (.cons (.un (.fa) (.cons (.un (.agg) (.Y (fl [rp 9 (.aU i64 (0)),[.nil],[.aU i64 (0)],[.eQ false],rp 3 (.aU i64 (0)),rp 2 (.eQ false),rp 3 (.aU i64 (0)),[.nil],rp 3 (.aU i64 (0)),rp 2 (.nil),[.eQ false],rp 2 (.nil)]))) (.cons (.aU i64 (1)) (.nil)))) (.cons (.un (.agg) (.cons (.var 2) (.cons (.var 3) (.cons (.var 4) (.nil))))) (.nil)))))
  (
  .branch (.bin (.ge) (.un (.cell 0) (.var 9)) (.aU i64 (1099511627776))) (
   .ret (.un (.fa) (.cons (.un (.fa) (.cons (.un (.agg) (.Y (fl [rp 9 (.aU i64 (0)),[.nil],[.aU i64 (0)],[.eQ false],rp 3 (.aU i64 (0)),rp 2 (.eQ false),rp 3 (.aU i64 (0)),[.nil],rp 3 (.aU i64 (0)),rp 2 (.nil),[.eQ false],rp 2 (.nil)]))) (.cons (.aU i64 (2)) (.nil)))) (.cons (.un (.agg) (.cons (.var 2) (.cons (.var 3) (.cons (.var 4) (.nil))))) (.nil)))))
   (
   .room [] (.bin (.cat) (.var 4) (.cons (.un (.agg) (.Y (fl [[.bin (.add i64) (.un (.cell 0) (.var 9)) (.aU i64 (1))],[.var 0],cr 0 27 (.var 1)]))) (.nil))) 320<|
   .ret (.un (.fa) (.cons (.un (.fa) (.cons (.un (.agg) (.Y (fl [[.bin (.add i64) (.un (.cell 0) (.var 9)) (.aU i64 (1))],[.var 0],cr 0 27 (.var 1)]))) (.cons (.aU i64 (0)) (.nil)))) (.cons (.un (.agg) (.cons (.var 2) (.cons (.var 3) (.cons (.bin (.cat) (.var 4) (.cons (.un (.agg) (.Y (fl [[.bin (.add i64) (.un (.cell 0) (.var 9)) (.aU i64 (1))],[.var 0],cr 0 27 (.var 1)]))) (.nil))) (.nil))))) (.nil))))))
def ZB:VC:=
 .call 6 25 (.cons (.un (.qg) (.cons (.var 1) (.cons (.var 2) (.cons (.var 3) (.nil))))) (.nil)) []<|
 .branch (.bin (.gt) (.var 0) (.un (.cell 0) (.var 6))) (
  .ret (.un (.fa) (.cons (.aU i64 (3)) (.cons (.un (.agg) (.cons (.var 1) (.cons (.var 2) (.cons (.var 3) (.nil))))) (.nil)))))
  (
  .branch (.bin (.le) (.var 0) (.var 1)) (
   .ret (.un (.fa) (.cons (.aU i64 (0)) (.cons (.un (.agg) (.cons (.var 1) (.cons (.var 2) (.cons (.var 3) (.nil))))) (.nil)))))
   (
   .call 25 50 (.cons (.un (.qg) (.cons (.var 1) (.cons (.var 2) (.cons (.var 3) (.nil))))) (.cons (.var 0) (.nil))) []<|
   .jY [] (.bin (.and) (.bin (.le) (.aU i64 (0)) (.bin (.sub i64) (.var 0) (.var 1))) (.bin (.and) (.bin (.le) (.bin (.sub i64) (.var 0) (.var 1)) (.un (.len) (.var 3))) (.bin (.le) (.un (.len) (.var 3)) (.un (.len) (.var 3)))))<|
   .room [] (.bin (.cat) (.nil) (.bin (.drop) (.bin (.take) (.var 3) (.un (.len) (.var 3))) (.bin (.sub i64) (.var 0) (.var 1)))) 320<|
   .ret (.un (.fa) (.cons (.aU i64 (0)) (.cons (.un (.agg) (.cons (.var 0) (.cons (.un (.cell 0) (.var 25)) (.cons (.bin (.cat) (.nil) (.bin (.drop) (.bin (.take) (.var 3) (.un (.len) (.var 3))) (.bin (.sub i64) (.var 0) (.var 1)))) (.nil))))) (.nil))))))
def Zh:VC:=
 .call 4 57 (.cons (.var 0) (.cons (.aU i64 (0)) (.cons (.aU i64 (1099511627776)) (.nil)))) []<|
 .call 8 57 (.cons (.var 1) (.cons (.aU i64 (0)) (.cons (.aU i64 (1099511627776)) (.nil)))) [(.un (.not) (.var 4),false)]<|
 .branch (.bin (.or) (.bin (.or) (.un (.not) (.var 4)) (.un (.not) (.var 8))) (.un (.not) (.bin (.beq) (.bin (.eq) (.var 0) (.aU i64 (0))) (.bin (.eq) (.var 1) (.aU i64 (0)))))) (
  .stuck 11)
  (
  .ret (.un (.fa) (.cons (.un (.fa) (.nil)) (.cons (.un (.agg) (.cons (.var 0) (.cons (.var 1) (.cons (.nil) (.nil))))) (.nil)))))
def Zi:VC:=
 .call 4 57 (.cons (.var 0) (.cons (.aU i64 (0)) (.cons (.aU i64 (1099511627776)) (.nil)))) []<|
 .call 8 57 (.cons (.var 1) (.cons (.aU i64 (0)) (.cons (.aU i64 (1099511627776)) (.nil)))) [(.un (.not) (.var 4),false)]<|
 .branch (.bin (.or) (.bin (.or) (.un (.not) (.var 4)) (.un (.not) (.var 8))) (.un (.not) (.bin (.beq) (.bin (.eq) (.var 0) (.aU i64 (0))) (.bin (.eq) (.var 1) (.aU i64 (0)))))) (
  .ret (.gv))
  (
  .stuck 11)
def SI:VC:=
 .branch (.bin (.or) (.bin (.or) (.bin (.lt) (.var 1) (.aU i64 (1))) (.bin (.le) (.var 0) (.var 2))) (.bin (.ge) (.bin (.sub i64) (.bin (.sub i64) (.var 0) (.var 2)) (.aU i64 (1))) (.un (.len) (.var 4)))) (
  .ret (.un (.fa) (.cons (.nil) (.cons (.un (.agg) (.cons (.var 2) (.cons (.var 3) (.cons (.var 4) (.nil))))) (.nil)))))
  (
  .branch (.bin (.lt) (.var 1) (.bin (.sub i64) (.un (.len) (.var 4)) (.bin (.sub i64) (.bin (.sub i64) (.var 0) (.var 2)) (.aU i64 (1))))) (
   .jY [] (.bin (.and) (.bin (.le) (.aU i64 (0)) (.bin (.sub i64) (.bin (.sub i64) (.var 0) (.var 2)) (.aU i64 (1)))) (.bin (.and) (.bin (.le) (.bin (.sub i64) (.bin (.sub i64) (.var 0) (.var 2)) (.aU i64 (1))) (.bin (.add i64) (.bin (.sub i64) (.bin (.sub i64) (.var 0) (.var 2)) (.aU i64 (1))) (.var 1))) (.bin (.le) (.bin (.add i64) (.bin (.sub i64) (.bin (.sub i64) (.var 0) (.var 2)) (.aU i64 (1))) (.var 1)) (.un (.len) (.var 4)))))<|
   .room [] (.bin (.cat) (.nil) (.bin (.drop) (.bin (.take) (.var 4) (.bin (.add i64) (.bin (.sub i64) (.bin (.sub i64) (.var 0) (.var 2)) (.aU i64 (1))) (.var 1))) (.bin (.sub i64) (.bin (.sub i64) (.var 0) (.var 2)) (.aU i64 (1))))) 320<|
   .ret (.un (.fa) (.cons (.bin (.cat) (.nil) (.bin (.drop) (.bin (.take) (.var 4) (.bin (.add i64) (.bin (.sub i64) (.bin (.sub i64) (.var 0) (.var 2)) (.aU i64 (1))) (.var 1))) (.bin (.sub i64) (.bin (.sub i64) (.var 0) (.var 2)) (.aU i64 (1))))) (.cons (.un (.agg) (.cons (.var 2) (.cons (.var 3) (.cons (.var 4) (.nil))))) (.nil)))))
   (
   .jY [] (.bin (.and) (.bin (.le) (.aU i64 (0)) (.bin (.sub i64) (.bin (.sub i64) (.var 0) (.var 2)) (.aU i64 (1)))) (.bin (.and) (.bin (.le) (.bin (.sub i64) (.bin (.sub i64) (.var 0) (.var 2)) (.aU i64 (1))) (.un (.len) (.var 4))) (.bin (.le) (.un (.len) (.var 4)) (.un (.len) (.var 4)))))<|
   .room [] (.bin (.cat) (.nil) (.bin (.drop) (.bin (.take) (.var 4) (.un (.len) (.var 4))) (.bin (.sub i64) (.bin (.sub i64) (.var 0) (.var 2)) (.aU i64 (1))))) 320<|
   .ret (.un (.fa) (.cons (.bin (.cat) (.nil) (.bin (.drop) (.bin (.take) (.var 4) (.un (.len) (.var 4))) (.bin (.sub i64) (.bin (.sub i64) (.var 0) (.var 2)) (.aU i64 (1))))) (.cons (.un (.agg) (.cons (.var 2) (.cons (.var 3) (.cons (.var 4) (.nil))))) (.nil))))))
def afI:VC:=
 .ret (.un (.fa) (.cons (.un (.fa) (.nil)) (.cons (.un (.agg) (.Y (fl [[.eQ true],vr 1 12,[.un (.qg) (.nil)],vr 14 37]))) (.cons (.un (.agg) (.cons (.var 51) (.cons (.var 52) (.cons (.var 53) (.nil))))) (.nil)))))
def afJ:VC:=
 .ret (.un (.fa) (.cons (.un (.fa) (.nil)) (.cons (.un (.agg) (.Y (fl [vr 0 13,[.un (.qg) (.nil)],vr 14 8,rp 2 (.aU i64 (0)),vr 24 27]))) (.cons (.un (.agg) (.cons (.var 51) (.cons (.var 52) (.cons (.var 53) (.nil))))) (.nil)))))
def afG:VC:=
 .room [] (.bin (.cat) (.var 6) (.cons (.un (.agg) (.Y (fl [[.un (.cell 0) (.var 0)],[.var 9],[.un (.cell 2) (.var 0)],[.var 12],cr 4 42 (.var 0)]))) (.nil))) 536<|
 .ret (.un (.fa) (.cons (.un (.fa) (.nil)) (.cons (.un (.agg) (.Y (fl [vr 1 5,[.bin (.cat) (.var 6) (.cons (.un (.agg) (.Y (fl [[.un (.cell 0) (.var 0)],[.var 9],[.un (.cell 2) (.var 0)],[.var 12],cr 4 42 (.var 0)]))) (.nil))],vr 7 7,[.un (.qg) (.nil)],vr 15 37]))) (.cons (.un (.agg) (.cons (.var 52) (.cons (.var 53) (.cons (.var 54) (.nil))))) (.nil)))))
def ZK:VC:=og Try.prog VL [] s41 Try.f41
def afK:VC:=
 .ret (.un (.fa) (.cons (.un (.agg) (.Y (fl [[.var 0],[.var 11],[.var 12],vr 3 5]))) (.cons (.un (.agg) (.Y (fl [[.eQ false],rp 2 (.aU i64 (0)),[.nil],[.gv],rp 3 (.nil),vr 8 5,[.un (.qg) (.nil)],vr 14 37]))) (.cons (.un (.agg) (.cons (.var 51) (.cons (.var 52) (.cons (.var 53) (.nil))))) (.nil)))))
def ZL:VC:=og Try.prog VW [] s39 Try.f39
def ZO:VC:=og Try.prog VU [(0,{drop:=[4006001]})] s33 Try.f33
def afD:VC:=
 .ret (.bin (.eq) (.un (.cell 2) (.var 0)) (.aU i64 (2)))
def Ol:VC:=
 .loop 6 [.aU i64 (0),.aU i64 (0)] [.int i64,.int i64] (
  .branch (.bin (.lt) (.var 7) (.un (.len) (.var 0))) (
   .jY [] (.bin (.and) (.bin (.le) (.aU i64 (0)) (.var 7)) (.bin (.lt) (.var 7) (.un (.len) (.var 0))))<|
   .call 16 84 (.cons (.bin (.idx) (.var 0) (.var 7)) (.nil)) []<|
   .branch (.var 16) (
    .ret (.var 7))
    (
    .again 0 [.var 6,.bin (.add i64) (.var 7) (.aU i64 (1))]))
   (
   .ret (.aU i64 (-1))))
def On:VC:=
 .call 5 80 (.cons (.var 0) (.cons (.var 1) (.nil))) []<|
 .ret (.bin (.ge) (.var 5) (.aU i64 (0)))
def Zo:VC:=og Try.prog Hj [] s73 Try.f73
def Vz:VC:=og Try.prog VH [(1000000,{drop:=[18]}),(3,{own:=[(4,3)]}),(5,{drop:=[4005005]})] s40 Try.f40
def Qq:VC:=og Try.prog VS [(3,{boxes:=yY}),(9,{boxes:=yY}),(5,{drop:=[4006004]})] jX Try.f67
def VA:VC:=og Try.prog VJ [(8,{boxes:=yY})] s37 Try.f37
def ZJ:VC:=og Try.prog VV [] s42 Try.f42
def ZI:VC:=og Try.prog VR [] s43 Try.f43
def ZH:VC:=og Try.prog VQ [] s44 Try.f44
def Zm:VC:=og Try.prog VP [] YD Try.f75
def SJ:VC:=
 .branch (.bin (.or) (.bin (.or) (.bin (.lt) (.var 1) (.aU i64 (1))) (.bin (.le) (.var 0) (.var 2))) (.bin (.ge) (.bin (.sub i64) (.bin (.sub i64) (.var 0) (.var 2)) (.aU i64 (1))) (.un (.len) (.var 4)))) (
  .ret (.un (.fa) (.cons (.nil) (.cons (.un (.agg) (.cons (.var 2) (.cons (.var 3) (.cons (.var 4) (.nil))))) (.nil)))))
  (
  .branch (.bin (.lt) (.var 1) (.bin (.sub i64) (.un (.len) (.var 4)) (.bin (.sub i64) (.bin (.sub i64) (.var 0) (.var 2)) (.aU i64 (1))))) (
   .jY [] (.bin (.and) (.bin (.le) (.aU i64 (0)) (.bin (.sub i64) (.bin (.sub i64) (.var 0) (.var 2)) (.aU i64 (1)))) (.bin (.and) (.bin (.le) (.bin (.sub i64) (.bin (.sub i64) (.var 0) (.var 2)) (.aU i64 (1))) (.bin (.add i64) (.bin (.sub i64) (.bin (.sub i64) (.var 0) (.var 2)) (.aU i64 (1))) (.var 1))) (.bin (.le) (.bin (.add i64) (.bin (.sub i64) (.bin (.sub i64) (.var 0) (.var 2)) (.aU i64 (1))) (.var 1)) (.un (.len) (.var 4)))))<|
   .room [] (.bin (.cat) (.nil) (.bin (.drop) (.bin (.take) (.var 4) (.bin (.add i64) (.bin (.sub i64) (.bin (.sub i64) (.var 0) (.var 2)) (.aU i64 (1))) (.var 1))) (.bin (.sub i64) (.bin (.sub i64) (.var 0) (.var 2)) (.aU i64 (1))))) 320<|
   .ret (.un (.fa) (.cons (.bin (.cat) (.nil) (.bin (.drop) (.bin (.take) (.var 4) (.bin (.add i64) (.bin (.sub i64) (.bin (.sub i64) (.var 0) (.var 2)) (.aU i64 (1))) (.var 1))) (.bin (.sub i64) (.bin (.sub i64) (.var 0) (.var 2)) (.aU i64 (1))))) (.cons (.un (.agg) (.cons (.var 2) (.cons (.var 3) (.cons (.var 4) (.nil))))) (.nil)))))
   (
   .jY [] (.bin (.and) (.bin (.le) (.aU i64 (0)) (.bin (.sub i64) (.bin (.sub i64) (.var 0) (.var 2)) (.aU i64 (1)))) (.bin (.and) (.bin (.le) (.bin (.sub i64) (.bin (.sub i64) (.var 0) (.var 2)) (.aU i64 (1))) (.un (.len) (.var 4))) (.bin (.le) (.un (.len) (.var 4)) (.un (.len) (.var 4)))))<|
   .room [] (.bin (.cat) (.nil) (.bin (.drop) (.bin (.take) (.var 4) (.un (.len) (.var 4))) (.bin (.sub i64) (.bin (.sub i64) (.var 0) (.var 2)) (.aU i64 (1))))) 320<|
   .ret (.un (.fa) (.cons (.bin (.cat) (.nil) (.bin (.drop) (.bin (.take) (.var 4) (.un (.len) (.var 4))) (.bin (.sub i64) (.bin (.sub i64) (.var 0) (.var 2)) (.aU i64 (1))))) (.cons (.un (.agg) (.cons (.var 2) (.cons (.var 3) (.cons (.var 4) (.nil))))) (.nil))))))
def ZG:VC:=og Try.prog MF [] s45 Try.f45
def Vw:VC:=og Try.prog VO [(4,{boxes:=yY})] np Try.f77
def Zl:VC:=og Try.prog VF [(1,{drop:=[4006001]})] s78 Try.f78
def ZF:VC:=og Try.prog VE [(3,{drop:=[5106003]})] s46 Try.f46
def ZD:VC:=og Try.prog VN [(5,{drop:=[5106003]})] s48 Try.f48
def afN:VC:=
 .call 5 26 (.cons (.un (.agg) (.cons (.un (.cell 2) (.var 0)) (.cons (.un (.cell 3) (.var 0)) (.nil)))) (.nil)) []<|
 .call 8 52 (.cons (.un (.cell 4) (.var 0)) (.nil)) []<|
 .ret (.un (.agg) (.Y (fl [[.un (.cell 0) (.var 0)],[.un (.cell 1) (.var 0)],[.un (.cell 0) (.var 5)],[.un (.cell 1) (.var 5)],[.var 8]])))
def ZE:VC:=Ws Try.prog VY Jz [(21,{drop:=[9000000010]})] s47 Try.f47
def ZW:VC:=og Try.prog VM [] s17 Try.f17
def VD:VC:=og Try.prog VZ [(6,{boxes:=yY})] s15 Try.f15
def Zj:VC:=
 .branch (.bin (.ne) (.un (.len) (.var 0)) (.un (.len) (.var 1))) (
  .ret (.eQ false))
  (
  .loop 9 [.eQ false,.aU i64 (0)] [.bool,.int i64] (
   .branch (.bin (.lt) (.var 10) (.un (.len) (.var 0))) (
    .jY [] (.bin (.and) (.bin (.le) (.aU i64 (0)) (.var 10)) (.bin (.lt) (.var 10) (.un (.len) (.var 0))))<|
    .jY [] (.bin (.and) (.bin (.le) (.aU i64 (0)) (.var 10)) (.bin (.lt) (.var 10) (.un (.len) (.var 1))))<|
    .branch (.bin (.ne) (.bin (.idx) (.var 0) (.var 10)) (.bin (.idx) (.var 1) (.var 10))) (
     .ret (.eQ false))
     (
     .again 0 [.var 9,.bin (.add i64) (.var 10) (.aU i64 (1))]))
    (
    .ret (.eQ true))))
def Zv:VC:=
 .call 9 81 (.cons (.un (.cell 0) (.var 0)) (.cons (.un (.cell 0) (.var 1)) (.nil))) []<|
 .call 15 81 (.cons (.un (.cell 1) (.var 0)) (.cons (.un (.cell 1) (.var 1)) (.nil))) []<|
 .ret (.bin (.and) (.var 9) (.var 15))
def afL:VC:=
 .call 9 62 (.cons (.un (.agg) (.cons (.un (.cell 25) (.var 0)) (.cons (.un (.cell 26) (.var 0)) (.nil)))) (.cons (.un (.agg) (.cons (.un (.cell 25) (.var 1)) (.cons (.un (.cell 26) (.var 1)) (.nil)))) (.nil))) []<|
 .ret (.bin (.and) (.bin (.and) (.bin (.and) (.bin (.and) (.bin (.and) (.var 9) (.bin (.eq) (.un (.cell 0) (.var 0)) (.un (.cell 0) (.var 1)))) (.bin (.eq) (.un (.cell 1) (.var 0)) (.un (.cell 1) (.var 1)))) (.bin (.eq) (.un (.cell 2) (.var 0)) (.un (.cell 2) (.var 1)))) (.bin (.eq) (.un (.cell 3) (.var 0)) (.un (.cell 3) (.var 1)))) (.bin (.eq) (.un (.cell 8) (.var 0)) (.un (.cell 8) (.var 1))))
def vc8:VC:=
 .branch (.bin (.lt) (.var 0) (.aU i64 (0))) (
  .jY [] (.bin (.ne) (.var 1) (.aU i64 (0)))<|
  .ret (.bin (.rem i64) (.un (.neg i64) (.bin (.add i64) (.var 0) (.aU i64 (1)))) (.var 1)))
  (
  .jY [] (.bin (.ne) (.var 1) (.aU i64 (0)))<|
  .ret (.bin (.rem i64) (.var 0) (.var 1)))
attribute [irreducible] Vy VB Vx ZM ZK ZL ZO Zo Vz Qq VA ZJ ZI ZH Zm ZG Vw Zl ZF ZD ZE ZW VD
end
def vt{d:D}(h:Has (.list (.int i64)) d):∃l:List Int,d=.list (l.map (D.int i64))/\l.length*8<=140737488355328/\∀x∈l,-9223372036854775808<=x/\x<=9223372036854775807:=by obtain⟨l,rfl,_,g⟩:=bO.1 h;obtain⟨a,rfl⟩:=r9 g;obtain⟨f,e⟩:=pR.1 h;exact⟨a,rfl,f,fun x c=>tV.1 (e x c)⟩
def vz{d:D}(h:Has lB d):∃v l:List Int,d=.agg [.list (v.map (D.int i64)),.list (l.map (D.int i64))]/\v.length*8<=140737488355328/\(∀x∈v,-9223372036854775808<=x/\x<=9223372036854775807)/\l.length*8<=140737488355328/\∀x∈l,-9223372036854775808<=x/\x<=9223372036854775807:=by obtain⟨_,rfl,_,_,rfl,c,_,_,rfl,a,rfl⟩:=h;obtain⟨v,rfl,i,g⟩:=vt c;obtain⟨l,rfl,f,e⟩:=vt a;exact⟨v,l,rfl,i,g,f,e⟩
def rm:Int->List Int->Bool
 |_,[]=>true
 |p,x::r=>(decide (1<=x)&&decide (x<=5)&&decide (p<x))&&rm x r
def vp:Int->List Int->Int
 |p,[]=>p
 |_,x::r=>vp x r
def qJ:∀{a b:List Int} {p:Int},vp p (a++b)=vp (vp p a) b
 |[],_,_=>rfl
 |x::a,b,_=>by simp only[eE,vp,qJ (a:=a)]
def vo(d:D):List Int:=iM (d.V.getD 0 .top)
def lr(d:D):List Int:=iM (d.V.getD 1 .top)
def cf(v l:List Int):D:=.agg [.list (v.map (D.int i64)),.list (l.map (D.int i64))]
def vh(v l:List Int):vo (.agg [.list (v.map (D.int i64)),.list (l.map (D.int i64))])=v:=eW v
def Fj(v l:List Int):lr (.agg [.list (v.map (D.int i64)),.list (l.map (D.int i64))])=l:=eW l
def zN(v l:List Int):Bool:=rm 0 v&&rm 0 l&& !v.isEmpty&&decide (∀x∈l,x∉v)
def E4(v l:List Int):List Int:=Lib.compact (jP (v++l))
def yV(v a:List Int):Nat:=v.countP fun x=>decide (x∈a)
def Ha(v a:List Int):Bool:=decide ((v.length:Int)<2*(yV v a:Int))
def mK(m:List Int)(s:Int):Int:=if 1<=s/\s<=m.length then(if 0<m.getD (s-1).toNat 0 then m.getD (s-1).toNat 0 else 0) else 0
def vg(v m:List Int):Int:=if v=[] then 0 else(jP (v.map (mK m))).getD ((v.length-1)/2) 0
def yU(a b:List Int)(n:Nat):Nat:=(List.range n).countP fun s:Nat=>decide ((s:Int)∈a) !=decide ((s:Int)∈b)
def G8(c la a d:List Int):Bool:=zN c la&&zN a d&&decide (yU c a 6<=1)
def LD(a b:List Int)(n:Nat):yU a b (n+1)=yU a b n+(if decide ((n:Int)∈a) !=decide ((n:Int)∈b) then 1 else 0):=by unfold yU;rw[List.range_succ,List.countP_append];simp[List.countP_cons]
def RV(a b:List Int)(n:Nat):yU a b n<=n:=by unfold yU;have:=List.countP_le_length (p:=fun s:Nat=>decide ((s:Int)∈a) !=decide ((s:Int)∈b)) (l:=List.range n);simpa using this
def RY(v y:List Int):yV v y<=v.length:=List.countP_le_length
def LM{v y:List Int}{n:Nat}{x:Int}(h:v[n]?=some x):yV (v.take (n+1)) y=yV (v.take n) y+(if x∈y then 1 else 0):=by unfold yV;rw[ca,h,dQ,List.countP_append];simp[List.countP_cons]
def vM(v m:List Int):(jP (v.map (mK m))).length=v.length:=by rw[pV,aj]
def AF:∀{l:List Int} {p:Int},0<=p->rm p l=true->(l.length:Int)<=max 0 (5-p)
 |[],p,_,_=>by simp;omega
 |x::r,p,hp,h=>by simp only[rm,aP,bg]at h;obtain⟨⟨⟨e,d⟩,c⟩,a⟩:=h;have:=AF (by omega) a;simp only[bu];omega
def FP{v l:List Int}:zN v l=true↔rm 0 v=true/\rm 0 l=true/\v≠[]/\∀x∈l,x∉v:=by simp[zN,and_assoc]
def AE:∀{l:List Int} {p:Int},rm p l=true->∀x∈l,1<=x/\x<=5
 |[],_,_,x,a=>by simp at a
 |y::r,p,h,x,a=>by
  simp only[rm,aP,bg]at h;obtain⟨⟨⟨e,d⟩,_⟩,c⟩:=h;rcases aH.1 a with rfl|a
  .exact⟨e,d⟩
  exact AE c x a
def wS:List Int->Int->List Int
 |[],n=>[n]
 |x::r,n=>if x<n then x::wS r n else if x=n then x::r else n::x::r
def Je(v l:List Int):List Int:=l.foldl wS (v.foldl wS [])
def wx(l:List Int):(jP l).Pairwise (· <= ·):=by have:=List.pairwise_mergeSort (le:=fun x y:Int=>decide (x<=y)) (by intro a b c e d;simp only[bg]at*;omega) (by intro a b;simp only[bI,bg];omega) l;exact this.imp (by intro a b h;simpa using h)
def Io(l:List Int):(jP l).Perm l:=List.mergeSort_perm l _
def Lr{d:Tbe Int}{m:Nat}(h:Lib.keeps d m=false):0<m/\d[m]! =d[m-1]! :=by
 refine⟨?_,?_⟩
 .rcases fq m with a|a
  .rw[Lib.keeps_lt_one d m (by omega)]at h;cases h
  exact a
 by_cases e:d[m]! =d[m-1]!
 .exact e
 rw[Lib.keeps_pos e]at h;cases h
def mE{d:Tbe Int}:∀{m j:Nat},j<m->d[j]! ∈Lib.compactUpTo d m
 |0,j,h=>by omega
 |m+1,j,h=>by
  rw[Lib.compactUpTo_succ];rcases eK j m with a|a
  .exact az _ (mE a)
  obtain rfl:j=m:=by omega
  cases hk:Lib.keeps d j with
  |true=>exact bA _ (by simp)
  |false=>
   obtain⟨e,c⟩:=Lr hk;rw[c];exact az _ (mE (by omega))
def zc{l:List Int}{x:Int}:x∈Lib.compact l↔x∈l:=by
 refine⟨yp,fun h=>?_⟩;obtain⟨j,a,rfl⟩:=fD h;have:=mE (d:=l.toArray) (m:=l.length) a
 rwa [getElem!_pos _ j (by simpa using a)]at this
def FN{v l:List Int}{x:Int}:x∈E4 v l↔x∈v\/x∈l:=by rw[E4,zc,xA,aQ]
def BJ{l:List Int}(hs:l.Pairwise (· <= ·)):(Lib.compact l).Pairwise (· < ·):=by
 have d:∀i j,i<=j->j<l.length->l.toArray[i]! <=l.toArray[j]! :=by
  intro i j g p;rw[getElem!_pos _ i (by simp;omega),getElem!_pos _ j (by simpa using p)];rcases Nat.eq_or_lt_of_le g with h|h
  .subst h;exact aJ _
  exact List.pairwise_iff_getElem.1 hs i j (by omega) p h
 have f:∀m,m<=l.length->(Lib.compactUpTo l.toArray m).Pairwise (· < ·)/\∀x∈Lib.compactUpTo l.toArray m,0<m/\x<=l.toArray[m-1]! :=by
  intro m
  induction m with
  |zero=>intro _;exact⟨by simp[Lib.compactUpTo],by simp[Lib.compactUpTo]⟩
  |succ m ih=>
   intro u;obtain⟨s,q⟩:=ih (by omega);rw[Lib.compactUpTo_succ]
   have c:∀x∈Lib.compactUpTo l.toArray m,x<=l.toArray[m]! :=fun x a=>by obtain⟨n,k⟩:=q x a;exact fm k (d (m-1) m (by omega) (by omega))
   cases hk:Lib.keeps l.toArray m with
   |true=>
    rw[if_pos rfl];refine⟨?_,?_⟩
    .rw[List.pairwise_append];refine⟨s,by simp,fun x a y o=>?_⟩;rw[aG]at o;subst o;obtain⟨n,k⟩:=q x a;have t:l.toArray[m]! ≠l.toArray[m-1]! :=fun e=>by rw[Lib.keeps_neg n e]at hk;cases hk
     have:=d (m-1) m (by omega) (by omega);omega
    intro x a;rcases aQ.1 a with a|a
    .exact⟨by omega,c x a⟩
    rw[aG]at a;subst a;exact⟨by omega,aJ _⟩
   |false=>
    rw[if_neg (by simp),aX];exact⟨s,fun x a=>⟨by omega,c x a⟩⟩
 exact(f l.length (aM _)).1
def Bh:∀{a b:List Int},a.Pairwise (· < ·)->b.Pairwise (· < ·)->(∀x,x∈a↔x∈b)->a=b
 |[],[],_,_,_=>rfl
 |[],y::b,_,_,h=>by have:=(h y).2 (by simp);simp at this
 |x::a,[],_,_,h=>by have:=(h x).1 (by simp);simp at this
 |x::a,y::b,ha,hb,h=>by
  rw[fO]at ha hb
  have g:x=y:=by
   have f:=(h x).1 (by simp);have d:=(h y).2 (by simp);rcases aH.1 f with f|f
   .exact f
   rcases aH.1 d with d|d
   .exact d.symm
   have:=hb.1 x f;have:=ha.1 y d;omega
  subst g
  rw[Bh ha.2 hb.2 (fun z=>⟨fun c=>by
   rcases aH.1 ((h z).1 (ao _ c)) with e|e
   .have:=ha.1 z c;omega
   .exact e,fun c=>by
   rcases aH.1 ((h z).2 (ao _ c)) with e|e
   .have:=hb.1 z c;omega
   exact e⟩)]
def JQ{b:Int}:∀{l:List Int},l.Pairwise (· < ·)->(wS l b).Pairwise (· < ·)/\∀x,x∈wS l b↔x∈l\/x=b
 |[],_=>by simp[wS]
 |y::r,h=>by
  rw[fO]at h;obtain⟨i,f⟩:=JQ (b:=b) h.2;unfold wS;split
  .rename_i c;refine⟨fO.2 ⟨fun z a=>?_,i⟩,fun x=>?_⟩
   .rcases (f z).1 a with d|d
    .exact h.1 z d
    rw[d];exact c
   rw[aH,f,aH];exact(or_assoc).symm
  split
  .rename_i c e;subst e;exact⟨fO.2 h,fun x=>⟨.inl,fun g=>g.elim id fun e=>by simp[e]⟩⟩
  rename_i c e;refine⟨fO.2 ⟨fun z a=>?_,fO.2 h⟩,fun x=>?_⟩
  .rcases aH.1 a with rfl|a
   .omega
   have:=h.1 z a;omega
  rw[aH];exact or_comm
def nS:∀{v o:List Int},o.Pairwise (· < ·)->(v.foldl wS o).Pairwise (· < ·)/\∀x,x∈v.foldl wS o↔x∈o\/x∈v
 |[],o,h=>⟨h,by simp⟩
 |y::r,o,h=>by obtain⟨e,d⟩:=JQ (b:=y) h;obtain⟨c,a⟩:=nS (v:=r) e;refine⟨c,fun x=>?_⟩;show x∈r.foldl wS (wS o y)↔_;rw[a,d,aH,or_assoc]
def Lh{v l:List Int}{x:Int}:x∈Je v l↔x∈v\/x∈l:=by have a:=nS (v:=v) (o:=[]) List.Pairwise.nil;have c:=nS (v:=l) a.1;show x∈l.foldl wS (v.foldl wS [])↔_;rw[c.2,a.2];simp
def Gy(v l:List Int):(E4 v l).Pairwise (· < ·):=BJ (wx _)
def Er(v l:List Int):(Je v l).Pairwise (· < ·):=(nS (nS (v:=v) (o:=[]) List.Pairwise.nil).1).1
def HR(v l:List Int):E4 v l=Je v l:=Bh (Gy v l) (Er v l) fun x=>by rw[FN,Lh]
def Zf(m:List Int)(t:Int)(n:Nat):List Int:=((List.range n).filter fun i=>decide (t<=m.getD i 0)).map fun i:Nat=>(i:Int)+1
def Kq(m:List Int)(t:Int):List Int:=Zf m t m.length
def Pv{m:List Int}{t s:Int}:s∈Kq m t↔1<=s/\s<=m.length/\t<=m.getD (s-1).toNat 0:=by
 unfold Kq Zf;simp only[bf,List.mem_filter,cz,bg];constructor
 .rintro⟨i,⟨d,a⟩,rfl⟩;exact⟨by omega,by omega,by rw[show((i:Int)+1-1).toNat=i by omega];exact a⟩
 rintro⟨d,a,c⟩;exact⟨(s-1).toNat,⟨by omega,c⟩,by omega⟩
def QE{m:List Int}{t s:Int}(c:0<t):s∈Kq m t↔t<=mK m s:=by
 rw[Pv];unfold mK;split
 .rename_i h;split
  .exact⟨fun a=>a.2.2,fun a=>⟨h.1,h.2,a⟩⟩
  exact⟨fun a=>by omega,fun a=>by omega⟩
 rename_i h;exact⟨fun a=>absurd ⟨a.1,a.2.1⟩ h,fun a=>by omega⟩
def RX{v m:List Int}{t:Int}(a:0<t):yV v (Kq m t)=(jP (v.map (mK m))).countP fun x=>decide (t<=x):=by rw[(Io _).countP_eq,List.countP_map];unfold yV;congr 1;funext s;simp only[Function.comp_apply];rw[cT,bg,bg,QE a]
def Eo{L:List Int}(hs:L.Pairwise (· <= ·))(m:L≠[])(t:Int):t<=L.getD ((L.length-1)/2) 0↔L.length<2*L.countP fun x=>decide (t<=x):=by
 have o:0<L.length:=eX.2 m;have f:(L.length-1)/2<L.length:=by omega
 have d:L.getD ((L.length-1)/2) 0=L[(L.length-1)/2]:=by rw[ag,aR f];rfl
 rw[d];generalize y:(L.length-1)/2=j at f
 have c:∀i k (a:i<L.length) (q:k<L.length),i<=k->L[i] <=L[k]:=by
  intro i k a q n;rcases Nat.eq_or_lt_of_le n with h|h
  .subst h;exact aJ _
  exact List.pairwise_iff_getElem.1 hs i k a q h
 constructor
 .intro h;have e:L.countP (fun x=>decide (t<=x))=(L.take j).countP (fun x=>decide (t<=x))+(L.drop j).countP (fun x=>decide (t<=x)):=by rw[<-List.countP_append,dE]
  have s:(L.drop j).countP (fun x=>decide (t<=x))=(L.drop j).length:=by rw[List.countP_eq_length];intro x g;obtain⟨i,a,rfl⟩:=fD g;rw[bh]at a;rw[List.getElem_drop,bg];exact fm h (c j (j+i) f (by omega) (by omega))
  rw[bh]at s;omega
 intro h;rcases Int.lt_or_le L[j] t with u|u
 .exfalso;have e:L.countP (fun x=>decide (t<=x))=(L.take (j+1)).countP (fun x=>decide (t<=x))+(L.drop (j+1)).countP (fun x=>decide (t<=x)):=by rw[<-List.countP_append,dE]
  have s:(L.take (j+1)).countP (fun x=>decide (t<=x))=0:=by rw[List.countP_eq_zero];intro x g;obtain⟨i,a,rfl⟩:=fD g;rw[aO]at a;rw[List.getElem_take,bg];have:=c i j (by omega) f (by omega);omega
  have z:=List.countP_le_length (p:=fun x=>decide (t<=x)) (l:=L.drop (j+1));rw[bh]at z;omega
 exact u
def JV{v m:List Int}{t:Int}(d:0<t):Ha v (Kq m t)=decide (t<=vg v m):=by
 unfold Ha vg;rw[RX d];by_cases a:v=[]
 .subst a;simp[jP];omega
 rw[if_neg a]
 have c:jP (v.map (mK m))≠[]:=fun e=>by have:=vM v m;rw[e]at this;exact a (an this.symm)
 have:=Eo (wx (v.map (mK m))) c t;rw[vM]at this;rw[cT,bg,bg,this];omega
def BB(v m:List Int):0<=vg v m/\(0<vg v m->∃i,i<m.length/\m.getD i 0=vg v m):=by
 unfold vg;split
 .exact⟨aJ 0,fun h=>by omega⟩
 rename_i d;have a:0<v.length:=eX.2 d;have c:(v.length-1)/2<(jP (v.map (mK m))).length:=by rw[vM];omega
 rw[ag,aR c,bq];have e:(jP (v.map (mK m)))[(v.length-1)/2] ∈v.map (mK m):=xA.1 (aF c);obtain⟨s,_,hs⟩:=bf.1 e;rw[<-hs];unfold mK;split
 .rename_i h;split
  .rename_i f;exact⟨by omega,fun _=>⟨(s-1).toNat,by omega,rfl⟩⟩
  exact⟨aJ 0,fun h=>by omega⟩
 exact⟨aJ 0,fun h=>by omega⟩
def Ds(v m:List Int):Nat->Int
 |0=>0
 |k+1=>if Ha v (Kq m (m.getD k 0))&&decide (Ds v m k<m.getD k 0) then m.getD k 0 else Ds v m k
def D6(v m:List Int):∀k,0<=Ds v m k/\Ds v m k<=vg v m/\∀i,i<k->m.getD i 0<=vg v m->m.getD i 0<=Ds v m k
 |0=>⟨aJ 0,(BB v m).1,fun i h=>by omega⟩
 |k+1=>by
  obtain⟨n,j,f⟩:=D6 v m k;unfold Ds;split
  .rename_i c;simp only[aP,bg]at c;have e:=c.1;rw[JV (by omega),bg]at e;refine⟨by omega,e,fun i g a=>?_⟩;rcases eK i k with h|h
   .have:=f i h a;omega
   obtain rfl:i=k:=by omega
   exact aJ _
  rename_i c;refine⟨n,j,fun i g a=>?_⟩;rcases eK i k with h|h
  .exact f i h a
  obtain rfl:i=k:=by omega
  rcases Int.lt_or_le (Ds v m i) (m.getD i 0) with d|d
  .exfalso;apply c;rw[JV (by omega)];rw[aP,bg,bg];exact⟨a,d⟩
  exact d
def WH(v m:List Int):Ds v m m.length=vg v m:=by
 obtain⟨g,f,c⟩:=D6 v m m.length;obtain⟨j,d⟩:=BB v m;rcases Int.lt_or_le 0 (vg v m) with h|h
 .obtain⟨i,a,e⟩:=d h;have:=c i a (by omega);omega
 omega
def MX:Int:=1099511627776
def ix(d:D):Int:=I d 0
def tm(d:D):Int:=I d 1
def qW:Int->Int->Tah->Bool
 |_,_,[]=>true
 |i,t,x::r=>(ix x==i+1)&&decide (t<=tm x)&&decide (ix x<=MX)&&decide (tm x<=MX)&&qW (ix x) (tm x) r
def okB(i t:Int):Bool:=decide (0<=i)&&decide (i<=MX)&&decide (0<=t)&&decide (t<=MX)
def gn(i t:Int)(l:Tah):Bool:=okB i t&&qW i t l
def eJ:Int->Tah->Int
 |t,[]=>t
 |_,x::r=>eJ (tm x) r
def jL{i t:Int}:okB i t=true↔0<=i/\i<=MX/\0<=t/\t<=MX:=by simp[okB,and_assoc]
def im{i t:Int}{x:D}{r:Tah}:qW i t (x::r)=true↔ix x=i+1/\t<=tm x/\ix x<=MX/\tm x<=MX/\qW (ix x) (tm x) r=true:=by simp[qW,and_assoc]
def lT:∀{a b:Tah} {i t:Int},qW i t (a++b)=true↔qW i t a=true/\qW (i+a.length) (eJ t a) b=true
 |[],b,i,t=>by simp[qW,eJ]
 |x::a,b,i,t=>by
  rw[eE,im,im,lT (a:=a)];constructor
  .rintro⟨h,g,f,e,d,c⟩;refine⟨⟨h,g,f,e,d⟩,?_⟩;simp only[eJ,bu];rw[show i+((a.length+1:Nat):Int)=ix x+a.length by omega];exact c
  rintro⟨⟨h,g,f,e,d⟩,c⟩;refine⟨h,g,f,e,d,?_⟩;simp only[eJ,bu]at c;rw[show i+((a.length+1:Nat):Int)=ix x+a.length by omega]at c;exact c
def lj:∀{a b:Tah} {t:Int},eJ t (a++b)=eJ (eJ t a) b
 |[],_,_=>rfl
 |x::a,b,t=>by simp only[eE,eJ,lj (a:=a)]
def tF:∀{l:Tah} {t:Int} {x:D},l[l.length-1]?=some x->eJ t l=tm x
 |[],t,x,h=>by simp at h
 | [y],t,x,h=>by simp at h;subst h;rfl
 |y::z::r,t,x,h=>by have:=tF (l:=z::r) (t:=tm y) (x:=x) (by simpa using h);simpa [eJ]using this
def H0{l:Tah}{i t:Int}{n:Nat}{x:D}(h:qW i t l=true)(d:l[n]?=some x):ix x=i+n+1/\eJ t (l.take n)<=tm x/\ix x<=MX/\tm x<=MX:=by
 have c:=(aD.1 d).1
 have e:l=l.take n++x::l.drop (n+1):=by have a:=bJ c;rw[(aD.1 d).2]at a;rw[<-a,dE]
 rw[e,lT,im]at h;obtain⟨_,a,k,j,g,_⟩:=h;have f:(l.take n).length=n:=by simp;omega
 rw[f]at a;exact⟨a,k,j,g⟩
def IF{l:Tah}{t:Int}{n:Nat}{x:D}(a:l[n]?=some x):eJ t (l.take (n+1))=tm x:=by rw[ca,a,dQ,lj];rfl
def vJ{l:Tah}{i t:Int}(n:Nat)(h:qW i t l=true):qW i t (l.take n)=true:=by rw[<-dE n l,lT]at h;exact h.1
def Eh{l:Tah}{i t:Int}(n:Nat)(a:n<=l.length)(h:qW i t l=true):qW (i+n) (eJ t (l.take n)) (l.drop n)=true:=by
 rw[<-dE n l,lT]at h;have:=h.2
 rwa [aO,Nat.min_eq_left a]at this
def FU:∀{l:Tah} {i t:Int},qW i t l=true->t<=eJ t l
 |[],_,_,_=>aJ _
 |x::r,i,t,h=>by obtain⟨_,c,_,_,a⟩:=im.1 h;have:=FU a;simp only[eJ];omega
def FT:∀{l:Tah} {i t:Int},t<=MX->qW i t l=true->eJ t l<=MX
 |[],_,_,h,_=>h
 |x::r,i,t,_,h=>by obtain⟨_,_,_,c,a⟩:=im.1 h;exact FT (l:=r) c a
def uE:∀{l:Tah} {i t:Int},i<=MX->qW i t l=true->i+l.length<=MX
 |[],i,_,h,_=>by simpa using h
 |x::r,i,t,_,h=>by obtain⟨d,_,c,_,a⟩:=im.1 h;have:=uE c a;simp only[bu];omega
def eS{i t:Int}{l:Tah}:gn i t l=true↔(0<=i/\i<=MX/\0<=t/\t<=MX)/\qW i t l=true:=by simp[gn,jL]
def gA(i t:Int)(l:Tah)(k:Int):Int×Int:=
 if k<i then(0,23) else if k=i then(t,0) else match l[(k-i-1).toNat]? with
  |some x=>(tm x,0)
  |none=>(0,3)
def fG(i:Int)(l:Tah)(f m:Int):Tah:=if m<1\/f<=i then [] else(l.drop (f-i-1).toNat).take m.toNat
def HQ(i t:Int)(l:Tah)(a term:Int):Bool:=decide (term>eJ t l)||(decide (term=eJ t l)&&decide (a≥i+l.length))
def oh:D:=.agg [.int i64 0,.int i64 0,.int i64 0,.int i64 0,.int i64 0,.int i64 0,.int i64 0,.int i64 0,.int i64 0,.list [],.int i64 0,.bool false,.int i64 0,.int i64 0,.int i64 0,.bool false,.bool false,.int i64 0,.int i64 0,.int i64 0,.list [],.int i64 0,.int i64 0,.int i64 0,.list [],.list [],.bool false,.list [],.list []]
def wT(i t:Int)(l:Tah)(term:Int)(a:D):D:=.agg (.int i64 (i+l.length+1):: .int i64 term::a.V)
def nq(i t:Int)(l:Tah)(term:Int):Int:=if term<eJ t l\/term<1\/MX<term then 1 else if MX<=i+l.length then 2 else 0
def ui(i t:Int)(l:Tah)(term:Int)(a:D):D:=if nq i t l term=0 then wT i t l term a else oh
def pb(i t:Int)(l:Tah)(term:Int)(a:D):Tah:=if nq i t l term=0 then l++[wT i t l term a] else l
def z6(i:Int)(l:Tah)(k:Int):Int:=if i+l.length<k then 3 else 0
def jR(i t:Int)(l:Tah)(k:Int):Int×Int×Tah:=if i+l.length<k\/k<=i then(i,t,l) else(k,(gA i t l k).1,l.drop (k-i).toNat)
def wV(i t:Int)(l:Tah)(x:D):Bool:=(gA i t l (ix x)).2==0&&(gA i t l (ix x)).1==tm x
def qZ(i t:Int)(l:Tah):Tah->Int×Tah
 |[]=>(0,l)
 |x::r=>if wV i t l x then qZ i t l r else(ix x,l.take (ix x-i-1).toNat++x::r)
def jt(i t:Int)(l:Tah)(pi pt:Int)(es:Tah):Bool:=gn pi pt es&&(gA i t l pi).2==0&&(gA i t l pi).1==pt
def iv(i t:Int)(l:Tah)(pi pt:Int)(es:Tah):Int×Tah:=if jt i t l pi pt es then qZ i t l es else(0,l)
def kZ{i t:Int}{l:Tah}{k:Int}(h:(gA i t l k).2=0):i<=k/\k<=i+l.length/\(gA i t l k).1=eJ t (l.take (k-i).toNat):=by
 unfold gA at h⊢;split at h
 .simp at h
 split at h
 .rename_i d c;subst c;rw[if_neg (by omega),if_pos rfl];exact⟨by omega,by omega,by simp[eJ]⟩
 rename_i d c;split at h
 .rename_i x a;have e:=(aD.1 a).1;rw[if_neg d,if_neg c];refine⟨by omega,by omega,?_⟩;simp only[a];rw[show(k-i).toNat=(k-i-1).toNat+1 by omega,IF a]
 simp at h
def Kg{i t:Int}{l:Tah}(d:qW i t l=true):∀{es:Tah} {n:Nat},n<=l.length->qW (i+n) (eJ t (l.take n)) es=true->qW i t (qZ i t l es).2=true/\(qZ i t l es).2.length<=l.length+es.length/\
  (∀x r,es=x::r->wV i t l x=false->ix x-i-1=n)
 |[],n,hn,h=>⟨d,by simp[qZ],by simp⟩
 |x::r,n,hn,h=>by
  obtain⟨A,z,u,q,m⟩:=im.1 h;refine⟨?_,?_,fun y s e _=>by injection e with f B;subst f;omega⟩
  all_goals
   unfold qZ;by_cases a:wV i t l x=true
   .rw[if_pos a];simp only[wV,aP,beq_iff_eq]at a;obtain⟨p,o,g⟩:=kZ a.1;have c:n+1<=l.length:=by omega
    have f:(ix x-i).toNat=n+1:=by omega
    rw[f]at g
    have k:qW (i+((n+1:Nat):Int)) (eJ t (l.take (n+1))) r=true:=by rw[<-g,a.2,show i+((n+1:Nat):Int)=ix x by omega];exact m
    have j:=Kg d c k
    first
    |exact j.1
    |(simp only[bu];have:=j.2.1;omega)
   rw[if_neg a];have e:(ix x-i-1).toNat=n:=by omega
   rw[e]
   first
   |(rw[lT,aO,Nat.min_eq_left hn];exact⟨vJ n d,h⟩)
   |(simp only[ah,aO,bu];omega)
def Ga{i t:Int}{l:Tah}{s:Nat}{x:D}{r:Tah}(hs:s<=l.length)(h:qW (i+s) (eJ t (l.take s)) (x::r)=true)(a:wV i t l x=true):s+1<=l.length/\qW (i+((s+1:Nat):Int)) (eJ t (l.take (s+1))) r=true:=by
 obtain⟨n,m,k,j,d⟩:=im.1 h;simp only[wV,aP,beq_iff_eq]at a;obtain⟨g,f,c⟩:=kZ a.1;have e:(ix x-i).toNat=s+1:=by omega
 rw[e]at c;refine⟨by omega,?_⟩;rw[<-c,a.2,show i+((s+1:Nat):Int)=ix x by omega];exact d
def AJ(i t:Int)(l es:Tah)(xs:Tah):Prop:=∃n s:Nat,xs=[.int i64 0,.bool false,.int i64 n,.int i64 i,.int i64 t,.list l]/\n<=es.length/\s<=l.length/\qW (i+s) (eJ t (l.take s)) (es.drop n)=true/\qZ i t l (es.drop n)=qZ i t l es
def RZ{x:D}(h:Has zR x): [x.V[0]?.getD .top,x.V[1]?.getD .top,x.V[2]?.getD .top,x.V[3]?.getD .top,x.V[4]?.getD .top,x.V[5]?.getD .top,x.V[6]?.getD .top,x.V[7]?.getD .top,x.V[8]?.getD .top,x.V[9]?.getD .top,x.V[10]?.getD .top,x.V[11]?.getD .top,x.V[12]?.getD .top,x.V[13]?.getD .top,x.V[14]?.getD .top,x.V[15]?.getD .top,x.V[16]?.getD .top,x.V[17]?.getD .top,x.V[18]?.getD .top,x.V[19]?.getD .top,x.V[20]?.getD .top,x.V[21]?.getD .top,x.V[22]?.getD .top,x.V[23]?.getD .top,x.V[24]?.getD .top,x.V[25]?.getD .top,x.V[26]?.getD .top]=x.V:=by obtain⟨_,rfl,_,_,rfl,_,_,_,rfl,_,_,_,rfl,_,_,_,rfl,_,_,_,rfl,_,_,_,rfl,_,_,_,rfl,_,_,_,rfl,_,_,_,rfl,_,_,_,rfl,_,_,_,rfl,_,_,_,rfl,_,_,_,rfl,_,_,_,rfl,_,_,_,rfl,_,_,_,rfl,_,_,_,rfl,_,_,_,rfl,_,_,_,rfl,_,_,_,rfl,_,_,_,rfl,_,_,_,rfl,_,_,_,rfl,_,_,_,rfl,_,_,_,rfl,_,_,_,rfl,_,_,_,rfl,_,rfl⟩:=h;rfl
def nT:eD.bytes=320:=by kernel_rfl
def FM{a:Type}(l:List a)(k:Nat)(xs:Tah):Nat:=l.length-(I (.list xs) k).toNat
def MJ(i t:Int)(l:Tah)(xs:Tah):Prop:=∃(n:Nat) (j u:Int),xs=[.bool false,.int i64 j,.int i64 u,.int i64 n]/\n<=l.length/\okB j u=true/\qW j u (l.drop n)=qW i t l
def nY(n lo a:Int):Bool:=decide (lo<=n)&&decide (n<=a)
def rb(i t:Int)(l:Tah):D:=.agg [.int i64 i,.int i64 t,.list l]
def DV{x:D}(h:Has eD x):x.V[0]?.getD .top=.int i64 (ix x)/\x.V[1]?.getD .top=.int i64 (tm x)/\kL i64 (ix x)/\kL i64 (tm x):=by obtain⟨_,rfl,_,_,rfl,⟨i,rfl,c⟩,_,_,rfl,⟨t,rfl,a⟩,_⟩:=h;exact⟨rfl,rfl,c,a⟩
def tq{i f m:Int}{l:Tah}:(fG i l f m).length<=l.length:=by
 unfold fG;split
 .simp
 simp;omega
def O5{i t:Int}{l:Tah}{k:Int}(c:i<=k)(a:k<=i+l.length):(gA i t l k).2=0:=by
 unfold gA;rw[if_neg (by omega)];split
 .rfl
 have:(k-i-1).toNat<l.length:=by omega
 rw[aR this]
def Pg{i t:Int}{l:Tah}{m:Int}{c:D}(h:gn i t l=true):gn i t (pb i t l m c)=true/\(pb i t l m c).length<=l.length+1:=by
 obtain⟨d,e⟩:=eS.1 h;unfold pb;split
 .rename_i a;unfold nq at a;split at a
  .simp at a
  split at a
  .simp at a
  refine⟨eS.2 ⟨d,?_⟩,by simp⟩;rw[lT];refine⟨e,im.2 ⟨rfl,?_,?_,?_,rfl⟩⟩
  .show eJ t l<=m;omega
  .show i+l.length+1<=MX;omega
  show m<=MX;omega
 exact⟨h,by omega⟩
def LK{i t:Int}{l:Tah}{k:Int}(h:gn i t l=true):gn (jR i t l k).1 (jR i t l k).2.1 (jR i t l k).2.2=true/\(jR i t l k).2.2.length<=l.length:=by
 obtain⟨⟨m,d,j,k4⟩,a⟩:=eS.1 h;have e:=uE d a;unfold jR;split
 .exact⟨h,aM _⟩
 rename_i n;obtain⟨g,f,c⟩:=kZ (O5 (i:=i) (t:=t) (l:=l) (k:=k) (by omega) (by omega));refine⟨eS.2 ⟨⟨by omega,by omega,?_,?_⟩,?_⟩,by simp⟩
 .show 0<=(gA i t l k).1;rw[c];have:=FU (vJ (k-i).toNat a);omega
 .show(gA i t l k).1<=MX;rw[c];exact FT k4 (vJ _ a)
 show qW k (gA i t l k).1 (l.drop (k-i).toNat)=true;rw[c];have:=Eh (k-i).toNat (by omega) a
 rwa [show i+(((k-i).toNat:Nat):Int)=k by omega]at this
def P4{i t:Int}{l:Tah}{pi pt:Int}{es:Tah}(h:gn i t l=true):gn i t (iv i t l pi pt es).2=true/\(iv i t l pi pt es).2.length<=l.length+es.length:=by
 obtain⟨e,f⟩:=eS.1 h;unfold iv;split
 .rename_i c;simp only[jt,aP,beq_iff_eq]at c;obtain⟨⟨k,j⟩,g⟩:=c;obtain⟨o,m,d⟩:=kZ j;obtain⟨_,a⟩:=eS.1 k;have:=Kg f (es:=es) (n:=(pi-i).toNat) (by omega) (by rw[<-d,g,show i+(((pi-i).toNat:Nat):Int)=pi by omega];exact a);exact⟨eS.2 ⟨e,this.1⟩,this.2.1⟩
 exact⟨h,by simp⟩
def KM{l:Tah}{k:Int}(a:0<k):gA 0 0 l k=match l[(k-1).toNat]? with|some x=>(tm x,0)|none=>(0,3):=by unfold gA;rw[if_neg (by omega),if_neg (by omega),show k-0-1=k-1 by omega]
def Fv{Φ:Tab}{Pre:Taa}{R:D->Prop}{ρ:Nat->D}{a:List (Tah->Prop)}{w:Nat}:(VC.stuck w).holds Φ Pre R ρ a=False:=rfl
def cD(j:Nat)(d:D):D:=d.V.getD j .top
def lkD:List (Nat×D)->Nat->Tap D
 |[],_=>none
 |(k,v)::r,j=>if k=j then some v else lkD r j
def aE(n:Nat)(b:D)(l:List (Nat×D)):D:=.agg ((List.range n).map fun j=>match lkD l j with|some d=>d|none=>cD j b)
def jy(x y:Int):Int:=if y<x then y else x
def pI(x y:Int):Int:=if y>x then y else x
def Kz:D:=.agg [.int i64 0,.int i64 0,.int i64 0,.int i64 0,.int i64 0,.int i64 0,.int i64 0,.list [],.int i64 0,.bool false,.int i64 0,.int i64 0,.int i64 0,.bool false,.bool false,.int i64 0,.int i64 0,.int i64 0,.list [],.int i64 0,.int i64 0,.int i64 0,.list [],.list [],.bool false,.list [],.list []]
def nr:D:=.agg [.int i64 0,.int i64 0,.int i64 0,.int i64 0,.int i64 0,.int i64 0,.int i64 0,.bool false,.int i64 0,.int i64 0,.int i64 0,.int i64 0,.list [],.list [],.list [],.list [],.int i64 0,.int i64 0,.int i64 0,.int i64 0,.int i64 0,.int i64 0,.int i64 0,.list [],.int i64 0,.bool false,.int i64 0,.int i64 0,.int i64 0,.bool false,.bool false,.int i64 0,.int i64 0,.int i64 0,.list [],.int i64 0,.int i64 0,.int i64 0,.list [],.list [],.bool false,.list [],.list [],.int i64 0,.int i64 0,.list []]
@[ext] structure RS where
 save:Bool
 MT:Int
 MS:Int
 dB:Tah
 il:D
 msgs:Tah
 aW:Tah
 rF:Tah
 id:Int
 fv:Tah
 fl:Tah
 term:Int
 vote:Int
 wR:Int
 vi:Int
 sv:Tah
 sl:Tah
 iI:Tah
 bH:Int
 role:Int
 br:Int
 wait:Int
 end_ : Int
 aT:Tah
 Ki:Int
 Dn:Int
 I3:Int
 EU:Int
 BM:Int
 I2:Int
 uZ:Int
 rl:Int
 Dm:Int
 uY:Int
 rk:Int
 Dl:Int
 uX:Int
 rh:Int
 Dk:Int
 uW:Int
 rf:Int
 Dj:Int
 round:Int
 reads:Tah
 pJ:Int
 ru:Int
 nI:Int
 zI:Int
 nH:Int
 fK:Tah
 li:Int
 lt:Int
 le:Tah
def cR(s:RS):Tah:=[.bool s.save,.int i64 s.MT,.int i64 s.MS,.list s.dB,s.il,.list s.msgs,.list s.aW,.list s.rF,.int i64 s.id,.list s.fv,.list s.fl,.int i64 s.term,.int i64 s.vote,.ptr [],.int i64 s.wR,.int i64 s.vi,.list s.sv,.list s.sl,.list s.iI,.int i64 s.bH,.int i64 s.role,.int i64 s.br,.int i64 s.wait,.int i64 s.end_,.list s.aT,.int i64 s.Ki,.int i64 s.Dn,.int i64 s.I3,.int i64 s.EU,.int i64 s.BM,.int i64 s.I2,.int i64 s.uZ,.int i64 s.rl,.int i64 s.Dm,.int i64 s.uY,.int i64 s.rk,.int i64 s.Dl,.int i64 s.uX,.int i64 s.rh,.int i64 s.Dk,.int i64 s.uW,.int i64 s.rf,.int i64 s.Dj,.int i64 s.round,.list s.reads,.int i64 s.pJ,.int i64 s.ru,.int i64 s.nI,.int i64 s.zI,.int i64 s.nH,.list s.fK]
def cL(s:RS):Tah:=[.int i64 s.li,.int i64 s.lt,.list s.le]
def encS(s:RS):Tah:=cR s++cL s
def Dv(s:RS):D:=.ptr [.bool s.save,.int i64 s.MT,.int i64 s.MS,.list s.dB,s.il,.list s.msgs,.list s.aW,.list s.rF,.int i64 s.id,.list s.fv,.list s.fl,.int i64 s.term,.int i64 s.vote,.ptr (cL s),.int i64 s.wR,.int i64 s.vi,.list s.sv,.list s.sl,.list s.iI,.int i64 s.bH,.int i64 s.role,.int i64 s.br,.int i64 s.wait,.int i64 s.end_,.list s.aT,.int i64 s.Ki,.int i64 s.Dn,.int i64 s.I3,.int i64 s.EU,.int i64 s.BM,.int i64 s.I2,.int i64 s.uZ,.int i64 s.rl,.int i64 s.Dm,.int i64 s.uY,.int i64 s.rk,.int i64 s.Dl,.int i64 s.uX,.int i64 s.rh,.int i64 s.Dk,.int i64 s.uW,.int i64 s.rf,.int i64 s.Dj,.int i64 s.round,.list s.reads,.int i64 s.pJ,.int i64 s.ru,.int i64 s.nI,.int i64 s.zI,.int i64 s.nH,.list s.fK]
def hP(l:Tah):RS:=⟨(l.getD 0 .top).Z,(l.getD 1 .top).J,(l.getD 2 .top).J,(l.getD 3 .top).V,(l.getD 4 .top),(l.getD 5 .top).V,(l.getD 6 .top).V,(l.getD 7 .top).V,(l.getD 8 .top).J,(l.getD 9 .top).V,(l.getD 10 .top).V,(l.getD 11 .top).J,(l.getD 12 .top).J,(l.getD 14 .top).J,(l.getD 15 .top).J,(l.getD 16 .top).V,(l.getD 17 .top).V,(l.getD 18 .top).V,(l.getD 19 .top).J,(l.getD 20 .top).J,(l.getD 21 .top).J,(l.getD 22 .top).J,(l.getD 23 .top).J,(l.getD 24 .top).V,(l.getD 25 .top).J,(l.getD 26 .top).J,(l.getD 27 .top).J,(l.getD 28 .top).J,(l.getD 29 .top).J,(l.getD 30 .top).J,(l.getD 31 .top).J,(l.getD 32 .top).J,(l.getD 33 .top).J,(l.getD 34 .top).J,(l.getD 35 .top).J,(l.getD 36 .top).J,(l.getD 37 .top).J,(l.getD 38 .top).J,(l.getD 39 .top).J,(l.getD 40 .top).J,(l.getD 41 .top).J,(l.getD 42 .top).J,(l.getD 43 .top).J,(l.getD 44 .top).V,(l.getD 45 .top).J,(l.getD 46 .top).J,(l.getD 47 .top).J,(l.getD 48 .top).J,(l.getD 49 .top).J,(l.getD 50 .top).V,(l.getD 51 .top).J,(l.getD 52 .top).J,(l.getD 53 .top).V⟩
def pf(d:D):RS:=
 let l:=d.V;let g:=(l.getD 13 .top).V
 ⟨(l.getD 0 .top).Z,(l.getD 1 .top).J,(l.getD 2 .top).J,(l.getD 3 .top).V,(l.getD 4 .top),(l.getD 5 .top).V,(l.getD 6 .top).V,(l.getD 7 .top).V,(l.getD 8 .top).J,(l.getD 9 .top).V,(l.getD 10 .top).V,(l.getD 11 .top).J,(l.getD 12 .top).J,(l.getD 14 .top).J,(l.getD 15 .top).J,(l.getD 16 .top).V,(l.getD 17 .top).V,(l.getD 18 .top).V,(l.getD 19 .top).J,(l.getD 20 .top).J,(l.getD 21 .top).J,(l.getD 22 .top).J,(l.getD 23 .top).J,(l.getD 24 .top).V,(l.getD 25 .top).J,(l.getD 26 .top).J,(l.getD 27 .top).J,(l.getD 28 .top).J,(l.getD 29 .top).J,(l.getD 30 .top).J,(l.getD 31 .top).J,(l.getD 32 .top).J,(l.getD 33 .top).J,(l.getD 34 .top).J,(l.getD 35 .top).J,(l.getD 36 .top).J,(l.getD 37 .top).J,(l.getD 38 .top).J,(l.getD 39 .top).J,(l.getD 40 .top).J,(l.getD 41 .top).J,(l.getD 42 .top).J,(l.getD 43 .top).J,(l.getD 44 .top).V,(l.getD 45 .top).J,(l.getD 46 .top).J,(l.getD 47 .top).J,(l.getD 48 .top).J,(l.getD 49 .top).J,(l.getD 50 .top).V,(g.getD 0 .top).J,(g.getD 1 .top).J,(g.getD 2 .top).V⟩
def dK:RS:=⟨false,0,0,[],.top,[],[],[],0,[],[],0,0,0,0,[],[],[],0,0,0,0,0,[],0,0,0,0,0,0,0,0,0,0,0,0,0,0,0,0,0,0,0,[],0,0,0,0,0,[],0,0,[]⟩
def ij(s:RS):D:=.fa [.fa [],.agg (cR s),.agg (cL s)]
def JB(x:Bool×RS):D:=.fa [.bool x.1,.agg (cR x.2),.agg (cL x.2)]
def E9(x:D×RS):D:=.fa [x.1,.agg (cR x.2),.agg (cL x.2)]
def JA(x:(D×Int)×RS):D:=.fa [.fa [x.1.1,.int i64 x.1.2],.agg (cR x.2),.agg (cL x.2)]
def DW(x:(D×Int×D)×RS):D:=.fa [.fa [x.1.1,.int i64 x.1.2.1,x.1.2.2],.agg (cR x.2),.agg (cL x.2)]
def Mk(d:D):RS:=hP ((cD 1 d).V++(cD 2 d).V)
def oi(d:D):RS:=Mk d
def T9(d:D):Bool×RS:=((cD 0 d).Z,Mk d)
def Qz(d:D):D×RS:=(cD 0 d,Mk d)
def adL(d:D):(D×Int)×RS:=((cD 0 (cD 0 d),(cD 1 (cD 0 d)).J),Mk d)
def OY(d:D):(D×Int×D)×RS:=((cD 0 (cD 0 d),(cD 1 (cD 0 d)).J,cD 2 (cD 0 d)),Mk d)
def Hc(s:RS):Tah:=(cR s).take 13++((cR s).drop 14++cL s)
def qY(l:Tah):RS:=hP (l.take 13++ .top::l.drop 13)
def gp(a:D):Bool:=zN (vo a) (lr a)
def jo(a:D)(b:Int):Bool:=decide (b∈vo a)
def iP(a:D):Tah:=(Je (vo a) (lr a)).map (D.int i64)
def lO(a b:D):Bool:=Ha (vo a) (iM b)
def mR(a b:D):Int:=Ds (vo a) (iM b) (iM b).length
def zv(a b:D):Bool:=G8 (vo a) (lr a) (vo b) (lr b)
def pv(x:D):Bool:=(cD 2 x).J==2
def SE(x:D):D:=.agg [cD 27 x,cD 28 x]
def eF(l:Tah):Bool:= !(l.any fun x=>pv x&& !gp (SE x))
def qv(a:D):D:=a
def Wt(a:D):D:=.agg [cD 0 a,cD 1 a,cD 2 a,cD 3 a,cD 4 a]
def xG(l:Tah)(b:Int):Bool:=decide (b∈l.map D.J)
def wY(f:D)(x:D):Bool:=match f with
 |.fn k _=>if k=84 then pv x else pv x&& !gp (SE x)
 |_=>false
def mw(l:Tah)(f:D):Bool:=l.any (wY f)
def lE(i t:Int):D:=if okB i t=true/\(i=0↔t=0) then .fa [.fa [],rb i t []] else .fa [.gv]
def QN:Tah->D
 | [.ptr c,f,m]=>.list (fG (c.getD 0 .top).J (c.getD 2 .top).V f.J m.J)
 | [f,m,i,t,l]=>.fa [.list (fG i.J l.V f.J m.J),rb i.J t.J l.V]
 |_=>.top
def agn:Tah->Prop
 | [.ptr c,_,_]=>okB (c.getD 0 .top).J (c.getD 1 .top).J=true
 | [_,_,i,t,_]=>okB i.J t.J=true
 |_=>False
def KB(a b:D):Bool:=((((((decide (vo (.agg [cD 25 a,cD 26 a])=vo (.agg [cD 25 b,cD 26 b]))&&decide (lr (.agg [cD 25 a,cD 26 a])=lr (.agg [cD 25 b,cD 26 b])))&&((cD 0 a).J==(cD 0 b).J))&&((cD 1 a).J==(cD 1 b).J))&&((cD 2 a).J==(cD 2 b).J))&&((cD 3 a).J==(cD 3 b).J))&&((cD 8 a).J==(cD 8 b).J))
def Ch(a b:Int):Int:=if a<0 then(i64.wrap (0-(i64.wrap (a+1)))).tmod b else a.tmod b
def jZ(i t:Int)(_:Tah):Int×Int:=(i,t)
def fW(i t:Int)(l:Tah):Int×Int:=(i+l.length,eJ t l)
def ny(i t:Int)(l:Tah)(k:Int):Int×Int:=gA i t l k
def HU(i t:Int)(l:Tah)(a b:Int):Bool:=HQ i t l a b
def fi(i t:Int)(l:Tah)(f m:Int):Tah:=fG i l f m
def Qu(i t:Int)(l:Tah)(term:Int)(c:D):(D×Int)×Int×Int×Tah:=((ui i t l term c,nq i t l term),i,t,pb i t l term c)
def oK(i t:Int)(l:Tah)(a b:Int)(es:Tah):(Int×Bool)×Int×Int×Tah:=(((iv i t l a b es).1,jt i t l a b es),i,t,(iv i t l a b es).2)
def pP(i t:Int)(l:Tah)(k:Int):Int×Int×Int×Tah:=(z6 i l k,jR i t l k)
def gI(s:RS):RS:=
 ({s with save:=true}:RS)
def nN(s:RS)(d:Int×Int):D:=
 if decide (d.1>0) then(
  let a:=(qv (D.agg [D.list s.sv,D.list s.sl]))
  aE 2 a [])
 else(
  let c:=(qv (D.agg [D.list s.fv,D.list s.fl]))
  aE 2 c [])
def nL(s:RS)(g:Int×Int)(c:Int)(f:Tah)(e:Tah):(Int×Tah×Tah)⊕(D):=
 if decide (c>g.1) then(
  let a:=(fi s.li s.lt s.le c 1)
  if((((a:Tah).length:Int)==1)&&(((cD 2 ((a).getD (0:Int).toNat .top)).J)==2)) then(
   let d:=(qv (D.agg ((((a).getD (0:Int).toNat .top).V.drop 27).take 2)))
   .inr (aE 2 d []))
  else(
   .inl ((i64.wrap (c-1)),f,e)))
 else .inr (nN s g)
def AK(s:RS)(c:Int×Int)(a:Int)(e:Tah)(d:Tah):Nat:=(a-c.1).toNat
def rP(s:RS)(f:Int×Int)(e:Int)(d:Tah)(c:Tah):D:=gY (fun a:Int×Tah×Tah=>nL s f a.1 a.2.1 a.2.2) .top (AK s f e d c+1) (e,d,c)
def xS(x:Int)(s:RS):D:=
 let a:=(jZ s.li s.lt s.le)
 rP s a x [] []
def dU(s:RS):D:=
 let c:=(fW s.li s.lt s.le);let a:=(xS c.1 s)
 aE 2 a []
def K0(a:Tah):Tah:=
 a
def tw(s:RS)(c:Tah)(d:Tah)(a:Int):(Tah×Int)⊕(Tah):=
 if decide (a<((c:Tah).length:Int)) then(
  if(((((c).getD (a:Int).toNat .top)).J) !=s.id) then(
   .inl ((d++([((c).getD (a:Int).toNat .top)]:Tah)),(i64.wrap (a+1))))
  else(
   .inl (d,(i64.wrap (a+1)))))
 else .inr (K0 d)
def CN(s:RS)(a:Tah)(d:Tah)(c:Int):Nat:=a.length-c.toNat
def tz(s:RS)(c:Tah)(e:Tah)(d:Int):Tah:=gY (fun a:Tah×Int=>tw s c a.1 a.2) [] (CN s c e d+1) (e,d)
def gq(x:D)(s:RS):Tah:=
 let a:=(iP (aE 2 x []))
 tz s a [] 0
def jv(x:Int)(s:RS):Bool:=
 let d:=(dU s);let c:=(iP (aE 2 d []));let a:=(xG c x)
 a
def Ev:Bool:=
 false
def mU(c:Tah)(d:Bool)(a:Int):(Bool×Int)⊕(Bool):=
 if decide (a<((c:Tah).length:Int)) then(
  if(((cD 2 ((c).getD (a:Int).toNat .top)).J)==2) then(
   .inr (true))
  else(
   .inl (d,(i64.wrap (a+1)))))
 else .inr (Ev)
def qG(a:Tah)(d:Bool)(c:Int):Nat:=a.length-c.toNat
def mV(c:Tah)(e:Bool)(d:Int):Bool:=gY (fun a:Bool×Int=>mU c a.1 a.2) false (qG c e d+1) (e,d)
def mZ(s:RS):Bool:=
 let c:=(fW s.li s.lt s.le);let a:=(fi s.li s.lt s.le (i64.wrap (s.bH+1)) (i64.wrap (c.1-s.bH)))
 mV a false 0
def pO(s:RS):Bool:=
 let a:=(ny s.li s.lt s.le s.bH)
 ((a.2==0)&&(a.1==s.term))
def yO(x:D)(s:RS):Int:=
 if(s.role !=2) then(
  20)
 else(
  if((cD 0 x).J==1) then(
   1)
  else(
   if((cD 0 x).J !=2) then(
    0)
   else(
    let e:=(pO s);let d:=(mZ s)
    if((!e)||d) then(
     21)
    else(
     let c:=(dU s);let a:=(zv (aE 2 c []) (D.agg [(cD 25 x),(cD 26 x)]))
     if(!a) then(
      22)
     else(
      0)))))
def JN(s:RS):D:=
 let d:=(jZ s.li s.lt s.le);let c:=(fW s.li s.lt s.le);let a:=(dU s)
 D.agg [D.int i64 s.role,D.int i64 s.br,(cD 0 (D.agg [D.int i64 s.term,D.int i64 s.vote])),(cD 1 (D.agg [D.int i64 s.term,D.int i64 s.vote])),D.int i64 s.bH,D.int i64 c.1,D.int i64 d.1,(cD 0 a),(cD 1 a)]
def ib(s:RS):RS:=
 ({s with wait:=0,end_:=0}:RS)
def gH(x:D)(s:RS):RS:=
 ({s with msgs:=(s.msgs++([aE 46 x [(1,D.int i64 s.id),(3,D.int i64 s.term)]]:Tah))}:RS)
def fQ(x:Int)(y:Int)(s:RS):RS:=
 if decide (x>s.term) then(
  let Vb:=gI ({s with term:=x,vote:=0}:RS)
  ({Vb with role:=0,br:=y,aT:=[],reads:=[]}:RS))
 else(
  ({s with role:=0,br:=y,aT:=[],reads:=[]}:RS))
def bk(s:RS):D×RS:=
 (D.agg [D.bool s.save,D.int i64 s.term,D.int i64 s.vote,D.list s.dB,s.il,D.list s.msgs,D.list s.aW,D.list s.rF],({s with save:=false,MT:=0,MS:=0,dB:=[],il:=D.gv,msgs:=[],aW:=[],rF:=[]}:RS))
def oc(x:D)(s:RS):(D×Int)×RS:=
 let xM:=Qu s.li s.lt s.le s.term (aE 27 x [])
 if(xM.1.2==0) then(
  let a:=gI ({s with li:=xM.2.1,lt:=xM.2.2.1,le:=xM.2.2.2}:RS)
  ((aE 29 xM.1.1 [],xM.1.2),({a with dB:=(a.dB++([aE 29 xM.1.1 []]:Tah))}:RS)))
 else(
  ((aE 29 xM.1.1 [],xM.1.2),({s with li:=xM.2.1,lt:=xM.2.2.1,le:=xM.2.2.2}:RS)))
def L7(x n o:Int)(so s:RS):RS:=
 if decide (n<=(jZ s.li s.lt s.le).1) then
  gH (aE 46 nr [(0,D.int i64 5),(2,D.int i64 x),(4,D.int i64 s.wR),(5,D.int i64 s.vi),(9,D.int i64 o),(10,D.int i64 (s.iI.length:Int)),(13,.list s.sv),(14,.list s.sl),(15,D.list ((s.iI.take (jy (i64.wrap (o+256)) (s.iI.length:Int)).toNat).drop o.toNat))]) so
 else gH (aE 46 nr [(0,D.int i64 3),(2,D.int i64 x),(4,D.int i64 (i64.wrap (n-1))),(5,D.int i64 (ny s.li s.lt s.le (i64.wrap (n-1))).1),(6,D.int i64 s.bH),(8,D.int i64 s.round),(12,D.list (fi s.li s.lt s.le n 8))]) s
def ig(o:Int)(s:RS):Int:=jy (pI 0 o) (s.iI.length:Int)
def fx(x:Int)(s:RS):RS:=
 if(x==0) then L7 0 s.Dn (ig s.I3 s) {s with I3:=ig s.I3 s} s else if(x==1) then L7 1 s.BM (ig s.I2 s) {s with I2:=ig s.I2 s} s else if(x==2) then L7 2 s.rl (ig s.Dm s) {s with Dm:=ig s.Dm s} s else if(x==3) then L7 3 s.rk (ig s.Dl s) {s with Dl:=ig s.Dl s} s else if(x==4) then L7 4 s.rh (ig s.Dk s) {s with Dk:=ig s.Dk s} s else if(x==5) then L7 5 s.rf (ig s.Dj s) {s with Dj:=ig s.Dj s} s else dK
def gK(x:Int)(s:RS):Bool×RS:=
 if decide (x<=s.bH) then(
  (false,s))
 else(
  let a:=fi s.li s.lt s.le (i64.wrap (s.bH+1)) (i64.wrap (x-s.bH));let c:=(mw a (D.fn 84 []))
  (c,({s with aW:=(s.aW++a),bH:=x}:RS)))
def kC(s:RS)(k:Int×Int)(i:Tah):RS:=
 let j:=(dU s);let c:=(mR (aE 2 j []) (D.list ((i.take ((i64.wrap (s.id-1)):Int).toNat)++(D.int i64 k.1::((i.drop ((i64.wrap (s.id-1)):Int).toNat).drop (1:Int).toNat)))));let d:=(ny s.li s.lt s.le c)
 if(((decide (c<=s.bH))||(d.2 !=0))||(d.1 !=s.term)) then(
  s)
 else(
  let a:=gK c s;let f:=(dU a.2);let e:=(jo (aE 2 f []) a.2.id)
  if(a.1&&(!e)) then(
   let h:=fQ a.2.term 0 a.2;let g:=ib h
   g)
  else(
   a.2))
def lK(s:RS)(d:Int×Int)(c:Tah)(a:Int):(Tah×Int)⊕(RS):=
 if decide (a<((([D.int i64 0,D.int i64 0,D.int i64 0,D.int i64 0,D.int i64 0]:Tah):Tah).length:Int)) then(
  if(a==0) then(
   .inl (((c.take (0:Int).toNat)++(D.int i64 s.EU::((c.drop (0:Int).toNat).drop (1:Int).toNat))),(i64.wrap (a+1))))
  else(
   if(a==1) then(
    .inl (((c.take (1:Int).toNat)++(D.int i64 s.uZ::((c.drop (1:Int).toNat).drop (1:Int).toNat))),(i64.wrap (a+1))))
   else(
    if(a==2) then(
     .inl (((c.take (2:Int).toNat)++(D.int i64 s.uY::((c.drop (2:Int).toNat).drop (1:Int).toNat))),(i64.wrap (a+1))))
    else(
     if(a==3) then(
      .inl (((c.take (3:Int).toNat)++(D.int i64 s.uX::((c.drop (3:Int).toNat).drop (1:Int).toNat))),(i64.wrap (a+1))))
     else(
      if(a==4) then(
       .inl (((c.take (4:Int).toNat)++(D.int i64 s.uW::((c.drop (4:Int).toNat).drop (1:Int).toNat))),(i64.wrap (a+1))))
      else(
       .inr dK))))))
 else .inr (kC s d c)
def lL(s:RS)(c:Int×Int)(d:Tah)(a:Int):Nat:=5-a.toNat
def pW(s:RS)(c:Int×Int)(e:Tah)(d:Int):RS:=gY (fun a:Tah×Int=>lK s c a.1 a.2) dK (lL s c e d+1) (e,d)
def jn(s:RS):RS:=
 let a:=(fW s.li s.lt s.le)
 pW s a ([D.int i64 0,D.int i64 0,D.int i64 0,D.int i64 0,D.int i64 0]:Tah) 0
def KY(a:RS):RS:=
 let c:=jn a
 c
def xu(c:Tah)(a:Int)(d:RS):(Int×RS)⊕(RS):=
 if decide (a<((c:Tah).length:Int)) then(
  let e:=fx ((((c).getD (a:Int).toNat .top)).J) d
  .inl ((i64.wrap (a+1)),e))
 else .inr (KY d)
def CM(a:Tah)(c:Int)(d:RS):Nat:=a.length-c.toNat
def xw(c:Tah)(e:Int)(d:RS):RS:=gY (fun a:Int×RS=>xu c a.1 a.2) dK (CM c e d+1) (e,d)
def rO(e:RS):RS:=
 let a:=oc (aE 27 Kz [(0,D.int i64 1)]) e;let d:=(dU a.2);let c:=(gq (aE 2 d []) a.2)
 xw c 0 a.2
def rM(d:Int×Int)(a:Int)(c:RS):(Int×RS)⊕(RS):=
 if decide (a<6) then(
  if(a==0) then(
   .inl ((i64.wrap (a+1)),({c with Ki:=0,Dn:=(i64.wrap (d.1+1)),I3:=0}:RS)))
  else(
   if(a==1) then(
    .inl ((i64.wrap (a+1)),({c with EU:=0,BM:=(i64.wrap (d.1+1)),I2:=0}:RS)))
   else(
    if(a==2) then(
     .inl ((i64.wrap (a+1)),({c with uZ:=0,rl:=(i64.wrap (d.1+1)),Dm:=0}:RS)))
    else(
     if(a==3) then(
      .inl ((i64.wrap (a+1)),({c with uY:=0,rk:=(i64.wrap (d.1+1)),Dl:=0}:RS)))
     else(
      if(a==4) then(
       .inl ((i64.wrap (a+1)),({c with uX:=0,rh:=(i64.wrap (d.1+1)),Dk:=0}:RS)))
      else(
       if(a==5) then(
        .inl ((i64.wrap (a+1)),({c with uW:=0,rf:=(i64.wrap (d.1+1)),Dj:=0}:RS)))
       else(
        .inr dK)))))))
 else .inr (rO c)
def mr(c:Int×Int)(a:Int)(d:RS):Nat:=6-a.toNat
def rN(c:Int×Int)(e:Int)(d:RS):RS:=gY (fun a:Int×RS=>rM c a.1 a.2) dK (mr c e d+1) (e,d)
def xR(s:RS):RS:=
 let a:=(fW s.li s.lt s.le)
 rN a 0 ({s with role:=2,br:=s.id,wait:=0,round:=0,reads:=[]}:RS)
def Im(a:RS):RS:=
 a
def nR(x:D)(e:Int×Int)(c:Tah)(a:Int)(d:RS):(Int×RS)⊕(RS):=
 if decide (a<((c:Tah).length:Int)) then(
  let f:=(jo (aE 2 x []) ((((c).getD (a:Int).toNat .top)).J))
  if f then(
   let g:=gH (aE 46 nr [(0,D.int i64 1),(2,((c).getD (a:Int).toNat .top)),(4,D.int i64 e.1),(5,D.int i64 e.2)]) d
   .inl ((i64.wrap (a+1)),g))
  else(
   .inl ((i64.wrap (a+1)),d)))
 else .inr (Im d)
def Bm(x:D)(d:Int×Int)(a:Tah)(c:Int)(e:RS):Nat:=a.length-c.toNat
def lQ(x:D)(d:Int×Int)(c:Tah)(f:Int)(e:RS):RS:=gY (fun a:Int×RS=>nR x d c a.1 a.2) dK (Bm x d c f e+1) (f,e)
def lG(x:D)(s:RS):RS:=
 let qN:=gI ({s with term:=(i64.wrap (s.term+1)),vote:=s.id}:RS);let d:=(lO (aE 2 x []) (D.list ([D.int i64 qN.id]:Tah)))
 if d then(
  let e:=xR ({qN with role:=1,br:=0,aT:=([D.int i64 qN.id]:Tah)}:RS)
  e)
 else(
  let c:=(fW qN.li qN.lt qN.le);let a:=(gq (aE 2 x []) ({qN with role:=1,br:=0,aT:=([D.int i64 qN.id]:Tah)}:RS))
  lQ x c a 0 ({qN with role:=1,br:=0,aT:=([D.int i64 qN.id]:Tah)}:RS))
def qq(x:D)(s:RS):RS:=
 let a:=(fW s.li s.lt s.le)
 if((cD 0 x).J==1) then(
  let qN:=gH (aE 46 nr [(0,D.int i64 2),(2,(cD 1 x)),(7,D.bool true)]) s
  qN)
 else(
  if((cD 0 x).J==3) then(
   let np:=gH (aE 46 nr [(0,D.int i64 4),(2,(cD 1 x)),(4,D.int i64 a.1),(7,D.bool true)]) s
   np)
  else(
   if((cD 0 x).J==5) then(
    let c:=gH (aE 46 nr [(0,D.int i64 6),(2,(cD 1 x)),(4,(cD 4 x)),(7,D.bool true),(10,D.int i64 1)]) s
    c)
   else(
    s)))
def xP(x:D)(s:RS):RS:=
 let a:=(HU s.li s.lt s.le (cD 4 x).J (cD 5 x).J)
 if((((s.vote==0)||(s.vote==(cD 1 x).J))&&(s.role !=2))&&a) then(
  if(s.vote==0) then(
   let e:=gI ({s with vote:=(cD 1 x).J}:RS);let d:=ib e;let c:=gH (aE 46 nr [(0,D.int i64 2),(2,(cD 1 x)),(7,D.bool (!((((s.vote==0)||(s.vote==(cD 1 x).J))&&(s.role !=2))&&a)))]) d
   c)
  else(
   let g:=ib s;let f:=gH (aE 46 nr [(0,D.int i64 2),(2,(cD 1 x)),(7,D.bool (!((((s.vote==0)||(s.vote==(cD 1 x).J))&&(s.role !=2))&&a)))]) g
   f))
 else(
  let h:=gH (aE 46 nr [(0,D.int i64 2),(2,(cD 1 x)),(7,D.bool (!((((s.vote==0)||(s.vote==(cD 1 x).J))&&(s.role !=2))&&a)))]) s
  h)
def rE(x:D)(s:RS):RS:=
 if((s.role !=1)||(cD 7 x).Z) then(
  s)
 else(
  let c:=(dU ({s with aT:=(s.aT++([(cD 1 x)]:Tah))}:RS));let a:=(lO (aE 2 c []) (D.list (s.aT++([(cD 1 x)]:Tah))))
  if a then(
   let d:=xR ({s with aT:=(s.aT++([(cD 1 x)]:Tah))}:RS)
   d)
  else(
   ({s with aT:=(s.aT++([(cD 1 x)]:Tah))}:RS)))
def gJ(x:D)(s:RS):Bool×RS:=
 if(s.role==2) then(
  (false,s))
 else(
  let YW:=fQ s.term (cD 1 x).J s;let Vb:=ib YW
  (true,Vb))
def kW(x:D)(s:RS):RS:=
 let ln:=gJ (aE 46 x []) s
 if(!ln.1) then(
  ln.2)
 else(
  if decide ((cD 4 x).J<ln.2.bH) then(
   let np:=gH (aE 46 nr [(0,D.int i64 4),(2,(cD 1 x)),(4,D.int i64 ln.2.bH),(8,(cD 8 x))]) ln.2
   np)
  else(
   let np:=oK ln.2.li ln.2.lt ln.2.le (cD 4 x).J (cD 5 x).J (cD 12 x).V
   if(!np.1.2) then(
    let h:=(fW np.2.1 np.2.2.1 np.2.2.2);let g:=gH (aE 46 nr [(0,D.int i64 4),(2,(cD 1 x)),(4,D.int i64 (jy h.1 (i64.wrap ((cD 4 x).J-1)))),(7,D.bool true),(8,(cD 8 x))]) ({ln.2 with li:=np.2.1,lt:=np.2.2.1,le:=np.2.2.2}:RS)
    g)
   else(
    if decide (np.1.1>0) then(
     let a:=gI ({ln.2 with li:=np.2.1,lt:=np.2.2.1,le:=np.2.2.2}:RS);let c:=fi a.li a.lt a.le np.1.1 (i64.wrap ((cD 4 x).J+(((cD 12 x).V:Tah).length:Int)));let e:=gK (jy (cD 6 x).J (i64.wrap ((cD 4 x).J+(((cD 12 x).V:Tah).length:Int)))) ({a with dB:=c}:RS);let d:=gH (aE 46 nr [(0,D.int i64 4),(2,(cD 1 x)),(4,D.int i64 (i64.wrap ((cD 4 x).J+(((cD 12 x).V:Tah).length:Int)))),(8,(cD 8 x))]) e.2
     d)
    else(
     let i:=gK (jy (cD 6 x).J (i64.wrap ((cD 4 x).J+(((cD 12 x).V:Tah).length:Int)))) ({ln.2 with li:=np.2.1,lt:=np.2.2.1,le:=np.2.2.2}:RS);let f:=gH (aE 46 nr [(0,D.int i64 4),(2,(cD 1 x)),(4,D.int i64 (i64.wrap ((cD 4 x).J+(((cD 12 x).V:Tah).length:Int)))),(8,(cD 8 x))]) i.2
     f))))
def Et(c:Tah)(a:RS):RS:=
 ({a with reads:=c}:RS)
def jM(x:D)(s:RS)(f:D)(d:Tah)(a:Int)(c:RS):(Tah×Int×RS)⊕(RS):=
 if decide (a<(s.reads.length:Int)) then(
  if((decide ((cD 8 x).J≥((cD 2 ((s.reads).getD (a:Int).toNat .top)).J)))&&(decide ((cD 8 x).J<=c.round))) then(
   .inr dK)
  else(
   let e:=(lO (aE 2 f []) (cD 3 ((s.reads).getD (a:Int).toNat .top)))
   if e then(
    .inl (d,(i64.wrap (a+1)),({c with rF:=(c.rF++([aE 2 ((s.reads).getD (a:Int).toNat .top) []]:Tah))}:RS)))
   else(
    .inl ((d++([aE 4 ((s.reads).getD (a:Int).toNat .top) []]:Tah)),(i64.wrap (a+1)),c))))
 else .inr (Et d c)
def wB(x:D)(s:RS)(c:D)(e:Tah)(a:Int)(d:RS):Nat:=s.reads.length-a.toNat
def jN(x:D)(s:RS)(c:D)(f:Tah)(e:Int)(d:RS):RS:=gY (fun a:Tah×Int×RS=>jM x s c a.1 a.2.1 a.2.2) dK (wB x s c f e d+1) (f,e,d)
def gx(x:D)(s:RS):RS:=
 let a:=(dU s)
 jN x s a [] 0 s
def wK(m y l:Int):Int:=pI m (jy y l)
def wO(m n y l:Int):Int:=pI n (i64.wrap (wK m y l+1))
def L0(x l:Int)(q:RS->Int)(t:RS):RS:=let u:=jn t;if((u.role==2)&&(decide (q u<=l))) then fx x u else u
def mL(x:Int)(y:Int)(s:RS):RS:=
 let l:=(fW s.li s.lt s.le).1
 if(x==0) then L0 0 l RS.Dn {s with Ki:=wK s.Ki y l,Dn:=wO s.Ki s.Dn y l,I3:=0} else if(x==1) then L0 1 l RS.BM {s with EU:=wK s.EU y l,BM:=wO s.EU s.BM y l,I2:=0} else if(x==2) then L0 2 l RS.rl {s with uZ:=wK s.uZ y l,rl:=wO s.uZ s.rl y l,Dm:=0} else if(x==3) then L0 3 l RS.rk {s with uY:=wK s.uY y l,rk:=wO s.uY s.rk y l,Dl:=0} else if(x==4) then L0 4 l RS.rh {s with uX:=wK s.uX y l,rh:=wO s.uX s.rh y l,Dk:=0} else if(x==5) then L0 5 l RS.rf {s with uW:=wK s.uW y l,rf:=wO s.uW s.rf y l,Dj:=0} else dK
def zC(m n i:Int)(s:RS):Int:=pI (i64.wrap (m+1)) (jy (i64.wrap (n-1)) (i64.wrap ((jy (pI 0 i) (fW s.li s.lt s.le).1)+1)))
def gk(x:D)(s:RS):RS:=
 if((s.role !=2)||(!(jv (cD 1 x).J s))) then s
 else
  let u:=gx (aE 46 x []) s
  if((cD 1 x).J==0) then(if(cD 7 x).Z then fx 0 {u with Dn:=zC u.Ki u.Dn (cD 4 x).J u} else mL 0 (cD 4 x).J u) else if((cD 1 x).J==1) then(if(cD 7 x).Z then fx 1 {u with BM:=zC u.EU u.BM (cD 4 x).J u} else mL 1 (cD 4 x).J u) else if((cD 1 x).J==2) then(if(cD 7 x).Z then fx 2 {u with rl:=zC u.uZ u.rl (cD 4 x).J u} else mL 2 (cD 4 x).J u) else if((cD 1 x).J==3) then(if(cD 7 x).Z then fx 3 {u with rk:=zC u.uY u.rk (cD 4 x).J u} else mL 3 (cD 4 x).J u) else if((cD 1 x).J==4) then(if(cD 7 x).Z then fx 4 {u with rh:=zC u.uX u.rh (cD 4 x).J u} else mL 4 (cD 4 x).J u) else if((cD 1 x).J==5) then(if(cD 7 x).Z then fx 5 {u with rf:=zC u.uW u.rf (cD 4 x).J u} else mL 5 (cD 4 x).J u) else dK
def mq(x:D)(s:RS):RS:=
 if((s.role !=2)||(!(jv (cD 1 x).J s))) then s
 else if((!(cD 7 x).Z)&&((cD 10 x).J==0)) then mL (cD 1 x).J (cD 4 x).J s
 else if((cD 4 x).J==s.wR) then
  (if((cD 1 x).J==0) then fx 0 {s with I3:=ig (cD 9 x).J s} else if((cD 1 x).J==1) then fx 1 {s with I2:=ig (cD 9 x).J s} else if((cD 1 x).J==2) then fx 2 {s with Dm:=ig (cD 9 x).J s} else if((cD 1 x).J==3) then fx 3 {s with Dl:=ig (cD 9 x).J s} else if((cD 1 x).J==4) then fx 4 {s with Dk:=ig (cD 9 x).J s} else if((cD 1 x).J==5) then fx 5 {s with Dj:=ig (cD 9 x).J s} else dK)
 else s
def xN(x:D)(u:RS)(pd:Tah)(c:RS):RS:=
 let a:=lE (cD 4 x).J (cD 5 x).J
 if(cD 0 a).iL then gH (aE 46 nr [(0,D.int i64 6),(2,(cD 1 x)),(4,(cD 4 x)),(9,D.int i64 (pd.length:Int)),(10,D.int i64 (pI 1 (cD 10 x).J))]) c
 else if(((((pd.length:Int) !=(cD 10 x).J)||(decide ((cD 10 x).J<1)))&&true)||(!gp (D.agg [(cD 13 x),(cD 14 x)]))) then gH (aE 46 nr [(0,D.int i64 6),(2,(cD 1 x)),(4,(cD 4 x)),(9,D.int i64 (pd.length:Int)),(10,D.int i64 (pI 1 (cD 10 x).J))]) c
 else if(((ny u.li u.lt u.le (cD 4 x).J).2==0)&&((ny u.li u.lt u.le (cD 4 x).J).1==(cD 5 x).J)) then
  gH (aE 46 nr [(0,D.int i64 6),(2,(cD 1 x)),(4,(cD 4 x))]) (gI ({u with il:=(D.ptr [cD 4 x,cD 5 x,cD 13 x,cD 14 x,.list pd]),wR:=(cD 4 x).J,vi:=(cD 5 x).J,sv:=(cD 13 x).V,sl:=(cD 14 x).V,iI:=pd,bH:=(cD 4 x).J,pJ:=0,ru:=0,nI:=0,zI:=0,nH:=0,fK:=[],li:=(pP u.li u.lt u.le (cD 4 x).J).2.1,lt:=(pP u.li u.lt u.le (cD 4 x).J).2.2.1,le:=(pP u.li u.lt u.le (cD 4 x).J).2.2.2}:RS))
 else gH (aE 46 nr [(0,D.int i64 6),(2,(cD 1 x)),(4,(cD 4 x))]) (gI ({u with il:=(D.ptr [cD 4 x,cD 5 x,cD 13 x,cD 14 x,.list pd]),wR:=(cD 4 x).J,vi:=(cD 5 x).J,sv:=(cD 13 x).V,sl:=(cD 14 x).V,iI:=pd,bH:=(cD 4 x).J,pJ:=0,ru:=0,nI:=0,zI:=0,nH:=0,fK:=[],li:=((cD 0 (cD 1 a)).J),lt:=((cD 1 (cD 1 a)).J),le:=((cD 2 (cD 1 a)).V)}:RS))
def xQ(x:D)(s:RS):RS:=
 if(!(gJ (aE 46 x []) s).1) then(gJ (aE 46 x []) s).2 else
  let u:=(gJ (aE 46 x []) s).2
  if decide ((cD 4 x).J<=u.bH) then gH (aE 46 nr [(0,D.int i64 6),(2,(cD 1 x)),(4,D.int i64 u.bH)]) u
  else if((!(((((u.pJ==(cD 3 x).J)&&(u.ru==(cD 1 x).J))&&(u.nI==(cD 4 x).J))&&(u.zI==(cD 5 x).J))&&(u.nH==(cD 10 x).J)))||((cD 9 x).J==0)) then
   (if((((cD 9 x).J==(([]:Tah).length:Int))&&(decide ((((cD 15 x).V:Tah).length:Int)<=(i64.wrap ((cD 10 x).J-(([]:Tah).length:Int))))))&&(nY (cD 10 x).J 1 1048576)) then
    xN x u ([]++(cD 15 x).V) ({u with pJ:=(cD 3 x).J,ru:=(cD 1 x).J,nI:=(cD 4 x).J,zI:=(cD 5 x).J,nH:=(cD 10 x).J,fK:=([]++(cD 15 x).V)}:RS)
   else xN x u [] ({u with pJ:=(cD 3 x).J,ru:=(cD 1 x).J,nI:=(cD 4 x).J,zI:=(cD 5 x).J,nH:=(cD 10 x).J,fK:=[]}:RS))
  else(if((((cD 9 x).J==((u.fK:Tah).length:Int))&&(decide ((((cD 15 x).V:Tah).length:Int)<=(i64.wrap ((cD 10 x).J-((u.fK:Tah).length:Int))))))&&(nY (cD 10 x).J 1 1048576)) then
    xN x u (u.fK++(cD 15 x).V) ({u with fK:=(u.fK++(cD 15 x).V)}:RS)
   else xN x u u.fK u)
def zG(u:RS):D×RS:=(aE 8 (bk u).1 [],(bk u).2)
def Kr(x:D)(t:RS):D×RS:=
 if decide ((cD 3 x).J<t.term) then zG (qq (aE 46 x []) t)
 else if((cD 0 x).J==1) then zG (xP (aE 46 x []) t)
 else if((cD 0 x).J==2) then zG (rE (aE 46 x []) t)
 else if((cD 0 x).J==3) then zG (kW (aE 46 x []) t)
 else if((cD 0 x).J==4) then zG (gk (aE 46 x []) t)
 else if((cD 0 x).J==5) then zG (xQ (aE 46 x []) t)
 else if((cD 0 x).J==6) then zG (mq (aE 46 x []) t)
 else zG t
def iX(x:D)(s:RS):D×RS:=
 if(((decide ((cD 5 x).J>(cD 3 x).J))||((decide ((((cD 12 x).V:Tah).length:Int)>0))&&(decide (((cD 1 (((cD 12 x).V).getD ((i64.wrap ((((cD 12 x).V:Tah).length:Int)-1)):Int).toNat .top)).J)>(cD 3 x).J))))||(!eF (cD 12 x).V)) then zG s
 else if(((!(((((cD 2 x).J==s.id)&&((cD 1 x).J !=s.id))&&nY (cD 1 x).J 1 5)&&nY (cD 3 x).J 1 1099511627776))||(decide ((cD 0 x).J<1)))||(decide ((cD 0 x).J>6))) then zG s
 else if decide ((cD 3 x).J>s.term) then Kr x (fQ (cD 3 x).J 0 s)
 else Kr x s
def Pe(c:RS):D×RS:=
 let a:=bk c
 (aE 8 a.1 [],a.2)
def AH(c:Tah)(a:Int)(d:RS):(Int×RS)⊕(D×RS):=
 if decide (a<((c:Tah).length:Int)) then(
  let e:=fx ((((c).getD (a:Int).toNat .top)).J) d
  .inl ((i64.wrap (a+1)),e))
 else .inr (Pe d)
def FH(a:Tah)(c:Int)(d:RS):Nat:=a.length-c.toNat
def pN(c:Tah)(e:Int)(d:RS):D×RS:=gY (fun a:Int×RS=>AH c a.1 a.2) (.top,dK) (FH c e d+1) (e,d)
def gX(x:Int)(s:RS):D×RS:=
 if(s.role==2) then(
  if decide ((i64.wrap (s.wait+1))≥2) then(
   let z:=(dU ({s with wait:=0}:RS));let y:=(gq (aE 2 z []) ({s with wait:=0}:RS))
   pN y 0 ({s with wait:=0}:RS))
  else(
   let YD:=bk ({s with wait:=(i64.wrap (s.wait+1))}:RS)
   (aE 8 YD.1 [],YD.2)))
 else(
  if(s.end_==0) then(
   if decide (x<0) then(
    if decide ((i64.wrap (s.wait+1))≥(i64.wrap (10+((i64.wrap (0-(i64.wrap (x+1)))).tmod 10)))) then(
     let a:=ib ({s with wait:=(i64.wrap (s.wait+1)),end_:=(i64.wrap (10+((i64.wrap (0-(i64.wrap (x+1)))).tmod 10)))}:RS);let j:=(dU a);let n:=(jo (aE 2 j []) a.id)
     if(n&&(decide (a.term<1099511627776))) then(
      let p:=lG (aE 2 j []) a;let d:=bk p
      (aE 8 d.1 [],d.2))
     else(
      let e:=bk a
      (aE 8 e.1 [],e.2)))
    else(
     let a:=bk ({s with wait:=(i64.wrap (s.wait+1)),end_:=(i64.wrap (10+((i64.wrap (0-(i64.wrap (x+1)))).tmod 10)))}:RS)
     (aE 8 a.1 [],a.2)))
   else(
    if decide ((i64.wrap (s.wait+1))≥(i64.wrap (10+(x.tmod 10)))) then(
     let c:=ib ({s with wait:=(i64.wrap (s.wait+1)),end_:=(i64.wrap (10+(x.tmod 10)))}:RS);let k:=(dU c);let o:=(jo (aE 2 k []) c.id)
     if(o&&(decide (c.term<1099511627776))) then(
      let q:=lG (aE 2 k []) c;let f:=bk q
      (aE 8 f.1 [],f.2))
     else(
      let g:=bk c
      (aE 8 g.1 [],g.2)))
    else(
     let c:=bk ({s with wait:=(i64.wrap (s.wait+1)),end_:=(i64.wrap (10+(x.tmod 10)))}:RS)
     (aE 8 c.1 [],c.2))))
  else(
   if decide ((i64.wrap (s.wait+1))≥s.end_) then(
    let ET:=ib ({s with wait:=(i64.wrap (s.wait+1))}:RS);let m:=(dU ET);let u:=(jo (aE 2 m []) ET.id)
    if(u&&(decide (ET.term<1099511627776))) then(
     let t:=lG (aE 2 m []) ET;let h:=bk t
     (aE 8 h.1 [],h.2))
    else(
     let i:=bk ET
     (aE 8 i.1 [],i.2)))
   else(
    let ET:=bk ({s with wait:=(i64.wrap (s.wait+1))}:RS)
    (aE 8 ET.1 [],ET.2))))
def mA(jX:(D×Int)×RS)(d:RS):(D×Int×D)×RS:=
 let c:=jn d;let a:=bk c
 ((aE 29 jX.1.1 [],0,aE 8 a.1 []),a.2)
def ir(jX:(D×Int)×RS)(e:Tah)(c:Int)(a:RS):(Int×RS)⊕((D×Int×D)×RS):=
 if decide (c<((e:Tah).length:Int)) then(
  if(((((e).getD (c:Int).toNat .top)).J)==0) then(
   if(a.Dn==((cD 0 jX.1.1).J)) then(
    let d:=fx 0 a
    .inl ((i64.wrap (c+1)),d))
   else(
    .inl ((i64.wrap (c+1)),a)))
  else(
   if(((((e).getD (c:Int).toNat .top)).J)==1) then(
    if(a.BM==((cD 0 jX.1.1).J)) then(
     let d:=fx 1 a
     .inl ((i64.wrap (c+1)),d))
    else(
     .inl ((i64.wrap (c+1)),a)))
   else(
    if(((((e).getD (c:Int).toNat .top)).J)==2) then(
     if(a.rl==((cD 0 jX.1.1).J)) then(
      let d:=fx 2 a
      .inl ((i64.wrap (c+1)),d))
     else(
      .inl ((i64.wrap (c+1)),a)))
    else(
     if(((((e).getD (c:Int).toNat .top)).J)==3) then(
      if(a.rk==((cD 0 jX.1.1).J)) then(
       let d:=fx 3 a
       .inl ((i64.wrap (c+1)),d))
      else(
       .inl ((i64.wrap (c+1)),a)))
     else(
      if(((((e).getD (c:Int).toNat .top)).J)==4) then(
       if(a.rh==((cD 0 jX.1.1).J)) then(
        let d:=fx 4 a
        .inl ((i64.wrap (c+1)),d))
       else(
        .inl ((i64.wrap (c+1)),a)))
      else(
       if(((((e).getD (c:Int).toNat .top)).J)==5) then(
        if(a.rf==((cD 0 jX.1.1).J)) then(
         let d:=fx 5 a
         .inl ((i64.wrap (c+1)),d))
        else(
         .inl ((i64.wrap (c+1)),a)))
       else(
        .inr ((.top,0,.top),dK))))))))
 else .inr (mA jX a)
def r6(jX:(D×Int)×RS)(a:Tah)(c:Int)(d:RS):Nat:=a.length-c.toNat
def kH(jX:(D×Int)×RS)(c:Tah)(e:Int)(d:RS):(D×Int×D)×RS:=gY (fun a:Int×RS=>ir jX c a.1 a.2) ((.top,0,.top),dK) (r6 jX c e d+1) (e,d)
def bD(x:D)(s:RS):(D×Int×D)×RS:=
 let a:=(yO (aE 27 x []) s)
 if(a !=0) then(
  let xM:=bk s
  ((aE 29 oh [],a,aE 8 xM.1 []),xM.2))
 else(
  let jX:=oc (aE 27 x []) s
  if(jX.1.2 !=0) then(
   let YC:=bk jX.2
   ((aE 29 oh [],jX.1.2,aE 8 YC.1 []),YC.2))
  else(
   let d:=(dU jX.2);let c:=(gq (aE 2 d []) jX.2)
   kH jX c 0 jX.2))
def cnD(d:D):Ty->D
 |.int k=>.int k d.J
 |.bool=>.bool d.Z
 |.list _=>.list d.V
 |.box .nil=>.ptr []
 |_=>d
def adT{t:Ty}{d:D}(h:Has t d):d=cnD d t:=by
 unfold cnD;split
 .obtain⟨n,rfl,_⟩:=dm.1 h;rfl
 .obtain⟨n,rfl⟩:=dg.1 h;rfl
 .obtain⟨n,rfl,_⟩:=bO.1 h;rfl
 .obtain⟨n,rfl,e⟩:=ia.1 h;rw[dk.1 e]
 rfl
def Eg{ts:Tam}{l:Tah}(h:dr (.Y ts) l):l=(List.range ts.length).map fun j=>cnD (l.getD j .top) (ts.getD j .nil):=by
 refine eH fun j=>?_;have c:=gh h;rw[Ty.dT]at c;rw[ab];by_cases e:j<l.length
 .obtain⟨x,a,d⟩:=dh h j _ (by rw[Ty.dT];exact aR (show j<ts.length by omega));rw[cN (by omega),a,aS,ag,a,ag,aR (show j<ts.length by omega)];exact congrArg some (adT d)
 rw[cM (by omega),cM (by rw[dW];omega)];rfl
def fP{l:Tah}(h:dr (.Y eV) l):∃s:RS,l=encS s:=⟨hP l,(Eg h).trans rfl⟩
@[irreducible] def G (k:Nat):Nat:=k*1073741824
def D1(k:Nat):G (k+1)=G k+1073741824:=by unfold G;rw[cq,Nat.one_mul]
def abb{j k:Nat}(h:j<=k):G j<=G k:=by unfold G;exact aw _ h
structure cP(C M:Nat)(s:RS)(k:Nat):Prop where
 may:gn s.li s.lt s.le=true
 yM:1<=s.id
 yL:s.id<=5
 tM:s.le.length+k<=1073741824
 nm:s.msgs.length+k<=M
 ne:s.dB.length+k<=4294967296
 nc:s.aW.length+G k<=C
 nv:s.aT.length+k<=4294967296
 cf:gp (.agg [.list s.fv,.list s.fl])=true
 cs:0<s.li->gp (.agg [.list s.sv,.list s.sl])=true
 cl:eF s.le=true
 tm:0<=s.term
 tx:s.term<=MX
 rd:s.reads=[]
abbrev Ok(s:RS)(k:Nat):Prop:=cP 274877906944 4294967296 s k
def mo{d:D}(h:Has tR d):∃s:RS,d=Dv s:=by
 obtain⟨l,rfl,a⟩:=ia.1 h;refine⟨pf (.ptr l),?_⟩;obtain⟨x,f,i⟩:=dh a 13 _ (by rw[Ty.dT];rfl);obtain⟨g,rfl,j⟩:=ia.1 i;have e:l.getD 13 .top=.ptr g:=by rw[ag,f];rfl
 have k:g=cL (pf (.ptr l)):=(Eg j).trans (by show _=[D.int i64 (((l.getD 13 .top).V.getD 0 .top).J),.int i64 (((l.getD 13 .top).V.getD 1 .top).J),.list (((l.getD 13 .top).V.getD 2 .top).V)];rw[e];rfl);have c:l=(cR (pf (.ptr l))).set 13 (l.getD 13 .top):=(Eg a).trans rfl;rw[e]at c;show D.ptr l=.ptr ((cR (pf (.ptr l))).set 13 (.ptr (cL (pf (.ptr l)))));rw[<-k,<-c]
def cB(f:Nat)(ds:Tah):D:=
 let a:=ds.getD 0 .top;let b:=ds.getD 1 .top;let c:=ds.getD 2 .top;let d:=ds.getD 3 .top
 match f with
 |79=>.int i64 (findF (fun y=>y==b.J) (iM a) 0)
 |56=>.bool (decide (b.J∈iM a))
 |61=>wo ds
 |82=>zl ds
 |83=>zx ds
 |55=>.bool (rm 0 (iM a))
 |21=>.bool (zN (vo a) (lr a))
 |36=>.bool (decide (b.J∈vo a))
 |63=>.list (iP a)
 |66=>.bool (Ha (vo a) (iM b))
 |72=>.int i64 (mR a b)
 |70=>.bool (G8 (vo a) (lr a) (vo b) (lr b))
 |20=>.bool (nY a.J b.J c.J)
 |52=>a
 |60=>.bool (wY (.fn 0 []) a)
 |80=>.int i64 (findF (wY b) a.V 0)
 |59=>.bool (mw a.V b)
 |24=>.bool (eF a.V)
 |26=>a
 |28=>.fa [.int i64 (jZ (cD 0 (ds.getD 0 .top)).J (cD 1 (ds.getD 0 .top)).J (cD 2 (ds.getD 0 .top)).V).1,.int i64 (jZ (cD 0 (ds.getD 0 .top)).J (cD 1 (ds.getD 0 .top)).J (cD 2 (ds.getD 0 .top)).V).2]
 |25=>.fa [.int i64 (fW (cD 0 (ds.getD 0 .top)).J (cD 1 (ds.getD 0 .top)).J (cD 2 (ds.getD 0 .top)).V).1,.int i64 (fW (cD 0 (ds.getD 0 .top)).J (cD 1 (ds.getD 0 .top)).J (cD 2 (ds.getD 0 .top)).V).2]
 |50=>.fa [.int i64 (ny (cD 0 (ds.getD 0 .top)).J (cD 1 (ds.getD 0 .top)).J (cD 2 (ds.getD 0 .top)).V (ds.getD 1 .top).J).1,.int i64 (ny (cD 0 (ds.getD 0 .top)).J (cD 1 (ds.getD 0 .top)).J (cD 2 (ds.getD 0 .top)).V (ds.getD 1 .top).J).2]
 |74=>.bool (HU (cD 0 (ds.getD 0 .top)).J (cD 1 (ds.getD 0 .top)).J (cD 2 (ds.getD 0 .top)).V (ds.getD 1 .top).J (ds.getD 2 .top).J)
 |65=>QN ds
 |49=>(xS (ds.getD 1 .top).J (pf (ds.getD 0 .top)))
 |29=>(dU (pf (ds.getD 0 .top)))
 |32=>.list (gq (ds.getD 1 .top) (pf (ds.getD 0 .top)))
 |76=>.bool (jv (ds.getD 1 .top).J (pf (ds.getD 0 .top)))
 |69=>.bool (mZ (pf (ds.getD 0 .top)))
 |68=>.bool (pO (pf (ds.getD 0 .top)))
 |38=>.int i64 (yO (ds.getD 1 .top) (pf (ds.getD 0 .top)))
 |12=>(JN (pf (ds.getD 0 .top)))
 |57=>.bool (nY a.J b.J c.J)
 |58=>.bool (gn a.J b.J c.V)
 |23=>.fa [.fa [.int i64 (iv (ds.getD 3 .top).J (ds.getD 4 .top).J (ds.getD 5 .top).V a.J b.J c.V).1,.bool (jt (ds.getD 3 .top).J (ds.getD 4 .top).J (ds.getD 5 .top).V a.J b.J c.V)],rb (ds.getD 3 .top).J (ds.getD 4 .top).J (iv (ds.getD 3 .top).J (ds.getD 4 .top).J (ds.getD 5 .top).V a.J b.J c.V).2]
 |71=>.fa [.fa [ui (ds.getD 2 .top).J (ds.getD 3 .top).J (ds.getD 4 .top).V a.J b,.int i64 (nq (ds.getD 2 .top).J (ds.getD 3 .top).J (ds.getD 4 .top).V a.J)],rb (ds.getD 2 .top).J (ds.getD 3 .top).J (pb (ds.getD 2 .top).J (ds.getD 3 .top).J (ds.getD 4 .top).V a.J b)]
 |51=>.fa [.int i64 (z6 (ds.getD 1 .top).J (ds.getD 3 .top).V a.J),rb (jR (ds.getD 1 .top).J (ds.getD 2 .top).J (ds.getD 3 .top).V a.J).1 (jR (ds.getD 1 .top).J (ds.getD 2 .top).J (ds.getD 3 .top).V a.J).2.1 (jR (ds.getD 1 .top).J (ds.getD 2 .top).J (ds.getD 3 .top).V a.J).2.2]
 |53=>ij (gI (hP (ds.drop 0)))
 |35=>ij (ib (hP (ds.drop 0)))
 |64=>ij (gH (ds.getD 0 .top) (hP (ds.drop 1)))
 |41=>ij (fQ (ds.getD 0 .top).J (ds.getD 1 .top).J (hP (ds.drop 2)))
 |34=>E9 (bk (hP (ds.drop 0)))
 |39=>JA (oc (ds.getD 0 .top) (hP (ds.drop 1)))
 |33=>ij (fx (ds.getD 0 .top).J (hP (ds.drop 1)))
 |84=>.bool (pv a)
 |73=>JB (gK (ds.getD 0 .top).J (hP (ds.drop 1)))
 |40=>ij (jn (hP (ds.drop 0)))
 |67=>ij (xR (hP (ds.drop 0)))
 |37=>ij (lG (ds.getD 0 .top) (hP (ds.drop 1)))
 |42=>ij (qq (ds.getD 0 .top) (hP (ds.drop 1)))
 |43=>ij (xP (ds.getD 0 .top) (hP (ds.drop 1)))
 |44=>ij (rE (ds.getD 0 .top) (hP (ds.drop 1)))
 |75=>JB (gJ (ds.getD 0 .top) (hP (ds.drop 1)))
 |45=>ij (kW (ds.getD 0 .top) (hP (ds.drop 1)))
 |77=>ij (gx (ds.getD 0 .top) (hP (ds.drop 1)))
 |78=>ij (mL (ds.getD 0 .top).J (ds.getD 1 .top).J (hP (ds.drop 2)))
 |46=>ij (gk (ds.getD 0 .top) (hP (ds.drop 1)))
 |48=>ij (mq (ds.getD 0 .top) (hP (ds.drop 1)))
 |27=>Wt a
 |47=>ij (xQ (ds.getD 0 .top) (hP (ds.drop 1)))
 |17=>E9 (iX (ds.getD 0 .top) (hP (ds.drop 1)))
 |15=>E9 (gX (ds.getD 0 .top).J (hP (ds.drop 1)))
 |81=>.bool (decide (iM a=iM b))
 |62=>.bool (decide (vo a=vo b)&&decide (lr a=lr b))
 |31=>.bool (KB a b)
 |8=>.int i64 (Ch a.J b.J)
 |22=>lE a.J b.J
 |_=>.bool true
def pre(f:Nat)(ds:Tah):Prop:=
 let a:=ds.getD 0 .top;let b:=ds.getD 1 .top;let c:=ds.getD 2 .top;let d:=ds.getD 3 .top
 match f with
 |63=>((vo a).length+(lr a).length)*8<=140737488355328
 |25=>gn (cD 0 a).J (cD 1 a).J (cD 2 a).V=true
 |50=>gn (cD 0 a).J (cD 1 a).J (cD 2 a).V=true
 |74=>gn (cD 0 a).J (cD 1 a).J (cD 2 a).V=true
 |65=>agn ds
 |49=>Ok (pf a) 0
 |29=>Ok (pf a) 0
 |32=>Ok (pf a) 0/\gp b=true
 |76=>Ok (pf a) 0
 |69=>Ok (pf a) 0
 |68=>Ok (pf a) 0
 |38=>Ok (pf a) 0
 |12=>Ok (pf a) 0
 |23=>gn (ds.getD 3 .top).J (ds.getD 4 .top).J (ds.getD 5 .top).V=true/\(ds.getD 5 .top).V.length<4294967296/\(ds.getD 2 .top).V.length<4294967296
 |71=>gn (ds.getD 2 .top).J (ds.getD 3 .top).J (ds.getD 4 .top).V=true/\(ds.getD 4 .top).V.length<4294967296
 |51=>gn (ds.getD 1 .top).J (ds.getD 2 .top).J (ds.getD 3 .top).V=true
 |64=>Ok (hP (ds.drop 1)) 1
 |39=>Ok (hP (ds.drop 1)) 1
 |33=>Ok (hP (ds.drop 1)) 1/\0<=a.J/\a.J<=5
 |73=>Ok (hP (ds.drop 1)) 1
 |40=>Ok (hP (ds.drop 0)) 1
 |67=>Ok (hP (ds.drop 0)) 13
 |37=>Ok (hP (ds.drop 1)) 14/\gp a=true/\(hP (ds.drop 1)).term<MX
 |42=>Ok (hP (ds.drop 1)) 1
 |43=>Ok (hP (ds.drop 1)) 1
 |44=>Ok (hP (ds.drop 1)) 15
 |45=>Ok (hP (ds.drop 1)) (4+(cD 12 a).V.length)/\(cD 12 a).V.length<=2147483648/\eF (cD 12 a).V=true
 |77=>Ok (hP (ds.drop 1)) 0
 |78=>Ok (hP (ds.drop 2)) 2/\0<=a.J/\a.J<=5
 |46=>Ok (hP (ds.drop 1)) 4/\0<=(cD 1 a).J/\(cD 1 a).J<=5
 |48=>Ok (hP (ds.drop 1)) 4/\0<=(cD 1 a).J/\(cD 1 a).J<=5
 |47=>Ok (hP (ds.drop 1)) 2
 |17=>Ok (hP (ds.drop 1)) (20+(cD 12 a).V.length)/\(cD 12 a).V.length<=2147483648
 |15=>Ok (hP (ds.drop 1)) 20
 |8=>b.J≠0
 |_=>True
def aaD:Tai:=[8,12,15,17,23,25,29,32,33,37,38,39,40,42,43,44,45,46,47,48,49,50,51,63,64,65,67,68,69,71,73,74,76,77,78]
def mix:Try.prog.follows .mixedOrders=true:=by kernel_rfl
section
variable(l r v w:List Int)(b:Int)
def Wq:cB 56 [.list (l.map (D.int i64)),.int i64 b]=.bool (decide (b∈l)):=by simp[cB,eW,bR]
def ahh:cB 61 [.list (l.map (D.int i64))]=.list (l.map (D.int i64)):=rfl
def aa4:cB 82 [.list (l.map (D.int i64))]=.list ((jP l).map (D.int i64)):=by simp[cB,zl,eW]
def adz:cB 82 [.list (l.map (D.int i64)++r.map (D.int i64))]=.list ((jP (l++r)).map (D.int i64)):=by rw[<-bX];exact aa4 _
def ahg:cB 83 [.list (l.map (D.int i64))]=.list ((Lib.compact l).map (D.int i64)):=by simp[cB,zx,eW]
def ahb:cB 55 [.list (l.map (D.int i64))]=.bool (rm 0 l):=by simp[cB,eW]
def aa5:cB 21 [.agg [.list (v.map (D.int i64)),.list (l.map (D.int i64))]]=.bool (zN v l):=by simp[cB,vh,Fj]
def aa3:cB 36 [.agg [.list (v.map (D.int i64)),.list (l.map (D.int i64))],.int i64 b]=.bool (decide (b∈v)):=by simp[cB,vh,bR]
def ahd:cB 63 [.agg [.list (v.map (D.int i64)),.list (l.map (D.int i64))]]=.list ((E4 v l).map (D.int i64)):=by simp[cB,iP,HR,vh,Fj]
def ahe:cB 66 [.agg [.list (v.map (D.int i64)),.list (l.map (D.int i64))],.list (r.map (D.int i64))]=.bool (Ha v r):=by simp[cB,vh,eW]
def ahi:cB 72 [.agg [.list (v.map (D.int i64)),.list (l.map (D.int i64))],.list (r.map (D.int i64))]=.int i64 (vg v r):=by simp[cB,mR,WH,vh,eW]
def aha:cB 70 [.agg [.list (v.map (D.int i64)),.list (l.map (D.int i64))],.agg [.list (w.map (D.int i64)),.list (r.map (D.int i64))]]=.bool (G8 v l w r):=by simp[cB,vh,Fj]
def ahf:cB 81 [.list (l.map (D.int i64)),.list (r.map (D.int i64))]=.bool (decide (l=r)):=by simp[cB,eW]
def adB:cB 62 [.agg [.list (v.map (D.int i64)),.list (l.map (D.int i64))],.agg [.list (w.map (D.int i64)),.list (r.map (D.int i64))]]=.bool (decide (v=w)&&decide (l=r)):=by simp[cB,vh,Fj]
end
def triv(f:Nat):Bool:= !(aaD.contains f)
def kf:∀f a,triv f=true->pre f a:=by intro f a h;unfold pre;split<;>first|trivial|(simp[triv,aaD]at h)
variable{C M:Nat}
def cP.le{s:RS}{k j:Nat}(h:cP C M s k)(a:j<=k):cP C M s j:=
 ⟨h.may,h.yM,h.yL,by have:=h.tM;omega,by have:=h.nm;omega,by have:=h.ne;omega,by have:=h.nc;have:=abb a;omega,by have:=h.nv;omega,h.cf,h.cs,h.cl,h.tm,h.tx,h.rd⟩
structure Dx(s t:RS):Prop where
 li:t.li=s.li
 lt:t.lt=s.lt
 le:t.le=s.le
 id:t.id=s.id
 msgs:t.msgs=s.msgs
 dB:t.dB=s.dB
 aW:t.aW=s.aW
 aT:t.aT=s.aT
 fv:t.fv=s.fv
 fl:t.fl=s.fl
 sv:t.sv=s.sv
 sl:t.sl=s.sl
 term:t.term=s.term
 reads:t.reads=s.reads
abbrev ML(s:RS):=(s.li,s.lt,s.le,s.id,s.msgs,s.dB,s.aW,s.aT,s.fv,s.fl,s.sv,s.sl,s.term,s.reads)
def jh{s t:RS}(h:ML t=ML s:=by rfl):Dx s t:=by unfold ML at h;simp only[ae]at h;obtain⟨o,n,m,l,k,j,i,g,f,e,d,c,b,a⟩:=h;exact⟨o,n,m,l,k,j,i,g,f,e,d,c,b,a⟩
def cP.same{s t:RS}{k:Nat}(h:cP C M s k)(e:Dx s t):cP C M t k:=by
 obtain⟨i,p,g,o,n,m,l,j,e9,f,d,c,b,a⟩:=e;refine⟨?_,?_,?_,?_,?_,?_,?_,?_,?_,?_,?_,?_,?_,?_⟩
 all_goals first
  |(rw[i,p,g];exact h.may)
  |(rw[o];first|exact h.yM|exact h.yL)
  |(rw[g];first|exact h.tM|exact h.cl)
  |(rw[n];exact h.nm)
  |(rw[m];exact h.ne)
  |(rw[l];exact h.nc)
  |(rw[j];exact h.nv)
  |(rw[e9,f];exact h.cf)
  |(rw[i,d,c];exact h.cs)
  |(rw[b];first|exact h.tm|exact h.tx)
  |(rw[a];exact h.rd)
def cP.send{s:RS}{k:Nat}{x:D}(h:cP C M s (k+1)):cP C M (gH x s) k:=by refine⟨h.may,h.yM,h.yL,by have:=h.tM;show s.le.length+k<=_;omega,?_,by have:=h.ne;show s.dB.length+_<=_;omega,by have:=h.nc;have:=D1 k;show s.aW.length+_<=_;omega,by have:=h.nv;show s.aT.length+k<=_;omega,h.cf,h.cs,h.cl,h.tm,h.tx,h.rd⟩;have:=h.nm;simp only[gH,ah,ba];omega
def cP.saved{s:RS}{k:Nat}(h:cP C M s k):cP C M (gI s) k:=h.same jh
def cP.OJ{s:RS}{k:Nat}(h:cP C M s k):cP C M (ib s) k:=h.same jh
def cP.follow{s:RS}{k:Nat}{x y:Int}(h:cP C M s k)(c:0<=x)(b:x<=MX):cP C M (fQ x y s) k:=by
 have a:([]:Tah).length+k<=4294967296:=by have:=h.nv;simp;omega
 unfold fQ;split
 .exact⟨h.may,h.yM,h.yL,h.tM,h.nm,h.ne,h.nc,a,h.cf,h.cs,h.cl,c,b,rfl⟩
 exact⟨h.may,h.yM,h.yL,h.tM,h.nm,h.ne,h.nc,a,h.cf,h.cs,h.cl,h.tm,h.tx,rfl⟩
def cP.done{s:RS}{k:Nat}(h:cP C M s k):cP C M (bk s).2 k:=
 ⟨h.may,h.yM,h.yL,h.tM,by have:=h.nm;show([]:Tah).length+k<=_;simp;omega,by have:=h.ne;show([]:Tah).length+_<=_;simp;omega,by have:=h.nc;show([]:Tah).length+_<=_;simp;omega,h.nv,h.cf,h.cs,h.cl,h.tm,h.tx,h.rd⟩
def cP.Mr{s:RS}{k:Nat}(h:cP C M s k):okB s.li s.lt=true:=by have:=h.may;unfold gn at this;exact(aP _ _▸this).1
def cP.li{s:RS}{k:Nat}(h:cP C M s k):0<=s.li/\s.li+s.le.length<=MX:=by obtain⟨⟨c,b,_,_⟩,a⟩:=eS.1 h.may;exact⟨c,uE b a⟩
def xq{i f m:Int}{l:Tah}{x:D}(h:x∈fG i l f m):x∈l:=by
 unfold fG at h;split at h
 .simp at h
 exact dx (cV h)
def cP.aW{s:RS}{k:Nat}{x:Int}(h:cP C M s (k+1)):cP C M (gK x s).2 k:=by
 have e:gK x s=if decide (x<=s.bH) then(false,s) else(mw (fi s.li s.lt s.le (i64.wrap (s.bH+1)) (i64.wrap (x-s.bH))) (D.fn 84 []),{s with aW:=s.aW++fi s.li s.lt s.le (i64.wrap (s.bH+1)) (i64.wrap (x-s.bH)),bH:=x}):=rfl
 rw[e];by_cases a:decide (x<=s.bH)=true
 .rw[if_pos a];exact h.le (by omega)
 rw[if_neg a];refine⟨h.may,h.yM,h.yL,by have:=h.tM;show s.le.length+k<=_;omega,by have:=h.nm;show s.msgs.length+_<=_;omega,by have:=h.ne;show s.dB.length+_<=_;omega,?_,by have:=h.nv;show s.aT.length+k<=_;omega,h.cf,h.cs,h.cl,h.tm,h.tx,h.rd⟩;have g:=h.nc;have b:=D1 k;have d:=h.tM;have c:=tq (i:=s.li) (f:=i64.wrap (s.bH+1)) (m:=i64.wrap (x-s.bH)) (l:=s.le);show(s.aW++fG _ _ _ _).length+_<=_;rw[ah];omega
def gF{l:Tah}:eF l=true↔ ∀x∈l,pv x=true->gp (SE x)=true:=by
 unfold eF;rw[cI,List.any_eq_false];constructor
 .intro h x b a;have:=h x b;rw[a]at this;simpa using this
 intro h x b a;rw[aP]at a;rw[h x b a.1]at a;simp at a
def EI{l r:Tah}(h:eF l=true)(hs:∀x∈r,x∈l):eF r=true:=gF.2 fun x a=>gF.1 h x (hs x a)
def EJ{l r:Tah}(h:eF l=true)(b:eF r=true):eF (l++r)=true:=gF.2 fun x a=>(aQ.1 a).elim (gF.1 h x) (gF.1 b x)
def cP.put{s:RS}{k:Nat}{c:D}(h:cP C M s (k+1))(g:(cD 0 c).J=2->gp (.agg [cD 25 c,cD 26 c])=true):cP C M (oc c s).2 k:=by
 obtain⟨d,i⟩:=Pg (m:=s.term) (c:=aE 27 c []) h.may
 have a:eF (pb s.li s.lt s.le s.term (aE 27 c []))=true:=by
  unfold pb;split
  .refine EJ h.cl (gF.2 fun x f b=>?_);rw[aG]at f;subst f;exact g (eq_of_beq (show((cD 0 c).J==2)=true from b))
  exact h.cl
 have q:=h.tM;have p:=h.nm;have o:=h.ne;have n:=h.nc;have l:=h.nv;have j:=D1 k
 have e:oc c s=if(nq s.li s.lt s.le s.term==0) then((aE 29 (ui s.li s.lt s.le s.term (aE 27 c [])) [],nq s.li s.lt s.le s.term),{gI {s with li:=s.li,lt:=s.lt,le:=pb s.li s.lt s.le s.term (aE 27 c [])} with dB:=s.dB++[aE 29 (ui s.li s.lt s.le s.term (aE 27 c [])) []]})
  else((aE 29 (ui s.li s.lt s.le s.term (aE 27 c [])) [],nq s.li s.lt s.le s.term),{s with li:=s.li,lt:=s.lt,le:=pb s.li s.lt s.le s.term (aE 27 c [])}):=rfl
 rw[e];by_cases b:(nq s.li s.lt s.le s.term==0)=true
 .rw[if_pos b];refine⟨d,h.yM,h.yL,?_,?_,?_,?_,?_,h.cf,h.cs,a,h.tm,h.tx,h.rd⟩
  .show(pb _ _ _ _ _).length+k<=_;omega
  .show s.msgs.length+k<=_;omega
  .show(s.dB++[_]).length+k<=_;rw[ah,ba];omega
  .show s.aW.length+_<=_;omega
  show s.aT.length+k<=_;omega
 rw[if_neg b];refine⟨d,h.yM,h.yL,?_,?_,?_,?_,?_,h.cf,h.cs,a,h.tm,h.tx,h.rd⟩
 .show(pb _ _ _ _ _).length+k<=_;omega
 .show s.msgs.length+k<=_;omega
 .show s.dB.length+_<=_;omega
 .show s.aW.length+_<=_;omega
 show s.aT.length+k<=_;omega
def er(s:RS):RS:={s with Ki:=0,Dn:=0,I3:=0,EU:=0,BM:=0,I2:=0,uZ:=0,rl:=0,Dm:=0,uY:=0,rk:=0,Dl:=0,uX:=0,rh:=0,Dk:=0,uW:=0,rf:=0,Dj:=0}
def L8(s:RS):List (Int×Int×Int):=[(0,s.Ki,s.Dn),(1,s.EU,s.BM),(2,s.uZ,s.rl),(3,s.uY,s.rk),(4,s.uX,s.rh),(5,s.uW,s.rf)]
def kV{s t:RS}(e:er t=er s):Dx s t:=⟨(congrArg RS.li e:),(congrArg RS.lt e:),(congrArg RS.le e:),(congrArg RS.id e:),(congrArg RS.msgs e:),(congrArg RS.dB e:),(congrArg RS.aW e:),(congrArg RS.aT e:),(congrArg RS.fv e:),(congrArg RS.fl e:),(congrArg RS.sv e:),(congrArg RS.sl e:),(congrArg RS.term e:),(congrArg RS.reads e:)⟩
def Bo{P:RS->Prop}{s:RS}{x:Int}(e:0<=x)(d:x<=5)(c:∀m n o a,(L8 s)[x.toNat]?=some (x,m,n)->er a=er s->L8 a=L8 s->P (L7 x n o a s)):P (fx x s):=by
 have b:x=0\/x=1\/x=2\/x=3\/x=4\/x=5:=by omega
 rcases b with rfl|rfl|rfl|rfl|rfl|rfl<;>exact c _ _ _ _ rfl rfl rfl
def C4{P:RS->Prop}{s:RS}{x y:Int}(e:0<=x)(d:x<=5)(b:∀m n t c,(L8 s)[x.toNat]?=some (x,m,n)->er t=er s->L8 t=(L8 s).set x.toNat (x,wK m y (fW s.li s.lt s.le).1,wO m n y (fW s.li s.lt s.le).1)->P (if(((jn t).role==2)&&c)=true then fx x (jn t) else jn t)):P (mL x y s):=by
 have a:x=0\/x=1\/x=2\/x=3\/x=4\/x=5:=by omega
 rcases a with rfl|rfl|rfl|rfl|rfl|rfl<;>exact b _ _ _ _ rfl rfl rfl
def sW{P:RS->Prop}{s u:RS}{x:D}(d:gx (aE 46 x []) s=u)(h:0<=(cD 1 x).J)(e:(cD 1 x).J<=5)(g:P s)(h2:s.role=2->∀m n t,(L8 u)[(cD 1 x).J.toNat]?=some ((cD 1 x).J,m,n)->er t=er u->L8 t=(L8 u).set (cD 1 x).J.toNat ((cD 1 x).J,m,zC m n (cD 4 x).J u)->P (fx (cD 1 x).J t))(h3:s.role=2->(cD 7 x).Z=false->P (mL (cD 1 x).J (cD 4 x).J u)):P (gk x s):=by
 unfold gk;rw[d];dsimp only;by_cases a:((s.role !=2)||(!(jv (cD 1 x).J s)))=true
 .rw[if_pos a];exact g
 rw[if_neg a]
 have c:s.role=2:=by simp only[bI,bne_iff_ne,ne_eq,not_or,Decidable.not_not]at a;exact a.1
 replace h2:=h2 c;replace h3:=h3 c;generalize (cD 1 x).J=f at h e h2 h3;have b:f=0\/f=1\/f=2\/f=3\/f=4\/f=5:=by omega
 cases hb:(cD 7 x).Z
 .rcases b with rfl|rfl|rfl|rfl|rfl|rfl<;>(repeat (first|rw[if_pos (by decide)] |rw[if_neg (by decide)]))<;>exact h3 hb
 rcases b with rfl|rfl|rfl|rfl|rfl|rfl<;>(repeat (first|rw[if_pos (by decide)] |rw[if_neg (by decide)]))<;>exact h2 _ _ _ rfl rfl rfl
def ub{P:RS->Prop}{s:RS}{x:D}(i:0<=(cD 1 x).J)(g:(cD 1 x).J<=5)(d:P s)(h:s.role=2->(cD 7 x).Z=false->(cD 10 x).J=0->P (mL (cD 1 x).J (cD 4 x).J s))(h3:s.role=2->∀t,er t=er s->L8 t=L8 s->P (fx (cD 1 x).J t)):P (mq x s):=by
 unfold mq;by_cases c:((s.role !=2)||(!(jv (cD 1 x).J s)))=true
 .rw[if_pos c];exact d
 rw[if_neg c];simp only[bI,bne_iff_ne,ne_eq,not_or,Decidable.not_not]at c;by_cases a:((!(cD 7 x).Z)&&((cD 10 x).J==0))=true
 .rw[if_pos a];rw[aP,beq_iff_eq,cI]at a;exact h c.1 a.1 a.2
 rw[if_neg a];by_cases b:((cD 4 x).J==s.wR)=true
 .rw[if_pos b];replace h3:=h3 c.1;generalize (cD 1 x).J=f at i g h3;have e:f=0\/f=1\/f=2\/f=3\/f=4\/f=5:=by omega
  rcases e with rfl|rfl|rfl|rfl|rfl|rfl<;>(repeat (first|rw[if_pos (by decide)] |rw[if_neg (by decide)]))<;>exact h3 _ rfl rfl
 rw[if_neg b];exact d
def cP.lD{s:RS}{k:Nat}{x:Int}(h:cP C M s (k+1))(b:0<=x)(a:x<=5):cP C M (fx x s) k:=by
 refine Bo (P:=fun t=>cP C M t k) b a fun m n o c _ e _=>?_;unfold L7;split
 .exact(h.same (kV e)).send
 exact h.send
def cP.refuse{s:RS}{k:Nat}{x:D}(h:cP C M s (k+1)):cP C M (qq x s) k:=by
 unfold qq
 repeat' split
 all_goals first
  |exact h.send
  |exact h.le (by omega)
def cP.vote{s:RS}{k:Nat}{x:D}(h:cP C M s (k+1)):cP C M (xP x s) k:=by
 unfold xP;have a:∀(t:RS) (m:D),Dx s t->cP C M (gH m t) k:=fun t m e=>(h.same e).send;dsimp only;split
 .split
  .exact a _ _ jh
  exact a _ _ jh
 exact h.send
def cP.Ct{s:RS}{k:Nat}{x:D}(h:cP C M s k):cP C M (gJ x s).2 k:=by
 unfold gJ;split
 .exact h
 exact(h.follow h.tm h.tx).OJ
def EM(x:D):gp (D.agg ((x.V.drop 27).take 2))=gp (SE x):=by
 have e:∀j,j<2->((x.V.drop 27).take 2).getD j .top=x.V.getD (27+j) .top:=by intro j a;rw[ag,ag,aC,if_pos a,aL]
 unfold gp vo lr;show zN (iM (((x.V.drop 27).take 2).getD 0 .top)) (iM (((x.V.drop 27).take 2).getD 1 .top))=_;rw[e 0 (by omega),e 1 (by omega)];rfl
def KZ{s:RS}{k:Nat}{x:Int}(h:cP C M s k)(o:x<=9223372036854775807):gp (xS x s)=true:=by
 obtain⟨v,u⟩:=h.li;unfold xS rP;refine gO (fun a:Int×Tah×Tah=>a.1<=9223372036854775807) (fun d=>gp d=true) (fun a=>(a.1-s.li).toNat) ?_ _ _ o (du _);intro a w
 have e:nL s (jZ s.li s.lt s.le) a.1 a.2.1 a.2.2=if decide (a.1>s.li) then
   (if(decide (((fi s.li s.lt s.le a.1 1).length:Int)=1))&&((cD 2 ((fi s.li s.lt s.le a.1 1).getD 0 .top)).J==2) then .inr (aE 2 (D.agg ((((fi s.li s.lt s.le a.1 1).getD 0 .top).V.drop 27).take 2)) [])
    else .inl (IntKind.wrap i64 (a.1-1),a.2.1,a.2.2)) else .inr (nN s (jZ s.li s.lt s.le)):=rfl
 rw[e];by_cases b:decide (a.1>s.li)=true
 .rw[if_pos b];rw[bg]at b;generalize n:((decide (((fi s.li s.lt s.le a.1 1).length:Int)=1))&&((cD 2 ((fi s.li s.lt s.le a.1 1).getD 0 .top)).J==2))=c;cases c with
  |true=>
   simp only[aP,bg,beq_iff_eq]at n;show gp (D.agg ((((fi s.li s.lt s.le a.1 1).getD 0 .top).V.drop 27).take 2))=true;rw[EM];obtain⟨r,g⟩:=n;have q:(fi s.li s.lt s.le a.1 1).length=1:=by omega
   obtain⟨y,l⟩:=bP.1 q;rw[l]at g⊢;have p:y∈s.le:=xq (i:=s.li) (f:=a.1) (m:=1) (by show y∈fi s.li s.lt s.le a.1 1;rw[l];simp);exact gF.1 h.cl y p (by unfold pv;rw[beq_iff_eq];exact g)
  |false=>
   show IntKind.wrap i64 (a.1-1)<=_/\(IntKind.wrap i64 (a.1-1)-s.li).toNat<_;rw[wrap64 (by omega) (by omega)];exact⟨by omega,by omega⟩
 rw[if_neg b];show gp (nN s (jZ s.li s.lt s.le))=true;have t:nN s (jZ s.li s.lt s.le)=if decide (s.li>0) then aE 2 (D.agg [.list s.sv,.list s.sl]) [] else aE 2 (D.agg [.list s.fv,.list s.fl]) []:=rfl
 rw[t];by_cases j:decide (s.li>0)=true
 .rw[if_pos j];exact h.cs (by simpa using j)
 rw[if_neg j];exact h.cf
def iQ{s:RS}{k:Nat}(h:cP C M s k):gp (dU s)=true:=by obtain⟨b,a⟩:=h.li;show gp (xS (s.li+s.le.length) s)=true;refine KZ h ?_;simp only[MX]at a;omega
def EC{c y:D}(d:gp c=true)(a:y∈iP c):1<=y.J/\y.J<=5:=by
 unfold iP at a;rw[<-HR]at a;obtain⟨n,b,rfl⟩:=bf.1 a;obtain⟨f,e,_,_⟩:=FP.1 d;rcases FN.1 b with h|h
 .exact AE f n h
 exact AE e n h
def AZ{c:D}(d:gp c=true):(vo c).length<=5/\(lr c).length<=5:=by obtain⟨f,e,_,_⟩:=FP.1 d;have a:=AF (aJ 0) f;have b:=AF (aJ 0) e;omega
def wF{c:D}(d:gp c=true):(iP c).length<=10:=by
 obtain⟨a,b⟩:=AZ d
 have h:(E4 (vo c) (lr c)).length<=(vo c++lr c).length:=by unfold E4;exact aY (Lib.compact_length_le _) (by rw[pV];exact aM _)
 unfold iP;rw[<-HR,aj];simp only[ah]at h;omega
def iy{c:D}{s:RS}(p:gp c=true):(gq c s).length<=10/\∀y∈gq c s,1<=y.J/\y.J<=5:=by
 have i:gp (aE 2 c [])=true:=p;have g:=wF i;unfold gq tz;generalize m:iP (aE 2 c [])=b at g;have o:∀y∈b,1<=y.J/\y.J<=5:=fun y d=>EC i (m▸d);refine gO (fun a:Tah×Int=>0<=a.2/\a.1.length<=a.2.toNat/\a.2.toNat<=b.length/\∀y∈a.1,1<=y.J/\y.J<=5) (fun(l:Tah)=>l.length<=10/\∀y∈l,1<=y.J/\y.J<=5) (fun a=>b.length-a.2.toNat) ?_ _ _ ⟨by show(0:Int)<=0;omega,by simp,by simp,by simp⟩ (du _);rintro⟨l,j⟩ ⟨t,r,q,k⟩;simp only at t r q k;unfold tw;by_cases e:decide (j<(b.length:Int))=true
 .rw[if_pos e];rw[bg]at e;have n:IntKind.wrap i64 (j+1)=j+1:=wrap64 (by omega) (by omega);have h:j.toNat<b.length:=by omega
  by_cases f:((b.getD j.toNat .top).J !=s.id)=true
  .rw[if_pos f,n];refine⟨⟨by show 0<=j+1;omega,?_,by show(j+1).toNat<=_;omega,?_⟩,by show b.length-(j+1).toNat<b.length-j.toNat;omega⟩
   .show(l++[_]).length<=(j+1).toNat;rw[ah,ba];omega
   intro y d;rcases aQ.1 d with d|d
   .exact k y d
   rw[aG]at d;subst d;rw[ag,aR h,bq];exact o _ (aF h)
  rw[if_neg f,n];exact⟨⟨by show 0<=j+1;omega,by show l.length<=(j+1).toNat;omega,by show(j+1).toNat<=_;omega,k⟩,by show b.length-(j+1).toNat<b.length-j.toNat;omega⟩
 rw[if_neg e];exact⟨by show l.length<=10;omega,k⟩
def Pj(o:Int)(n:Nat)(d:n<=140737488355328):(decide (0<=jy (pI 0 o) n)&&(decide (jy (pI 0 o) n<=jy (i64.wrap (jy (pI 0 o) n+256)) n)&&decide (jy (i64.wrap (jy (pI 0 o) n+256)) n<=n)))=true:=by
 have c:0<=jy (pI 0 o) n/\jy (pI 0 o) n<=n:=by unfold jy pI;split<;>split<;>omega
 obtain⟨a,b⟩:=c;generalize jy (pI 0 o) n=m at a b;rw[wrap64 (by omega) (by omega)];simp only[aP,bg];unfold jy;split<;>omega
def KU{s:RS}(hs:dr (.Y eV) (encS s)):s.iI.length<=140737488355328:=by obtain⟨x,a,d⟩:=dh hs 18 (.list (.int .u8)) (by rw[Ty.dT];rfl);have e:(encS s)[18]?=some (.list s.iI):=rfl;rw[e]at a;injection a with a;subst a;obtain⟨l,b,g,_⟩:=bO.1 d;injection b with b;subst b;have c:=g.2;have f:(Ty.int .u8).bytes=1:=rfl;rw[f,bL]at c;exact c
def cP.alike{s t:RS}{k j:Nat}(h:cP C M s k)(a:j<=k)(e:Dx s t):cP C M t j:=(h.same e).le a
variable{C M:Nat}
def cP.Yt{s:RS}{k:Nat}{a:Int×Int}{l:Tah}(h:cP C M s (k+1)):cP C M (kC s a l) k:=by
 unfold kC;dsimp only;split
 .exact h.le (by omega)
 split
 .have b:=h.aW (x:=mR (aE 2 (dU s) []) (.list (l.take (i64.wrap (s.id-1)).toNat++(.int i64 a.1::(l.drop (i64.wrap (s.id-1)).toNat).drop (1:Int).toNat))));exact(b.follow b.tm b.tx).OJ
 exact h.aW
def cP.agree{s:RS}{k:Nat}(h:cP C M s (k+1)):cP C M (jn s) k:=by
 unfold jn pW;refine gO (fun a:Tah×Int=>0<=a.2/\a.2<=5) (fun t=>cP C M t k) (fun a=>5-a.2.toNat) ?_ _ _ ⟨by show(0:Int)<=0;omega,by show(0:Int)<=5;omega⟩ (du _);intro a c;revert c;generalize a.2=j;generalize a.1=l;rintro⟨e,d⟩;unfold lK;have b:j=0\/j=1\/j=2\/j=3\/j=4\/j=5:=by omega
 rcases b with rfl|rfl|rfl|rfl|rfl|rfl
 .rw[if_pos (by decide),if_pos (by decide)];refine⟨⟨?_,?_⟩,?_⟩<;>(dsimp only;decide)
 .rw[if_pos (by decide),if_neg (by decide),if_pos (by decide)];refine⟨⟨?_,?_⟩,?_⟩<;>(dsimp only;decide)
 .rw[if_pos (by decide),if_neg (by decide),if_neg (by decide),if_pos (by decide)];refine⟨⟨?_,?_⟩,?_⟩<;>(dsimp only;decide)
 .rw[if_pos (by decide),if_neg (by decide),if_neg (by decide),if_neg (by decide),if_pos (by decide)];refine⟨⟨?_,?_⟩,?_⟩<;>(dsimp only;decide)
 .rw[if_pos (by decide),if_neg (by decide),if_neg (by decide),if_neg (by decide),if_neg (by decide),if_pos (by decide)];refine⟨⟨?_,?_⟩,?_⟩<;>(dsimp only;decide)
 rw[if_neg (by decide)];exact h.Yt
def IH{B:Type}{x:Tah}{step:Int->RS->(Int×RS)⊕B}{ex:RS->B}{bad:B}{m:Int->RS->Nat}{Q:B->Prop}{k:Nat}{s:RS}(h:x.length<=10/\∀y∈x,1<=y.J/\y.J<=5)(d:∀i t,step i t=if decide (i<(x.length:Int)) then .inl (i64.wrap (i+1),fx ((x.getD i.toNat .top).J) t) else .inr (ex t))(f:∀i t,m i t=x.length-i.toNat)(hs:cP C M s (k+10))(n:∀t,cP C M t k->Q (ex t)):
  Q (gY (fun a:Int×RS=>step a.1 a.2) bad (m 0 s+1) (0,s)):=by
 refine gO (fun a:Int×RS=>0<=a.1/\a.1<=x.length/\cP C M a.2 (k+(10-a.1.toNat))) Q (fun a=>m a.1 a.2) ?_ _ _ ⟨aJ 0,eB _,hs⟩ (du _);rintro⟨i,t⟩ ⟨p,o,e⟩;simp only at p o e;obtain⟨q,j⟩:=h;rw[d];by_cases b:decide (i<(x.length:Int))=true
 .rw[if_pos b];rw[bg]at b;have c:i.toNat<x.length:=by omega
  have g:=j _ (aF c);have l:x.getD i.toNat .top=x[i.toNat]:=by rw[ag,aR c];rfl
  rw[l,wrap64 (by omega) (by omega)];refine⟨⟨by show 0<=i+1;omega,by show i+1<=_;omega,?_⟩,by show m (i+1) _<m i t;rw[f,f];omega⟩;show cP C M (fx _ t) (k+(10-(i+1).toNat));refine cP.lD (e.le ?_) (by omega) g.2;omega
 rw[if_neg b];exact n t (e.le (by omega))
def cP.ads{s:RS}{k:Nat}(h:cP C M s (k+12)):cP C M (rO s) k:=by unfold rO;dsimp only;have a:cP C M (oc (aE 27 Kz [(0,.int i64 1)]) s).2 (k+11):=h.put (by intro d;exact absurd d (by decide));exact IH (k:=k+1) (Q:=fun t=>cP C M t k) (iy (c:=aE 2 (dU _) []) (iQ a)) (fun _ _=>rfl) (fun _ _=>rfl) a (fun t b=>b.agree)
def cP.lead{s:RS}{k:Nat}(h:cP C M s (k+12)):cP C M (xR s) k:=by
 unfold xR rN;refine gO (fun a:Int×RS=>0<=a.1/\a.1<=6/\cP C M a.2 (k+12)) (fun t=>cP C M t k) (fun a=>6-a.1.toNat) ?_ _ _ ⟨by show(0:Int)<=0;omega,by show(0:Int)<=6;omega,⟨h.may,h.yM,h.yL,h.tM,h.nm,h.ne,h.nc,h.nv,h.cf,h.cs,h.cl,h.tm,h.tx,rfl⟩⟩ (du _);intro a d;revert d;generalize a.2=t;generalize a.1=j;rintro⟨f,e,b⟩;unfold rM;have c:j=0\/j=1\/j=2\/j=3\/j=4\/j=5\/j=6:=by omega
 rcases c with rfl|rfl|rfl|rfl|rfl|rfl|rfl
 .rw[if_pos (by decide),if_pos (by decide)];refine⟨⟨?_,?_,b.same jh⟩,?_⟩<;>(dsimp only;decide)
 .rw[if_pos (by decide),if_neg (by decide),if_pos (by decide)];refine⟨⟨?_,?_,b.same jh⟩,?_⟩<;>(dsimp only;decide)
 .rw[if_pos (by decide),if_neg (by decide),if_neg (by decide),if_pos (by decide)];refine⟨⟨?_,?_,b.same jh⟩,?_⟩<;>(dsimp only;decide)
 .rw[if_pos (by decide),if_neg (by decide),if_neg (by decide),if_neg (by decide),if_pos (by decide)];refine⟨⟨?_,?_,b.same jh⟩,?_⟩<;>(dsimp only;decide)
 .rw[if_pos (by decide),if_neg (by decide),if_neg (by decide),if_neg (by decide),if_neg (by decide),if_pos (by decide)];refine⟨⟨?_,?_,b.same jh⟩,?_⟩<;>(dsimp only;decide)
 .rw[if_pos (by decide),if_neg (by decide),if_neg (by decide),if_neg (by decide),if_neg (by decide),if_neg (by decide),if_pos (by decide)];refine⟨⟨?_,?_,b.same jh⟩,?_⟩<;>(dsimp only;decide)
 rw[if_neg (by decide)];exact b.ads
def Gm{c:D}{p:Int×Int}{x:Tah}{f:RS}{k:Nat}(n:x.length<=10)(h:cP C M f (k+10)):cP C M (lQ c p x 0 f) k:=by
 unfold lQ;refine gO (fun a:Int×RS=>0<=a.1/\a.1<=x.length/\cP C M a.2 (k+(10-a.1.toNat))) (fun t=>cP C M t k) (fun a=>x.length-a.1.toNat) ?_ _ _ ⟨aJ 0,eB _,h⟩ (du _);intro a j;revert j;generalize a.2=t;generalize a.1=i;rintro⟨m,l,d⟩;unfold nR;dsimp only;by_cases b:decide (i<(x.length:Int))=true
 .rw[if_pos b];rw[bg]at b;have e:IntKind.wrap i64 (i+1)=i+1:=wrap64 (by omega) (by omega);rw[e];by_cases g:jo (aE 2 c []) ((x.getD i.toNat .top).J)=true
  .rw[if_pos g];refine⟨⟨by show 0<=i+1;omega,by show i+1<=_;omega,?_⟩,by show x.length-(i+1).toNat<x.length-i.toNat;omega⟩;show cP C M (gH _ t) (k+(10-(i+1).toNat));exact cP.send (d.le (by omega))
  rw[if_neg g];exact⟨⟨by show 0<=i+1;omega,by show i+1<=_;omega,d.le (by show k+(10-(i+1).toNat)<=_;omega)⟩,by show x.length-(i+1).toNat<x.length-i.toNat;omega⟩
 rw[if_neg b];exact d.le (by omega)
def cP.Hl{s:RS}{k:Nat}(h:cP C M s k)(b:s.term<MX):cP C M ({gI ({s with term:=i64.wrap (s.term+1),vote:=s.id}:RS) with role:=1,br:=0,aT:=[.int i64 s.id]}:RS) k:=by
 have a:IntKind.wrap i64 (s.term+1)=s.term+1:=wrap64 (by have:=h.tm;omega) (by simp only[MX]at b;omega);have d:=h.tm;have c:=h.tM;refine⟨h.may,h.yM,h.yL,h.tM,h.nm,h.ne,h.nc,?_,h.cf,h.cs,h.cl,?_,?_,h.rd⟩
 .show([D.int i64 s.id]:Tah).length+k<=_;simp only[ba];omega
 .show 0<=IntKind.wrap i64 (s.term+1);rw[a];omega
 show IntKind.wrap i64 (s.term+1)<=MX;rw[a];omega
def cP.MG{s:RS}{k:Nat}{c:D}(h:cP C M s (k+13))(d:gp c=true)(b:s.term<MX):cP C M (lG c s) k:=by
 have a:=h.Hl b;unfold lG;dsimp only;split
 .exact(a.le (by omega:k+12<=k+13)).lead
 exact Gm (iy d).1 (a.le (by omega))
variable{C M:Nat}
def cP.ite{k:Nat}{c:Prop}[Decidable c]{a b:RS}(e:c->cP C M a k)(d:¬c->cP C M b k):cP C M (if c then a else b) k:=by
 split
 .exact e (by assumption)
 exact d (by assumption)
def cP.aaR{d:Type}{k:Nat}{c:Prop}[Decidable c]{a b:d×RS}(f:c->cP C M a.2 k)(e:¬c->cP C M b.2 k):cP C M (if c then a else b).2 k:=by
 split
 .exact f (by assumption)
 exact e (by assumption)
def cP.rY{s:RS}{k:Nat}{x:D}(h:cP C M s k):cP C M (gx x s) k:=by unfold gx jN;dsimp only;unfold gY jM;rw[if_neg (by rw[h.rd];exact(by decide:¬decide ((0:Int)<(([]:Tah).length:Int))=true))];exact⟨h.may,h.yM,h.yL,h.tM,h.nm,h.ne,h.nc,h.nv,h.cf,h.cs,h.cl,h.tm,h.tx,rfl⟩
def cP.has{s:RS}{k:Nat}{x y:Int}(h:cP C M s (k+2))(d:0<=x)(b:x<=5):cP C M (mL x y s) k:=by refine C4 (P:=fun t=>cP C M t k) d b fun m n t c _ e _=>?_;have a:cP C M (jn t) (k+1):=(h.same (kV e)).agree;exact cP.ite (fun _=>a.lD d b) (fun _=>a.le (by omega))
def Gj{i t:Int}{l:Tah}{y:D}:∀{es:Tah},y∈(qZ i t l es).2->y∈l\/y∈es
 |[],h=>.inl h
 |x::r,h=>by
  unfold qZ at h;split at h
  .exact(Gj h).imp id (ao _)
  rcases aQ.1 h with h|h
  .exact .inl (cV h)
  exact .inr h
def P3{i t:Int}{l es:Tah}{pi pt:Int}{y:D}(h:y∈(iv i t l pi pt es).2):y∈l\/y∈es:=by
 unfold iv at h;split at h
 .exact Gj h
 exact .inl h
def cP.log{s t:RS}{k j:Nat}(h:cP C M s k)(c:j<=k)(l:gn t.li t.lt t.le=true)(m:t.le.length+j<=1073741824)(e:eF t.le=true)(d:0<t.li->gp (.agg [.list t.sv,.list t.sl])=true)(n:t.id=s.id/\t.msgs=s.msgs/\t.dB=s.dB/\t.aW=s.aW/\t.aT=s.aT/\t.fv=s.fv/\t.fl=s.fl/\t.term=s.term/\t.reads=s.reads):cP C M t j:=by obtain⟨i,r,q,p,o,e9,g,a,f⟩:=n;have b:=h.le c;refine⟨l,by rw[i];exact h.yM,by rw[i];exact h.yL,m,by rw[r];exact b.nm,by rw[q];exact b.ne,by rw[p];exact b.nc,by rw[o];exact b.nv,by rw[e9,g];exact h.cf,d,e,by rw[a];exact h.tm,by rw[a];exact h.tx,by rw[f];exact h.rd⟩
def cP.accept{s:RS}{k:Nat}{pi pt:Int}{es:Tah}(h:cP C M s (k+es.length))(b:eF es=true):cP C M ({s with li:=s.li,lt:=s.lt,le:=(iv s.li s.lt s.le pi pt es).2}:RS) k:=by
 obtain⟨c,e⟩:=P4 (pi:=pi) (pt:=pt) (es:=es) h.may;have d:=h.tM;refine h.log (by omega) c ?_ ?_ h.cs ⟨rfl,rfl,rfl,rfl,rfl,rfl,rfl,rfl,rfl⟩
 .show(iv s.li s.lt s.le pi pt es).2.length+k<=_;omega
 refine gF.2 fun y a=>?_;rcases P3 a with a|a
 .exact gF.1 h.cl y a
 exact gF.1 b y a
def cP.dB{s:RS}{k:Nat}{f m:Int}(h:cP C M s k):cP C M ({gI s with dB:=fi s.li s.lt s.le f m}:RS) k:=by have b:=h.tM;have a:=tq (i:=s.li) (f:=f) (m:=m) (l:=s.le);refine⟨h.may,h.yM,h.yL,h.tM,h.nm,?_,h.nc,h.nv,h.cf,h.cs,h.cl,h.tm,h.tx,h.rd⟩;show(fG s.li s.le f m).length+k<=_;omega
def cP.append{s:RS}{k:Nat}{x:D}(h:cP C M s (k+3+(cD 12 x).V.length))(b:eF (cD 12 x).V=true):cP C M (kW x s) k:=by
 have a:cP C M (gJ (aE 46 x []) s).2 (k+3+(cD 12 x).V.length):=h.Ct;unfold kW;generalize gJ (aE 46 x []) s=ln at a;dsimp only;have c:=cP.accept (pi:=(cD 4 x).J) (pt:=(cD 5 x).J) a b;split
 .exact a.le (by omega)
 split
 .exact cP.send (a.le (by omega))
 split
 .exact cP.send (c.le (by omega))
 split
 .exact cP.send (cP.aW ((cP.dB c).le (by omega)))
 exact cP.send (cP.aW (c.le (by omega)))
def cP.appended{s:RS}{k:Nat}{x:D}(h:cP C M s (k+2))(b:0<=(cD 1 x).J)(a:(cD 1 x).J<=5):cP C M (gk x s) k:=by have c:cP C M (gx (aE 46 x []) s) (k+2):=h.rY;exact sW (P:=fun t=>cP C M t k) rfl b a (h.le (by omega)) (fun _ m n t _ e _=>((c.same (kV e)).le (by omega:k+1<=k+2)).lD b a) (fun _ _=>c.has b a)
def cP.D4{s:RS}{k:Nat}{x:D}(h:cP C M s (k+2))(b:0<=(cD 1 x).J)(a:(cD 1 x).J<=5):cP C M (mq x s) k:=
 ub (P:=fun t=>cP C M t k) b a (h.le (by omega)) (fun _ _ _=>h.has b a) (fun _ t e _=>((h.same (kV e)).le (by omega:k+1<=k+2)).lD b a)
def vQ{a b:Bool}(h:¬(a|| !b)=true):b=true:=by cases a<;>cases b<;>simp_all
def LJ{i t:Int}{l:Tah}{k:Int}{y:D}(h:y∈(jR i t l k).2.2):y∈l:=by
 unfold jR at h;split at h
 .exact h
 exact dx h
def J2{i t:Int}(h:¬(cD 0 (lE i t)).iL=true):okB i t=true/\cD 1 (lE i t)=rb i t []:=by
 unfold lE at h⊢;split
 .rename_i a;exact⟨a.1,rfl⟩
 rename_i a;rw[if_neg a]at h;exact absurd rfl h
def cP.SY{s t:RS}{k j:Nat}{c:Int}(h:cP C M s k)(a:j<=k)(d:(t.li,t.lt,t.le)=jR s.li s.lt s.le c)(l:gp (.agg [.list t.sv,.list t.sl])=true)(g:t.id=s.id/\t.msgs=s.msgs/\t.dB=s.dB/\t.aW=s.aW/\t.aT=s.aT/\t.fv=s.fv/\t.fl=s.fl/\t.term=s.term/\t.reads=s.reads):cP C M t j:=by obtain⟨b,e⟩:=LK (k:=c) h.may;have m:=h.tM;rw[<-d]at b e;simp only at b e;refine h.log a b (by omega) (EI h.cl fun y f=>LJ (i:=s.li) (t:=s.lt) (k:=c) ?_) (fun _=>l) g;rw[<-d];exact f
def cP.SW{s t:RS}{k j:Nat}{i m:Int}(h:cP C M s k)(c:j<=k)(f:¬(cD 0 (lE i m)).iL=true)(e:(t.li,t.lt,t.le)=((cD 0 (cD 1 (lE i m))).J,(cD 1 (cD 1 (lE i m))).J,(cD 2 (cD 1 (lE i m))).V))(l:gp (.agg [.list t.sv,.list t.sl])=true)(g:t.id=s.id/\t.msgs=s.msgs/\t.dB=s.dB/\t.aW=s.aW/\t.aT=s.aT/\t.fv=s.fv/\t.fl=s.fl/\t.term=s.term/\t.reads=s.reads):cP C M t j:=by obtain⟨o,n⟩:=J2 f;have p:=h.tM;rw[n]at e;injection e with d b;injection b with b a;replace d:t.li=i:=d;replace b:t.lt=m:=b;replace a:t.le=[]:=a;refine h.log c ?_ (by rw[a];simp;omega) (by rw[a];rfl) (fun _=>l) g;rw[d,b,a];exact eS.2 ⟨jL.1 o,rfl⟩
def cP.snap{s:RS}{k:Nat}{x:D}(h:cP C M s (k+1)):cP C M (xQ x s) k:=by
 have a:cP C M (gJ (aE 46 x []) s).2 (k+1):=h.Ct;unfold xQ;generalize gJ (aE 46 x []) s=ln at a;dsimp only;refine cP.ite (fun _=>a.le (by omega)) (fun _=>?_);refine cP.ite (fun _=>cP.send a) (fun _=>?_);unfold xN;dsimp only;have l:∀(t:RS) (m:D),Dx ln.2 t->cP C M (gH m t) k:=fun t m e=>cP.send (a.same e);have j:∀(t:RS) (m:D) (c:Int),(t.li,t.lt,t.le)=jR ln.2.li ln.2.lt ln.2.le c->gp (.agg [.list t.sv,.list t.sl])=true->(t.id=ln.2.id/\t.msgs=ln.2.msgs/\t.dB=ln.2.dB/\t.aW=ln.2.aW/\t.aT=ln.2.aT/\t.fv=ln.2.fv/\t.fl=ln.2.fl/\t.term=ln.2.term/\t.reads=ln.2.reads)->cP C M (gH m (gI t)) k:=fun t m c f d b=>cP.send (cP.saved (a.SY (aM _) f d b));have g:∀(t:RS) (m:D) (i n:Int),¬(cD 0 (lE i n)).iL=true->(t.li,t.lt,t.le)=((cD 0 (cD 1 (lE i n))).J,(cD 1 (cD 1 (lE i n))).J,(cD 2 (cD 1 (lE i n))).V)->gp (.agg [.list t.sv,.list t.sl])=true->(t.id=ln.2.id/\t.msgs=ln.2.msgs/\t.dB=ln.2.dB/\t.aW=ln.2.aW/\t.aT=ln.2.aT/\t.fv=ln.2.fv/\t.fl=ln.2.fl/\t.term=ln.2.term/\t.reads=ln.2.reads)->cP C M (gH m (gI t)) k:=fun t m i n o f d b=>cP.send (cP.saved (a.SW (aM _) o f d b))
 (repeat' (first|(with_reducible refine cP.ite (fun _=>?_) (fun _=>?_))|(with_reducible refine cP.aaR (fun _=>?_) (fun _=>?_))))
 all_goals first
  |(refine l _ _ ?_;exact⟨rfl,rfl,rfl,rfl,rfl,rfl,rfl,rfl,rfl,rfl,rfl,rfl,rfl,rfl⟩)
  |(refine j _ _ (cD 4 x).J ?_ ?_ ?_;exact rfl;exact vQ ‹¬(_|| !_)=true›;exact⟨rfl,rfl,rfl,rfl,rfl,rfl,rfl,rfl,rfl⟩)
  |(refine g _ _ (cD 4 x).J (cD 5 x).J ?_ ?_ ?_ ?_;assumption;exact rfl;exact vQ ‹¬(_|| !_)=true›;exact⟨rfl,rfl,rfl,rfl,rfl,rfl,rfl,rfl,rfl⟩)
def cP.MC{s:RS}{k:Nat}{x:D}(h:cP C M s (k+13)):cP C M (rE x s) k:=by
 have c:=h.nv
 have b:cP C M ({s with aT:=s.aT++[cD 1 x]}:RS) (k+12):=by have a:=h.le (by omega:k+12<=k+13);refine⟨a.may,a.yM,a.yL,a.tM,a.nm,a.ne,a.nc,?_,a.cf,a.cs,a.cl,a.tm,a.tx,a.rd⟩;show(s.aT++[cD 1 x]).length+(k+12)<=_;rw[ah,ba];omega
 unfold rE;dsimp only
 (repeat' (first|(with_reducible refine cP.ite (fun _=>?_) (fun _=>?_))|(with_reducible refine cP.aaR (fun _=>?_) (fun _=>?_))))
 all_goals first
  |exact h.le (by omega)
  |exact b.le (by omega)
  |exact b.lead
def GG(x:D)(s:RS):(gJ x s).2.fK.length<=s.fK.length:=by
 unfold gJ fQ;by_cases h:(s.role==2)=true
 .rw[if_pos h];exact aM _
 rw[if_neg h];by_cases a:decide (s.term>s.term)=true
 .rw[if_pos a];exact aM _
 rw[if_neg a];exact aM _
def K5{s:RS}(hs:dr (.Y eV) (encS s)):s.fK.length<=140737488355328:=by obtain⟨x,a,d⟩:=dh hs 50 (.list (.int .u8)) (by rw[Ty.dT];rfl);have e:(encS s)[50]?=some (.list s.fK):=rfl;rw[e]at a;injection a with a;subst a;obtain⟨l,b,g,_⟩:=bO.1 d;injection b with b;subst b;have c:=g.2;have f:(Ty.int .u8).bytes=1:=rfl;rw[f,bL]at c;exact c
end Go.Proofs.Ytjhmkaninmgilaa
