/- RaftLearns gives true, whatever it is given, and its arguments read as they did; where what it reads is of bulk at most 1048576. -/
import Derived.Test.YtjhmkaninmgilaaRows
import Derived.Test.YtjhmkaninmgilaaS13
import Derived.Test.YtjhmkaninmgilaaS03
import Derived.SizedLaws
import Derived.JoinedCond
import Derived.Deep.CondSized
set_option linter.unusedVariables false
set_option linter.unusedSimpArgs false
set_option maxHeartbeats 4000000
namespace Go.Proofs.Ytjhmkaninmgilaa
open Go.ChangeShapes Go.WideShapes Go.ChangeAt Go.RowKit Go.dF
theorem Try.own:ownKnob Try.prog.godebug=none:=by kernel_rfl
theorem Try.laidOut:laidOutB Try.prog=true:=by kernel_rfl
mutual
theorem PF{H:Type}:∀d:DataW H,yU d<=Rows.uptoBulk d
 |.lit v=>by cases v<;>simp[yU,Rows.uptoBulk]
 |.nil=>by simp[yU,Rows.uptoBulk]
 |.ptr d=>by simp[yU,Rows.uptoBulk]
 |.slice e s=>by have:=tQ e;simp only[yU,Rows.uptoBulk];omega
 |.agg p=>by have:=tQ p;simp only[yU,Rows.uptoBulk];omega
 |.iface _ d=>by simp[yU,Rows.uptoBulk]
 |.map e=>by simp[yU,Rows.uptoBulk]
 |.held _=>by simp[yU,Rows.uptoBulk]
theorem tQ{H:Type}:∀l:List (DataW H),vu l<=Rows.uptoBulkAll l
 |[]=>by simp[vu,Rows.uptoBulkAll]
 |d::r=>by have b:=PF d;have a:=tQ r;simp only[vu,Rows.uptoBulkAll];omega
end
theorem OW{H:Type}{ds:List (DataW H)}(a:Rows.uptoSmall H ds=true):vu ds<=1048576:=
 aY (tQ ds) (of_decide_eq_true a)
set_option maxRecDepth 100000 in
theorem raftLearns_lifted(os:Os)(a:os.Started)(H:Type)(enc:TypeId×Value->H)(F:Stop.Interp):
  ReturnsInHanded {} Try.checked os 5 .any ((Rows.OpenSpec.upto Rows.raftLearnsSpec).pre6 enc Try.prog Try.f5 Rows.raftLearnsUptoRow.domain false) (((Rows.OpenSpec.upto Rows.raftLearnsSpec).at F).post enc Try.prog Try.f5 false true false false):=by
 refine returnsInHanded_of_cond_sized (C:=Try.checked) (s:=Rows.OpenSpec.upto Rows.raftLearnsSpec) (k:=Rows.uptoSmall) rfl Try.own a (by kernel_rfl) Try.func5
  (OpenSpec.witness (enc:=enc) (C:=Try.checked) (s:=Rows.OpenSpec.upto Rows.raftLearnsSpec) (k:=Rows.uptoSmall) rfl false ⟨#[], #[.slice none 0 0],[]⟩ 8 (by kernel_rfl) (by kernel_rfl) (by kernel_rfl)
   (x:=([.nil],[],[])) (by kernel_rfl) rfl (by kernel_rfl)) ?_
 intro W base i o n c b g _ l d _;have f:=g;obtain⟨p,q,h,_⟩:=f;rw[Try.params5]at h;obtain⟨_,_,_,rfl,_⟩:=trodAll_one h;have e:=OW l;exact Em (s:=Rows.raftLearnsSpec) 16 c5 Try.laidOut (by kernel_rfl) (by kernel_rfl) rfl (by kernel_rfl) (tb:=4) (by kernel_rfl) rfl rfl b g d (fun m _ j=>⟨aY j e,rfl⟩)
theorem raftLearns_holds:Rows.RaftLearnsUptoSaid:=
 OpenClaim.holds_of_cond 5 Try.f5 rfl rfl rfl rfl rfl rfl rfl ⟨rfl,rfl,rfl,rfl,rfl⟩ rfl rfl rfl rfl rfl (by kernel_rfl) Try.func5 (by kernel_rfl)
  (of_decide_eq_true (by kernel_rfl)) (by unfold Func.isWrapper;rw[if_neg (by decide+kernel)];exact⟨rfl,rfl⟩)
  (fun c a H b _ F=>raftLearns_lifted c a H b F)
end Go.Proofs.Ytjhmkaninmgilaa
