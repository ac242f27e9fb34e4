/- RaftOut gives true, whatever it is given, and its arguments read as they did; where what it reads is of bulk at most 1048576. -/
import Derived.Test.YtjhmkaninmgilaaRows
import Derived.Test.YtjhmkaninmgilaaS13
import Derived.Test.YtjhmkaninmgilaaS04
import Derived.SizedLaws
import Derived.JoinedCond
import Derived.Deep.CondSized
set_option linter.unusedVariables false
set_option linter.unusedSimpArgs false
set_option maxHeartbeats 4000000
namespace Go.Proofs.Ytjhmkaninmgilaa
open Go.ChangeShapes Go.WideShapes Go.ChangeAt Go.RowKit Go.dI
theorem Try.own:ownKnob Try.prog.godebug=none:=by kernel_rfl
theorem Try.laidOut:laidOutB Try.prog=true:=by kernel_rfl
mutual
theorem OW{H:Type}: ∀d:DataW H,yk d<=Rows.uptoBulk d
 |.lit v=>by cases v<;>simp[yk,Rows.uptoBulk]
 |.nil=>by simp[yk,Rows.uptoBulk]
 |.ptr d=>by simp[yk,Rows.uptoBulk]
 |.slice e s=>by have:=tl e;simp only[yk,Rows.uptoBulk];omega
 |.agg p=>by have:=tl p;simp only[yk,Rows.uptoBulk];omega
 |.iface _ d=>by simp[yk,Rows.uptoBulk]
 |.map e=>by simp[yk,Rows.uptoBulk]
 |.held _=>by simp[yk,Rows.uptoBulk]
theorem tl{H:Type}: ∀l:List (DataW H),uQ l<=Rows.uptoBulkAll l
 | [] =>by simp[uQ,Rows.uptoBulkAll]
 |d::r=>by have b:=OW d;have a:=tl r;simp only[uQ,Rows.uptoBulkAll];omega
end
theorem Oh{H:Type}{ds:List (DataW H)}(a:Rows.uptoSmall H ds=true):uQ ds<=1048576:=
 aW (tl ds) (of_decide_eq_true a)
set_option maxRecDepth 100000 in
theorem raftOut_lifted(os:Os)(a:os.Started)(H:Type)(enc:TypeId×Value->H)(F:Stop.Interp):
  ReturnsInHanded {} Try.checked os 3 .any ((Rows.OpenSpec.upto Rows.raftOutSpec).pre6 enc Try.prog Try.f3 Rows.raftOutUptoRow.domain false) (((Rows.OpenSpec.upto Rows.raftOutSpec).at F).post enc Try.prog Try.f3 false true false false):=by
 refine returnsInHanded_of_cond_sized (C:=Try.checked) (s:=Rows.OpenSpec.upto Rows.raftOutSpec) (k:=Rows.uptoSmall) rfl Try.own a (by kernel_rfl) Try.func3
  (OpenSpec.witness (enc:=enc) (C:=Try.checked) (s:=Rows.OpenSpec.upto Rows.raftOutSpec) (k:=Rows.uptoSmall) rfl false ⟨#[], #[.int .i64 0,.slice none 0 0],[]⟩ 8 (by kernel_rfl) (by kernel_rfl) (by kernel_rfl)
   (x:=([.lit (.int .i64 0),.nil],[],[])) (by kernel_rfl) rfl (by kernel_rfl)) ?_
 intro W base i o n c b g _ l d _;have f:=g;obtain⟨p,q,h,_⟩:=f;rw[Try.params3]at h;obtain⟨_,_,_,_,_,_,_,rfl,_⟩:=trodAll_two h;have e:=Oh l;exact DL (s:=Rows.raftOutSpec) 16 c3 Try.laidOut (by kernel_rfl) (by kernel_rfl) rfl (by kernel_rfl) (tb:=4) (by kernel_rfl) rfl rfl b g d (fun m _ j=>⟨aW j e,rfl⟩)
theorem raftOut_holds:Rows.RaftOutUptoSaid:=
 OpenClaim.holds_of_cond 3 Try.f3 rfl rfl rfl rfl rfl rfl rfl ⟨rfl,rfl,rfl,rfl,rfl⟩ rfl rfl rfl rfl rfl (by kernel_rfl) Try.func3 (by kernel_rfl)
  (of_decide_eq_true (by kernel_rfl)) (by unfold Func.isWrapper;rw[if_neg (by decide+kernel)];exact⟨rfl,rfl⟩)
  (fun c a H b _ F=>raftOut_lifted c a H b F)
end Go.Proofs.Ytjhmkaninmgilaa
