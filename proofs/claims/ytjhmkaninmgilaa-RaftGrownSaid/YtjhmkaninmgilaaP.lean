/- RaftGrown gives true, whatever it is given, and its arguments read as they did; no condition. -/
import Derived.Test.YtjhmkaninmgilaaRows
import Derived.Test.YtjhmkaninmgilaaS12
import Derived.Test.YtjhmkaninmgilaaS03
import Derived.SizedLaws
import Derived.JoinedCond
import Derived.Deep.CondSized
set_option linter.unusedVariables false
set_option linter.unusedSimpArgs false
set_option maxHeartbeats 4000000
namespace Go.Proofs.Ytjhmkaninmgilaa
open Go.ChangeShapes Go.WideShapes Go.ChangeAt Go.RowKit Go.dG
theorem Try.own:ownKnob Try.prog.godebug=none:=by kernel_rfl
theorem Try.laidOut:laidOutB Try.prog=true:=by kernel_rfl
set_option maxRecDepth 100000 in
theorem raftGrown_lifted(os:Os)(a:os.Started)(H:Type)(enc:TypeId×Value->H):
  ReturnsInHanded {} Try.checked os 6 .any (Rows.raftGrownSpec.pre6 enc Try.prog Try.f6 Rows.raftGrownRow.domain false) (Rows.raftGrownSpec.post enc Try.prog Try.f6 false true false false):=by
 refine returnsInHanded_of_change_sized (C:=Try.checked) Try.own a (by kernel_rfl) Try.func6
  (ChangeSpec.witness6 (enc:=enc) (C:=Try.checked) false ⟨#[], #[.slice none 0 0],[]⟩ 8 (by kernel_rfl) (by kernel_rfl) (by kernel_rfl) (by kernel_rfl)) ?_
 intro W base h j i c b f _ d _;have e:=f;obtain⟨p,q,g,_⟩:=e;rw[Try.params6]at g;obtain⟨_,_,_,rfl,_⟩:=trodAll_one g;exact Lo 16 c6 Try.laidOut (by kernel_rfl) (by kernel_rfl) rfl (by kernel_rfl) (tb:=4) (by kernel_rfl) rfl rfl b f d (fun _ _=>⟨trivial,rfl⟩)
theorem raftGrown_holds:Rows.RaftGrownSaid:=
 OpenClaim.holds_of_wide 6 Try.f6 rfl rfl rfl rfl rfl rfl rfl ⟨rfl,rfl,rfl,rfl,rfl⟩ rfl rfl rfl rfl rfl (by kernel_rfl) Try.func6 (by kernel_rfl)
  (of_decide_eq_true (by kernel_rfl)) (by unfold Func.isWrapper;rw[if_neg (by decide+kernel)];exact⟨rfl,rfl⟩)
  (fun c a H b _=>raftGrown_lifted c a H b)
end Go.Proofs.Ytjhmkaninmgilaa
