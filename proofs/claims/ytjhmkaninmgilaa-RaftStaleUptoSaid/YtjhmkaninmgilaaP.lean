/- RaftStale gives true, whatever its arguments, and its arguments read as they did; where what it reads is of bulk at most 1048576. -/
import Derived.Test.YtjhmkaninmgilaaRows
import Derived.Test.YtjhmkaninmgilaaS12
import Derived.Test.YtjhmkaninmgilaaS05
import Derived.SizedLaws
import Derived.JoinedCond
import Derived.Deep.CondSized
set_option linter.unusedVariables false
set_option linter.unusedSimpArgs false
set_option maxHeartbeats 4000000
namespace Go.Proofs.Ytjhmkaninmgilaa
open Go.ChangeShapes Go.WideShapes Go.ChangeAt Go.RowKit Go.bZ
theorem Try.own:ownKnob Try.prog.godebug=none:=by kernel_rfl
theorem Try.laidOut:laidOutB Try.prog=true:=by kernel_rfl
mutual
theorem Sv{H:Type}: ∀d:DataW H,zl d≤Rows.uptoBulk d
 | .lit v=>by cases v<;>simp[zl,Rows.uptoBulk]
 | .nil=>by simp[zl,Rows.uptoBulk]
 | .ptr d=>by simp[zl,Rows.uptoBulk]
 | .slice e s=>by
  have:=so e
  simp only[zl,Rows.uptoBulk];omega
 | .agg p=>by
  have:=so p
  simp only[zl,Rows.uptoBulk];omega
 | .iface _ d=>by simp[zl,Rows.uptoBulk]
 | .map e=>by simp[zl,Rows.uptoBulk]
 | .held _=>by simp[zl,Rows.uptoBulk]
theorem so{H:Type}: ∀l:List (DataW H),uN l≤Rows.uptoBulkAll l
 | [] =>by simp[uN,Rows.uptoBulkAll]
 |d::r=>by
  have h1:=Sv d
  have h2:=so r
  simp only[uN,Rows.uptoBulkAll];omega
end
theorem RD{H:Type}{ds:List (DataW H)}(hk:Rows.uptoSmall H ds=true):uN ds≤1048576:=
 Nat.le_trans (so ds) (of_decide_eq_true hk)
set_option maxRecDepth 100000 in
theorem raftStale_lifted(os:Os)(started:os.Started)(H:Type)(enc:TypeId×Value→H)(F:Stop.Interp):
  ReturnsInHanded {} Try.checked os 7 .any ((Rows.OpenSpec.upto Rows.raftStaleSpec).pre6 enc Try.prog Try.f7 Rows.raftStaleUptoRow.domain false) (((Rows.OpenSpec.upto Rows.raftStaleSpec).at F).post enc Try.prog Try.f7 false true false false):=by
 refine returnsInHanded_of_cond_sized (C:=Try.checked) (s:=Rows.OpenSpec.upto Rows.raftStaleSpec) (k:=Rows.uptoSmall) rfl Try.own started (by kernel_rfl) Try.func7
  (OpenSpec.witness (enc:=enc) (C:=Try.checked) (s:=Rows.OpenSpec.upto Rows.raftStaleSpec) (k:=Rows.uptoSmall) rfl false ⟨#[], #[.slice none 0 0, .agg #[.int .i64 0, .int .i64 0, .int .i64 0, .int .i64 0, .int .i64 0, .int .i64 0, .int .i64 0, .bool false, .int .i64 0, .int .i64 0, .int .i64 0, .int .i64 0, .slice none 0 0, .slice none 0 0, .slice none 0 0, .slice none 0 0, .int .i64 0, .int .i64 0, .int .i64 0, .int .i64 0, .int .i64 0, .int .i64 0, .int .i64 0, .slice none 0 0, .int .i64 0, .bool false, .int .i64 0, .int .i64 0, .int .i64 0, .bool false, .bool false, .int .i64 0, .int .i64 0, .int .i64 0, .slice none 0 0, .int .i64 0, .int .i64 0, .int .i64 0, .slice none 0 0, .slice none 0 0, .bool false, .slice none 0 0, .slice none 0 0, .int .i64 0, .int .i64 0, .slice none 0 0]],[]⟩ 8 (by kernel_rfl) (by kernel_rfl) (by kernel_rfl)
   (x:=([.nil, .agg [.lit (.int .i64 0), .lit (.int .i64 0), .lit (.int .i64 0), .lit (.int .i64 0), .lit (.int .i64 0), .lit (.int .i64 0), .lit (.int .i64 0), .lit (.bool false), .lit (.int .i64 0), .lit (.int .i64 0), .lit (.int .i64 0), .lit (.int .i64 0), .nil, .agg [.nil, .nil], .nil, .agg [.lit (.int .i64 0), .lit (.int .i64 0), .lit (.int .i64 0), .agg [.lit (.int .i64 0), .lit (.int .i64 0), .lit (.int .i64 0), .lit (.int .i64 0), .nil, .lit (.int .i64 0), .lit (.bool false)], .agg [.lit (.int .i64 0), .agg [.lit (.int .i64 0), .lit (.int .i64 0)], .lit (.bool false), .lit (.bool false), .lit (.int .i64 0), .lit (.int .i64 0), .lit (.int .i64 0)], .nil, .agg [.lit (.int .i64 0), .lit (.int .i64 0), .lit (.int .i64 0), .nil, .nil, .lit (.bool false)], .agg [.nil, .nil]], .agg [.lit (.int .i64 0), .lit (.int .i64 0), .nil]]],[],[])) (by kernel_rfl) rfl (by kernel_rfl)) ?_
 intro W base args ds gs before aas hW _ hk H5 _
 have hW':=hW
 obtain⟨p,q,hA,_⟩:=hW'
 rw[Try.params7]at hA
 obtain⟨_,_,_,_,_,_,_,rfl,_⟩:=trodAll_two hA
 have Ts:=RD hk
 exact Fs (s:=Rows.raftStaleSpec) 16 c7 Try.laidOut (by kernel_rfl) (by kernel_rfl) rfl (by kernel_rfl) (tb:=4) (by kernel_rfl) rfl rfl aas hW H5 (fun xs _ hx=>⟨Nat.le_trans hx Ts,rfl⟩)
theorem raftStale_holds:Rows.RaftStaleUptoSaid:=
 OpenClaim.holds_of_cond 7 Try.f7 rfl rfl rfl rfl rfl rfl rfl ⟨rfl,rfl,rfl,rfl,rfl⟩ rfl rfl rfl rfl rfl (by kernel_rfl) Try.func7 (by kernel_rfl)
  (of_decide_eq_true (by kernel_rfl)) (by unfold Func.isWrapper;rw[if_neg (by decide+kernel)];exact⟨rfl,rfl⟩)
  (fun os started H enc _ F=>raftStale_lifted os started H enc F)
end Go.Proofs.Ytjhmkaninmgilaa
