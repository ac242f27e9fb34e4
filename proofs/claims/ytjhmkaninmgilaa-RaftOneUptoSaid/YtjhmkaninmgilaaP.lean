/- RaftOne gives true, whatever it is given, and its arguments read as they did; where what it reads is of bulk at most 1048576. -/
import Derived.Test.YtjhmkaninmgilaaRows
import Derived.Test.YtjhmkaninmgilaaS11
import Derived.Test.YtjhmkaninmgilaaS04
import Derived.SizedLaws
import Derived.JoinedCond
import Derived.Deep.CondSized
set_option linter.unusedVariables false
set_option linter.unusedSimpArgs false
set_option maxHeartbeats 4000000
namespace Go.Proofs.Ytjhmkaninmgilaa
open Go.ChangeShapes Go.WideShapes Go.ChangeAt Go.RowKit Go.dV
theorem Try.own:ownKnob Try.prog.godebug=none:=by kernel_rfl
theorem Try.laidOut:laidOutB Try.prog=true:=by kernel_rfl
mutual
theorem WL{H:Type}: ∀d:DataW H,Ck d≤Rows.uptoBulk d
 |.lit v=>by cases v<;>simp[Ck,Rows.uptoBulk]
 |.nil=>by simp[Ck,Rows.uptoBulk]
 |.ptr d=>by simp[Ck,Rows.uptoBulk]
 |.slice e s=>by
  have:=wG e
  simp only[Ck,Rows.uptoBulk];omega
 |.agg p=>by
  have:=wG p
  simp only[Ck,Rows.uptoBulk];omega
 |.iface _ d=>by simp[Ck,Rows.uptoBulk]
 |.map e=>by simp[Ck,Rows.uptoBulk]
 |.held _=>by simp[Ck,Rows.uptoBulk]
theorem wG{H:Type}: ∀l:List (DataW H),yz l≤Rows.uptoBulkAll l
 | [] =>by simp[yz,Rows.uptoBulkAll]
 |d::r=>by
  have h1:=WL d
  have h2:=wG r
  simp only[yz,Rows.uptoBulkAll];omega
end
theorem VY{H:Type}{ds:List (DataW H)}(hk:Rows.uptoSmall H ds=true):yz ds≤1048576:=
 aR (wG ds) (of_decide_eq_true hk)
set_option maxRecDepth 100000 in
theorem raftOne_lifted(os:Os)(started:os.Started)(H:Type)(enc:TypeId×Value→H)(F:Stop.Interp):
  ReturnsInHanded {} Try.checked os 4 .any ((Rows.OpenSpec.upto Rows.raftOneSpec).pre6 enc Try.prog Try.f4 Rows.raftOneUptoRow.domain false) (((Rows.OpenSpec.upto Rows.raftOneSpec).at F).post enc Try.prog Try.f4 false true false false):=by
 refine returnsInHanded_of_cond_sized (C:=Try.checked) (s:=Rows.OpenSpec.upto Rows.raftOneSpec) (k:=Rows.uptoSmall) rfl Try.own started (by kernel_rfl) Try.func4
  (OpenSpec.witness (enc:=enc) (C:=Try.checked) (s:=Rows.OpenSpec.upto Rows.raftOneSpec) (k:=Rows.uptoSmall) rfl false ⟨#[], #[.slice none 0 0],[]⟩ 8 (by kernel_rfl) (by kernel_rfl) (by kernel_rfl)
   (x:=([.nil],[],[])) (by kernel_rfl) rfl (by kernel_rfl)) ?_
 intro W base args ds gs before SL hW _ hk Lq _
 have hW':=hW
 obtain⟨p,q,hA,_⟩:=hW'
 rw[Try.params4]at hA
 obtain⟨_,_,_,rfl,_⟩:=trodAll_one hA
 have XB:=VY hk
 exact IU (s:=Rows.raftOneSpec) 16 c4 Try.laidOut (by kernel_rfl) (by kernel_rfl) rfl (by kernel_rfl) (tb:=4) (by kernel_rfl) rfl rfl SL hW Lq (fun xs _ hx=>⟨aR hx XB,rfl⟩)
theorem raftOne_holds:Rows.RaftOneUptoSaid:=
 OpenClaim.holds_of_cond 4 Try.f4 rfl rfl rfl rfl rfl rfl rfl ⟨rfl,rfl,rfl,rfl,rfl⟩ rfl rfl rfl rfl rfl (by kernel_rfl) Try.func4 (by kernel_rfl)
  (of_decide_eq_true (by kernel_rfl)) (by unfold Func.isWrapper;rw[if_neg (by decide+kernel)];exact⟨rfl,rfl⟩)
  (fun os started H enc _ F=>raftOne_lifted os started H enc F)
end Go.Proofs.Ytjhmkaninmgilaa
