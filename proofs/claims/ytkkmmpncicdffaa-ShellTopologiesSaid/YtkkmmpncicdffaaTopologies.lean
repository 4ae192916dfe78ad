/- ShellTopologies: whatever the list of integers, the law returns true, and the list reads afterwards as before. No conditions. -/
import Derived.Test.YtkkmmpncicdffaaLaw3
import Derived.Test.YtkkmmpncicdffaaEng3
import Derived.Test.YtkkmmpncicdffaaRows
set_option linter.unusedSimpArgs false
set_option linter.unusedVariables false
namespace Go.Proofs.Ytkkmmpncicdffaa.topologies
open Go.Eng Go.RowKit Go.ChangeShapes Go.WideShapes
theorem own:ownKnob Try.prog.godebug=none:=by kernel_rfl
theorem Nq:laidOutB Try.prog=true:=by kernel_rfl
theorem Td:Try.prog.cellsOf 3=1:=by kernel_rfl
theorem call(l:List T):((aB cL aJ).call [.c (.t (.sl 1 l))] [] fun rs po=>some (rs,po))=ob (aJ (l,())) fun q=>some ([.c (.t (.v (.bool q.1)))],[]):=by kernel_rfl
theorem Wn(l:List T)(h:aJ (l,())=some (true,())):
 ((aB cL aJ).call [.c (.t (.sl 1 l))] [] fun rs po=>some (rs,po))=some ([.c (.t (.v (.bool true)))],[]):=by
 rw[call,h];rfl
theorem calls(W:World)(hsh:W.ShapedOpen Try.prog)(zs:List Int)(v:Value)(hv:RdS W (fun _=>False) (fun _=>none) (.c (.t (.sl 1 (zs.map fun z=>T.v (.int .i64 z))))) v):
 Calls Try.prog 5 #[v] W fun e W'=>e=.returned (.bool true)∧Below W.heap.size W W':=
 At (b:=true) mS (Wn _ (Tl.law_topologies zs)) (JY hsh _ fun _ h=>h) (vals:=[v]) (Fi hv)
set_option maxRecDepth 100000 in
theorem lifted(os:Os)(started:os.Started)(H:Type)(enc:TypeId×Value→H):
 ReturnsInHanded {} Try.checked os 5 .any (Rows.shellTopologiesSpec.pre6 enc Try.prog Try.f5 Rows.shellTopologiesRow.domain false) (Rows.shellTopologiesSpec.post enc Try.prog Try.f5 false true false false):=by
 refine VB (C:=Try.checked) (tb:=4) own started (by kernel_rfl) Try.func5 Nq (by kernel_rfl) (by kernel_rfl) Try.underlying4 rfl (fun ds hd=>?_)
  (ChangeSpec.witness6 (enc:=enc) (C:=Try.checked) false ⟨#[],#[.slice none 0 0],[]⟩ 8 (by kernel_rfl) (by kernel_rfl) (by kernel_rfl) (by kernel_rfl)) ?_
 ·rw[Try.params5] at hd
  match ds,hd with
  | [d],_=>rfl
 ·intro W base args ds p hval hA hsh
  have hval':∀(j:Nat) t v,Try.f5.params[j]?=some t→args[j]?=some v→Value.okWide Try.prog W .any base t v:=hval
  have hA':DataW.TrodAll enc Try.prog W 0 (fun _=>true) true Try.f5.params.toList args.toList ds p:=hA
  rw[Try.params5] at hA' hval'
  obtain⟨v0,d0,rfl,rfl,h0⟩:=trodAll_one hA'
  obtain⟨zs,hz⟩:=Kt Try.underlying22 Try.underlying3 Td (hval' 0 22 v0 rfl rfl) h0
  exact calls W hsh zs v0 hz
theorem holds:Rows.ShellTopologiesSaid:=
 OpenClaim.holds_of_wide 5 Try.f5 rfl rfl rfl rfl rfl rfl rfl ⟨rfl,rfl,rfl,rfl,rfl⟩ rfl rfl rfl rfl rfl (by kernel_rfl) Try.func5 (by kernel_rfl)
  (of_decide_eq_true (by kernel_rfl)) (by unfold Func.isWrapper;first | (rw[if_pos (by decide +kernel)];kernel_rfl) | (rw[if_neg (by decide +kernel)];exact⟨rfl,rfl⟩))
  (fun os started H enc _=>lifted os started H enc)
end Go.Proofs.Ytkkmmpncicdffaa.topologies
#print axioms Go.Proofs.Ytkkmmpncicdffaa.topologies.holds
