/- TopologyUndoes: whatever the list of integers, the law returns true, and the list reads afterwards as before. No conditions. -/
import Derived.Test.YtpgikmmiapcojaaLaw3
import Derived.Test.YtpgikmmiapcojaaEng3
import Derived.Test.YtpgikmmiapcojaaRows
set_option linter.unusedSimpArgs false
set_option linter.unusedVariables false
namespace Go.Proofs.Ytpgikmmiapcojaa.undoes
open Go.Eng Go.RowKit Go.ChangeShapes Go.WideShapes
theorem own:ownKnob Try.prog.godebug=none:=by kernel_rfl
theorem Rh:laidOutB Try.prog=true:=by kernel_rfl
theorem Us:Try.prog.cellsOf 3=1:=by kernel_rfl
theorem call(l:List T):((aD gM cG).call [.c (.t (.sl 1 l))] [] fun rs po=>some (rs,po))=ob (cG (l,())) fun q=>some ([.c (.t (.v (.bool q.1)))],[]):=by kernel_rfl
theorem Ww(l:List T)(h:cG (l,())=some (true,())):
 ((aD gM cG).call [.c (.t (.sl 1 l))] [] fun rs po=>some (rs,po))=some ([.c (.t (.v (.bool true)))],[]):=by
 rw[call,h];rfl
theorem calls(W:World)(hsh:W.ShapedOpen Try.prog)(zs:List Int)(v:Value)(hv:ek W (fun _=>False) (fun _=>none) (.c (.t (.sl 1 (zs.map fun z=>T.v (.int .i64 z))))) v):
 Calls Try.prog 7 #[v] W fun e W'=>e=.returned (.bool true)∧Below W.heap.size W W':=
 Gc (b:=true) wR (Ww _ (Tl.iv zs)) (PB hsh _ fun _ h=>h) (vals:=[v]) (Ki hv)
set_option maxRecDepth 100000 in
theorem lifted(os:Os)(started:os.Started)(H:Type)(oF:TypeId×Value→H):
 ReturnsInHanded {} Try.checked os 7 .any (Rows.topologyUndoesSpec.pre6 oF Try.prog Try.f7 Rows.topologyUndoesRow.domain false) (Rows.topologyUndoesSpec.post oF Try.prog Try.f7 false true false false):=by
 refine Bd (C:=Try.checked) (tb:=4) own started (by kernel_rfl) Try.func7 Rh (by kernel_rfl) (by kernel_rfl) Try.underlying4 rfl (fun ds hd=>?_)
  (ChangeSpec.witness6 (enc:=oF) (C:=Try.checked) false ⟨#[],#[.slice none 0 0],[]⟩ 8 (by kernel_rfl) (by kernel_rfl) (by kernel_rfl) (by kernel_rfl)) ?_
 ·rw[Try.params7] at hd
  match ds,hd with
  | [d],_=>rfl
 ·intro W base args ds p hval hA hsh
  have hval':∀(j:Nat) t v,Try.f7.params[j]?=some t→args[j]?=some v→Value.okWide Try.prog W .any base t v:=hval
  have hA':DataW.TrodAll oF Try.prog W 0 (fun _=>true) true Try.f7.params.toList args.toList ds p:=hA
  rw[Try.params7] at hA' hval'
  obtain⟨v0,d0,rfl,rfl,h0⟩:=trodAll_one hA'
  obtain⟨zs,hz⟩:=Pf Try.underlying35 Try.underlying3 Us (hval' 0 35 v0 rfl rfl) h0
  exact calls W hsh zs v0 hz
theorem holds:Rows.TopologyUndoesSaid:=
 OpenClaim.holds_of_wide 7 Try.f7 rfl rfl rfl rfl rfl rfl rfl ⟨rfl,rfl,rfl,rfl,rfl⟩ rfl rfl rfl rfl rfl (by kernel_rfl) Try.func7 (by kernel_rfl)
  (cH (by kernel_rfl)) (by unfold Func.isWrapper;first | (rw[aC (by decide +kernel)];kernel_rfl) | (rw[aA (by decide +kernel)];exact⟨rfl,rfl⟩))
  (fun os started H oF _=>lifted os started H oF)
end Go.Proofs.Ytpgikmmiapcojaa.undoes
#print axioms Go.Proofs.Ytpgikmmiapcojaa.undoes.holds
