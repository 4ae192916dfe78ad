/- ShellAll: whatever the list of integers, the law returns true, and the list reads afterwards as before. No conditions. -/
import Derived.Test.YtkkmmpncicdffaaLaw3
import Derived.Test.YtkkmmpncicdffaaEng3
import Derived.Test.YtkkmmpncicdffaaRows
set_option linter.unusedSimpArgs false
set_option linter.unusedVariables false
namespace Go.Proofs.Ytkkmmpncicdffaa.every
open Go.Eng Go.RowKit Go.ChangeShapes Go.WideShapes
theorem own:ownKnob Try.prog.godebug=none:=by kernel_rfl
theorem Mn:laidOutB Try.prog=true:=by kernel_rfl
theorem Rz:Try.prog.cellsOf 3=1:=by kernel_rfl
theorem call(l:List T):((aB g8 bK).call [.c (.t (.sl 1 l))] [] fun rs po=>some (rs,po))=ob (bK (l,())) fun q=>some ([.c (.t (.v (.bool q.1)))],[]):=by kernel_rfl
theorem Uy(l:List T)(h:bK (l,())=some (true,())):
 ((aB g8 bK).call [.c (.t (.sl 1 l))] [] fun rs po=>some (rs,po))=some ([.c (.t (.v (.bool true)))],[]):=by
 rw[call,h];rfl
theorem calls(W:World)(hsh:W.ShapedOpen Try.prog)(zs:List Int)(v:Value)(hv:RdS W (fun _=>False) (fun _=>none) (.c (.t (.sl 1 (zs.map fun z=>T.v (.int .i64 z))))) v):
 Calls Try.prog 3 #[v] W fun e W'=>e=.returned (.bool true)∧Below W.heap.size W W':=
 Ak (b:=true) sJ (Uy _ (Tl.law_all zs)) (KH hsh _ fun _ h=>h) (vals:=[v]) (Et hv)
set_option maxRecDepth 100000 in
theorem lifted(os:Os)(started:os.Started)(H:Type)(oK:TypeId×Value→H):
 ReturnsInHanded {} Try.checked os 3 .any (Rows.shellAllSpec.pre6 oK Try.prog Try.f3 Rows.shellAllRow.domain false) (Rows.shellAllSpec.post oK Try.prog Try.f3 false true false false):=by
 refine VI (C:=Try.checked) (tb:=4) own started (by kernel_rfl) Try.func3 Mn (by kernel_rfl) (by kernel_rfl) Try.underlying4 rfl (fun ds hd=>?_)
  (ChangeSpec.witness6 (enc:=oK) (C:=Try.checked) false ⟨#[],#[.slice none 0 0],[]⟩ 8 (by kernel_rfl) (by kernel_rfl) (by kernel_rfl) (by kernel_rfl)) ?_
 ·rw[Try.params3] at hd
  match ds,hd with
  | [d],_=>rfl
 ·intro W base args ds p hval hA hsh
  have hval':∀(j:Nat) t v,Try.f3.params[j]?=some t→args[j]?=some v→Value.okWide Try.prog W .any base t v:=hval
  have hA':DataW.TrodAll oK Try.prog W 0 (fun _=>true) true Try.f3.params.toList args.toList ds p:=hA
  rw[Try.params3] at hA' hval'
  obtain⟨v0,d0,rfl,rfl,h0⟩:=trodAll_one hA'
  obtain⟨zs,hz⟩:=Ji Try.underlying22 Try.underlying3 Rz (hval' 0 22 v0 rfl rfl) h0
  exact calls W hsh zs v0 hz
theorem holds:Rows.ShellAllSaid:=
 OpenClaim.holds_of_wide 3 Try.f3 rfl rfl rfl rfl rfl rfl rfl ⟨rfl,rfl,rfl,rfl,rfl⟩ rfl rfl rfl rfl rfl (by kernel_rfl) Try.func3 (by kernel_rfl)
  (of_decide_eq_true (by kernel_rfl)) (by unfold Func.isWrapper;first | (rw[if_pos (by decide +kernel)];kernel_rfl) | (rw[if_neg (by decide +kernel)];exact⟨rfl,rfl⟩))
  (fun os started H oK _=>lifted os started H oK)
end Go.Proofs.Ytkkmmpncicdffaa.every
#print axioms Go.Proofs.Ytkkmmpncicdffaa.every.holds
