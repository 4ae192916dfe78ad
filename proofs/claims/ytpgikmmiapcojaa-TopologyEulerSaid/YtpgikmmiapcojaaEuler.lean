/- TopologyEuler: whatever the list of integers, the law returns true, and the list reads afterwards as before. No conditions. -/
import Derived.Test.YtpgikmmiapcojaaLaw3
import Derived.Test.YtpgikmmiapcojaaEng3
import Derived.Test.YtpgikmmiapcojaaRows
set_option linter.unusedSimpArgs false
set_option linter.unusedVariables false
namespace Go.Proofs.Ytpgikmmiapcojaa.euler
open Go.Eng Go.RowKit Go.ChangeShapes Go.WideShapes
theorem own:ownKnob Try.prog.godebug=none:=by kernel_rfl
theorem Rf:laidOutB Try.prog=true:=by kernel_rfl
theorem Uu:Try.prog.cellsOf 3=1:=by kernel_rfl
theorem call(l:List T):((aE gU cT).call [.c (.t (.sl 1 l))] [] fun rs po=>some (rs,po))=ob (cT (l,())) fun q=>some ([.c (.t (.v (.bool q.1)))],[]):=by kernel_rfl
theorem Wx(l:List T)(h:cT (l,())=some (true,())):
 ((aE gU cT).call [.c (.t (.sl 1 l))] [] fun rs po=>some (rs,po))=some ([.c (.t (.v (.bool true)))],[]):=by
 rw[call,h];rfl
theorem calls(W:World)(hsh:W.ShapedOpen Try.prog)(zs:List Int)(v:Value)(hv:en W (fun _=>False) (fun _=>none) (.c (.t (.sl 1 (zs.map fun z=>T.v (.int .i64 z))))) v):
 Calls Try.prog 6 #[v] W fun e W'=>e=.returned (.bool true)∧Below W.heap.size W W':=
 Fs (b:=true) wM (Wx _ (Tl.jg zs)) (PE hsh _ fun _ h=>h) (vals:=[v]) (Kh hv)
set_option maxRecDepth 100000 in
theorem lifted(os:Os)(started:os.Started)(H:Type)(oF:TypeId×Value→H):
 ReturnsInHanded {} Try.checked os 6 .any (Rows.topologyEulerSpec.pre6 oF Try.prog Try.f6 Rows.topologyEulerRow.domain false) (Rows.topologyEulerSpec.post oF Try.prog Try.f6 false true false false):=by
 refine At (C:=Try.checked) (tb:=4) own started (by kernel_rfl) Try.func6 Rf (by kernel_rfl) (by kernel_rfl) Try.underlying4 rfl (fun ds hd=>?_)
  (ChangeSpec.witness6 (enc:=oF) (C:=Try.checked) false ⟨#[],#[.slice none 0 0],[]⟩ 8 (by kernel_rfl) (by kernel_rfl) (by kernel_rfl) (by kernel_rfl)) ?_
 ·rw[Try.params6] at hd
  match ds,hd with
  | [d],_=>rfl
 ·intro W base args ds p hval hA hsh
  have hval':∀(j:Nat) t v,Try.f6.params[j]?=some t→args[j]?=some v→Value.okWide Try.prog W .any base t v:=hval
  have hA':DataW.TrodAll oF Try.prog W 0 (fun _=>true) true Try.f6.params.toList args.toList ds p:=hA
  rw[Try.params6] at hA' hval'
  obtain⟨v0,d0,rfl,rfl,h0⟩:=trodAll_one hA'
  obtain⟨zs,hz⟩:=Ph Try.underlying35 Try.underlying3 Uu (hval' 0 35 v0 rfl rfl) h0
  exact calls W hsh zs v0 hz
theorem holds:Rows.TopologyEulerSaid:=
 OpenClaim.holds_of_wide 6 Try.f6 rfl rfl rfl rfl rfl rfl rfl ⟨rfl,rfl,rfl,rfl,rfl⟩ rfl rfl rfl rfl rfl (by kernel_rfl) Try.func6 (by kernel_rfl)
  (bI (by kernel_rfl)) (by unfold Func.isWrapper;first | (rw[aC (by decide +kernel)];kernel_rfl) | (rw[aA (by decide +kernel)];exact⟨rfl,rfl⟩))
  (fun os started H oF _=>lifted os started H oF)
end Go.Proofs.Ytpgikmmiapcojaa.euler
#print axioms Go.Proofs.Ytpgikmmiapcojaa.euler.holds
