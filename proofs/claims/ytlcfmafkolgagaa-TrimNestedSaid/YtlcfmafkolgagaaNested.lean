/- TrimNested: whatever the list of integers, the law returns true, and the list reads afterwards as before. No conditions. -/
import Derived.Test.YtlcfmafkolgagaaLaw2
import Derived.Test.YtlcfmafkolgagaaEng3
import Derived.Test.YtlcfmafkolgagaaRows
set_option linter.unusedSimpArgs false
set_option linter.unusedVariables false
namespace Go.Proofs.Ytlcfmafkolgagaa.nested
open Go.Eng Go.RowKit Go.ChangeShapes Go.WideShapes
theorem own:ownKnob Try.prog.godebug=none:=by kernel_rfl
theorem Lb:laidOutB Try.prog=true:=by kernel_rfl
theorem Pv:Try.prog.cellsOf 3=1:=by kernel_rfl
theorem call(l:List T):((aA eP bI).call [.c (.t (.sl 1 l))] [] fun rs po=>some (rs,po))=ob (bI (l,())) fun q=>some ([.c (.t (.v (.bool q.1)))],[]):=by kernel_rfl
theorem Sj(l:List T)(h:bI (l,())=some (true,())):
 ((aA eP bI).call [.c (.t (.sl 1 l))] [] fun rs po=>some (rs,po))=some ([.c (.t (.v (.bool true)))],[]):=by
 rw[call,h];rfl
theorem calls(W:World)(hsh:W.ShapedOpen Try.prog)(zs:List Int)(v:Value)(hv:RdS W (fun _=>False) (fun _=>none) (.c (.t (.sl 1 (zs.map fun z=>T.v (.int .i64 z))))) v):
 Calls Try.prog 3 #[v] W fun e W'=>e=.returned (.bool true)∧Below W.heap.size W W':=
 At (b:=true) qM (Sj _ (Nst.law_nested zs)) (J8 hsh _ fun _ h=>h) (vals:=[v]) ⟨rfl,fun q s y h1 h2=>by
  match q,h1,h2 with
  | 0,h1,h2=>cases h1;cases h2;exact hv⟩
set_option maxRecDepth 100000 in
theorem lifted(os:Os)(started:os.Started)(H:Type)(enc:TypeId×Value→H):
 ReturnsInHanded {} Try.checked os 3 .any (Rows.trimNestedSpec.pre6 enc Try.prog Try.f3 Rows.trimNestedRow.domain false) (Rows.trimNestedSpec.post enc Try.prog Try.f3 false true false false):=by
 refine VS (C:=Try.checked) (tb:=4) own started (by kernel_rfl) Try.func3 Lb (by kernel_rfl) (by kernel_rfl) Try.underlying4 rfl (fun ds hd=>?_)
  (ChangeSpec.witness6 (enc:=enc) (C:=Try.checked) false ⟨#[],#[.slice none 0 0],[]⟩ 8 (by kernel_rfl) (by kernel_rfl) (by kernel_rfl) (by kernel_rfl)) ?_
 ·rw[Try.params3] at hd
  match ds,hd with
  | [d],_=>rfl
 ·intro W base args ds p hval hA hsh
  have hval':∀(j:Nat) t v,Try.f3.params[j]?=some t→args[j]?=some v→Value.okWide Try.prog W .any base t v:=hval
  have hA':DataW.TrodAll enc Try.prog W 0 (fun _=>true) true Try.f3.params.toList args.toList ds p:=hA
  rw[Try.params3] at hA' hval'
  obtain⟨v0,vs,d0,ds',p0,q0,e0,rfl,rfl,h0,hA2⟩:=trodAll_cons hA'
  obtain⟨rfl,_,_⟩:=trodAll_nil hA2
  obtain rfl:args=#[v0]:=by cases args;simp_all
  obtain⟨zs,hz⟩:=Ix Try.underlying22 Try.underlying3 Pv (hval' 0 22 v0 rfl rfl) h0
  exact calls W hsh zs v0 hz
theorem holds:Rows.TrimNestedSaid:=
 OpenClaim.holds_of_wide 3 Try.f3 rfl rfl rfl rfl rfl rfl rfl ⟨rfl,rfl,rfl,rfl,rfl⟩ rfl rfl rfl rfl rfl (by kernel_rfl) Try.func3 (by kernel_rfl)
  (of_decide_eq_true (by kernel_rfl)) (by unfold Func.isWrapper;first | (rw[if_pos (by decide +kernel)];kernel_rfl) | (rw[if_neg (by decide +kernel)];exact⟨rfl,rfl⟩))
  (fun os started H enc _=>lifted os started H enc)
end Go.Proofs.Ytlcfmafkolgagaa.nested
#print axioms Go.Proofs.Ytlcfmafkolgagaa.nested.holds
