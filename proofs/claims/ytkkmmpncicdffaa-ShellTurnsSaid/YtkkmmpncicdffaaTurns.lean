/- ShellTurns: whatever the list of integers and the number, the law returns true. No conditions. -/
import Derived.Test.YtkkmmpncicdffaaLaw3
import Derived.Test.YtkkmmpncicdffaaEng3
import Derived.Test.YtkkmmpncicdffaaRows
set_option linter.unusedSimpArgs false
set_option linter.unusedVariables false
namespace Go.Proofs.Ytkkmmpncicdffaa.turns
open Go.Eng Go.RowKit Go.ChangeShapes Go.WideShapes
theorem own:ownKnob Try.prog.godebug=none:=by kernel_rfl
theorem Kq:laidOutB Try.prog=true:=by kernel_rfl
theorem Qh:Try.prog.cellsOf 3=1:=by kernel_rfl
theorem Wg:Try.prog.underlying 5=some (.int .u8):=by kernel_rfl
theorem call(l:List T)(n:Int):((aD fG bA).call [.c (.t (.sl 1 l)),.c (.t (.v (.int .u8 n)))] [] fun rs po=>some (rs,po))=ob (bA (l,n,())) fun q=>some ([.c (.t (.v (.bool q.1)))],[]):=by kernel_rfl
theorem Tk(l:List T)(n:Int)(h:bA (l,n,())=some (true,())):
 ((aD fG bA).call [.c (.t (.sl 1 l)),.c (.t (.v (.int .u8 n)))] [] fun rs po=>some (rs,po))=some ([.c (.t (.v (.bool true)))],[]):=by
 rw[call,h];rfl
theorem calls(W:World)(hsh:W.ShapedOpen Try.prog)(zs:List Int)(n:Int)(hn:0≤n∧n≤255)(v:Value)(hv:RdS W (fun _=>False) (fun _=>none) (.c (.t (.sl 1 (zs.map fun z=>T.v (.int .i64 z))))) v):
 Calls Try.prog 6 #[v,.int .u8 n] W fun e W'=>e=.returned (.bool true)∧Below W.heap.size W W':=
 YW (b:=true) pA (Tk _ n (Tl.law_turns zs hn.1 hn.2)) (IN hsh _ fun _ h=>h) (vals:=[v,.int .u8 n]) (Cn hv (Np rfl))
set_option maxRecDepth 100000 in
theorem lifted(os:Os)(started:os.Started)(H:Type)(enc:TypeId×Value→H):
 ReturnsInHanded {} Try.checked os 6 .any (Rows.shellTurnsSpec.pre6 enc Try.prog Try.f6 Rows.shellTurnsRow.domain false) (Rows.shellTurnsSpec.post enc Try.prog Try.f6 false true false false):=by
 refine TF (C:=Try.checked) (tb:=4) own started (by kernel_rfl) Try.func6 Kq (by kernel_rfl) (by kernel_rfl) Try.underlying4 rfl (fun ds hd=>?_)
  (ChangeSpec.witness6 (enc:=enc) (C:=Try.checked) false ⟨#[],#[.slice none 0 0,.int .u8 0],[]⟩ 8 (by kernel_rfl) (by kernel_rfl) (by kernel_rfl) (by kernel_rfl)) ?_
 ·rw[Try.params6] at hd
  match ds,hd with
  | [d,d'],_=>rfl
 ·intro W base args ds p hval hA hsh
  have hval':∀(j:Nat) t v,Try.f6.params[j]?=some t→args[j]?=some v→Value.okWide Try.prog W .any base t v:=hval
  have hA':DataW.TrodAll enc Try.prog W 0 (fun _=>true) true Try.f6.params.toList args.toList ds p:=hA
  rw[Try.params6] at hA' hval'
  obtain⟨v0,v1,d0,d1,p0,p1,rfl,rfl,rfl,h0,h1⟩:=trodAll_two hA'
  obtain⟨zs,hz⟩:=Hx Try.underlying22 Try.underlying3 Qh (hval' 0 22 v0 rfl rfl) h0
  obtain⟨n,rfl,rfl,rfl,wn⟩:=open_int Wg (hval' 1 5 v1 rfl rfl) h1
  have hn:0≤n∧n≤255:=by simpa[Lit.wf,IntKind.min,IntKind.max,IntKind.signed,IntKind.bits] using wn
  exact calls W hsh zs n hn v0 hz
theorem holds:Rows.ShellTurnsSaid:=
 OpenClaim.holds_of_wide 6 Try.f6 rfl rfl rfl rfl rfl rfl rfl ⟨rfl,rfl,rfl,rfl,rfl⟩ rfl rfl rfl rfl rfl (by kernel_rfl) Try.func6 (by kernel_rfl)
  (of_decide_eq_true (by kernel_rfl)) (by unfold Func.isWrapper;first | (rw[if_pos (by decide +kernel)];kernel_rfl) | (rw[if_neg (by decide +kernel)];exact⟨rfl,rfl⟩))
  (fun os started H enc _=>lifted os started H enc)
end Go.Proofs.Ytkkmmpncicdffaa.turns
#print axioms Go.Proofs.Ytkkmmpncicdffaa.turns.holds
