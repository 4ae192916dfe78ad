/- LedgerFull: whatever the two numbers, the law returns true. No conditions. -/
import Derived.Test.YtdomcfhppficpaaLaw
import Derived.Test.YtdomcfhppficpaaEng3
import Derived.Test.YtdomcfhppficpaaRows
set_option linter.unusedSimpArgs false
set_option linter.unusedVariables false
namespace Go.Proofs.Ytdomcfhppficpaa.full
open Go.Eng Go.RowKit Go.ChangeShapes Go.WideShapes
theorem own:ownKnob Try.prog.godebug=none:=by kernel_rfl
theorem QU:laidOutB Try.prog=true:=by kernel_rfl
set_option maxRecDepth 100000 in
theorem lifted(os:Os)(started:os.Started)(H:Type)(enc:TypeId×Value→H):
 ReturnsInHanded {} Try.checked os 4 .any (Rows.ledgerFullSpec.pre6 enc Try.prog Try.f4 Rows.ledgerFullRow.domain false) (Rows.ledgerFullSpec.post enc Try.prog Try.f4 false true false false):=by
 refine HS (C:=Try.checked) (tb:=4) own started (by kernel_rfl) Try.func4 QU (by kernel_rfl) (by kernel_rfl) Try.underlying4 rfl (fun ds hd=>?_)
  (ChangeSpec.witness6 (enc:=enc) (C:=Try.checked) false ⟨#[],#[.int .u8 0,.int .u8 0],[]⟩ 8 (by kernel_rfl) (by kernel_rfl) (by kernel_rfl) (by kernel_rfl)) ?_
 ·rw[Try.params4] at hd
  match ds,hd with
  | [d,d'],_=>rfl
 ·intro W base args ds p hval hA hsh
  have hval':∀(j:Nat) t v,Try.f4.params[j]?=some t→args[j]?=some v→Value.okWide Try.prog W .any base t v:=hval
  have hA':DataW.TrodAll enc Try.prog W 0 (fun _=>true) true Try.f4.params.toList args.toList ds p:=hA
  rw[Try.params4] at hA' hval'
  obtain⟨v0,v1,d0,d1,p0,p1,rfl,rfl,rfl,h0,h1⟩:=trodAll_two hA'
  obtain⟨n,rfl,rfl,rfl,wn⟩:=open_int Lg.ul5 (hval' 0 5 v0 rfl rfl) h0
  obtain⟨k,rfl,rfl,rfl,wk⟩:=open_int Lg.ul5 (hval' 1 5 v1 rfl rfl) h1
  have hn:0≤n∧n≤255:=by simpa[Lit.wf,IntKind.min,IntKind.max,IntKind.signed,IntKind.bits] using wn
  have hk:0≤k∧k≤255:=by simpa[Lit.wf,IntKind.min,IntKind.max,IntKind.signed,IntKind.bits] using wk
  exact Lg.full W (yV hsh _ fun _ h=>h) hn.1 hn.2 hk.1 hk.2
theorem holds:Rows.LedgerFullSaid:=
 OpenClaim.holds_of_wide 4 Try.f4 rfl rfl rfl rfl rfl rfl rfl ⟨rfl,rfl,rfl,rfl,rfl⟩ rfl rfl rfl rfl rfl (by kernel_rfl) Try.func4 (by kernel_rfl)
  (of_decide_eq_true (by kernel_rfl)) (by unfold Func.isWrapper;first | (rw[if_pos (by decide +kernel)];kernel_rfl) | (rw[if_neg (by decide +kernel)];exact⟨rfl,rfl⟩))
  (fun os started H enc _=>lifted os started H enc)
end Go.Proofs.Ytdomcfhppficpaa.full
#print axioms Go.Proofs.Ytdomcfhppficpaa.full.holds
