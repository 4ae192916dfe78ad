/- EntityOrders: whatever the list of integers, the law returns true, and the list reads afterwards as before. No conditions. -/
import Derived.Test.YtlfdplabancdcaaLaw2
import Derived.Test.YtlfdplabancdcaaEng3
import Derived.Test.YtlfdplabancdcaaRows
set_option linter.unusedSimpArgs false
set_option linter.unusedVariables false
namespace Go.Proofs.Ytlfdplabancdcaa.orders
open Go.Eng Go.RowKit Go.ChangeShapes Go.WideShapes
theorem own:ownKnob Try.prog.godebug=none:=by kernel_rfl
theorem laidOut:laidOutB Try.prog=true:=by kernel_rfl
theorem cells3:Try.prog.cellsOf 3=1:=by kernel_rfl
theorem call(l:List T):((calleeOf sg_brepkernellaw24_EntityOrders u_brepkernellaw24_EntityOrders).call [.c (.t (.sl 1 l))] [] fun rs po=>some (rs,po))=ob (u_brepkernellaw24_EntityOrders (l,())) fun q=>some ([.c (.t (.v (.bool q.1)))],[]):=by kernel_rfl
theorem call'(l:List T)(h:u_brepkernellaw24_EntityOrders (l,())=some (true,())):
 ((calleeOf sg_brepkernellaw24_EntityOrders u_brepkernellaw24_EntityOrders).call [.c (.t (.sl 1 l))] [] fun rs po=>some (rs,po))=some ([.c (.t (.v (.bool true)))],[]):=by
 rw[call,h];rfl
theorem calls(W:World)(hsh:W.ShapedOpen Try.prog)(zs:List Int)(v:Value)(hv:RdS W (fun _=>False) (fun _=>none) (.c (.t (.sl 1 (zs.map fun z=>T.v (.int .i64 z))))) v):
 Calls Try.prog 3 #[v] W fun e W'=>e=.returned (.bool true)∧Below W.heap.size W W':=
 law_calls (b:=true) k_brepkernellaw24_EntityOrders (call' _ (En.law_orders zs)) (good_of_shaped hsh _ fun _ h=>h) (vals:=[v]) (rdss_one hv)
set_option maxRecDepth 100000 in
theorem lifted(os:Os)(started:os.Started)(H:Type)(enc:TypeId×Value→H):
 ReturnsInHanded {} Try.checked os 3 .any (Rows.entityOrdersSpec.pre6 enc Try.prog Try.f3 Rows.entityOrdersRow.domain false) (Rows.entityOrdersSpec.post enc Try.prog Try.f3 false true false false):=by
 refine law_lifted (C:=Try.checked) (tb:=4) own started (by kernel_rfl) Try.func3 laidOut (by kernel_rfl) (by kernel_rfl) Try.underlying4 rfl (fun ds hd=>?_)
  (ChangeSpec.witness6 (enc:=enc) (C:=Try.checked) false ⟨#[],#[.slice none 0 0],[]⟩ 8 (by kernel_rfl) (by kernel_rfl) (by kernel_rfl) (by kernel_rfl)) ?_
 ·rw[Try.params3] at hd
  match ds,hd with
  | [d],_=>rfl
 ·intro W base args ds p hval hA hsh
  have hval':∀(j:Nat) t v,Try.f3.params[j]?=some t→args[j]?=some v→Value.okWide Try.prog W .any base t v:=hval
  have hA':DataW.TrodAll enc Try.prog W 0 (fun _=>true) true Try.f3.params.toList args.toList ds p:=hA
  rw[Try.params3] at hA' hval'
  obtain⟨v0,d0,rfl,rfl,h0⟩:=trodAll_one hA'
  obtain⟨zs,hz⟩:=rd_ints Try.underlying22 Try.underlying3 cells3 (hval' 0 22 v0 rfl rfl) h0
  exact calls W hsh zs v0 hz
theorem holds:Rows.EntityOrdersSaid:=
 OpenClaim.holds_of_wide 3 Try.f3 rfl rfl rfl rfl rfl rfl rfl ⟨rfl,rfl,rfl,rfl,rfl⟩ rfl rfl rfl rfl rfl (by kernel_rfl) Try.func3 (by kernel_rfl)
  (of_decide_eq_true (by kernel_rfl)) (by unfold Func.isWrapper;first | (rw[if_pos (by decide +kernel)];kernel_rfl) | (rw[if_neg (by decide +kernel)];exact⟨rfl,rfl⟩))
  (fun os started H enc _=>lifted os started H enc)
end Go.Proofs.Ytlfdplabancdcaa.orders
#print axioms Go.Proofs.Ytlfdplabancdcaa.orders.holds
