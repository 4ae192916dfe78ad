/- EntityGraph: whatever the list of integers and the number, the law returns true. No conditions. -/
import Derived.Test.YtlfdplabancdcaaGreatLaw2
import Derived.Test.YtlfdplabancdcaaGreatEng3
import Derived.Test.YtlfdplabancdcaaGreatRows
set_option linter.unusedSimpArgs false
set_option linter.unusedVariables false
namespace Go.Proofs.YtlfdplabancdcaaGreat.graph
open Go.Eng Go.RowKit Go.ChangeShapes Go.WideShapes
theorem own:ownKnob Tryz.prog.godebug=none:=by kernel_rfl
theorem laidOut:laidOutB Tryz.prog=true:=by kernel_rfl
theorem cells3:Tryz.prog.cellsOf 3=1:=by kernel_rfl
theorem call(l:List T)(id:Int):((calleeOf sg_brepkernellaw24_EntityGraph u_brepkernellaw24_EntityGraph).call [.c (.t (.sl 1 l)),.c (.t (.v (.int .i64 id)))] [] fun rs po=>some (rs,po))=ob (u_brepkernellaw24_EntityGraph (l,id,())) fun q=>some ([.c (.t (.v (.bool q.1)))],[]):=by kernel_rfl
theorem call'(l:List T)(id:Int)(h:u_brepkernellaw24_EntityGraph (l,id,())=some (true,())):
 ((calleeOf sg_brepkernellaw24_EntityGraph u_brepkernellaw24_EntityGraph).call [.c (.t (.sl 1 l)),.c (.t (.v (.int .i64 id)))] [] fun rs po=>some (rs,po))=some ([.c (.t (.v (.bool true)))],[]):=by
 rw[call,h];rfl
theorem calls(W:World)(hsh:W.ShapedOpen Tryz.prog)(zs:List Int)(id:Int)(v:Value)(hv:RdS W (fun _=>False) (fun _=>none) (.c (.t (.sl 1 (zs.map fun z=>T.v (.int .i64 z))))) v):
 Calls Tryz.prog 3 #[v,.int .i64 id] W fun e W'=>e=.returned (.bool true)∧Below W.heap.size W W':=
 law_calls (b:=true) k_brepkernellaw24_EntityGraph (call' _ _ (En.law_graph zs id)) (good_of_shaped hsh _ fun _ h=>h) (vals:=[v,.int .i64 id]) (rdss_two hv (.inr ⟨.v _,rfl⟩))
set_option maxRecDepth 100000 in
theorem lifted(os:Os)(started:os.Started)(H:Type)(enc:TypeId×Value→H):
 ReturnsInHanded {} Tryz.checked os 3 .any (Rows.entityGraphSpec.pre6 enc Tryz.prog Tryz.f3 Rows.entityGraphRow.domain false) (Rows.entityGraphSpec.post enc Tryz.prog Tryz.f3 false true false false):=by
 refine law_lifted (C:=Tryz.checked) (tb:=4) own started (by kernel_rfl) Tryz.func3 laidOut (by kernel_rfl) (by kernel_rfl) Tryz.underlying4 rfl (fun ds hd=>?_)
  (ChangeSpec.witness6 (enc:=enc) (C:=Tryz.checked) false ⟨#[],#[.slice none 0 0,.int .i64 0],[]⟩ 8 (by kernel_rfl) (by kernel_rfl) (by kernel_rfl) (by kernel_rfl)) ?_
 ·rw[Tryz.params3] at hd
  match ds,hd with
  | [d,d'],_=>rfl
 ·intro W base args ds p hval hA hsh
  have hval':∀(j:Nat) t v,Tryz.f3.params[j]?=some t→args[j]?=some v→Value.okWide Tryz.prog W .any base t v:=hval
  have hA':DataW.TrodAll enc Tryz.prog W 0 (fun _=>true) true Tryz.f3.params.toList args.toList ds p:=hA
  rw[Tryz.params3] at hA' hval'
  obtain⟨v0,v1,d0,d1,p0,p1,rfl,rfl,rfl,h0,h1⟩:=trodAll_two hA'
  obtain⟨zs,hz⟩:=rd_ints Tryz.underlying22 Tryz.underlying3 cells3 (hval' 0 22 v0 rfl rfl) h0
  obtain⟨n,rfl,rfl,rfl,wn⟩:=open_int Tryz.underlying3 (hval' 1 3 v1 rfl rfl) h1
  exact calls W hsh zs n v0 hz
theorem holds:Rows.EntityGraphSaid:=
 OpenClaim.holds_of_wide 3 Tryz.f3 rfl rfl rfl rfl rfl rfl rfl ⟨rfl,rfl,rfl,rfl,rfl⟩ rfl rfl rfl rfl rfl (by kernel_rfl) Tryz.func3 (by kernel_rfl)
  (of_decide_eq_true (by kernel_rfl)) (by unfold Func.isWrapper;first | (rw[if_pos (by decide +kernel)];kernel_rfl) | (rw[if_neg (by decide +kernel)];exact⟨rfl,rfl⟩))
  (fun os started H enc _=>lifted os started H enc)
end Go.Proofs.YtlfdplabancdcaaGreat.graph
#print axioms Go.Proofs.YtlfdplabancdcaaGreat.graph.holds
