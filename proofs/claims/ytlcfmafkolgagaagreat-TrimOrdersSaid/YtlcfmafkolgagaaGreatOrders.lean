/- TrimOrders: whatever the list of integers and the three numbers, the law returns true, and the list reads afterwards as before. No conditions. -/
import Derived.Test.YtlcfmafkolgagaaGreatLaw2
import Derived.Test.YtlcfmafkolgagaaGreatEng3
import Derived.Test.YtlcfmafkolgagaaGreatRows
set_option linter.unusedSimpArgs false
set_option linter.unusedVariables false
namespace Go.Proofs.YtlcfmafkolgagaaGreat.orders
open Go.Eng Go.RowKit Go.ChangeShapes Go.WideShapes
theorem own:ownKnob Tryz.prog.godebug=none:=by kernel_rfl
theorem Qz:laidOutB Tryz.prog=true:=by kernel_rfl
theorem Vp:Tryz.prog.cellsOf 3=1:=by kernel_rfl
theorem call(l:List T)(i j m:Int):((aA dT bF).call [.c (.t (.sl 1 l)),.c (.t (.v (.int .i64 i))),.c (.t (.v (.int .i64 j))),.c (.t (.v (.int .i64 m)))] [] fun rs po=>some (rs,po))=ob (bF (l,i,j,m,())) fun q=>some ([.c (.t (.v (.bool q.1)))],[]):=by kernel_rfl
theorem Yf(l:List T)(i j m:Int)(h:bF (l,i,j,m,())=some (true,())):
 ((aA dT bF).call [.c (.t (.sl 1 l)),.c (.t (.v (.int .i64 i))),.c (.t (.v (.int .i64 j))),.c (.t (.v (.int .i64 m)))] [] fun rs po=>some (rs,po))=some ([.c (.t (.v (.bool true)))],[]):=by
 rw[call,h];rfl
theorem calls(W:World)(hsh:W.ShapedOpen Tryz.prog)(zs:List Int)(i j m:Int)(v:Value)(hv:RdS W (fun _=>False) (fun _=>none) (.c (.t (.sl 1 (zs.map fun z=>T.v (.int .i64 z))))) v):
 Calls Tryz.prog 4 #[v,.int .i64 i,.int .i64 j,.int .i64 m] W fun e W'=>e=.returned (.bool true)∧Below W.heap.size W W':=
 Gp (b:=true) tA (Yf _ i j m (Ord.law_orders zs i j m)) (M8 hsh _ fun _ h=>h) (vals:=[v,.int .i64 i,.int .i64 j,.int .i64 m]) ⟨rfl,fun q s y h1 h2=>by
  match q,h1,h2 with
  | 0,h1,h2=>cases h1;cases h2;exact hv
  | 1,h1,h2=>cases h1;cases h2;exact ZF rfl
  | 2,h1,h2=>cases h1;cases h2;exact ZF rfl
  | 3,h1,h2=>cases h1;cases h2;exact ZF rfl⟩
set_option maxRecDepth 100000 in
theorem lifted(os:Os)(started:os.Started)(H:Type)(enc:TypeId×Value→H):
 ReturnsInHanded {} Tryz.checked os 4 .any (Rows.trimOrdersSpec.pre6 enc Tryz.prog Tryz.f4 Rows.trimOrdersRow.domain false) (Rows.trimOrdersSpec.post enc Tryz.prog Tryz.f4 false true false false):=by
 refine ZE (C:=Tryz.checked) (tb:=4) own started (by kernel_rfl) Tryz.func4 Qz (by kernel_rfl) (by kernel_rfl) Tryz.underlying4 rfl (fun ds hd=>?_)
  (ChangeSpec.witness6 (enc:=enc) (C:=Tryz.checked) false ⟨#[],#[.slice none 0 0,.int .i64 0,.int .i64 0,.int .i64 0],[]⟩ 8 (by kernel_rfl) (by kernel_rfl) (by kernel_rfl) (by kernel_rfl)) ?_
 ·rw[Tryz.params4] at hd
  match ds,hd with
  | [d,d',d'',d3],_=>rfl
 ·intro W base args ds p hval hA hsh
  have hval':∀(j:Nat) t v,Tryz.f4.params[j]?=some t→args[j]?=some v→Value.okWide Tryz.prog W .any base t v:=hval
  have hA':DataW.TrodAll enc Tryz.prog W 0 (fun _=>true) true Tryz.f4.params.toList args.toList ds p:=hA
  rw[Tryz.params4] at hA' hval'
  obtain⟨v0,vs,d0,ds',p0,q0,e0,rfl,rfl,h0,hA2⟩:=trodAll_cons hA'
  obtain⟨v1,vs1,d1,ds1,p1,q1,rfl,rfl,rfl,h1,hA3⟩:=trodAll_cons hA2
  obtain⟨v2,vs2,d2,ds2,p2,q2,rfl,rfl,rfl,h2,hA4⟩:=trodAll_cons hA3
  obtain⟨v3,vs3,d3,ds3,p3,q3,rfl,rfl,rfl,h3,hA5⟩:=trodAll_cons hA4
  obtain⟨rfl,_,_⟩:=trodAll_nil hA5
  obtain rfl:args=#[v0,v1,v2,v3]:=by cases args;simp_all
  obtain⟨zs,hz⟩:=Ow Tryz.underlying22 Tryz.underlying3 Vp (hval' 0 22 v0 rfl rfl) h0
  obtain⟨i,rfl,_,_,wi⟩:=open_int Tryz.underlying3 (hval' 1 3 v1 rfl rfl) h1
  obtain⟨j,rfl,_,_,wj⟩:=open_int Tryz.underlying3 (hval' 2 3 v2 rfl rfl) h2
  obtain⟨m,rfl,_,_,wm⟩:=open_int Tryz.underlying3 (hval' 3 3 v3 rfl rfl) h3
  exact calls W hsh zs i j m v0 hz
theorem holds:Rows.TrimOrdersSaid:=
 OpenClaim.holds_of_wide 4 Tryz.f4 rfl rfl rfl rfl rfl rfl rfl ⟨rfl,rfl,rfl,rfl,rfl⟩ rfl rfl rfl rfl rfl (by kernel_rfl) Tryz.func4 (by kernel_rfl)
  (of_decide_eq_true (by kernel_rfl)) (by unfold Func.isWrapper;first | (rw[if_pos (by decide +kernel)];kernel_rfl) | (rw[if_neg (by decide +kernel)];exact⟨rfl,rfl⟩))
  (fun os started H enc _=>lifted os started H enc)
end Go.Proofs.YtlcfmafkolgagaaGreat.orders
#print axioms Go.Proofs.YtlcfmafkolgagaaGreat.orders.holds
