/- TrimChecks: which loops bound a region, how they are nested, and their canonical order. -/
import Derived.Test.YtlcfmafkolgagaaGreatLaw3
import Derived.Test.YtlcfmafkolgagaaGreatEng3
import Derived.Test.YtlcfmafkolgagaaGreatRows
set_option linter.unusedSimpArgs false
set_option linter.unusedVariables false
namespace Go.Proofs.YtlcfmafkolgagaaGreat.checks
open Go.Eng Go.RowKit Go.ChangeShapes Go.WideShapes
theorem own:ownKnob Tryz.prog.godebug=none:=by kernel_rfl
theorem Vs:laidOutB Tryz.prog=true:=by kernel_rfl
theorem aA1:Tryz.prog.cellsOf 3=1:=by kernel_rfl
theorem calls(W:World)(hsh:W.ShapedOpen Tryz.prog)(zs:List Int)(i j:Int)(v:Value)(hv:RdS W (fun _=>False) (fun _=>none) (.c (.t (.sl 1 (zs.map fun z=>T.v (.int .i64 z))))) v):
 Calls Tryz.prog 5 #[v,.int .i64 i,.int .i64 j] W fun e W'=>e=.returned (.bool true)∧Below W.heap.size W W':=by
 rcases(hv:RdC1 _ _ _ _ _) with h | ⟨h,h1⟩
 ·cases h
 ·exact Tc.checks W (OU hsh _ fun _ h=>h) zs i j v h h1 Sq.w_awake fun ls k hB h5 hk=>Tc.all hB h5 hk
set_option maxRecDepth 100000 in
theorem lifted(os:Os)(started:os.Started)(H:Type)(enc:TypeId×Value→H):
 ReturnsInHanded {} Tryz.checked os 5 .any (Rows.trimChecksSpec.pre6 enc Tryz.prog Tryz.f5 Rows.trimChecksRow.domain false) (Rows.trimChecksSpec.post enc Tryz.prog Tryz.f5 false true false false):=by
 refine Ca (C:=Tryz.checked) (tb:=4) own started (by kernel_rfl) Tryz.func5 Vs (by kernel_rfl) (by kernel_rfl) Tryz.underlying4 rfl (fun ds hd=>?_)
  (ChangeSpec.witness6 (enc:=enc) (C:=Tryz.checked) false ⟨#[],#[.slice none 0 0,.int .i64 0,.int .i64 0],[]⟩ 8 (by kernel_rfl) (by kernel_rfl) (by kernel_rfl) (by kernel_rfl)) ?_
 ·rw[Tryz.params5] at hd
  match ds,hd with
  | [d,d',d''],_=>rfl
 ·intro W base args ds p hval hA hsh
  have hval':∀(j:Nat) t v,Tryz.f5.params[j]?=some t→args[j]?=some v→Value.okWide Tryz.prog W .any base t v:=hval
  have hA':DataW.TrodAll enc Tryz.prog W 0 (fun _=>true) true Tryz.f5.params.toList args.toList ds p:=hA
  rw[Tryz.params5] at hA' hval'
  obtain⟨v0,vs,d0,ds',p0,q0,e0,rfl,rfl,h0,hA2⟩:=trodAll_cons hA'
  obtain⟨v1,vs1,d1,ds1,p1,q1,rfl,rfl,rfl,h1,hA3⟩:=trodAll_cons hA2
  obtain⟨v2,vs2,d2,ds2,p2,q2,rfl,rfl,rfl,h2,hA4⟩:=trodAll_cons hA3
  obtain⟨rfl,_,_⟩:=trodAll_nil hA4
  obtain rfl:args=#[v0,v1,v2]:=by cases args;simp_all
  obtain⟨zs,hz⟩:=Te Tryz.underlying22 Tryz.underlying3 aA1 (hval' 0 22 v0 rfl rfl) h0
  obtain⟨i,rfl,_,_,wi⟩:=open_int Tryz.underlying3 (hval' 1 3 v1 rfl rfl) h1
  obtain⟨j,rfl,_,_,wj⟩:=open_int Tryz.underlying3 (hval' 2 3 v2 rfl rfl) h2
  exact calls W hsh zs i j v0 hz
theorem holds:Rows.TrimChecksSaid:=
 OpenClaim.holds_of_wide 5 Tryz.f5 rfl rfl rfl rfl rfl rfl rfl ⟨rfl,rfl,rfl,rfl,rfl⟩ rfl rfl rfl rfl rfl (by kernel_rfl) Tryz.func5 (by kernel_rfl)
  (of_decide_eq_true (by kernel_rfl)) (by unfold Func.isWrapper;first | (rw[if_pos (by decide +kernel)];kernel_rfl) | (rw[if_neg (by decide +kernel)];exact⟨rfl,rfl⟩))
  (fun os started H enc _=>lifted os started H enc)
end Go.Proofs.YtlcfmafkolgagaaGreat.checks
#print axioms Go.Proofs.YtlcfmafkolgagaaGreat.checks.holds
