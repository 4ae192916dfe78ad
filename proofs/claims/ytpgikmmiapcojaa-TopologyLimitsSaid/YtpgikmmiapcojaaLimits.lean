/- TopologyLimits: whatever the number, the law returns true, and the number reads afterwards as before. No conditions. -/
import Derived.Test.YtpgikmmiapcojaaLaw
import Derived.Test.YtpgikmmiapcojaaEng4
import Derived.Test.YtpgikmmiapcojaaRows
set_option linter.unusedSimpArgs false
set_option linter.unusedVariables false

/- TopologyLimits: whatever the number, the law returns true, and the number reads afterwards as before. No conditions. -/
namespace Go.Proofs.Ytpgikmmiapcojaa.limits
open Go.Eng Go.RowKit Go.ChangeShapes Go.WideShapes
theorem own : ownKnob Try.prog.godebug = none := by kernel_rfl
theorem laidOut : laidOutB Try.prog = true := by kernel_rfl
theorem call (n : Int) : ((calleeOf sg_brepkernellaw27_TopologyLimits u_brepkernellaw27_TopologyLimits).call [.c (.t (.v (.int .u8 n)))] [] fun rs po => some (rs, po)) = ob (u_brepkernellaw27_TopologyLimits (n, ())) fun q => some ([.c (.t (.v (.bool q.1)))], []) := by kernel_rfl
theorem call' (n : Int) (h : u_brepkernellaw27_TopologyLimits (n, ()) = some (true, ())) :
    ((calleeOf sg_brepkernellaw27_TopologyLimits u_brepkernellaw27_TopologyLimits).call [.c (.t (.v (.int .u8 n)))] [] fun rs po => some (rs, po)) = some ([.c (.t (.v (.bool true)))], []) := by
  rw [call, h]; rfl
theorem calls (W : World) (hsh : W.ShapedOpen Try.prog) (n : Int) (hn : 0 ≤ n ∧ n ≤ 255) :
    Calls Try.prog 3 #[.int .u8 n] W fun e W' => e = .returned (.bool true) ∧ Below W.heap.size W W' :=
  law_calls (b := true) k_brepkernellaw27_TopologyLimits (call' n (Tl.law_limits hn.1 hn.2)) (good_of_shaped hsh _ fun _ h => h) (vals := [.int .u8 n]) (rdss_one (rd_val rfl))
set_option maxRecDepth 100000 in
theorem lifted (os : Os) (started : os.Started) (H : Type) (enc : TypeId × Value → H) :
    ReturnsInHanded {} Try.checked os 3 .any (Rows.topologyLimitsSpec.pre6 enc Try.prog Try.f3 Rows.topologyLimitsRow.domain false) (Rows.topologyLimitsSpec.post enc Try.prog Try.f3 false true false false) := by
  refine law_lifted (C := Try.checked) (tb := 4) own started (by kernel_rfl) Try.func3 laidOut (by kernel_rfl) (by kernel_rfl) Try.underlying4 rfl (fun ds hd => ?_)
    (ChangeSpec.witness6 (enc := enc) (C := Try.checked) false ⟨#[], #[.int .u8 0], []⟩ 8 (by kernel_rfl) (by kernel_rfl) (by kernel_rfl) (by kernel_rfl)) ?_
  · rw [Try.params3] at hd
    match ds, hd with
    | [d], _ => rfl
  · intro W base args ds p hval hA hsh
    have hval' : ∀ (j : Nat) t v, Try.f3.params[j]? = some t → args[j]? = some v → Value.okWide Try.prog W .any base t v := hval
    have hA' : DataW.TrodAll enc Try.prog W 0 (fun _ => true) true Try.f3.params.toList args.toList ds p := hA
    rw [Try.params3] at hA' hval'
    obtain ⟨v0, d0, rfl, rfl, h0⟩ := trodAll_one hA'
    obtain ⟨n, rfl, rfl, rfl, wn⟩ := open_int Try.underlying5 (hval' 0 5 v0 rfl rfl) h0
    have hn : 0 ≤ n ∧ n ≤ 255 := by simpa [Lit.wf, IntKind.min, IntKind.max, IntKind.signed, IntKind.bits] using wn
    exact calls W hsh n hn
theorem holds : Rows.TopologyLimitsSaid :=
  OpenClaim.holds_of_wide 3 Try.f3 rfl rfl rfl rfl rfl rfl rfl ⟨rfl, rfl, rfl, rfl, rfl⟩ rfl rfl rfl rfl rfl (by kernel_rfl) Try.func3 (by kernel_rfl)
    (of_decide_eq_true (by kernel_rfl)) (by unfold Func.isWrapper; first | (rw [if_pos (by decide +kernel)]; kernel_rfl) | (rw [if_neg (by decide +kernel)]; exact ⟨rfl, rfl⟩))
    (fun os started H enc _ => lifted os started H enc)
end Go.Proofs.Ytpgikmmiapcojaa.limits
#print axioms Go.Proofs.Ytpgikmmiapcojaa.limits.holds
