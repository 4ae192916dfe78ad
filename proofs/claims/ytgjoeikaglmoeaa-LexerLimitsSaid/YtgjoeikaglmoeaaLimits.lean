/- LexerLimits: whatever the two numbers, the law returns true. No conditions. -/
import Derived.Test.YtgjoeikaglmoeaaLaw
import Derived.Test.YtgjoeikaglmoeaaEng2
import Derived.Test.YtgjoeikaglmoeaaRows
set_option linter.unusedSimpArgs false
set_option linter.unusedVariables false

/- LexerLimits: whatever the two numbers, the law returns true. No conditions. -/
namespace Go.Proofs.Ytgjoeikaglmoeaa.limits
open Go.Eng Go.RowKit Go.ChangeShapes Go.WideShapes

theorem own : ownKnob Try.prog.godebug = none := by kernel_rfl
theorem laidOut : laidOutB Try.prog = true := by kernel_rfl
theorem calls (W : World) (hsh : W.ShapedOpen Try.prog) (n k : Int) (hn : 0 ≤ n ∧ n ≤ 65535) (hk : 0 ≤ k ∧ k ≤ 255) :
    Calls Try.prog 4 #[.int .u16 n, .int .u8 k] W fun e W' => e = .returned (.bool true) ∧ Below W.heap.size W W' := by
  refine law_calls (b := true) k_brepkernellaw23_LexerLimits (args := [.c (.t (.v (.int .u16 n))), .c (.t (.v (.int .u8 k)))]) ?_ (good_of_shaped hsh _ fun _ h => h) (vals := [.int .u16 n, .int .u8 k]) (rdss_two (rd_val rfl) (rd_val rfl))
  simp [calleeOf, sg_brepkernellaw23_LexerLimits, gatherR, gatherB, getL, getC, splitR, splitB, newO, putL, putC, sizeR]
  exact (congrArg (fun q => ob q fun q : Bool × Unit => some ([S1.c (C.t (T.v (Value.bool q.1)))], ([] : List O))) (Lex.law2 n k hn hk)).trans rfl
set_option maxRecDepth 100000 in
theorem lifted (os : Os) (started : os.Started) (H : Type) (enc : TypeId × Value → H) :
    ReturnsInHanded {} Try.checked os 4 .any (Rows.lexerLimitsSpec.pre6 enc Try.prog Try.f4 Rows.lexerLimitsRow.domain false) (Rows.lexerLimitsSpec.post enc Try.prog Try.f4 false true false false) := by
  refine law_lifted (C := Try.checked) (tb := 4) own started (by kernel_rfl) Try.func4 laidOut (by kernel_rfl) (by kernel_rfl) Try.underlying4 rfl (fun ds hd => ?_)
    (ChangeSpec.witness6 (enc := enc) (C := Try.checked) false ⟨#[], #[.int .u16 0, .int .u8 0], []⟩ 8 (by kernel_rfl) (by kernel_rfl) (by kernel_rfl) (by kernel_rfl)) ?_
  · rw [Try.params4] at hd
    match ds, hd with
    | [d, d'], _ => rfl
  · intro W base args ds p hval hA hsh
    have hval' : ∀ (j : Nat) t v, Try.f4.params[j]? = some t → args[j]? = some v → Value.okWide Try.prog W .any base t v := hval
    have hA' : DataW.TrodAll enc Try.prog W 0 (fun _ => true) true Try.f4.params.toList args.toList ds p := hA
    rw [Try.params4] at hA' hval'
    obtain ⟨v0, v1, d0, d1, p0, p1, rfl, rfl, rfl, h0, h1⟩ := trodAll_two hA'
    obtain ⟨n, rfl, rfl, rfl, wn⟩ := open_int Try.underlying37 (hval' 0 37 v0 rfl rfl) h0
    obtain ⟨k, rfl, rfl, rfl, wk⟩ := open_int Try.underlying5 (hval' 1 5 v1 rfl rfl) h1
    have hn : 0 ≤ n ∧ n ≤ 65535 := by simpa [Lit.wf, IntKind.min, IntKind.max, IntKind.signed, IntKind.bits] using wn
    have hk : 0 ≤ k ∧ k ≤ 255 := by simpa [Lit.wf, IntKind.min, IntKind.max, IntKind.signed, IntKind.bits] using wk
    exact calls W hsh n k hn hk
theorem holds : Rows.LexerLimitsSaid :=
  OpenClaim.holds_of_wide 4 Try.f4 rfl rfl rfl rfl rfl rfl rfl ⟨rfl, rfl, rfl, rfl, rfl⟩ rfl rfl rfl rfl rfl (by kernel_rfl) Try.func4 (by kernel_rfl)
    (of_decide_eq_true (by kernel_rfl)) (by unfold Func.isWrapper; first | (rw [if_pos (by decide +kernel)]; kernel_rfl) | (rw [if_neg (by decide +kernel)]; exact ⟨rfl, rfl⟩))
    (fun os started H enc _ => lifted os started H enc)
end Go.Proofs.Ytgjoeikaglmoeaa.limits
#print axioms Go.Proofs.Ytgjoeikaglmoeaa.limits.holds
