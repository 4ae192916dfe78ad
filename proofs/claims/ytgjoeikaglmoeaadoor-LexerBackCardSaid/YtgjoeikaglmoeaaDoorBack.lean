/- LexerBack: whatever the list of integers, the law returns true, and the list reads afterwards as before; the two package variables that the row lists are tied to the program's text. No conditions. -/
import Derived.Lay
import Derived.SevenTiedAt
import Derived.ChangeMaps5
import Derived.Test.YtgjoeikaglmoeaaDoorLaw2
import Derived.Test.YtgjoeikaglmoeaaDoorEng2
import Derived.Test.YtgjoeikaglmoeaaDoorCards
import Derived.Test.YtgjoeikaglmoeaaDoorTie
set_option linter.unusedSimpArgs false
set_option linter.unusedVariables false

/- LexerBack: whatever the list of integers, the law returns true; the two package variables that the row lists are tied to the program's text. No conditions. -/
namespace Go.Proofs.YtgjoeikaglmoeaaDoor
open Go.Eng Go.RowKit Go.ChangeShapes Go.WideShapes

theorem own : ownKnob Tryd.prog.godebug = none := by kernel_rfl
theorem laidOut : laidOutB Tryd.prog = true := by kernel_rfl
theorem cells3 : Tryd.prog.cellsOf 3 = 1 := by kernel_rfl
theorem back_call (l : List T) : ((calleeOf sg_brepkernellaw23_LexerBack u_brepkernellaw23_LexerBack).call [.c (.t (.sl 1 l))] [] fun rs po => some (rs, po)) = ob (u_brepkernellaw23_LexerBack (l, ())) fun q => some ([.c (.t (.v (.bool q.1)))], []) := by kernel_rfl
theorem back_calls (W : World) (hsh : W.ShapedOpen Tryd.prog) (zs : List Int) (v : Value) (hv : RdS W (fun _ => False) (fun _ => none) (.c (.t (.sl 1 (zs.map fun z => T.v (.int .i64 z))))) v) :
    Calls Tryd.prog 4 #[v] W fun e W' => e = .returned (.bool true) ∧ Below W.heap.size W W' :=
  law_calls (b := true) k_brepkernellaw23_LexerBack ((back_call _).trans ((congrArg (fun q => ob q fun q : Bool × Unit => some ([S1.c (C.t (T.v (Value.bool q.1)))], ([] : List O))) (Lex.law_back zs)).trans rfl)) (good_of_shaped hsh _ fun _ h => h) (vals := [v]) (rdss_one hv)
set_option maxRecDepth 100000 in
theorem back_lifted (os : Os) (started : os.Started) (H : Type) (enc : TypeId × Value → H) :
    ReturnsInHanded {} Tryd.checked os 4 .any (fun w args => (Rows.lexerBackSpec.pre enc Tryd.prog Tryd.f4 Rows.lexerBackRow.domain false w args ∧ laidMetH Tryd.prog Rows.lexerBackRow.laid w) ∧ sizedMet enc Tryd.prog Tryd.f4 (OpenSpec.ofChange Rows.lexerBackSpec) false w args)
      (Rows.lexerBackSpec.post enc Tryd.prog Tryd.f4 false true false false) := by
  refine law_lifted_laid (C := Tryd.checked) (tb := 4) (X := fun w _ => laidMetH Tryd.prog Rows.lexerBackRow.laid w) own started (by kernel_rfl) Tryd.func4 laidOut (by kernel_rfl) (by kernel_rfl) Tryd.underlying4 rfl (fun ds hd => ?_)
    (ChangeSpec.witness_shaped (enc := enc) (C := Tryd.checked) (os := os) (X := fun w _ => laidMetH Tryd.prog Rows.lexerBackRow.laid w) false (World.laidAll Tryd.prog os Rows.lexerBackRow.laid) #[.slice none 0 0] 8 (World.laidAll_os _ _ _)
      (World.shaped_of_ZipB (by kernel_rfl) (by kernel_rfl)) (by kernel_rfl) (by kernel_rfl) (by kernel_rfl)
      (by rw [MakeChecks.laidMetH_plain _ _ _ (by kernel_rfl)]; exact laidMet_laidAll _ (by kernel_rfl) (by kernel_rfl))) ?_
  · rw [Tryd.params4] at hd
    match ds, hd with
    | [d], _ => rfl
  · intro W base args ds p hval hA hsh
    have hval' : ∀ (j : Nat) t v, Tryd.f4.params[j]? = some t → args[j]? = some v → Value.okWide Tryd.prog W .any base t v := hval
    have hA' : DataW.TrodAll enc Tryd.prog W 0 (fun _ => true) true Tryd.f4.params.toList args.toList ds p := hA
    rw [Tryd.params4] at hA' hval'
    obtain ⟨v, d, rfl, rfl, h0⟩ := trodAll_one hA'
    obtain ⟨zs, hz⟩ := rd_ints Tryd.underlying22 Tryd.underlying3 cells3 (hval' 0 22 v rfl rfl) h0
    exact back_calls W hsh zs v hz
theorem back_holds : Rows.LexerBackSaid :=
  OpenClaim.holds_of_wide 4 Tryd.f4 rfl rfl rfl rfl rfl rfl rfl ⟨rfl, rfl, rfl, rfl, rfl⟩ rfl rfl rfl rfl rfl (by kernel_rfl) Tryd.func4 (by kernel_rfl)
    (of_decide_eq_true (by kernel_rfl)) (by unfold Func.isWrapper; first | (rw [if_pos (by decide +kernel)]; kernel_rfl) | (rw [if_neg (by decide +kernel)]; exact ⟨rfl, rfl⟩))
    (fun os started H enc _ => back_lifted os started H enc)
theorem back_card : Rows.LexerBackCardSaid :=
  Claim7.holds_tied_plain_at .later [] _ _ _ _ back_holds (fun _ h => by cases h) (by kernel_rfl) (fun _ h => by cases h) lexerBack_row_tie rfl ⟨rfl, rfl⟩ (by kernel_rfl) rfl
    (fun f fn hf hfn => by
      obtain rfl : f = 4 := Option.some.inj ((show Tryd.prog.funcNamed "brepkernel/brepkernellaw23.LexerBack" = some 4 by kernel_rfl).symm.trans hf) |>.symm
      obtain rfl : fn = Tryd.f4 := (Option.some.inj (Tryd.func4.symm.trans hfn)).symm
      exact ⟨by kernel_rfl, fun j t ht => by
        rw [Tryd.params4] at ht
        have hm : t ∈ [22] := by simpa using Array.mem_of_getElem? ht
        have hall : ([22].all fun u => !Tryd.prog.wantsStandIn u) = true := by kernel_rfl
        exact (show Tryd.prog.wantsStandIn t = false by simpa using List.all_eq_true.1 hall t hm)⟩)
    (by kernel_rfl)
end Go.Proofs.YtgjoeikaglmoeaaDoor
#print axioms Go.Proofs.YtgjoeikaglmoeaaDoor.back_card
