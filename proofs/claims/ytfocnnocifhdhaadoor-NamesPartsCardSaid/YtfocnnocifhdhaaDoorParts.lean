/- NamesParts: whatever the two strings and the list of integers, the law returns true, and the arguments read afterwards as before; the two package variables that the row lists are tied to the program's text. No conditions. -/
import Derived.Lay
import Derived.SevenTiedAt
import Derived.ChangeMaps5
import Derived.Test.YtfocnnocifhdhaaDoorLaw
import Derived.Test.YtfocnnocifhdhaaDoorEng2
import Derived.Test.YtfocnnocifhdhaaDoorCards
import Derived.Test.YtfocnnocifhdhaaDoorTie
set_option linter.unusedSimpArgs false
set_option linter.unusedVariables false

/- NamesParts: whatever the two strings and the list of integers, the law returns true. No conditions. -/
namespace Go.Proofs.YtfocnnocifhdhaaDoor
open Go.Eng Go.RowKit Go.ChangeShapes Go.WideShapes

theorem own : ownKnob Tryd.prog.godebug = none := by kernel_rfl
theorem laidOut : laidOutB Tryd.prog = true := by kernel_rfl
theorem cells3 : Tryd.prog.cellsOf 3 = 1 := by kernel_rfl
theorem calls (W : World) (hsh : W.ShapedOpen Tryd.prog) (a b : ByteArray) (zs : List Int) (v : Value) (hv : RdS W (fun _ => False) (fun _ => none) (.c (.t (.sl 1 (zs.map fun z => T.v (.int .i64 z))))) v) :
    Calls Tryd.prog 3 #[.string a, .string b, v] W fun e W' => e = .returned (.bool true) ∧ Below W.heap.size W W' := by
  refine law_calls (b := true) k_brepkernellaw43_NamesParts (args := [.c (.t (.v (.string a))), .c (.t (.v (.string b))), .c (.t (.sl 1 (zs.map fun z => T.v (.int .i64 z))))]) ?_ (good_of_shaped hsh _ fun _ h => h) (vals := [.string a, .string b, v]) (rdss_three (rd_val rfl) (rd_val rfl) hv)
  simp [calleeOf, sg_brepkernellaw43_NamesParts, gatherR, gatherB, getL, getC, splitR, splitB, newO, putL, putC, sizeR]
  exact (congrArg (fun q => ob q fun q : Bool × Unit => some ([S1.c (C.t (T.v (Value.bool q.1)))], ([] : List O))) (Np.law_plain a b ⟨zs, rfl⟩)).trans rfl
set_option maxRecDepth 100000 in
theorem lifted (os : Os) (started : os.Started) (H : Type) (enc : TypeId × Value → H) :
    ReturnsInHanded {} Tryd.checked os 3 .any (fun w args => (Rows.namesPartsSpec.pre enc Tryd.prog Tryd.f3 Rows.namesPartsRow.domain false w args ∧ laidMetH Tryd.prog Rows.namesPartsRow.laid w) ∧ sizedMet enc Tryd.prog Tryd.f3 (OpenSpec.ofChange Rows.namesPartsSpec) false w args)
      (Rows.namesPartsSpec.post enc Tryd.prog Tryd.f3 false true false false) := by
  refine law_lifted_laid (C := Tryd.checked) (tb := 4) (X := fun w _ => laidMetH Tryd.prog Rows.namesPartsRow.laid w) own started (by kernel_rfl) Tryd.func3 laidOut (by kernel_rfl) (by kernel_rfl) Tryd.underlying4 rfl (fun ds hd => ?_)
    (ChangeSpec.witness_shaped (enc := enc) (C := Tryd.checked) (os := os) (X := fun w _ => laidMetH Tryd.prog Rows.namesPartsRow.laid w) false (World.laidAll Tryd.prog os Rows.namesPartsRow.laid) #[.string ⟨#[]⟩, .string ⟨#[]⟩, .slice none 0 0] 8 (World.laidAll_os _ _ _)
      (World.shaped_of_ZipB (by kernel_rfl) (by kernel_rfl)) (by kernel_rfl) (by kernel_rfl) (by kernel_rfl)
      (by rw [MakeChecks.laidMetH_plain _ _ _ (by kernel_rfl)]; exact laidMet_laidAll _ (by kernel_rfl) (by kernel_rfl))) ?_
  · rw [Tryd.params3] at hd
    match ds, hd with
    | [d, d', d''], _ => rfl
  · intro W base args ds p hval hA hsh
    have hval' : ∀ (j : Nat) t v, Tryd.f3.params[j]? = some t → args[j]? = some v → Value.okWide Tryd.prog W .any base t v := hval
    have hA' : DataW.TrodAll enc Tryd.prog W 0 (fun _ => true) true Tryd.f3.params.toList args.toList ds p := hA
    rw [Tryd.params3] at hA' hval'
    obtain ⟨v0, v1, v2, d0, d1, d2, p0, p1, p2, rfl, rfl, rfl, h0, h1, h2⟩ := trodAll_three hA'
    obtain ⟨a, rfl, rfl, rfl, wa⟩ := ChangeMaps.open_string Tryd.underlying9 (hval' 0 9 v0 rfl rfl) h0
    obtain ⟨b, rfl, rfl, rfl, wb⟩ := ChangeMaps.open_string Tryd.underlying9 (hval' 1 9 v1 rfl rfl) h1
    obtain ⟨zs, hz⟩ := rd_ints Tryd.underlying22 Tryd.underlying3 cells3 (hval' 2 22 v2 rfl rfl) h2
    exact calls W hsh a b zs v2 hz
theorem holds : Rows.NamesPartsSaid :=
  OpenClaim.holds_of_wide 3 Tryd.f3 rfl rfl rfl rfl rfl rfl rfl ⟨rfl, rfl, rfl, rfl, rfl⟩ rfl rfl rfl rfl rfl (by kernel_rfl) Tryd.func3 (by kernel_rfl)
    (of_decide_eq_true (by kernel_rfl)) (by unfold Func.isWrapper; first | (rw [if_pos (by decide +kernel)]; kernel_rfl) | (rw [if_neg (by decide +kernel)]; exact ⟨rfl, rfl⟩))
    (fun os started H enc _ => lifted os started H enc)
theorem card_holds : Rows.NamesPartsCardSaid :=
  Claim7.holds_tied_plain_at .later [] [.data, .pinned] true (true, "f72545b7856d603fe0c375042022e1e3172dafd79c54921d0addab6bd55001d4") false holds (fun _ h => by cases h) (by kernel_rfl) (fun _ h => by cases h) namesParts_row_tie rfl ⟨rfl, rfl⟩ (by kernel_rfl) rfl
    (fun f fn hf hfn => by
      obtain rfl : f = 3 := Option.some.inj ((show Tryd.prog.funcNamed "brepkernel/brepkernellaw43.NamesParts" = some 3 by kernel_rfl).symm.trans hf) |>.symm
      obtain rfl : fn = Tryd.f3 := (Option.some.inj (Tryd.func3.symm.trans hfn)).symm
      exact ⟨by kernel_rfl, fun j t ht => by
        rw [Tryd.params3] at ht
        have hm : t ∈ [9, 9, 22] := by simpa using Array.mem_of_getElem? ht
        have hall : ([9, 9, 22].all fun u => !Tryd.prog.wantsStandIn u) = true := by kernel_rfl
        exact (show Tryd.prog.wantsStandIn t = false by simpa using List.all_eq_true.1 hall t hm)⟩)
    (by kernel_rfl)
end Go.Proofs.YtfocnnocifhdhaaDoor
#print axioms Go.Proofs.YtfocnnocifhdhaaDoor.card_holds
