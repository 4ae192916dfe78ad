/- LexerTexts, in the second form: whatever the list of integers and the list of tokens, where they are together of bulk at most 1048576, the law returns true, and the arguments read afterwards as before; the two package variables that the row lists are tied to the program's text. -/
import Derived.Lay
import Derived.SevenTiedAt
import Derived.ChangeMaps5
import Derived.Deep.DeepHandedRow
import Derived.Test.YtgjoeikaglmoeaaDoorLaw2
import Derived.Test.YtgjoeikaglmoeaaDoorEng2
import Derived.Test.YtgjoeikaglmoeaaDoorCards
import Derived.Test.YtgjoeikaglmoeaaDoorTie
set_option linter.unusedSimpArgs false
set_option linter.unusedVariables false

/- LexerTexts, in the second form: whatever the list of integers and the list of tokens, where they are together of bulk at most 1048576, the law returns true; the two package variables that the row lists are tied to the program's text. -/
namespace Go.Proofs.YtgjoeikaglmoeaaDoor.texts
open Go.Eng Go.RowKit Go.ChangeShapes Go.WideShapes Go.ChangeAt

theorem own : ownKnob Tryd.prog.godebug = none := by kernel_rfl
theorem laidOut : laidOutB Tryd.prog = true := by kernel_rfl
theorem cells3 : Tryd.prog.cellsOf 3 = 1 := by kernel_rfl
theorem call (l m : List T) : ((calleeOf sg_brepkernellaw23_LexerTexts u_brepkernellaw23_LexerTexts).call [.c (.t (.sl 1 l)), .c (.t (.sl 3 m))] [] fun rs po => some (rs, po)) = ob (u_brepkernellaw23_LexerTexts (l, (m, ()))) fun q => some ([.c (.t (.v (.bool q.1)))], []) := by kernel_rfl
theorem calls (W : World) (hsh : W.ShapedOpen Tryd.prog) (zs : List Int) (raw : List Lex.Tk) (hr : ∀ x ∈ raw, x.2.1.length ≤ 1000000000) (v v' : Value)
    (hv : RdS W (fun _ => False) (fun _ => none) (.c (.t (.sl 1 (zs.map fun z => T.v (.int .i64 z))))) v) (hv' : RdS W (fun _ => False) (fun _ => none) (.c (.t (.sl 3 (raw.map Lex.tkT)))) v') :
    Calls Tryd.prog 3 #[v, v'] W fun e W' => e = .returned (.bool true) ∧ Below W.heap.size W W' :=
  law_calls (b := true) k_brepkernellaw23_LexerTexts ((call _ _).trans ((congrArg (fun q => ob q fun q : Bool × Unit => some ([S1.c (C.t (T.v (Value.bool q.1)))], ([] : List O))) (Lex.law_texts zs raw hr)).trans rfl)) (good_of_shaped hsh _ fun _ h => h) (vals := [v, v']) (rdss_two hv hv')
theorem plain23 : plainTy Tryd.prog 8 23 = true := by kernel_rfl
theorem tok_data {H : Type} {x : DataW H} (h : wfD Tryd.prog 7 29 x) : ∃ (k : Int) (s : List UInt8) (a : Int), x = .agg [.lit (.int .i64 k), .lit (.string s), .lit (.int .i64 a)] := by
  unfold wfD at h
  simp only [Tryd.underlying29] at h
  obtain ⟨ps, rfl, hl, hf⟩ := h
  match ps, hl with
  | [p0, p1, p2], _ =>
    have h0 := hf 0 _ p0 rfl rfl
    have h1 := hf 1 _ p1 rfl rfl
    have h2 := hf 2 _ p2 rfl rfl
    unfold wfD at h0 h1 h2
    simp only [Tryd.underlying3, Tryd.underlying9] at h0 h1 h2
    obtain ⟨k, rfl, _⟩ := h0
    obtain ⟨s, rfl⟩ := h1
    obtain ⟨a, rfl, _⟩ := h2
    exact ⟨k, s, a, rfl⟩
theorem tok_tree {H : Type} (k : Int) (s : List UInt8) (a : Int) : mkT (Tryd.prog.cellsOf 29) (treesD (H := H) Tryd.prog 7 29 (.agg [.lit (.int .i64 k), .lit (.string s), .lit (.int .i64 a)])) = Lex.tkT (k, s, a) := by kernel_rfl
theorem cells29 : Tryd.prog.cellsOf 29 = 3 := by kernel_rfl
/-- What the list of tokens is, where it is of small bulk. -/
theorem toks_data {H : Type} {d : DataW H} (h : wfD Tryd.prog 8 23 d) (hb : Rows.uptoBulk d ≤ 1048576) : ∃ raw : List Lex.Tk, treesD Tryd.prog 8 23 d = [.sl 3 (raw.map Lex.tkT)] ∧ ∀ x ∈ raw, x.2.1.length ≤ 1000000000 := by
  unfold wfD at h
  unfold treesD
  simp only [Tryd.underlying23] at h ⊢
  rcases h with rfl | ⟨es, sp, rfl, _, hes⟩
  · exact ⟨[], by simp only [cells29]; rfl, fun x hx => by cases hx⟩
  · simp only [Rows.uptoBulk] at hb
    have key : ∀ es : List (DataW H), (∀ x ∈ es, wfD Tryd.prog 7 29 x) → Rows.uptoBulkAll es ≤ 1048576 → ∃ raw : List Lex.Tk, (es.map fun x => mkT (Tryd.prog.cellsOf 29) (treesD Tryd.prog 7 29 x)) = raw.map Lex.tkT ∧ ∀ x ∈ raw, x.2.1.length ≤ 1000000000 := by
      intro es
      induction es with
      | nil => intro _ _; exact ⟨[], rfl, fun x hx => by cases hx⟩
      | cons e es ih =>
        intro he hb
        obtain ⟨k, s, a, rfl⟩ := tok_data (he e (by simp))
        simp only [Rows.uptoBulkAll, Rows.uptoBulk] at hb
        obtain ⟨raw, h1, h2⟩ := ih (fun x hx => he x (by simp [hx])) (by omega)
        refine ⟨(k, s, a) :: raw, by simp only [List.map_cons, h1, tok_tree], fun x hx => ?_⟩
        rcases List.mem_cons.1 hx with rfl | hx
        · show s.length ≤ _; omega
        · exact h2 x hx
    obtain ⟨raw, h1, h2⟩ := key es hes (by omega)
    exact ⟨raw, by dsimp only; rw [h1, cells29], h2⟩
theorem contract (H : Type) (enc : TypeId × Value → H) (W : World) (base : Nat) (args : Array Value) (ds gs : List (DataW H)) (before : List MemPlace)
    (hval : ∀ (j : Nat) t v, Tryd.f3.params[j]? = some t → args[j]? = some v → Value.okWide Tryd.prog W .any base t v)
    (hW : DataW.Whole enc Tryd.prog Tryd.f3.params.toList Rows.lexerTextsSpec.vars false W args.toList ds gs before) (hk : Rows.uptoSmall H (ds ++ gs) = true) (hsh : W.ShapedOpen Tryd.prog) :
    Calls Tryd.prog 3 args W fun e W' => ∃ v, e = .returned v ∧ Rows.lexerTextsSpec.post enc Tryd.prog Tryd.f3 false true false false W args v W' := by
  refine law_contract (tb := 4) laidOut (by kernel_rfl) (by kernel_rfl) Tryd.underlying4 rfl (fun ds hd => ?_) hW fun p hA hg => ?_
  · rw [Tryd.params3] at hd
    match ds, hd with
    | [d, d'], _ => rfl
  · subst hg
    have hval' := hval
    rw [Tryd.params3] at hA hval'
    obtain ⟨v, v', d, d', p0, p1, rfl, rfl, rfl, h0, h1⟩ := trodAll_two hA
    obtain ⟨zs, hz⟩ := rd_ints Tryd.underlying22 Tryd.underlying3 cells3 (hval' 0 22 v rfl rfl) h0
    obtain ⟨a0, len, cap, rfl⟩ := okWide_slice Tryd.underlying23 (hval' 1 23 v' rfl rfl)
    obtain ⟨g1, g2⟩ := rd_plain plain23 rfl h1
    have hb := of_decide_eq_true hk
    simp only [List.append_nil, Rows.uptoBulkAll] at hb
    obtain ⟨raw, r1, r2⟩ := toks_data g1 (by omega)
    exact calls W hsh zs raw r2 v _ hz (g2 _ r1)
noncomputable def laidWorld (os : Os) : World := World.laidAll Tryd.prog os Rows.lexerTextsUptoRow.laid
theorem laid_met (os : Os) : laidMet Tryd.prog Rows.lexerTextsUptoRow.laid ((laidWorld os).forCall (fun _ _ => 0) ⟨#[], #[.slice none 0 0, .slice none 0 0], []⟩).memory := laidMet_laidAll _ (by kernel_rfl) (by kernel_rfl)
theorem reads (os : Os) {H : Type} (enc : TypeId × Value → H) : ∃ places, DataW.whole enc Tryd.prog ((laidWorld os).forCall (fun _ _ => 0) ⟨#[], #[.slice none 0 0, .slice none 0 0], []⟩).memory Tryd.f3.params.toList Rows.lexerTextsSpec.vars false #[Value.slice none 0 0, Value.slice none 0 0].toList 8 = some ([.nil, .nil], [], places) :=
  ⟨[], by kernel_rfl⟩
set_option maxRecDepth 100000 in
theorem liftedUpto (os : Os) (started : os.Started) (H : Type) (enc : TypeId × Value → H) (F : Stop.Interp) :
    ReturnsInHanded {} Tryd.checked os 3 .any ((Rows.OpenSpec.upto Rows.lexerTextsSpec).preRow enc Tryd.prog Tryd.f3 Rows.lexerTextsUptoRow.domain false Rows.lexerTextsUptoRow.laid) (((Rows.OpenSpec.upto Rows.lexerTextsSpec).at F).post enc Tryd.prog Tryd.f3 false true false false) := by
  obtain ⟨places, hx⟩ := reads os enc
  refine returnsInHanded_of_row (C := Tryd.checked) (s := Rows.OpenSpec.upto Rows.lexerTextsSpec) own started (by kernel_rfl) Tryd.func3
    (witness_row_at (enc := enc) (C := Tryd.checked) false (laidWorld os) #[.slice none 0 0, .slice none 0 0] (World.laidAll_os _ _ _) (by kernel_rfl) (by kernel_rfl) (by kernel_rfl)
      (OpenSpec.preRow_of_cond 8 hx (by kernel_rfl) (fun k hk => by cases hk; kernel_rfl) (by kernel_rfl) (laid_met os))) ?_
  intro W base args ds gs before hval hW _ hcond _ _ hsh _
  exact contract H enc W base args ds gs before hval hW (hcond _ rfl) hsh
theorem saidUpto : Rows.LexerTextsUptoSaid :=
  OpenClaim.holds_of_cond 3 Tryd.f3 rfl rfl rfl rfl rfl rfl rfl ⟨rfl, rfl, rfl, rfl, rfl⟩ rfl rfl rfl rfl rfl (by kernel_rfl) Tryd.func3 (by kernel_rfl)
    (of_decide_eq_true (by kernel_rfl)) (by unfold Func.isWrapper; first | (rw [if_pos (by decide +kernel)]; kernel_rfl) | (rw [if_neg (by decide +kernel)]; exact ⟨rfl, rfl⟩))
    (fun os started H enc _ F => by rw [OpenClaim.pre_eq_preRow]; exact liftedUpto os started H enc F)
theorem plain (f : FuncId) (fn : Func) (hf : Tryd.pinned.checked.prog.funcNamed "brepkernel/brepkernellaw23.LexerTexts" = some f) (hfn : Tryd.pinned.checked.prog.funcs[f]? = some fn) :
    false = Tryd.pinned.checked.prog.looks [] ∧ ∀ (j : Nat) t, fn.params[j]? = some t → Tryd.pinned.checked.prog.wantsStandIn t = false := by
  obtain rfl : f = 3 := Option.some.inj ((show Tryd.prog.funcNamed "brepkernel/brepkernellaw23.LexerTexts" = some 3 by kernel_rfl).symm.trans hf) |>.symm
  obtain rfl : fn = Tryd.f3 := (Option.some.inj (Tryd.func3.symm.trans hfn)).symm
  exact ⟨by kernel_rfl, fun j t ht => by
    rw [Tryd.params3] at ht
    have hm : t ∈ [22, 23] := by simpa using Array.mem_of_getElem? ht
    have hall : ([22, 23].all fun u => !Tryd.prog.wantsStandIn u) = true := by kernel_rfl
    exact (show Tryd.prog.wantsStandIn t = false by simpa using List.all_eq_true.1 hall t hm)⟩
theorem card : Rows.LexerTextsUptoCardSaid :=
  Claim7.holds_tied_plain_at .later [] _ _ _ _ saidUpto (fun _ h => by cases h) (by kernel_rfl) (fun _ h => by cases h) lexerTextsUpto_row_tie rfl ⟨rfl, rfl⟩ (by kernel_rfl) rfl plain (by kernel_rfl)
end Go.Proofs.YtgjoeikaglmoeaaDoor.texts
#print axioms Go.Proofs.YtgjoeikaglmoeaaDoor.texts.card
