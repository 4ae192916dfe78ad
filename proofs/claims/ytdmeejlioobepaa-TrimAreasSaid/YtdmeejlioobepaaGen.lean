/- The functions of this seat as plain functions on tuples, each proved to be what its code comes to; no conditions, but that nothing is said where the plain function gives nothing. -/
import Derived.Test.YtdmeejlioobepaaEng3
import Derived.Test.YtdmeejlioobepaaProg
set_option linter.unusedSimpArgs false
set_option linter.unusedVariables false

/- math/bits.Add64 as a callee. -/
namespace Go.Eng
open Go.RowKit Go.Proofs
theorem add64_ok : add64E.OK Try.prog 66 := add64E_ok (run_callFunc_extern Try.func66 (by kernel_rfl) (by kernel_rfl) (by kernel_rfl) rfl)
end Go.Eng

namespace Go.Eng
open Go.Proofs
theorem mixed : Try.prog.follows .mixedOrders = true := by kernel_rfl

/-! brepkernelmade_Mod -/
def sg_brepkernelmade_Mod : Sig := { na := 2, np := 0, hin := { items := [.slot 0, .slot 1], shapes := [.int IntKind.i64, .int IntKind.i64] }, nres := 1, kept := [], nnew := 0, hout := { items := [.slot 0], shapes := [.int IntKind.i64] }, nob := 28 }
noncomputable def g_brepkernelmade_Mod : List (Go.FuncId × Callee) := []
noncomputable def u_brepkernelmade_Mod (t : (Int × (Int × Unit))) : Option (Int × Unit) :=
  (ob (nz t.2.1) fun x0 => (ob (α := ((Int × Unit) ⊕ Empty)) (bif (ltI (modI t.1 x0) (0 : Int)) then (some (Sum.inl ((wr IntKind.i64 (addI (modI t.1 x0) t.2.1)), ()))) else (some (Sum.inl ((modI t.1 x0), ())))) fun q1 => onS q1 (fun t2 => (some (t2.1, ()))) fun q3 => noS q3))
def h_brepkernelmade_Mod : HT := (.seq .leaf (.seq .leaf (.seq (.join [(AEx.normal, { items := [.slot 0], shapes := [.int IntKind.i64] })] .leaf) .leaf)))
theorem ok_brepkernelmade_Mod : TabOK Try.prog [] g_brepkernelmade_Mod := TabOK.nil
theorem e_brepkernelmade_Mod : ∀ t, bodyG Try.prog g_brepkernelmade_Mod [] h_brepkernelmade_Mod Try.f8 sg_brepkernelmade_Mod t = u_brepkernelmade_Mod t := by
  intro t
  kernel_rfl
theorem k_brepkernelmade_Mod : (calleeOf sg_brepkernelmade_Mod u_brepkernelmade_Mod).OK Try.prog 8 := calleeG_ok mixed ok_brepkernelmade_Mod Try.func8 (by kernel_rfl) (by kernel_rfl) e_brepkernelmade_Mod

/-! __brepkernelmade_Dice__Next -/
def sg___brepkernelmade_Dice__Next : Sig := { na := 2, np := 1, hin := { items := [.slot 0, .slot 1, .box 0 2], shapes := [.lit (.box 0 0), .int IntKind.i64, .sl 1, .int IntKind.i64] }, nres := 1, kept := [], nnew := 0, hout := { items := [.slot 0, .box 0 2], shapes := [.int IntKind.i64, .sl 1, .int IntKind.i64] }, nob := 70 }
noncomputable def g___brepkernelmade_Dice__Next : List (Go.FuncId × Callee) := [(8, (calleeOf sg_brepkernelmade_Mod u_brepkernelmade_Mod))]
noncomputable def u___brepkernelmade_Dice__Next (t : (Unit × (Int × ((List T) × (Int × Unit))))) : Option (Int × ((List T) × (Int × Unit))) :=
  (bif (leI (lenL t.2.2.1) t.2.2.2.1) then (some ((0 : Int), (t.2.2.1, (t.2.2.2.1, ())))) else (ob (idxL t.2.2.1 (wr IntKind.i64 (subI (wr IntKind.i64 (addI t.2.2.2.1 (1 : Int))) (1 : Int)))) fun x0 => (ob (T.int? IntKind.i64 (T.cell x0 0)) fun x1 => (ob (u_brepkernelmade_Mod (x1, (t.2.1, ()))) fun x2 => (some (x2.1, (t.2.2.1, ((wr IntKind.i64 (addI t.2.2.2.1 (1 : Int))), ()))))))))
def h___brepkernelmade_Dice__Next : HT := .leaf
theorem ok___brepkernelmade_Dice__Next : TabOK Try.prog [8] g___brepkernelmade_Dice__Next := (TabOK.cons (fun _ => ⟨_, Try.func8, by kernel_rfl, by kernel_rfl⟩) k_brepkernelmade_Mod (calleeOf_nat _ _) (fun _ => (calleeOf_pure (by kernel_rfl))) (by kernel_rfl) (fun _ => callK_framed (calleeOf_nat _ _) rfl rfl) (by kernel_rfl) TabOK.nil)
theorem e___brepkernelmade_Dice__Next : ∀ t, bodyG Try.prog g___brepkernelmade_Dice__Next [8] h___brepkernelmade_Dice__Next Try.f19 sg___brepkernelmade_Dice__Next t = u___brepkernelmade_Dice__Next t := by
  intro t
  kernel_rfl
theorem k___brepkernelmade_Dice__Next : (calleeOf sg___brepkernelmade_Dice__Next u___brepkernelmade_Dice__Next).OK Try.prog 19 := calleeG_ok mixed ok___brepkernelmade_Dice__Next Try.func19 (by kernel_rfl) (by kernel_rfl) e___brepkernelmade_Dice__Next

/-! brepkernelmade_Light -/
def sg_brepkernelmade_Light : Sig := { na := 1, np := 0, hin := { items := [.slot 0], shapes := [.sl 1] }, nres := 1, kept := [], nnew := 0, hout := { items := [.slot 0], shapes := [.bool] }, nob := 12 }
noncomputable def g_brepkernelmade_Light : List (Go.FuncId × Callee) := []
noncomputable def u_brepkernelmade_Light (t : ((List T) × Unit)) : Option (Bool × Unit) :=
  (some ((leI (lenL t.1) (500 : Int)), ()))
def h_brepkernelmade_Light : HT := .leaf
theorem ok_brepkernelmade_Light : TabOK Try.prog [] g_brepkernelmade_Light := TabOK.nil
theorem e_brepkernelmade_Light : ∀ t, bodyG Try.prog g_brepkernelmade_Light [] h_brepkernelmade_Light Try.f4 sg_brepkernelmade_Light t = u_brepkernelmade_Light t := by
  intro t
  kernel_rfl
theorem k_brepkernelmade_Light : (calleeOf sg_brepkernelmade_Light u_brepkernelmade_Light).OK Try.prog 4 := calleeG_ok mixed ok_brepkernelmade_Light Try.func4 (by kernel_rfl) (by kernel_rfl) e_brepkernelmade_Light

/-! brepkernelmade_Roll -/
def sg_brepkernelmade_Roll : Sig := { na := 1, np := 0, hin := { items := [.slot 0], shapes := [.sl 1] }, nres := 1, kept := [], nnew := 1, hout := { items := [.boxr 0 0 2], shapes := [.sl 1, .int IntKind.i64] }, nob := 12 }
noncomputable def g_brepkernelmade_Roll : List (Go.FuncId × Callee) := []
noncomputable def u_brepkernelmade_Roll (t : ((List T) × Unit)) : Option ((List T) × (Int × Unit)) :=
  (some (t.1, ((0 : Int), ())))
def h_brepkernelmade_Roll : HT := .leaf
theorem ok_brepkernelmade_Roll : TabOK Try.prog [] g_brepkernelmade_Roll := TabOK.nil
theorem e_brepkernelmade_Roll : ∀ t, bodyG Try.prog g_brepkernelmade_Roll [] h_brepkernelmade_Roll Try.f6 sg_brepkernelmade_Roll t = u_brepkernelmade_Roll t := by
  intro t
  kernel_rfl
theorem k_brepkernelmade_Roll : (calleeOf sg_brepkernelmade_Roll u_brepkernelmade_Roll).OK Try.prog 6 := calleeG_ok mixed ok_brepkernelmade_Roll Try.func6 (by kernel_rfl) (by kernel_rfl) e_brepkernelmade_Roll

/-! ref01_small -/
def sg_ref01_small : Sig := { na := 1, np := 0, hin := { items := [.slot 0], shapes := [.sl 1] }, nres := 2, kept := [], nnew := 0, hout := { items := [.slot 0, .slot 1], shapes := [.int IntKind.u64, .bool] }, nob := 52 }
noncomputable def g_ref01_small : List (Go.FuncId × Callee) := []
noncomputable def u_ref01_small (t : ((List T) × Unit)) : Option (Int × (Bool × Unit)) :=
  (bif (eqI (lenL t.1) (0 : Int)) then (some ((0 : Int), (Bool.true, ()))) else (bif (eqI (lenL t.1) (1 : Int)) then (ob (idxL t.1 (0 : Int)) fun x0 => (ob (T.anyInt? (T.cell x0 0)) fun x1 => (some ((wr IntKind.u64 x1), (Bool.true, ()))))) else (bif (eqI (lenL t.1) (2 : Int)) then (ob (idxL t.1 (0 : Int)) fun x2 => (ob (T.anyInt? (T.cell x2 0)) fun x3 => (ob (idxL t.1 (1 : Int)) fun x4 => (ob (T.anyInt? (T.cell x4 0)) fun x5 => (ob (nn (32 : Int)) fun x6 => (some ((bitI Go.BinOp.or IntKind.u64 (wr IntKind.u64 x3) (wr IntKind.u64 (shlI IntKind.u64 (wr IntKind.u64 x5) x6))), (Bool.true, ())))))))) else (some ((0 : Int), (Bool.false, ()))))))
def h_ref01_small : HT := .leaf
theorem ok_ref01_small : TabOK Try.prog [] g_ref01_small := TabOK.nil
theorem e_ref01_small : ∀ t, bodyG Try.prog g_ref01_small [] h_ref01_small Try.f76 sg_ref01_small t = u_ref01_small t := by
  intro t
  kernel_rfl
theorem k_ref01_small : (calleeOf sg_ref01_small u_ref01_small).OK Try.prog 76 := calleeG_ok mixed ok_ref01_small Try.func76 (by kernel_rfl) (by kernel_rfl) e_ref01_small

/-! ref01_Trim -/
def sg_ref01_Trim : Sig := { na := 1, np := 0, hin := { items := [.slot 0], shapes := [.sl 1] }, nres := 1, kept := [], nnew := 0, hout := { items := [.slot 0], shapes := [.sl 1] }, nob := 46 }
noncomputable def g_ref01_Trim : List (Go.FuncId × Callee) := []
noncomputable def u_ref01_Trim_l0 (s0 : (List T × Int × Unit)) : Option ((List T × Int × Unit) ⊕ ((List T × Int × Unit) ⊕ Empty)) :=
  (bif (ltI (0 : Int) s0.2.1) then (ob (idxL s0.1 (wr IntKind.i64 (subI s0.2.1 (1 : Int)))) fun x1 => (ob (T.int? IntKind.u32 (T.cell x1 0)) fun x2 => (bif (eqI x2 (0 : Int)) then (some (Sum.inl (s0.1, ((wr IntKind.i64 (subI s0.2.1 (1 : Int))), ())))) else (some (Sum.inr (Sum.inl (s0.1, (s0.2.1, ())))))))) else (some (Sum.inr (Sum.inl (s0.1, (s0.2.1, ()))))))
noncomputable def u_ref01_Trim (t : ((List T) × Unit)) : Option ((List T) × Unit) :=
  (ob (loopU u_ref01_Trim_l0 (t.1, ((lenL t.1), ()))) fun q3 => onS q3 (fun t4 => (ob (cutL t4.1 (0 : Int) t4.2.1) fun x5 => (ob (room [] x5 4) fun x6 => (some (x6, ()))))) fun q7 => noS q7)
def h_ref01_Trim : HT := (.seq .leaf (.seq .leaf (.seq (.one (.loop { items := [.slot 0, .slot 3], shapes := [.sl 1, .int IntKind.i64] } [((AEx.exit 0), { items := [.slot 0, .slot 3], shapes := [.sl 1, .int IntKind.i64] })] .leaf)) .leaf)))
theorem ok_ref01_Trim : TabOK Try.prog [] g_ref01_Trim := TabOK.nil
theorem e_ref01_Trim : ∀ t, bodyG Try.prog g_ref01_Trim [] h_ref01_Trim Try.f49 sg_ref01_Trim t = u_ref01_Trim t := by
  intro t
  kernel_rfl
theorem k_ref01_Trim : (calleeOf sg_ref01_Trim u_ref01_Trim).OK Try.prog 49 := calleeG_ok mixed ok_ref01_Trim Try.func49 (by kernel_rfl) (by kernel_rfl) e_ref01_Trim

/-! ref01_Of -/
def sg_ref01_Of : Sig := { na := 1, np := 0, hin := { items := [.slot 0], shapes := [.int IntKind.u64] }, nres := 1, kept := [], nnew := 0, hout := { items := [.slot 0], shapes := [.sl 1] }, nob := 20 }
noncomputable def g_ref01_Of : List (Go.FuncId × Callee) := [(49, (calleeOf sg_ref01_Trim u_ref01_Trim))]
noncomputable def u_ref01_Of (t : (Int × Unit)) : Option ((List T) × Unit) :=
  (ob (nn (32 : Int)) fun x0 => (ob (u_ref01_Trim ([(T.v (Value.int IntKind.u32 (wr IntKind.u32 t.1))), (T.v (Value.int IntKind.u32 (wr IntKind.u32 (shrI IntKind.u64 t.1 x0))))], ())) fun x1 => (some (x1.1, ()))))
def h_ref01_Of : HT := .leaf
theorem ok_ref01_Of : TabOK Try.prog [] g_ref01_Of := (TabOK.cons (fun _ => ⟨_, Try.func49, by kernel_rfl, by kernel_rfl⟩) k_ref01_Trim (calleeOf_nat _ _) (fun h => by cases h) (by kernel_rfl) (fun _ => callK_framed (calleeOf_nat _ _) rfl rfl) (by kernel_rfl) TabOK.nil)
theorem e_ref01_Of : ∀ t, bodyG Try.prog g_ref01_Of [] h_ref01_Of Try.f65 sg_ref01_Of t = u_ref01_Of t := by
  intro t
  kernel_rfl
theorem k_ref01_Of : (calleeOf sg_ref01_Of u_ref01_Of).OK Try.prog 65 := calleeG_ok mixed ok_ref01_Of Try.func65 (by kernel_rfl) (by kernel_rfl) e_ref01_Of

/-! ref01_Cmp -/
def sg_ref01_Cmp : Sig := { na := 2, np := 0, hin := { items := [.slot 0, .slot 1], shapes := [.sl 1, .sl 1] }, nres := 1, kept := [], nnew := 0, hout := { items := [.slot 0], shapes := [.int IntKind.i64] }, nob := 82 }
noncomputable def g_ref01_Cmp : List (Go.FuncId × Callee) := []
noncomputable def u_ref01_Cmp_l0 (s0 : (List T × List T × Int × Unit)) : Option ((List T × List T × Int × Unit) ⊕ ((Int × Unit) ⊕ ((Unit) ⊕ Empty))) :=
  (bif (leI (0 : Int) s0.2.2.1) then (ob (idxL s0.1 s0.2.2.1) fun x1 => (ob (idxL s0.2.1 s0.2.2.1) fun x2 => (ob (T.int? IntKind.u32 (T.cell x1 0)) fun x3 => (ob (T.int? IntKind.u32 (T.cell x2 0)) fun x4 => (bif (ltI x3 x4) then (some (Sum.inr (Sum.inl ((-1 : Int), ())))) else (ob (idxL s0.1 s0.2.2.1) fun x5 => (ob (idxL s0.2.1 s0.2.2.1) fun x6 => (ob (T.int? IntKind.u32 (T.cell x5 0)) fun x7 => (ob (T.int? IntKind.u32 (T.cell x6 0)) fun x8 => (bif (ltI x8 x7) then (some (Sum.inr (Sum.inl ((1 : Int), ())))) else (some (Sum.inl (s0.1, (s0.2.1, ((wr IntKind.i64 (subI s0.2.2.1 (1 : Int))), ()))))))))))))))) else (some (Sum.inr (Sum.inr (Sum.inl ())))))
noncomputable def u_ref01_Cmp (t : ((List T) × ((List T) × Unit))) : Option (Int × Unit) :=
  (bif (Bool.not (eqI (lenL t.1) (lenL t.2.1))) then (bif (ltI (lenL t.1) (lenL t.2.1)) then (some ((-1 : Int), ())) else (some ((1 : Int), ()))) else (ob (loopU u_ref01_Cmp_l0 (t.1, (t.2.1, ((wr IntKind.i64 (subI (lenL t.1) (1 : Int))), ())))) fun q9 => onS q9 (fun t10 => (some (t10.1, ()))) fun q11 => onS q11 (fun t12 => (some ((0 : Int), ()))) fun q13 => noS q13))
def h_ref01_Cmp : HT := (.seq .leaf (.seq .leaf (.seq (.seq .leaf (.one (.loop { items := [.slot 0, .slot 1, .slot 5], shapes := [.sl 1, .sl 1, .int IntKind.i64] } [(AEx.ret, { items := [.slot 4], shapes := [.int IntKind.i64] }), ((AEx.exit 0), { items := [], shapes := [] })] .leaf))) .leaf)))
theorem ok_ref01_Cmp : TabOK Try.prog [] g_ref01_Cmp := TabOK.nil
theorem e_ref01_Cmp : ∀ t, bodyG Try.prog g_ref01_Cmp [] h_ref01_Cmp Try.f24 sg_ref01_Cmp t = u_ref01_Cmp t := by
  intro t
  kernel_rfl
theorem k_ref01_Cmp : (calleeOf sg_ref01_Cmp u_ref01_Cmp).OK Try.prog 24 := calleeG_ok mixed ok_ref01_Cmp Try.func24 (by kernel_rfl) (by kernel_rfl) e_ref01_Cmp

/-! ref01_Mul -/
def sg_ref01_Mul : Sig := { na := 2, np := 0, hin := { items := [.slot 0, .slot 1], shapes := [.sl 1, .sl 1] }, nres := 1, kept := [], nnew := 0, hout := { items := [.slot 0], shapes := [.sl 1] }, nob := 134 }
noncomputable def g_ref01_Mul : List (Go.FuncId × Callee) := [(49, (calleeOf sg_ref01_Trim u_ref01_Trim))]
noncomputable def u_ref01_Mul_l1 (s2 : (List T × List T × List T × Int × Int × Int × Unit)) : Option ((List T × List T × List T × Int × Int × Int × Unit) ⊕ ((List T × List T × List T × Int × Int × Unit) ⊕ Empty)) :=
  (bif (ltI s2.2.2.2.2.2.1 (lenL s2.2.1)) then (ob (idxL s2.1 s2.2.2.2.1) fun x3 => (ob (T.anyInt? (T.cell x3 0)) fun x4 => (ob (idxL s2.2.1 s2.2.2.2.2.2.1) fun x5 => (ob (T.anyInt? (T.cell x5 0)) fun x6 => (ob (chkI (lenL s2.2.2.1) (wr IntKind.i64 (addI s2.2.2.2.1 s2.2.2.2.2.2.1))) fun x7 => (ob (idxN s2.2.2.1 x7) fun x8 => (ob (T.anyInt? (T.cell x8 0)) fun x9 => (ob (chkI (lenL s2.2.2.1) (wr IntKind.i64 (addI s2.2.2.2.1 s2.2.2.2.2.2.1))) fun x10 => (ob (idxN s2.2.2.1 x10) fun x11 => (ob (nn (32 : Int)) fun x12 => (some (Sum.inl (s2.1, (s2.2.1, ((List.set s2.2.2.1 x10 (T.upd 1 x11 0 [(T.v (Value.int IntKind.u32 (wr IntKind.u32 (wr IntKind.u64 (addI s2.2.2.2.2.1 (wr IntKind.u64 (addI (wr IntKind.u64 (mulI (wr IntKind.u64 x4) (wr IntKind.u64 x6))) (wr IntKind.u64 x9))))))))])), (s2.2.2.2.1, ((shrI IntKind.u64 (wr IntKind.u64 (addI s2.2.2.2.2.1 (wr IntKind.u64 (addI (wr IntKind.u64 (mulI (wr IntKind.u64 x4) (wr IntKind.u64 x6))) (wr IntKind.u64 x9))))) x12), ((wr IntKind.i64 (addI s2.2.2.2.2.2.1 (1 : Int))), ())))))))))))))))))) else (some (Sum.inr (Sum.inl (s2.1, (s2.2.1, (s2.2.2.1, (s2.2.2.2.1, (s2.2.2.2.2.1, ())))))))))
noncomputable def u_ref01_Mul_l0 (s1 : (List T × List T × List T × Int × Unit)) : Option ((List T × List T × List T × Int × Unit) ⊕ ((List T × Unit) ⊕ Empty)) :=
  (bif (ltI s1.2.2.2.1 (lenL s1.1)) then (ob (loopU u_ref01_Mul_l1 (s1.1, (s1.2.1, (s1.2.2.1, (s1.2.2.2.1, ((0 : Int), ((0 : Int), ()))))))) fun q13 => onS q13 (fun t14 => (ob (chkI (lenL t14.2.2.1) (wr IntKind.i64 (addI t14.2.2.2.1 (lenL t14.2.1)))) fun x15 => (ob (idxN t14.2.2.1 x15) fun x16 => (some (Sum.inl (t14.1, (t14.2.1, ((List.set t14.2.2.1 x15 (T.upd 1 x16 0 [(T.v (Value.int IntKind.u32 (wr IntKind.u32 t14.2.2.2.2.1)))])), ((wr IntKind.i64 (addI t14.2.2.2.1 (1 : Int))), ()))))))))) fun q17 => noS q17) else (some (Sum.inr (Sum.inl (s1.2.2.1, ())))))
noncomputable def u_ref01_Mul (t : ((List T) × ((List T) × Unit))) : Option ((List T) × Unit) :=
  (ob (mkLen (wr IntKind.i64 (addI (lenL t.1) (lenL t.2.1))) (wr IntKind.i64 (addI (lenL t.1) (lenL t.2.1))) 4) fun x0 => (ob (loopU u_ref01_Mul_l0 (t.1, (t.2.1, ((repL x0.1 (T.v (Value.int IntKind.u32 (0 : Int)))), ((0 : Int), ()))))) fun q18 => onS q18 (fun t19 => (ob (u_ref01_Trim (t19.1, ())) fun x20 => (some (x20.1, ())))) fun q21 => noS q21))
def h_ref01_Mul : HT := (.seq .leaf (.seq .leaf (.seq (.seq .leaf (.one (.loop { items := [.slot 0, .slot 1, .slot 5, .slot 6], shapes := [.sl 1, .sl 1, .row 81 1 14, .int IntKind.i64] } [((AEx.exit 0), { items := [.slot 5], shapes := [.row 81 1 14] })] (.seq .leaf (.seq (.one (.seq .leaf (.seq (.seq .leaf (.one (.loop { items := [.slot 0, .slot 1, .slot 5, .slot 6, .slot 7, .slot 8], shapes := [.sl 1, .sl 1, .row 81 1 14, .int IntKind.i64, .int IntKind.u64, .int IntKind.i64] } [((AEx.exit 2), { items := [.slot 0, .slot 1, .slot 5, .slot 6, .slot 7], shapes := [.sl 1, .sl 1, .row 81 1 14, .int IntKind.i64, .int IntKind.u64] })] .leaf))) .leaf))) .leaf))))) .leaf)))
theorem ok_ref01_Mul : TabOK Try.prog [] g_ref01_Mul := (TabOK.cons (fun _ => ⟨_, Try.func49, by kernel_rfl, by kernel_rfl⟩) k_ref01_Trim (calleeOf_nat _ _) (fun h => by cases h) (by kernel_rfl) (fun _ => callK_framed (calleeOf_nat _ _) rfl rfl) (by kernel_rfl) TabOK.nil)
theorem e_ref01_Mul : ∀ t, bodyG Try.prog g_ref01_Mul [] h_ref01_Mul Try.f25 sg_ref01_Mul t = u_ref01_Mul t := by
  intro t
  kernel_rfl
theorem k_ref01_Mul : (calleeOf sg_ref01_Mul u_ref01_Mul).OK Try.prog 25 := calleeG_ok mixed ok_ref01_Mul Try.func25 (by kernel_rfl) (by kernel_rfl) e_ref01_Mul

/-! ref01_Add -/
def sg_ref01_Add : Sig := { na := 2, np := 0, hin := { items := [.slot 0, .slot 1], shapes := [.sl 1, .sl 1] }, nres := 1, kept := [], nnew := 0, hout := { items := [.slot 0], shapes := [.sl 1] }, nob := 108 }
noncomputable def g_ref01_Add : List (Go.FuncId × Callee) := []
noncomputable def u_ref01_Add_l0 (s0 : (List T × List T × List T × Int × Int × Unit)) : Option ((List T × List T × List T × Int × Int × Unit) ⊕ ((List T × Unit) ⊕ Empty)) :=
  (bif (ltI s0.2.2.2.2.1 (lenL s0.1)) then (ob (α := ((List T × List T × List T × Int × Int × Unit) ⊕ Empty)) (bif (ltI s0.2.2.2.2.1 (lenL s0.1)) then (ob (idxL s0.1 s0.2.2.2.2.1) fun x1 => (ob (T.anyInt? (T.cell x1 0)) fun x2 => (some (Sum.inl (s0.1, (s0.2.1, (s0.2.2.1, ((wr IntKind.u64 (addI s0.2.2.2.1 (wr IntKind.u64 x2))), (s0.2.2.2.2.1, ()))))))))) else (some (Sum.inl (s0.1, (s0.2.1, (s0.2.2.1, (s0.2.2.2.1, (s0.2.2.2.2.1, ())))))))) fun q3 => onS q3 (fun t4 => (ob (α := ((List T × List T × List T × Int × Int × Unit) ⊕ Empty)) (bif (ltI t4.2.2.2.2.1 (lenL t4.2.1)) then (ob (idxL t4.2.1 t4.2.2.2.2.1) fun x5 => (ob (T.anyInt? (T.cell x5 0)) fun x6 => (some (Sum.inl (t4.1, (t4.2.1, (t4.2.2.1, ((wr IntKind.u64 (addI t4.2.2.2.1 (wr IntKind.u64 x6))), (t4.2.2.2.2.1, ()))))))))) else (some (Sum.inl (t4.1, (t4.2.1, (t4.2.2.1, (t4.2.2.2.1, (t4.2.2.2.2.1, ())))))))) fun q7 => onS q7 (fun t8 => (ob (room t8.2.2.1 [(T.v (Value.int IntKind.u32 (wr IntKind.u32 t8.2.2.2.1)))] 4) fun x9 => (ob (nn (32 : Int)) fun x10 => (some (Sum.inl (t8.1, (t8.2.1, (x9, ((shrI IntKind.u64 t8.2.2.2.1 x10), ((wr IntKind.i64 (addI t8.2.2.2.2.1 (1 : Int))), ())))))))))) fun q11 => noS q11)) fun q12 => noS q12) else (bif (ltI s0.2.2.2.2.1 (lenL s0.2.1)) then (ob (α := ((List T × List T × List T × Int × Int × Unit) ⊕ Empty)) (bif (ltI s0.2.2.2.2.1 (lenL s0.1)) then (ob (idxL s0.1 s0.2.2.2.2.1) fun x13 => (ob (T.anyInt? (T.cell x13 0)) fun x14 => (some (Sum.inl (s0.1, (s0.2.1, (s0.2.2.1, ((wr IntKind.u64 (addI s0.2.2.2.1 (wr IntKind.u64 x14))), (s0.2.2.2.2.1, ()))))))))) else (some (Sum.inl (s0.1, (s0.2.1, (s0.2.2.1, (s0.2.2.2.1, (s0.2.2.2.2.1, ())))))))) fun q15 => onS q15 (fun t16 => (ob (α := ((List T × List T × List T × Int × Int × Unit) ⊕ Empty)) (bif (ltI t16.2.2.2.2.1 (lenL t16.2.1)) then (ob (idxL t16.2.1 t16.2.2.2.2.1) fun x17 => (ob (T.anyInt? (T.cell x17 0)) fun x18 => (some (Sum.inl (t16.1, (t16.2.1, (t16.2.2.1, ((wr IntKind.u64 (addI t16.2.2.2.1 (wr IntKind.u64 x18))), (t16.2.2.2.2.1, ()))))))))) else (some (Sum.inl (t16.1, (t16.2.1, (t16.2.2.1, (t16.2.2.2.1, (t16.2.2.2.2.1, ())))))))) fun q19 => onS q19 (fun t20 => (ob (room t20.2.2.1 [(T.v (Value.int IntKind.u32 (wr IntKind.u32 t20.2.2.2.1)))] 4) fun x21 => (ob (nn (32 : Int)) fun x22 => (some (Sum.inl (t20.1, (t20.2.1, (x21, ((shrI IntKind.u64 t20.2.2.2.1 x22), ((wr IntKind.i64 (addI t20.2.2.2.2.1 (1 : Int))), ())))))))))) fun q23 => noS q23)) fun q24 => noS q24) else (bif (Bool.not (eqI s0.2.2.2.1 (0 : Int))) then (ob (α := ((List T × List T × List T × Int × Int × Unit) ⊕ Empty)) (bif (ltI s0.2.2.2.2.1 (lenL s0.1)) then (ob (idxL s0.1 s0.2.2.2.2.1) fun x25 => (ob (T.anyInt? (T.cell x25 0)) fun x26 => (some (Sum.inl (s0.1, (s0.2.1, (s0.2.2.1, ((wr IntKind.u64 (addI s0.2.2.2.1 (wr IntKind.u64 x26))), (s0.2.2.2.2.1, ()))))))))) else (some (Sum.inl (s0.1, (s0.2.1, (s0.2.2.1, (s0.2.2.2.1, (s0.2.2.2.2.1, ())))))))) fun q27 => onS q27 (fun t28 => (ob (α := ((List T × List T × List T × Int × Int × Unit) ⊕ Empty)) (bif (ltI t28.2.2.2.2.1 (lenL t28.2.1)) then (ob (idxL t28.2.1 t28.2.2.2.2.1) fun x29 => (ob (T.anyInt? (T.cell x29 0)) fun x30 => (some (Sum.inl (t28.1, (t28.2.1, (t28.2.2.1, ((wr IntKind.u64 (addI t28.2.2.2.1 (wr IntKind.u64 x30))), (t28.2.2.2.2.1, ()))))))))) else (some (Sum.inl (t28.1, (t28.2.1, (t28.2.2.1, (t28.2.2.2.1, (t28.2.2.2.2.1, ())))))))) fun q31 => onS q31 (fun t32 => (ob (room t32.2.2.1 [(T.v (Value.int IntKind.u32 (wr IntKind.u32 t32.2.2.2.1)))] 4) fun x33 => (ob (nn (32 : Int)) fun x34 => (some (Sum.inl (t32.1, (t32.2.1, (x33, ((shrI IntKind.u64 t32.2.2.2.1 x34), ((wr IntKind.i64 (addI t32.2.2.2.2.1 (1 : Int))), ())))))))))) fun q35 => noS q35)) fun q36 => noS q36) else (some (Sum.inr (Sum.inl (s0.2.2.1, ())))))))
noncomputable def u_ref01_Add (t : ((List T) × ((List T) × Unit))) : Option ((List T) × Unit) :=
  (ob (loopU u_ref01_Add_l0 (t.1, (t.2.1, ([], ((0 : Int), ((0 : Int), ())))))) fun q37 => onS q37 (fun t38 => (some (t38.1, ()))) fun q39 => noS q39)
def h_ref01_Add : HT := (.seq .leaf (.seq .leaf (.seq .leaf (.seq (.seq .leaf (.one (.loop { items := [.slot 0, .slot 1, .slot 5, .slot 6, .slot 7], shapes := [.sl 1, .sl 1, .row 81 1 50, .int IntKind.u64, .int IntKind.i64] } [((AEx.exit 0), { items := [.slot 5], shapes := [.row 81 1 50] })] (.seq .leaf (.seq (.one (.seq (.join [(AEx.normal, { items := [.slot 0, .slot 1, .slot 5, .slot 6, .slot 7], shapes := [.sl 1, .sl 1, .row 81 1 50, .int IntKind.u64, .int IntKind.i64] })] .leaf) (.seq (.join [(AEx.normal, { items := [.slot 0, .slot 1, .slot 5, .slot 6, .slot 7], shapes := [.sl 1, .sl 1, .row 81 1 50, .int IntKind.u64, .int IntKind.i64] })] .leaf) .leaf))) .leaf))))) .leaf))))
theorem ok_ref01_Add : TabOK Try.prog [] g_ref01_Add := TabOK.nil
theorem e_ref01_Add : ∀ t, bodyG Try.prog g_ref01_Add [] h_ref01_Add Try.f28 sg_ref01_Add t = u_ref01_Add t := by
  intro t
  kernel_rfl
theorem k_ref01_Add : (calleeOf sg_ref01_Add u_ref01_Add).OK Try.prog 28 := calleeG_ok mixed ok_ref01_Add Try.func28 (by kernel_rfl) (by kernel_rfl) e_ref01_Add

/-! ref01_minus -/
def sg_ref01_minus : Sig := { na := 2, np := 0, hin := { items := [.slot 0, .slot 1], shapes := [.sl 1, .sl 1] }, nres := 1, kept := [], nnew := 0, hout := { items := [.slot 0], shapes := [.sl 1] }, nob := 100 }
noncomputable def g_ref01_minus : List (Go.FuncId × Callee) := [(49, (calleeOf sg_ref01_Trim u_ref01_Trim))]
noncomputable def u_ref01_minus_l0 (s1 : (List T × List T × List T × Int × Int × Unit)) : Option ((List T × List T × List T × Int × Int × Unit) ⊕ ((List T × Unit) ⊕ Empty)) :=
  (bif (ltI s1.2.2.2.2.1 (lenL s1.1)) then (ob (α := ((List T × List T × List T × Int × Int × Unit) ⊕ Empty)) (bif (ltI s1.2.2.2.2.1 (lenL s1.2.1)) then (ob (idxL s1.2.1 s1.2.2.2.2.1) fun x2 => (ob (T.anyInt? (T.cell x2 0)) fun x3 => (some (Sum.inl (s1.1, (s1.2.1, (s1.2.2.1, (s1.2.2.2.2.1, ((wr IntKind.u64 (addI s1.2.2.2.1 (wr IntKind.u64 x3))), ()))))))))) else (some (Sum.inl (s1.1, (s1.2.1, (s1.2.2.1, (s1.2.2.2.2.1, (s1.2.2.2.1, ())))))))) fun q4 => onS q4 (fun t5 => (ob (idxL t5.1 t5.2.2.2.1) fun x6 => (ob (T.anyInt? (T.cell x6 0)) fun x7 => (ob (α := ((List T × List T × List T × Int × Int × Int × Int × Unit) ⊕ Empty)) (bif (ltI (wr IntKind.u64 x7) t5.2.2.2.2.1) then (some (Sum.inl (t5.1, (t5.2.1, (t5.2.2.1, ((1 : Int), (t5.2.2.2.1, (t5.2.2.2.2.1, ((wr IntKind.u64 (addI (wr IntKind.u64 x7) (4294967296 : Int))), ()))))))))) else (some (Sum.inl (t5.1, (t5.2.1, (t5.2.2.1, ((0 : Int), (t5.2.2.2.1, (t5.2.2.2.2.1, ((wr IntKind.u64 x7), ())))))))))) fun q8 => onS q8 (fun t9 => (ob (chkI (lenL t9.2.2.1) t9.2.2.2.2.1) fun x10 => (ob (idxN t9.2.2.1 x10) fun x11 => (some (Sum.inl (t9.1, (t9.2.1, ((List.set t9.2.2.1 x10 (T.upd 1 x11 0 [(T.v (Value.int IntKind.u32 (wr IntKind.u32 (wr IntKind.u64 (subI t9.2.2.2.2.2.2.1 t9.2.2.2.2.2.1)))))])), (t9.2.2.2.1, ((wr IntKind.i64 (addI t9.2.2.2.2.1 (1 : Int))), ())))))))))) fun q12 => noS q12)))) fun q13 => noS q13) else (some (Sum.inr (Sum.inl (s1.2.2.1, ())))))
noncomputable def u_ref01_minus (t : ((List T) × ((List T) × Unit))) : Option ((List T) × Unit) :=
  (ob (mkLen (lenL t.1) (lenL t.1) 4) fun x0 => (ob (loopU u_ref01_minus_l0 (t.1, (t.2.1, ((repL x0.1 (T.v (Value.int IntKind.u32 (0 : Int)))), ((0 : Int), ((0 : Int), ())))))) fun q14 => onS q14 (fun t15 => (ob (u_ref01_Trim (t15.1, ())) fun x16 => (some (x16.1, ())))) fun q17 => noS q17))
def h_ref01_minus : HT := (.seq .leaf (.seq .leaf (.seq .leaf (.seq (.seq .leaf (.one (.loop { items := [.slot 0, .slot 1, .slot 5, .slot 6, .slot 7], shapes := [.sl 1, .sl 1, .row 81 1 12, .int IntKind.u64, .int IntKind.i64] } [((AEx.exit 0), { items := [.slot 5], shapes := [.row 81 1 12] })] (.seq .leaf (.seq (.one (.seq .leaf (.seq (.join [(AEx.normal, { items := [.slot 0, .slot 1, .slot 5, .slot 7, .slot 8], shapes := [.sl 1, .sl 1, .row 81 1 12, .int IntKind.i64, .int IntKind.u64] })] .leaf) (.seq .leaf (.seq .leaf (.seq (.join [(AEx.normal, { items := [.slot 0, .slot 1, .slot 5, .slot 6, .slot 7, .slot 8, .slot 9], shapes := [.sl 1, .sl 1, .row 81 1 12, .int IntKind.u64, .int IntKind.i64, .int IntKind.u64, .int IntKind.u64] })] .leaf) .leaf)))))) .leaf))))) .leaf))))
theorem ok_ref01_minus : TabOK Try.prog [] g_ref01_minus := (TabOK.cons (fun _ => ⟨_, Try.func49, by kernel_rfl, by kernel_rfl⟩) k_ref01_Trim (calleeOf_nat _ _) (fun h => by cases h) (by kernel_rfl) (fun _ => callK_framed (calleeOf_nat _ _) rfl rfl) (by kernel_rfl) TabOK.nil)
theorem e_ref01_minus : ∀ t, bodyG Try.prog g_ref01_minus [] h_ref01_minus Try.f52 sg_ref01_minus t = u_ref01_minus t := by
  intro t
  kernel_rfl
theorem k_ref01_minus : (calleeOf sg_ref01_minus u_ref01_minus).OK Try.prog 52 := calleeG_ok mixed ok_ref01_minus Try.func52 (by kernel_rfl) (by kernel_rfl) e_ref01_minus

/-! ref01_Sub -/
def sg_ref01_Sub : Sig := { na := 2, np := 0, hin := { items := [.slot 0, .slot 1], shapes := [.sl 1, .sl 1] }, nres := 2, kept := [], nnew := 0, hout := { items := [.slot 0, .slot 1], shapes := [.sl 1, .int IntKind.i64] }, nob := 26 }
noncomputable def g_ref01_Sub : List (Go.FuncId × Callee) := [(24, (calleeOf sg_ref01_Cmp u_ref01_Cmp)), (52, (calleeOf sg_ref01_minus u_ref01_minus))]
noncomputable def u_ref01_Sub (t : ((List T) × ((List T) × Unit))) : Option ((List T) × (Int × Unit)) :=
  (ob (u_ref01_Cmp (t.1, (t.2.1, ()))) fun x0 => (bif (ltI x0.1 (0 : Int)) then (some ([], ((7 : Int), ()))) else (ob (u_ref01_minus (t.1, (t.2.1, ()))) fun x1 => (some (x1.1, ((0 : Int), ()))))))
def h_ref01_Sub : HT := .leaf
theorem ok_ref01_Sub : TabOK Try.prog [24] g_ref01_Sub := (TabOK.cons (fun _ => ⟨_, Try.func24, by kernel_rfl, by kernel_rfl⟩) k_ref01_Cmp (calleeOf_nat _ _) (fun _ => (calleeOf_pure (by kernel_rfl))) (by kernel_rfl) (fun _ => callK_framed (calleeOf_nat _ _) rfl rfl) (by kernel_rfl) (TabOK.cons (fun _ => ⟨_, Try.func52, by kernel_rfl, by kernel_rfl⟩) k_ref01_minus (calleeOf_nat _ _) (fun h => by cases h) (by kernel_rfl) (fun _ => callK_framed (calleeOf_nat _ _) rfl rfl) (by kernel_rfl) TabOK.nil))
theorem e_ref01_Sub : ∀ t, bodyG Try.prog g_ref01_Sub [24] h_ref01_Sub Try.f29 sg_ref01_Sub t = u_ref01_Sub t := by
  intro t
  kernel_rfl
theorem k_ref01_Sub : (calleeOf sg_ref01_Sub u_ref01_Sub).OK Try.prog 29 := calleeG_ok mixed ok_ref01_Sub Try.func29 (by kernel_rfl) (by kernel_rfl) e_ref01_Sub

/-! ref01_Bits -/
def sg_ref01_Bits : Sig := { na := 1, np := 0, hin := { items := [.slot 0], shapes := [.sl 1] }, nres := 1, kept := [], nnew := 0, hout := { items := [.slot 0], shapes := [.int IntKind.i64] }, nob := 50 }
noncomputable def g_ref01_Bits : List (Go.FuncId × Callee) := []
noncomputable def u_ref01_Bits_l0 (s1 : (Int × Int × Unit)) : Option ((Int × Int × Unit) ⊕ ((Int × Unit) ⊕ Empty)) :=
  (bif (Bool.not (eqI s1.2.1 (0 : Int))) then (ob (nn (1 : Int)) fun x2 => (some (Sum.inl ((wr IntKind.i64 (addI s1.1 (1 : Int))), ((shrI IntKind.u32 s1.2.1 x2), ()))))) else (some (Sum.inr (Sum.inl (s1.1, ())))))
noncomputable def u_ref01_Bits (t : ((List T) × Unit)) : Option (Int × Unit) :=
  (bif (eqI (lenL t.1) (0 : Int)) then (some ((0 : Int), ())) else (ob (idxL t.1 (wr IntKind.i64 (subI (lenL t.1) (1 : Int)))) fun x0 => (ob (T.int? IntKind.u32 (T.cell x0 0)) fun x3 => (ob (loopU u_ref01_Bits_l0 ((wr IntKind.i64 (mulI (32 : Int) (wr IntKind.i64 (subI (lenL t.1) (1 : Int))))), (x3, ()))) fun q4 => onS q4 (fun t5 => (some (t5.1, ()))) fun q6 => noS q6))))
def h_ref01_Bits : HT := (.seq .leaf (.seq .leaf (.seq .leaf (.seq (.seq .leaf (.one (.loop { items := [.slot 3, .slot 4], shapes := [.int IntKind.i64, .int IntKind.u32] } [((AEx.exit 0), { items := [.slot 3], shapes := [.int IntKind.i64] })] .leaf))) .leaf))))
theorem ok_ref01_Bits : TabOK Try.prog [] g_ref01_Bits := TabOK.nil
theorem e_ref01_Bits : ∀ t, bodyG Try.prog g_ref01_Bits [] h_ref01_Bits Try.f77 sg_ref01_Bits t = u_ref01_Bits t := by
  intro t
  kernel_rfl
theorem k_ref01_Bits : (calleeOf sg_ref01_Bits u_ref01_Bits).OK Try.prog 77 := calleeG_ok mixed ok_ref01_Bits Try.func77 (by kernel_rfl) (by kernel_rfl) e_ref01_Bits

/-! ref01_up -/
def sg_ref01_up : Sig := { na := 2, np := 0, hin := { items := [.slot 0, .slot 1], shapes := [.sl 1, .int IntKind.i64] }, nres := 1, kept := [], nnew := 0, hout := { items := [.slot 0], shapes := [.sl 1] }, nob := 80 }
noncomputable def g_ref01_up : List (Go.FuncId × Callee) := [(49, (calleeOf sg_ref01_Trim u_ref01_Trim))]
noncomputable def u_ref01_up_l0 (s2 : (List T × Int × List T × Int × Int × Unit)) : Option ((List T × Int × List T × Int × Int × Unit) ⊕ ((List T × Int × Unit) ⊕ Empty)) :=
  (bif (ltI s2.2.2.2.2.1 (lenL s2.1)) then (ob (idxL s2.1 s2.2.2.2.2.1) fun x3 => (ob (T.anyInt? (T.cell x3 0)) fun x4 => (ob (nz (32 : Int)) fun x5 => (ob (nn (modI s2.2.1 x5)) fun x6 => (ob (room s2.2.2.1 [(T.v (Value.int IntKind.u32 (wr IntKind.u32 (bitI Go.BinOp.or IntKind.u64 s2.2.2.2.1 (wr IntKind.u64 (shlI IntKind.u64 (wr IntKind.u64 x4) x6))))))] 4) fun x7 => (ob (nn (32 : Int)) fun x8 => (some (Sum.inl (s2.1, (s2.2.1, (x7, ((shrI IntKind.u64 (bitI Go.BinOp.or IntKind.u64 s2.2.2.2.1 (wr IntKind.u64 (shlI IntKind.u64 (wr IntKind.u64 x4) x6))) x8), ((wr IntKind.i64 (addI s2.2.2.2.2.1 (1 : Int))), ()))))))))))))) else (some (Sum.inr (Sum.inl (s2.2.2.1, (s2.2.2.2.1, ()))))))
noncomputable def u_ref01_up (t : ((List T) × (Int × Unit))) : Option ((List T) × Unit) :=
  (ob (nz (32 : Int)) fun x0 => (ob (mkLen (wr IntKind.i64 (divI t.2.1 x0)) (wr IntKind.i64 (divI t.2.1 x0)) 4) fun x1 => (ob (loopU u_ref01_up_l0 (t.1, (t.2.1, ((repL x1.1 (T.v (Value.int IntKind.u32 (0 : Int)))), ((0 : Int), ((0 : Int), ())))))) fun q9 => onS q9 (fun t10 => (ob (room t10.1 [(T.v (Value.int IntKind.u32 (wr IntKind.u32 t10.2.1)))] 4) fun x11 => (ob (u_ref01_Trim (x11, ())) fun x12 => (some (x12.1, ()))))) fun q13 => noS q13)))
def h_ref01_up : HT := (.seq .leaf (.seq .leaf (.seq .leaf (.seq (.seq .leaf (.one (.loop { items := [.slot 0, .slot 1, .slot 5, .slot 6, .slot 7], shapes := [.sl 1, .int IntKind.i64, .row 81 1 10, .int IntKind.u64, .int IntKind.i64] } [((AEx.exit 0), { items := [.slot 5, .slot 6], shapes := [.row 81 1 10, .int IntKind.u64] })] .leaf))) .leaf))))
theorem ok_ref01_up : TabOK Try.prog [] g_ref01_up := (TabOK.cons (fun _ => ⟨_, Try.func49, by kernel_rfl, by kernel_rfl⟩) k_ref01_Trim (calleeOf_nat _ _) (fun h => by cases h) (by kernel_rfl) (fun _ => callK_framed (calleeOf_nat _ _) rfl rfl) (by kernel_rfl) TabOK.nil)
theorem e_ref01_up : ∀ t, bodyG Try.prog g_ref01_up [] h_ref01_up Try.f78 sg_ref01_up t = u_ref01_up t := by
  intro t
  kernel_rfl
theorem k_ref01_up : (calleeOf sg_ref01_up u_ref01_up).OK Try.prog 78 := calleeG_ok mixed ok_ref01_up Try.func78 (by kernel_rfl) (by kernel_rfl) e_ref01_up

/-! ref01_shifted -/
def sg_ref01_shifted : Sig := { na := 2, np := 0, hin := { items := [.slot 0, .slot 1], shapes := [.sl 1, .int IntKind.i64] }, nres := 1, kept := [], nnew := 0, hout := { items := [.slot 0], shapes := [.sl 1] }, nob := 24 }
noncomputable def g_ref01_shifted : List (Go.FuncId × Callee) := []
noncomputable def u_ref01_shifted (t : ((List T) × (Int × Unit))) : Option ((List T) × Unit) :=
  (bif (eqI (lenL t.1) (0 : Int)) then (some ([], ())) else (ob (mkLen t.2.1 t.2.1 4) fun x0 => (ob (room (repL x0.1 (T.v (Value.int IntKind.u32 (0 : Int)))) t.1 4) fun x1 => (some (x1, ())))))
def h_ref01_shifted : HT := .leaf
theorem ok_ref01_shifted : TabOK Try.prog [] g_ref01_shifted := TabOK.nil
theorem e_ref01_shifted : ∀ t, bodyG Try.prog g_ref01_shifted [] h_ref01_shifted Try.f79 sg_ref01_shifted t = u_ref01_shifted t := by
  intro t
  kernel_rfl
theorem k_ref01_shifted : (calleeOf sg_ref01_shifted u_ref01_shifted).OK Try.prog 79 := calleeG_ok mixed ok_ref01_shifted Try.func79 (by kernel_rfl) (by kernel_rfl) e_ref01_shifted

/-! ref01_times -/
def sg_ref01_times : Sig := { na := 2, np := 0, hin := { items := [.slot 0, .slot 1], shapes := [.sl 1, .int IntKind.u32] }, nres := 1, kept := [], nnew := 0, hout := { items := [.slot 0], shapes := [.sl 1] }, nob := 20 }
noncomputable def g_ref01_times : List (Go.FuncId × Callee) := [(65, (calleeOf sg_ref01_Of u_ref01_Of)), (25, (calleeOf sg_ref01_Mul u_ref01_Mul))]
noncomputable def u_ref01_times (t : ((List T) × (Int × Unit))) : Option ((List T) × Unit) :=
  (ob (u_ref01_Of ((wr IntKind.u64 t.2.1), ())) fun x0 => (ob (u_ref01_Mul (t.1, (x0.1, ()))) fun x1 => (some (x1.1, ()))))
def h_ref01_times : HT := .leaf
theorem ok_ref01_times : TabOK Try.prog [] g_ref01_times := (TabOK.cons (fun _ => ⟨_, Try.func65, by kernel_rfl, by kernel_rfl⟩) k_ref01_Of (calleeOf_nat _ _) (fun h => by cases h) (by kernel_rfl) (fun _ => callK_framed (calleeOf_nat _ _) rfl rfl) (by kernel_rfl) (TabOK.cons (fun _ => ⟨_, Try.func25, by kernel_rfl, by kernel_rfl⟩) k_ref01_Mul (calleeOf_nat _ _) (fun h => by cases h) (by kernel_rfl) (fun _ => callK_framed (calleeOf_nat _ _) rfl rfl) (by kernel_rfl) TabOK.nil))
theorem e_ref01_times : ∀ t, bodyG Try.prog g_ref01_times [] h_ref01_times Try.f80 sg_ref01_times t = u_ref01_times t := by
  intro t
  kernel_rfl
theorem k_ref01_times : (calleeOf sg_ref01_times u_ref01_times).OK Try.prog 80 := calleeG_ok mixed ok_ref01_times Try.func80 (by kernel_rfl) (by kernel_rfl) e_ref01_times

/-! ref01_byLimb -/
def sg_ref01_byLimb : Sig := { na := 2, np := 0, hin := { items := [.slot 0, .slot 1], shapes := [.sl 1, .int IntKind.u32] }, nres := 2, kept := [], nnew := 0, hout := { items := [.slot 0, .slot 1], shapes := [.sl 1, .int IntKind.u32] }, nob := 86 }
noncomputable def g_ref01_byLimb : List (Go.FuncId × Callee) := [(49, (calleeOf sg_ref01_Trim u_ref01_Trim))]
noncomputable def u_ref01_byLimb_l0 (s1 : (List T × Int × List T × Int × Int × Unit)) : Option ((List T × Int × List T × Int × Int × Unit) ⊕ ((List T × Int × Unit) ⊕ Empty)) :=
  (bif (leI (0 : Int) s1.2.2.2.2.1) then (ob (nn (32 : Int)) fun x2 => (ob (idxL s1.1 s1.2.2.2.2.1) fun x3 => (ob (T.anyInt? (T.cell x3 0)) fun x4 => (ob (nz (wr IntKind.u64 s1.2.1)) fun x5 => (ob (chkI (lenL s1.2.2.1) s1.2.2.2.2.1) fun x6 => (ob (idxN s1.2.2.1 x6) fun x7 => (ob (nz (wr IntKind.u64 s1.2.1)) fun x8 => (some (Sum.inl (s1.1, (s1.2.1, ((List.set s1.2.2.1 x6 (T.upd 1 x7 0 [(T.v (Value.int IntKind.u32 (wr IntKind.u32 (wr IntKind.u64 (divI (bitI Go.BinOp.or IntKind.u64 (wr IntKind.u64 (shlI IntKind.u64 s1.2.2.2.1 x2)) (wr IntKind.u64 x4)) x5)))))])), ((modI (bitI Go.BinOp.or IntKind.u64 (wr IntKind.u64 (shlI IntKind.u64 s1.2.2.2.1 x2)) (wr IntKind.u64 x4)) x8), ((wr IntKind.i64 (subI s1.2.2.2.2.1 (1 : Int))), ())))))))))))))) else (some (Sum.inr (Sum.inl (s1.2.2.1, (s1.2.2.2.1, ()))))))
noncomputable def u_ref01_byLimb (t : ((List T) × (Int × Unit))) : Option ((List T) × (Int × Unit)) :=
  (ob (mkLen (lenL t.1) (lenL t.1) 4) fun x0 => (ob (loopU u_ref01_byLimb_l0 (t.1, (t.2.1, ((repL x0.1 (T.v (Value.int IntKind.u32 (0 : Int)))), ((0 : Int), ((wr IntKind.i64 (subI (lenL t.1) (1 : Int))), ())))))) fun q9 => onS q9 (fun t10 => (ob (u_ref01_Trim (t10.1, ())) fun x11 => (some (x11.1, ((wr IntKind.u32 t10.2.1), ()))))) fun q12 => noS q12))
def h_ref01_byLimb : HT := (.seq .leaf (.seq .leaf (.seq .leaf (.seq (.seq .leaf (.one (.loop { items := [.slot 0, .slot 1, .slot 6, .slot 7, .slot 8], shapes := [.sl 1, .int IntKind.u32, .row 81 1 11, .int IntKind.u64, .int IntKind.i64] } [((AEx.exit 0), { items := [.slot 6, .slot 7], shapes := [.row 81 1 11, .int IntKind.u64] })] .leaf))) .leaf))))
theorem ok_ref01_byLimb : TabOK Try.prog [] g_ref01_byLimb := (TabOK.cons (fun _ => ⟨_, Try.func49, by kernel_rfl, by kernel_rfl⟩) k_ref01_Trim (calleeOf_nat _ _) (fun h => by cases h) (by kernel_rfl) (fun _ => callK_framed (calleeOf_nat _ _) rfl rfl) (by kernel_rfl) TabOK.nil)
theorem e_ref01_byLimb : ∀ t, bodyG Try.prog g_ref01_byLimb [] h_ref01_byLimb Try.f61 sg_ref01_byLimb t = u_ref01_byLimb t := by
  intro t
  kernel_rfl
theorem k_ref01_byLimb : (calleeOf sg_ref01_byLimb u_ref01_byLimb).OK Try.prog 61 := calleeG_ok mixed ok_ref01_byLimb Try.func61 (by kernel_rfl) (by kernel_rfl) e_ref01_byLimb

/-! ref01_down -/
def sg_ref01_down : Sig := { na := 2, np := 0, hin := { items := [.slot 0, .slot 1], shapes := [.sl 1, .int IntKind.i64] }, nres := 1, kept := [], nnew := 0, hout := { items := [.slot 0], shapes := [.sl 1] }, nob := 110 }
noncomputable def g_ref01_down : List (Go.FuncId × Callee) := [(49, (calleeOf sg_ref01_Trim u_ref01_Trim))]
noncomputable def u_ref01_down_l0 (s4 : (List T × Int × List T × Int × Unit)) : Option ((List T × Int × List T × Int × Unit) ⊕ ((List T × Unit) ⊕ Empty)) :=
  (bif (ltI s4.2.2.2.1 (lenL s4.1)) then (ob (idxL s4.1 s4.2.2.2.1) fun x5 => (ob (T.anyInt? (T.cell x5 0)) fun x6 => (ob (α := ((List T × Int × List T × Int × Int × Unit) ⊕ Empty)) (bif (ltI (wr IntKind.i64 (addI s4.2.2.2.1 (1 : Int))) (lenL s4.1)) then (ob (idxL s4.1 (wr IntKind.i64 (addI s4.2.2.2.1 (1 : Int)))) fun x7 => (ob (T.anyInt? (T.cell x7 0)) fun x8 => (ob (nn (32 : Int)) fun x9 => (some (Sum.inl (s4.1, (s4.2.1, (s4.2.2.1, (s4.2.2.2.1, ((bitI Go.BinOp.or IntKind.u64 (wr IntKind.u64 x6) (wr IntKind.u64 (shlI IntKind.u64 (wr IntKind.u64 x8) x9))), ())))))))))) else (some (Sum.inl (s4.1, (s4.2.1, (s4.2.2.1, (s4.2.2.2.1, ((wr IntKind.u64 x6), ())))))))) fun q10 => onS q10 (fun t11 => (ob (nz (32 : Int)) fun x12 => (ob (nn (modI t11.2.1 x12)) fun x13 => (ob (chkI (lenL t11.2.2.1) t11.2.2.2.1) fun x14 => (ob (idxN t11.2.2.1 x14) fun x15 => (some (Sum.inl (t11.1, (t11.2.1, ((List.set t11.2.2.1 x14 (T.upd 1 x15 0 [(T.v (Value.int IntKind.u32 (wr IntKind.u32 (shrI IntKind.u64 t11.2.2.2.2.1 x13))))])), ((wr IntKind.i64 (addI t11.2.2.2.1 (1 : Int))), ()))))))))))) fun q16 => noS q16))) else (some (Sum.inr (Sum.inl (s4.2.2.1, ())))))
noncomputable def u_ref01_down (t : ((List T) × (Int × Unit))) : Option ((List T) × Unit) :=
  (ob (nz (32 : Int)) fun x0 => (bif (leI (lenL t.1) (wr IntKind.i64 (divI t.2.1 x0))) then (some ([], ())) else (ob (nz (32 : Int)) fun x1 => (ob (cutL t.1 (wr IntKind.i64 (divI t.2.1 x1)) (lenL t.1)) fun x2 => (ob (mkLen (lenL x2) (lenL x2) 4) fun x3 => (ob (loopU u_ref01_down_l0 (x2, (t.2.1, ((repL x3.1 (T.v (Value.int IntKind.u32 (0 : Int)))), ((0 : Int), ()))))) fun q17 => onS q17 (fun t18 => (ob (u_ref01_Trim (t18.1, ())) fun x19 => (some (x19.1, ())))) fun q20 => noS q20))))))
def h_ref01_down : HT := (.seq .leaf (.seq .leaf (.seq .leaf (.seq .leaf (.seq (.seq .leaf (.one (.loop { items := [.slot 0, .slot 1, .slot 5, .slot 6], shapes := [.sl 1, .int IntKind.i64, .row 81 1 19, .int IntKind.i64] } [((AEx.exit 0), { items := [.slot 5], shapes := [.row 81 1 19] })] (.seq .leaf (.seq (.one (.seq .leaf (.seq (.join [(AEx.normal, { items := [.slot 0, .slot 1, .slot 5, .slot 6, .slot 7], shapes := [.sl 1, .int IntKind.i64, .row 81 1 19, .int IntKind.i64, .int IntKind.u64] })] .leaf) .leaf))) .leaf))))) .leaf)))))
theorem ok_ref01_down : TabOK Try.prog [] g_ref01_down := (TabOK.cons (fun _ => ⟨_, Try.func49, by kernel_rfl, by kernel_rfl⟩) k_ref01_Trim (calleeOf_nat _ _) (fun h => by cases h) (by kernel_rfl) (fun _ => callK_framed (calleeOf_nat _ _) rfl rfl) (by kernel_rfl) TabOK.nil)
theorem e_ref01_down : ∀ t, bodyG Try.prog g_ref01_down [] h_ref01_down Try.f81 sg_ref01_down t = u_ref01_down t := by
  intro t
  kernel_rfl
theorem k_ref01_down : (calleeOf sg_ref01_down u_ref01_down).OK Try.prog 81 := calleeG_ok mixed ok_ref01_down Try.func81 (by kernel_rfl) (by kernel_rfl) e_ref01_down

/-! ref01_Div -/
def sg_ref01_Div : Sig := { na := 2, np := 0, hin := { items := [.slot 0, .slot 1], shapes := [.sl 1, .sl 1] }, nres := 3, kept := [], nnew := 0, hout := { items := [.slot 0, .slot 1, .slot 2], shapes := [.sl 1, .sl 1, .int IntKind.i64] }, nob := 326 }
noncomputable def g_ref01_Div : List (Go.FuncId × Callee) := [(24, (calleeOf sg_ref01_Cmp u_ref01_Cmp)), (49, (calleeOf sg_ref01_Trim u_ref01_Trim)), (76, (calleeOf sg_ref01_small u_ref01_small)), (65, (calleeOf sg_ref01_Of u_ref01_Of)), (61, (calleeOf sg_ref01_byLimb u_ref01_byLimb)), (77, (calleeOf sg_ref01_Bits u_ref01_Bits)), (78, (calleeOf sg_ref01_up u_ref01_up)), (80, (calleeOf sg_ref01_times u_ref01_times)), (79, (calleeOf sg_ref01_shifted u_ref01_shifted)), (52, (calleeOf sg_ref01_minus u_ref01_minus)), (81, (calleeOf sg_ref01_down u_ref01_down))]
noncomputable def u_ref01_Div_l1 (s33 : (List T × List T × List T × Int × Int × Int × Int × List T × Unit)) : Option ((List T × List T × List T × Int × Int × Int × Int × List T × Unit) ⊕ ((List T × List T × List T × Int × Int × Int × Int × List T × Unit) ⊕ Empty)) :=
  (ob (u_ref01_Cmp (s33.2.2.2.2.2.2.2.1, (s33.2.2.1, ()))) fun x34 => (bif (ltI (0 : Int) x34.1) then (ob (u_ref01_shifted (s33.1, (s33.2.2.2.2.2.1, ()))) fun x35 => (ob (u_ref01_minus (s33.2.2.2.2.2.2.2.1, (x35.1, ()))) fun x36 => (some (Sum.inl (s33.1, (s33.2.1, (s33.2.2.1, (s33.2.2.2.1, (s33.2.2.2.2.1, (s33.2.2.2.2.2.1, ((wr IntKind.u64 (subI s33.2.2.2.2.2.2.1 (1 : Int))), (x36.1, ())))))))))))) else (some (Sum.inr (Sum.inl (s33.1, (s33.2.1, (s33.2.2.1, (s33.2.2.2.1, (s33.2.2.2.2.1, (s33.2.2.2.2.2.1, (s33.2.2.2.2.2.2.1, (s33.2.2.2.2.2.2.2.1, ())))))))))))))
noncomputable def u_ref01_Div_l0 (s17 : (List T × List T × List T × Int × Int × Int × Unit)) : Option ((List T × List T × List T × Int × Int × Int × Unit) ⊕ ((List T × List T × Int × Unit) ⊕ Empty)) :=
  (bif (leI (0 : Int) s17.2.2.2.2.2.1) then (ob (α := ((List T × List T × List T × Int × Int × Int × Int × Unit) ⊕ Empty)) (bif (ltI (wr IntKind.i64 (addI s17.2.2.2.2.2.1 s17.2.2.2.2.1)) (lenL s17.2.2.1)) then (ob (idxL s17.2.2.1 (wr IntKind.i64 (addI s17.2.2.2.2.2.1 s17.2.2.2.2.1))) fun x18 => (ob (T.anyInt? (T.cell x18 0)) fun x19 => (some (Sum.inl (s17.1, (s17.2.1, (s17.2.2.1, (s17.2.2.2.1, (s17.2.2.2.2.1, (s17.2.2.2.2.2.1, ((wr IntKind.u64 x19), ()))))))))))) else (some (Sum.inl (s17.1, (s17.2.1, (s17.2.2.1, (s17.2.2.2.1, (s17.2.2.2.2.1, (s17.2.2.2.2.2.1, ((0 : Int), ())))))))))) fun q20 => onS q20 (fun t21 => (ob (α := ((List T × List T × List T × Int × Int × Int × Int × Unit) ⊕ Empty)) (bif (ltI (wr IntKind.i64 (subI (wr IntKind.i64 (addI t21.2.2.2.2.2.1 t21.2.2.2.2.1)) (1 : Int))) (lenL t21.2.2.1)) then (ob (nn (32 : Int)) fun x22 => (ob (idxL t21.2.2.1 (wr IntKind.i64 (subI (wr IntKind.i64 (addI t21.2.2.2.2.2.1 t21.2.2.2.2.1)) (1 : Int)))) fun x23 => (ob (T.anyInt? (T.cell x23 0)) fun x24 => (some (Sum.inl (t21.1, (t21.2.1, (t21.2.2.1, (t21.2.2.2.1, (t21.2.2.2.2.1, (t21.2.2.2.2.2.1, ((bitI Go.BinOp.or IntKind.u64 (wr IntKind.u64 (shlI IntKind.u64 t21.2.2.2.2.2.2.1 x22)) (wr IntKind.u64 x24)), ())))))))))))) else (ob (nn (32 : Int)) fun x25 => (some (Sum.inl (t21.1, (t21.2.1, (t21.2.2.1, (t21.2.2.2.1, (t21.2.2.2.2.1, (t21.2.2.2.2.2.1, ((wr IntKind.u64 (shlI IntKind.u64 t21.2.2.2.2.2.2.1 x25)), ()))))))))))) fun q26 => onS q26 (fun t27 => (ob (idxL t27.1 (wr IntKind.i64 (subI t27.2.2.2.2.1 (1 : Int)))) fun x28 => (ob (T.anyInt? (T.cell x28 0)) fun x29 => (ob (nz (wr IntKind.u64 x29)) fun x30 => (ob (u_ref01_times (t27.1, ((wr IntKind.u32 (mmI Bool.false (wr IntKind.u64 (divI t27.2.2.2.2.2.2.1 x30)) (4294967295 : Int))), ()))) fun x31 => (ob (u_ref01_shifted (x31.1, (t27.2.2.2.2.2.1, ()))) fun x32 => (ob (loopU u_ref01_Div_l1 (t27.1, (t27.2.1, (t27.2.2.1, (t27.2.2.2.1, (t27.2.2.2.2.1, (t27.2.2.2.2.2.1, ((mmI Bool.false (wr IntKind.u64 (divI t27.2.2.2.2.2.2.1 x30)) (4294967295 : Int)), (x32.1, ()))))))))) fun q37 => onS q37 (fun t38 => (ob (chkI (lenL t38.2.1) t38.2.2.2.2.2.1) fun x39 => (ob (idxN t38.2.1 x39) fun x40 => (ob (u_ref01_minus (t38.2.2.1, (t38.2.2.2.2.2.2.2.1, ()))) fun x41 => (some (Sum.inl (t38.1, ((List.set t38.2.1 x39 (T.upd 1 x40 0 [(T.v (Value.int IntKind.u32 (wr IntKind.u32 t38.2.2.2.2.2.2.1)))])), (x41.1, (t38.2.2.2.1, (t38.2.2.2.2.1, ((wr IntKind.i64 (subI t38.2.2.2.2.2.1 (1 : Int))), ())))))))))))) fun q42 => noS q42))))))) fun q43 => noS q43)) fun q44 => noS q44) else (some (Sum.inr (Sum.inl (s17.2.1, (s17.2.2.1, (s17.2.2.2.1, ())))))))
noncomputable def u_ref01_Div (t : ((List T) × ((List T) × Unit))) : Option ((List T) × ((List T) × (Int × Unit))) :=
  (bif (eqI (lenL t.2.1) (0 : Int)) then (some ([], ([], ((3 : Int), ())))) else (ob (u_ref01_Cmp (t.1, (t.2.1, ()))) fun x0 => (bif (ltI x0.1 (0 : Int)) then (ob (u_ref01_Trim (t.1, ())) fun x1 => (some ([], (x1.1, ((0 : Int), ()))))) else (ob (u_ref01_small (t.1, ())) fun x2 => (bif x2.2.1 then (ob (u_ref01_small (t.2.1, ())) fun x3 => (ob (nz x3.1) fun x4 => (ob (u_ref01_Of ((wr IntKind.u64 (divI x2.1 x4)), ())) fun x5 => (ob (nz x3.1) fun x6 => (ob (u_ref01_Of ((modI x2.1 x6), ())) fun x7 => (some (x5.1, (x7.1, ((0 : Int), ()))))))))) else (bif (eqI (lenL t.2.1) (1 : Int)) then (ob (idxL t.2.1 (0 : Int)) fun x8 => (ob (T.int? IntKind.u32 (T.cell x8 0)) fun x9 => (ob (u_ref01_byLimb (t.1, (x9, ()))) fun x10 => (ob (u_ref01_Of ((wr IntKind.u64 x10.2.1), ())) fun x11 => (some (x10.1, (x11.1, ((0 : Int), ())))))))) else (ob (cutL t.2.1 (wr IntKind.i64 (subI (lenL t.2.1) (1 : Int))) (lenL t.2.1)) fun x12 => (ob (u_ref01_Bits (x12, ())) fun x13 => (ob (u_ref01_up (t.2.1, ((wr IntKind.i64 (subI (32 : Int) x13.1)), ()))) fun x14 => (ob (u_ref01_up (t.1, ((wr IntKind.i64 (subI (32 : Int) x13.1)), ()))) fun x15 => (ob (mkLen (wr IntKind.i64 (addI (wr IntKind.i64 (subI (lenL x15.1) (lenL x14.1))) (1 : Int))) (wr IntKind.i64 (addI (wr IntKind.i64 (subI (lenL x15.1) (lenL x14.1))) (1 : Int))) 4) fun x16 => (ob (loopU u_ref01_Div_l0 (x14.1, ((repL x16.1 (T.v (Value.int IntKind.u32 (0 : Int)))), (x15.1, ((wr IntKind.i64 (subI (32 : Int) x13.1)), ((lenL x14.1), ((wr IntKind.i64 (subI (lenL x15.1) (lenL x14.1))), ()))))))) fun q45 => onS q45 (fun t46 => (ob (u_ref01_Trim (t46.1, ())) fun x47 => (ob (u_ref01_down (t46.2.1, (t46.2.2.1, ()))) fun x48 => (some (x47.1, (x48.1, ((0 : Int), ()))))))) fun q49 => noS q49))))))))))))
def h_ref01_Div : HT := (.seq .leaf (.seq .leaf (.seq .leaf (.seq .leaf (.seq .leaf (.seq .leaf (.seq .leaf (.seq .leaf (.seq .leaf (.seq (.seq .leaf (.one (.loop { items := [.slot 1, .slot 4, .slot 5, .slot 13, .slot 14, .slot 15], shapes := [.sl 1, .row 81 1 82, .sl 1, .int IntKind.i64, .int IntKind.i64, .int IntKind.i64] } [((AEx.exit 0), { items := [.slot 4, .slot 5, .slot 13], shapes := [.row 81 1 82, .sl 1, .int IntKind.i64] })] (.seq .leaf (.seq (.one (.seq .leaf (.seq (.join [(AEx.normal, { items := [.slot 1, .slot 4, .slot 5, .slot 13, .slot 14, .slot 15, .slot 16], shapes := [.sl 1, .row 81 1 82, .sl 1, .int IntKind.i64, .int IntKind.i64, .int IntKind.i64, .int IntKind.u64] })] .leaf) (.seq (.join [(AEx.normal, { items := [.slot 1, .slot 4, .slot 5, .slot 13, .slot 14, .slot 15, .slot 16], shapes := [.sl 1, .row 81 1 82, .sl 1, .int IntKind.i64, .int IntKind.i64, .int IntKind.i64, .int IntKind.u64] })] .leaf) (.seq .leaf (.seq .leaf (.seq (.one (.loop { items := [.slot 1, .slot 4, .slot 5, .slot 13, .slot 14, .slot 15, .slot 17, .slot 18], shapes := [.sl 1, .row 81 1 82, .sl 1, .int IntKind.i64, .int IntKind.i64, .int IntKind.i64, .int IntKind.u64, .sl 1] } [((AEx.exit 2), { items := [.slot 1, .slot 4, .slot 5, .slot 13, .slot 14, .slot 15, .slot 17, .slot 18], shapes := [.sl 1, .row 81 1 82, .sl 1, .int IntKind.i64, .int IntKind.i64, .int IntKind.i64, .int IntKind.u64, .sl 1] })] .leaf)) .leaf))))))) .leaf))))) .leaf))))))))))
theorem ok_ref01_Div : TabOK Try.prog [24, 76, 77] g_ref01_Div := (TabOK.cons (fun _ => ⟨_, Try.func24, by kernel_rfl, by kernel_rfl⟩) k_ref01_Cmp (calleeOf_nat _ _) (fun _ => (calleeOf_pure (by kernel_rfl))) (by kernel_rfl) (fun _ => callK_framed (calleeOf_nat _ _) rfl rfl) (by kernel_rfl) (TabOK.cons (fun _ => ⟨_, Try.func49, by kernel_rfl, by kernel_rfl⟩) k_ref01_Trim (calleeOf_nat _ _) (fun h => by cases h) (by kernel_rfl) (fun _ => callK_framed (calleeOf_nat _ _) rfl rfl) (by kernel_rfl) (TabOK.cons (fun _ => ⟨_, Try.func76, by kernel_rfl, by kernel_rfl⟩) k_ref01_small (calleeOf_nat _ _) (fun _ => (calleeOf_pure (by kernel_rfl))) (by kernel_rfl) (fun _ => callK_framed (calleeOf_nat _ _) rfl rfl) (by kernel_rfl) (TabOK.cons (fun _ => ⟨_, Try.func65, by kernel_rfl, by kernel_rfl⟩) k_ref01_Of (calleeOf_nat _ _) (fun h => by cases h) (by kernel_rfl) (fun _ => callK_framed (calleeOf_nat _ _) rfl rfl) (by kernel_rfl) (TabOK.cons (fun _ => ⟨_, Try.func61, by kernel_rfl, by kernel_rfl⟩) k_ref01_byLimb (calleeOf_nat _ _) (fun h => by cases h) (by kernel_rfl) (fun _ => callK_framed (calleeOf_nat _ _) rfl rfl) (by kernel_rfl) (TabOK.cons (fun _ => ⟨_, Try.func77, by kernel_rfl, by kernel_rfl⟩) k_ref01_Bits (calleeOf_nat _ _) (fun _ => (calleeOf_pure (by kernel_rfl))) (by kernel_rfl) (fun _ => callK_framed (calleeOf_nat _ _) rfl rfl) (by kernel_rfl) (TabOK.cons (fun _ => ⟨_, Try.func78, by kernel_rfl, by kernel_rfl⟩) k_ref01_up (calleeOf_nat _ _) (fun h => by cases h) (by kernel_rfl) (fun _ => callK_framed (calleeOf_nat _ _) rfl rfl) (by kernel_rfl) (TabOK.cons (fun _ => ⟨_, Try.func80, by kernel_rfl, by kernel_rfl⟩) k_ref01_times (calleeOf_nat _ _) (fun h => by cases h) (by kernel_rfl) (fun _ => callK_framed (calleeOf_nat _ _) rfl rfl) (by kernel_rfl) (TabOK.cons (fun _ => ⟨_, Try.func79, by kernel_rfl, by kernel_rfl⟩) k_ref01_shifted (calleeOf_nat _ _) (fun h => by cases h) (by kernel_rfl) (fun _ => callK_framed (calleeOf_nat _ _) rfl rfl) (by kernel_rfl) (TabOK.cons (fun _ => ⟨_, Try.func52, by kernel_rfl, by kernel_rfl⟩) k_ref01_minus (calleeOf_nat _ _) (fun h => by cases h) (by kernel_rfl) (fun _ => callK_framed (calleeOf_nat _ _) rfl rfl) (by kernel_rfl) (TabOK.cons (fun _ => ⟨_, Try.func81, by kernel_rfl, by kernel_rfl⟩) k_ref01_down (calleeOf_nat _ _) (fun h => by cases h) (by kernel_rfl) (fun _ => callK_framed (calleeOf_nat _ _) rfl rfl) (by kernel_rfl) TabOK.nil)))))))))))
theorem e_ref01_Div : ∀ t, bodyG Try.prog g_ref01_Div [24, 76, 77] h_ref01_Div Try.f51 sg_ref01_Div t = u_ref01_Div t := by
  intro t
  kernel_rfl
theorem k_ref01_Div : (calleeOf sg_ref01_Div u_ref01_Div).OK Try.prog 51 := calleeG_ok mixed ok_ref01_Div Try.func51 (by kernel_rfl) (by kernel_rfl) e_ref01_Div

/-! ref01_Gcd -/
def sg_ref01_Gcd : Sig := { na := 2, np := 0, hin := { items := [.slot 0, .slot 1], shapes := [.sl 1, .sl 1] }, nres := 1, kept := [], nnew := 0, hout := { items := [.slot 0], shapes := [.sl 1] }, nob := 102 }
noncomputable def g_ref01_Gcd : List (Go.FuncId × Callee) := [(49, (calleeOf sg_ref01_Trim u_ref01_Trim)), (76, (calleeOf sg_ref01_small u_ref01_small)), (65, (calleeOf sg_ref01_Of u_ref01_Of)), (51, (calleeOf sg_ref01_Div u_ref01_Div))]
noncomputable def u_ref01_Gcd_l1 (s5 : (Int × Int × Unit)) : Option ((Int × Int × Unit) ⊕ ((Int × Unit) ⊕ Empty)) :=
  (bif (Bool.not (eqI s5.2.1 (0 : Int))) then (ob (nz s5.2.1) fun x6 => (some (Sum.inl (s5.2.1, ((modI s5.1 x6), ()))))) else (some (Sum.inr (Sum.inl (s5.1, ())))))
noncomputable def u_ref01_Gcd_l0 (s2 : (List T × List T × Unit)) : Option ((List T × List T × Unit) ⊕ ((List T × Unit) ⊕ ((List T × Unit) ⊕ Empty))) :=
  (bif (ltI (0 : Int) (lenL s2.2.1)) then (ob (u_ref01_small (s2.1, ())) fun x3 => (ob (u_ref01_small (s2.2.1, ())) fun x4 => (bif x3.2.1 then (bif x4.2.1 then (ob (loopU u_ref01_Gcd_l1 (x3.1, (x4.1, ()))) fun q7 => onS q7 (fun t8 => (ob (u_ref01_Of (t8.1, ())) fun x9 => (some (Sum.inr (Sum.inl (x9.1, ())))))) fun q10 => noS q10) else (ob (u_ref01_Div (s2.1, (s2.2.1, ()))) fun x11 => (some (Sum.inl (s2.2.1, (x11.2.1, ())))))) else (ob (u_ref01_Div (s2.1, (s2.2.1, ()))) fun x12 => (some (Sum.inl (s2.2.1, (x12.2.1, ())))))))) else (some (Sum.inr (Sum.inr (Sum.inl (s2.1, ()))))))
noncomputable def u_ref01_Gcd (t : ((List T) × ((List T) × Unit))) : Option ((List T) × Unit) :=
  (ob (u_ref01_Trim (t.1, ())) fun x0 => (ob (u_ref01_Trim (t.2.1, ())) fun x1 => (ob (loopU u_ref01_Gcd_l0 (x0.1, (x1.1, ()))) fun q13 => onS q13 (fun t14 => (some (t14.1, ()))) fun q15 => onS q15 (fun t16 => (some (t16.1, ()))) fun q17 => noS q17)))
def h_ref01_Gcd : HT := (.seq .leaf (.seq .leaf (.seq (.one (.loop { items := [.slot 0, .slot 1], shapes := [.sl 1, .sl 1] } [(AEx.ret, { items := [.slot 4], shapes := [.sl 1] }), ((AEx.exit 0), { items := [.slot 0], shapes := [.sl 1] })] (.seq .leaf (.one (.seq .leaf (.seq .leaf (.seq (.seq .leaf (.cond (.seq (.one (.loop { items := [.slot 5, .slot 7], shapes := [.int IntKind.u64, .int IntKind.u64] } [((AEx.exit 2), { items := [.slot 5], shapes := [.int IntKind.u64] })] .leaf)) .leaf) .leaf)) .leaf))))))) .leaf)))
theorem ok_ref01_Gcd : TabOK Try.prog [76] g_ref01_Gcd := (TabOK.cons (fun _ => ⟨_, Try.func49, by kernel_rfl, by kernel_rfl⟩) k_ref01_Trim (calleeOf_nat _ _) (fun h => by cases h) (by kernel_rfl) (fun _ => callK_framed (calleeOf_nat _ _) rfl rfl) (by kernel_rfl) (TabOK.cons (fun _ => ⟨_, Try.func76, by kernel_rfl, by kernel_rfl⟩) k_ref01_small (calleeOf_nat _ _) (fun _ => (calleeOf_pure (by kernel_rfl))) (by kernel_rfl) (fun _ => callK_framed (calleeOf_nat _ _) rfl rfl) (by kernel_rfl) (TabOK.cons (fun _ => ⟨_, Try.func65, by kernel_rfl, by kernel_rfl⟩) k_ref01_Of (calleeOf_nat _ _) (fun h => by cases h) (by kernel_rfl) (fun _ => callK_framed (calleeOf_nat _ _) rfl rfl) (by kernel_rfl) (TabOK.cons (fun _ => ⟨_, Try.func51, by kernel_rfl, by kernel_rfl⟩) k_ref01_Div (calleeOf_nat _ _) (fun h => by cases h) (by kernel_rfl) (fun _ => callK_framed (calleeOf_nat _ _) rfl rfl) (by kernel_rfl) TabOK.nil))))
theorem e_ref01_Gcd : ∀ t, bodyG Try.prog g_ref01_Gcd [76] h_ref01_Gcd Try.f50 sg_ref01_Gcd t = u_ref01_Gcd t := by
  intro t
  kernel_rfl
theorem k_ref01_Gcd : (calleeOf sg_ref01_Gcd u_ref01_Gcd).OK Try.prog 50 := calleeG_ok mixed ok_ref01_Gcd Try.func50 (by kernel_rfl) (by kernel_rfl) e_ref01_Gcd

/-! ref02_Den -/
def sg_ref02_Den : Sig := { na := 1, np := 0, hin := { items := [.aggs 0 3], shapes := [.bool, .sl 1, .sl 1] }, nres := 1, kept := [], nnew := 0, hout := { items := [.slot 0], shapes := [.sl 1] }, nob := 20 }
noncomputable def g_ref02_Den : List (Go.FuncId × Callee) := []
noncomputable def u_ref02_Den (t : (Bool × ((List T) × ((List T) × Unit)))) : Option ((List T) × Unit) :=
  (bif (eqI (lenL t.2.2.1) (0 : Int)) then (some ([(T.v (Value.int IntKind.u32 (1 : Int)))], ())) else (some (t.2.2.1, ())))
def h_ref02_Den : HT := .leaf
theorem ok_ref02_Den : TabOK Try.prog [] g_ref02_Den := TabOK.nil
theorem e_ref02_Den : ∀ t, bodyG Try.prog g_ref02_Den [] h_ref02_Den Try.f26 sg_ref02_Den t = u_ref02_Den t := by
  intro t
  kernel_rfl
theorem k_ref02_Den : (calleeOf sg_ref02_Den u_ref02_Den).OK Try.prog 26 := calleeG_ok mixed ok_ref02_Den Try.func26 (by kernel_rfl) (by kernel_rfl) e_ref02_Den

/-! ref02_size -/
def sg_ref02_size : Sig := { na := 1, np := 0, hin := { items := [.slot 0], shapes := [.int IntKind.i64] }, nres := 2, kept := [], nnew := 0, hout := { items := [.slot 0, .slot 1], shapes := [.sl 1, .bool] }, nob := 30 }
noncomputable def g_ref02_size : List (Go.FuncId × Callee) := [(65, (calleeOf sg_ref01_Of u_ref01_Of))]
noncomputable def u_ref02_size (t : (Int × Unit)) : Option ((List T) × (Bool × Unit)) :=
  (bif (ltI t.1 (0 : Int)) then (ob (u_ref01_Of ((wr IntKind.u64 (addI (wr IntKind.u64 (wr IntKind.i64 (subI (0 : Int) (wr IntKind.i64 (addI t.1 (1 : Int)))))) (1 : Int))), ())) fun x0 => (some (x0.1, (Bool.true, ())))) else (ob (u_ref01_Of ((wr IntKind.u64 t.1), ())) fun x1 => (some (x1.1, (Bool.false, ())))))
def h_ref02_size : HT := .leaf
theorem ok_ref02_size : TabOK Try.prog [] g_ref02_size := (TabOK.cons (fun _ => ⟨_, Try.func65, by kernel_rfl, by kernel_rfl⟩) k_ref01_Of (calleeOf_nat _ _) (fun h => by cases h) (by kernel_rfl) (fun _ => callK_framed (calleeOf_nat _ _) rfl rfl) (by kernel_rfl) TabOK.nil)
theorem e_ref02_size : ∀ t, bodyG Try.prog g_ref02_size [] h_ref02_size Try.f42 sg_ref02_size t = u_ref02_size t := by
  intro t
  kernel_rfl
theorem k_ref02_size : (calleeOf sg_ref02_size u_ref02_size).OK Try.prog 42 := calleeG_ok mixed ok_ref02_size Try.func42 (by kernel_rfl) (by kernel_rfl) e_ref02_size

/-! ref02_reduce -/
def sg_ref02_reduce : Sig := { na := 3, np := 0, hin := { items := [.slot 0, .slot 1, .slot 2], shapes := [.bool, .sl 1, .sl 1] }, nres := 1, kept := [], nnew := 0, hout := { items := [.aggs 0 3], shapes := [.bool, .sl 1, .sl 1] }, nob := 110 }
noncomputable def g_ref02_reduce : List (Go.FuncId × Callee) := [(49, (calleeOf sg_ref01_Trim u_ref01_Trim)), (50, (calleeOf sg_ref01_Gcd u_ref01_Gcd)), (51, (calleeOf sg_ref01_Div u_ref01_Div))]
noncomputable def u_ref02_reduce (t : (Bool × ((List T) × ((List T) × Unit)))) : Option (Bool × ((List T) × ((List T) × Unit))) :=
  (ob (u_ref01_Trim (t.2.1, ())) fun x0 => (ob (u_ref01_Trim (t.2.2.1, ())) fun x1 => (bif (eqI (lenL x0.1) (0 : Int)) then (some (Bool.false, ([], ([], ())))) else (ob (u_ref01_Gcd (x0.1, (x1.1, ()))) fun x2 => (ob (α := ((Bool × List T × List T × Unit × Bool × T × T × Unit) ⊕ Empty)) (bif (Bool.not (eqI (lenL x2.1) (1 : Int))) then (ob (u_ref01_Div (x0.1, (x2.1, ()))) fun x3 => (ob (u_ref01_Div (x1.1, (x2.1, ()))) fun x4 => (some (Sum.inl (t.1, (x3.1, (x4.1, ((), (Bool.false, ((T.v (Value.slice (Option.none) 0 0)), ((T.v (Value.slice (Option.none) 0 0)), ()))))))))))) else (ob (idxL x2.1 (0 : Int)) fun x5 => (ob (T.int? IntKind.u32 (T.cell x5 0)) fun x6 => (bif (Bool.not (eqI x6 (1 : Int))) then (ob (u_ref01_Div (x0.1, (x2.1, ()))) fun x7 => (ob (u_ref01_Div (x1.1, (x2.1, ()))) fun x8 => (some (Sum.inl (t.1, (x7.1, (x8.1, ((), (Bool.false, ((T.v (Value.slice (Option.none) 0 0)), ((T.v (Value.slice (Option.none) 0 0)), ()))))))))))) else (some (Sum.inl (t.1, (x0.1, (x1.1, ((), (Bool.false, ((T.v (Value.slice (Option.none) 0 0)), ((T.v (Value.slice (Option.none) 0 0)), ()))))))))))))) fun q9 => onS q9 (fun t10 => (ob (α := ((Bool × List T × List T × Unit × Bool × T × T × Unit) ⊕ Empty)) (bif (eqI (lenL t10.2.2.1) (1 : Int)) then (ob (idxL t10.2.2.1 (0 : Int)) fun x11 => (ob (T.int? IntKind.u32 (T.cell x11 0)) fun x12 => (bif (eqI x12 (1 : Int)) then (some (Sum.inl (t10.1, (t10.2.1, ([], ((), (t10.2.2.2.2.1, (t10.2.2.2.2.2.1, (t10.2.2.2.2.2.2.1, ()))))))))) else (some (Sum.inl (t10.1, (t10.2.1, (t10.2.2.1, ((), (t10.2.2.2.2.1, (t10.2.2.2.2.2.1, (t10.2.2.2.2.2.2.1, ())))))))))))) else (some (Sum.inl (t10.1, (t10.2.1, (t10.2.2.1, ((), (t10.2.2.2.2.1, (t10.2.2.2.2.2.1, (t10.2.2.2.2.2.2.1, ())))))))))) fun q13 => onS q13 (fun t14 => (some (t14.1, (t14.2.1, (t14.2.2.1, ()))))) fun q15 => noS q15)) fun q16 => noS q16)))))
def h_ref02_reduce : HT := (.seq .leaf (.seq .leaf (.seq .leaf (.seq .leaf (.seq (.join [(AEx.normal, { items := [.slot 0, .slot 1, .slot 2, .slot 6, .box 6 3], shapes := [.bool, .sl 1, .sl 1, .lit (C.box 6 0), .bool, .tree, .tree] })] .leaf) (.seq (.join [(AEx.normal, { items := [.slot 0, .slot 1, .slot 2, .slot 6, .box 6 3], shapes := [.bool, .sl 1, .sl 1, .lit (C.box 6 0), .bool, .tree, .tree] })] .leaf) .leaf))))))
theorem ok_ref02_reduce : TabOK Try.prog [] g_ref02_reduce := (TabOK.cons (fun _ => ⟨_, Try.func49, by kernel_rfl, by kernel_rfl⟩) k_ref01_Trim (calleeOf_nat _ _) (fun h => by cases h) (by kernel_rfl) (fun _ => callK_framed (calleeOf_nat _ _) rfl rfl) (by kernel_rfl) (TabOK.cons (fun _ => ⟨_, Try.func50, by kernel_rfl, by kernel_rfl⟩) k_ref01_Gcd (calleeOf_nat _ _) (fun h => by cases h) (by kernel_rfl) (fun _ => callK_framed (calleeOf_nat _ _) rfl rfl) (by kernel_rfl) (TabOK.cons (fun _ => ⟨_, Try.func51, by kernel_rfl, by kernel_rfl⟩) k_ref01_Div (calleeOf_nat _ _) (fun h => by cases h) (by kernel_rfl) (fun _ => callK_framed (calleeOf_nat _ _) rfl rfl) (by kernel_rfl) TabOK.nil)))
theorem e_ref02_reduce : ∀ t, bodyG Try.prog g_ref02_reduce [] h_ref02_reduce Try.f27 sg_ref02_reduce t = u_ref02_reduce t := by
  intro t
  kernel_rfl
theorem k_ref02_reduce : (calleeOf sg_ref02_reduce u_ref02_reduce).OK Try.prog 27 := calleeG_ok mixed ok_ref02_reduce Try.func27 (by kernel_rfl) (by kernel_rfl) e_ref02_reduce

/-! ref02_Make -/
def sg_ref02_Make : Sig := { na := 2, np := 0, hin := { items := [.slot 0, .slot 1], shapes := [.int IntKind.i64, .int IntKind.i64] }, nres := 2, kept := [], nnew := 0, hout := { items := [.aggs 0 3, .slot 1], shapes := [.bool, .sl 1, .sl 1, .int IntKind.i64] }, nob := 58 }
noncomputable def g_ref02_Make : List (Go.FuncId × Callee) := [(42, (calleeOf sg_ref02_size u_ref02_size)), (27, (calleeOf sg_ref02_reduce u_ref02_reduce))]
noncomputable def u_ref02_Make (t : (Int × (Int × Unit))) : Option (Bool × ((List T) × ((List T) × (Int × Unit)))) :=
  (bif (eqI t.2.1 (0 : Int)) then (some (Bool.false, ([], ([], ((3 : Int), ()))))) else (ob (u_ref02_size (t.1, ())) fun x0 => (ob (u_ref02_size (t.2.1, ())) fun x1 => (ob (u_ref02_reduce ((Bool.not (eqB x0.2.1 x1.2.1)), (x0.1, (x1.1, ())))) fun x2 => (some (x2.1, (x2.2.1, (x2.2.2.1, ((0 : Int), ())))))))))
def h_ref02_Make : HT := .leaf
theorem ok_ref02_Make : TabOK Try.prog [] g_ref02_Make := (TabOK.cons (fun _ => ⟨_, Try.func42, by kernel_rfl, by kernel_rfl⟩) k_ref02_size (calleeOf_nat _ _) (fun h => by cases h) (by kernel_rfl) (fun _ => callK_framed (calleeOf_nat _ _) rfl rfl) (by kernel_rfl) (TabOK.cons (fun _ => ⟨_, Try.func27, by kernel_rfl, by kernel_rfl⟩) k_ref02_reduce (calleeOf_nat _ _) (fun h => by cases h) (by kernel_rfl) (fun _ => callK_framed (calleeOf_nat _ _) rfl rfl) (by kernel_rfl) TabOK.nil))
theorem e_ref02_Make : ∀ t, bodyG Try.prog g_ref02_Make [] h_ref02_Make Try.f30 sg_ref02_Make t = u_ref02_Make t := by
  intro t
  kernel_rfl
theorem k_ref02_Make : (calleeOf sg_ref02_Make u_ref02_Make).OK Try.prog 30 := calleeG_ok mixed ok_ref02_Make Try.func30 (by kernel_rfl) (by kernel_rfl) e_ref02_Make

/-! ref02_Frac -/
def sg_ref02_Frac : Sig := { na := 2, np := 0, hin := { items := [.slot 0, .slot 1], shapes := [.int IntKind.i64, .int IntKind.i64] }, nres := 1, kept := [], nnew := 0, hout := { items := [.aggs 0 3], shapes := [.bool, .sl 1, .sl 1] }, nob := 28 }
noncomputable def g_ref02_Frac : List (Go.FuncId × Callee) := [(30, (calleeOf sg_ref02_Make u_ref02_Make))]
noncomputable def u_ref02_Frac (t : (Int × (Int × Unit))) : Option (Bool × ((List T) × ((List T) × Unit))) :=
  (ob (u_ref02_Make (t.1, (t.2.1, ()))) fun x0 => (some (x0.1, (x0.2.1, (x0.2.2.1, ())))))
def h_ref02_Frac : HT := .leaf
theorem ok_ref02_Frac : TabOK Try.prog [] g_ref02_Frac := (TabOK.cons (fun _ => ⟨_, Try.func30, by kernel_rfl, by kernel_rfl⟩) k_ref02_Make (calleeOf_nat _ _) (fun h => by cases h) (by kernel_rfl) (fun _ => callK_framed (calleeOf_nat _ _) rfl rfl) (by kernel_rfl) TabOK.nil)
theorem e_ref02_Frac : ∀ t, bodyG Try.prog g_ref02_Frac [] h_ref02_Frac Try.f14 sg_ref02_Frac t = u_ref02_Frac t := by
  intro t
  kernel_rfl
theorem k_ref02_Frac : (calleeOf sg_ref02_Frac u_ref02_Frac).OK Try.prog 14 := calleeG_ok mixed ok_ref02_Frac Try.func14 (by kernel_rfl) (by kernel_rfl) e_ref02_Frac

/-! ref02_Int -/
def sg_ref02_Int : Sig := { na := 1, np := 0, hin := { items := [.slot 0], shapes := [.int IntKind.i64] }, nres := 1, kept := [], nnew := 0, hout := { items := [.aggs 0 3], shapes := [.bool, .sl 1, .sl 1] }, nob := 26 }
noncomputable def g_ref02_Int : List (Go.FuncId × Callee) := [(42, (calleeOf sg_ref02_size u_ref02_size))]
noncomputable def u_ref02_Int (t : (Int × Unit)) : Option (Bool × ((List T) × ((List T) × Unit))) :=
  (ob (u_ref02_size (t.1, ())) fun x0 => (some (x0.2.1, (x0.1, ([], ())))))
def h_ref02_Int : HT := .leaf
theorem ok_ref02_Int : TabOK Try.prog [] g_ref02_Int := (TabOK.cons (fun _ => ⟨_, Try.func42, by kernel_rfl, by kernel_rfl⟩) k_ref02_size (calleeOf_nat _ _) (fun h => by cases h) (by kernel_rfl) (fun _ => callK_framed (calleeOf_nat _ _) rfl rfl) (by kernel_rfl) TabOK.nil)
theorem e_ref02_Int : ∀ t, bodyG Try.prog g_ref02_Int [] h_ref02_Int Try.f18 sg_ref02_Int t = u_ref02_Int t := by
  intro t
  kernel_rfl
theorem k_ref02_Int : (calleeOf sg_ref02_Int u_ref02_Int).OK Try.prog 18 := calleeG_ok mixed ok_ref02_Int Try.func18 (by kernel_rfl) (by kernel_rfl) e_ref02_Int

/-! ref02_Same -/
def sg_ref02_Same : Sig := { na := 2, np := 0, hin := { items := [.aggs 0 3, .aggs 1 3], shapes := [.bool, .sl 1, .sl 1, .bool, .sl 1, .sl 1] }, nres := 1, kept := [], nnew := 0, hout := { items := [.slot 0], shapes := [.bool] }, nob := 52 }
noncomputable def g_ref02_Same : List (Go.FuncId × Callee) := [(24, (calleeOf sg_ref01_Cmp u_ref01_Cmp))]
noncomputable def u_ref02_Same (t : (Bool × ((List T) × ((List T) × (Bool × ((List T) × ((List T) × Unit))))))) : Option (Bool × Unit) :=
  (bif (eqB t.1 t.2.2.2.1) then (ob (u_ref01_Cmp (t.2.1, (t.2.2.2.2.1, ()))) fun x0 => (bif (eqI x0.1 (0 : Int)) then (ob (u_ref01_Cmp (t.2.2.1, (t.2.2.2.2.2.1, ()))) fun x1 => (some ((eqI x1.1 (0 : Int)), ()))) else (some (Bool.false, ())))) else (some (Bool.false, ())))
def h_ref02_Same : HT := .leaf
theorem ok_ref02_Same : TabOK Try.prog [24] g_ref02_Same := (TabOK.cons (fun _ => ⟨_, Try.func24, by kernel_rfl, by kernel_rfl⟩) k_ref01_Cmp (calleeOf_nat _ _) (fun _ => (calleeOf_pure (by kernel_rfl))) (by kernel_rfl) (fun _ => callK_framed (calleeOf_nat _ _) rfl rfl) (by kernel_rfl) TabOK.nil)
theorem e_ref02_Same : ∀ t, bodyG Try.prog g_ref02_Same [24] h_ref02_Same Try.f10 sg_ref02_Same t = u_ref02_Same t := by
  intro t
  kernel_rfl
theorem k_ref02_Same : (calleeOf sg_ref02_Same u_ref02_Same).OK Try.prog 10 := calleeG_ok mixed ok_ref02_Same Try.func10 (by kernel_rfl) (by kernel_rfl) e_ref02_Same

/-! ref02_Neg -/
def sg_ref02_Neg : Sig := { na := 1, np := 0, hin := { items := [.aggs 0 3], shapes := [.bool, .sl 1, .sl 1] }, nres := 1, kept := [], nnew := 0, hout := { items := [.aggs 0 3], shapes := [.bool, .sl 1, .sl 1] }, nob := 28 }
noncomputable def g_ref02_Neg : List (Go.FuncId × Callee) := []
noncomputable def u_ref02_Neg (t : (Bool × ((List T) × ((List T) × Unit)))) : Option (Bool × ((List T) × ((List T) × Unit))) :=
  (bif (Bool.not t.1) then (some ((ltI (0 : Int) (lenL t.2.1)), (t.2.1, (t.2.2.1, ())))) else (some (Bool.false, (t.2.1, (t.2.2.1, ())))))
def h_ref02_Neg : HT := .leaf
theorem ok_ref02_Neg : TabOK Try.prog [] g_ref02_Neg := TabOK.nil
theorem e_ref02_Neg : ∀ t, bodyG Try.prog g_ref02_Neg [] h_ref02_Neg Try.f11 sg_ref02_Neg t = u_ref02_Neg t := by
  intro t
  kernel_rfl
theorem k_ref02_Neg : (calleeOf sg_ref02_Neg u_ref02_Neg).OK Try.prog 11 := calleeG_ok mixed ok_ref02_Neg Try.func11 (by kernel_rfl) (by kernel_rfl) e_ref02_Neg

/-! ref02_Add -/
def sg_ref02_Add : Sig := { na := 2, np := 0, hin := { items := [.aggs 0 3, .aggs 1 3], shapes := [.bool, .sl 1, .sl 1, .bool, .sl 1, .sl 1] }, nres := 1, kept := [], nnew := 0, hout := { items := [.aggs 0 3], shapes := [.bool, .sl 1, .sl 1] }, nob := 150 }
noncomputable def g_ref02_Add : List (Go.FuncId × Callee) := [(26, trC (calleeOf sg_ref02_Den u_ref02_Den)), (25, trC (calleeOf sg_ref01_Mul u_ref01_Mul)), (28, trC (calleeOf sg_ref01_Add u_ref01_Add)), (27, trC (calleeOf sg_ref02_reduce u_ref02_reduce)), (24, (calleeOf sg_ref01_Cmp u_ref01_Cmp)), (29, (calleeOf sg_ref01_Sub u_ref01_Sub))]
noncomputable def u_ref02_Add (t : (Bool × ((List T) × ((List T) × (Bool × ((List T) × ((List T) × Unit))))))) : Option (Bool × ((List T) × ((List T) × Unit))) :=
  (bif (eqI (lenL t.2.1) (0 : Int)) then (some (t.2.2.2.1, (t.2.2.2.2.1, (t.2.2.2.2.2.1, ())))) else (bif (eqI (lenL t.2.2.2.2.1) (0 : Int)) then (some (t.1, (t.2.1, (t.2.2.1, ())))) else (ob (u_ref02_Den (t.2.2.2.1, (t.2.2.2.2.1, (t.2.2.2.2.2.1, ())))) fun x0 => (ob (u_ref01_Mul (t.2.1, (x0.1, ()))) fun x1 => (ob (u_ref02_Den (t.1, (t.2.1, (t.2.2.1, ())))) fun x2 => (ob (u_ref01_Mul (t.2.2.2.2.1, (x2.1, ()))) fun x3 => (ob (u_ref02_Den (t.1, (t.2.1, (t.2.2.1, ())))) fun x4 => (ob (u_ref02_Den (t.2.2.2.1, (t.2.2.2.2.1, (t.2.2.2.2.2.1, ())))) fun x5 => (ob (u_ref01_Mul (x4.1, (x5.1, ()))) fun x6 => (bif (eqB t.1 t.2.2.2.1) then (ob (u_ref01_Add (x1.1, (x3.1, ()))) fun x7 => (ob (u_ref02_reduce (t.1, (x7.1, (x6.1, ())))) fun x8 => (some (x8.1, (x8.2.1, (x8.2.2.1, ())))))) else (ob (u_ref01_Cmp (x1.1, (x3.1, ()))) fun x9 => (bif (ltI x9.1 (0 : Int)) then (ob (u_ref01_Sub (x3.1, (x1.1, ()))) fun x10 => (ob (u_ref02_reduce (t.2.2.2.1, (x10.1, (x6.1, ())))) fun x11 => (some (x11.1, (x11.2.1, (x11.2.2.1, ())))))) else (ob (u_ref01_Sub (x1.1, (x3.1, ()))) fun x12 => (ob (u_ref02_reduce (t.1, (x12.1, (x6.1, ())))) fun x13 => (some (x13.1, (x13.2.1, (x13.2.2.1, ()))))))))))))))))))
def h_ref02_Add : HT := .leaf
theorem ok_ref02_Add : TabOK Try.prog [1000026, 1000025, 1000028, 1000027, 24] g_ref02_Add := (TabOK.consP (fun _ => ⟨_, Try.func26, by kernel_rfl, by kernel_rfl⟩) (trC_ok k_ref02_Den) (trC_nat (calleeOf_nat _ _)) (fun h => by cases h) (fun _ => trC_pureP (calleeOf_nat _ _)) (fun _ => (trC_pureP (calleeOf_nat _ _)).pure.framed) (by kernel_rfl) (TabOK.consP (fun _ => ⟨_, Try.func25, by kernel_rfl, by kernel_rfl⟩) (trC_ok k_ref01_Mul) (trC_nat (calleeOf_nat _ _)) (fun h => by cases h) (fun _ => trC_pureP (calleeOf_nat _ _)) (fun _ => (trC_pureP (calleeOf_nat _ _)).pure.framed) (by kernel_rfl) (TabOK.consP (fun _ => ⟨_, Try.func28, by kernel_rfl, by kernel_rfl⟩) (trC_ok k_ref01_Add) (trC_nat (calleeOf_nat _ _)) (fun h => by cases h) (fun _ => trC_pureP (calleeOf_nat _ _)) (fun _ => (trC_pureP (calleeOf_nat _ _)).pure.framed) (by kernel_rfl) (TabOK.consP (fun _ => ⟨_, Try.func27, by kernel_rfl, by kernel_rfl⟩) (trC_ok k_ref02_reduce) (trC_nat (calleeOf_nat _ _)) (fun h => by cases h) (fun _ => trC_pureP (calleeOf_nat _ _)) (fun _ => (trC_pureP (calleeOf_nat _ _)).pure.framed) (by kernel_rfl) (TabOK.cons (fun _ => ⟨_, Try.func24, by kernel_rfl, by kernel_rfl⟩) k_ref01_Cmp (calleeOf_nat _ _) (fun _ => (calleeOf_pure (by kernel_rfl))) (by kernel_rfl) (fun _ => callK_framed (calleeOf_nat _ _) rfl rfl) (by kernel_rfl) (TabOK.cons (fun _ => ⟨_, Try.func29, by kernel_rfl, by kernel_rfl⟩) k_ref01_Sub (calleeOf_nat _ _) (fun h => by cases h) (by kernel_rfl) (fun _ => callK_framed (calleeOf_nat _ _) rfl rfl) (by kernel_rfl) TabOK.nil))))))
theorem e_ref02_Add : ∀ t, bodyG Try.prog g_ref02_Add [1000026, 1000025, 1000028, 1000027, 24] h_ref02_Add Try.f12 sg_ref02_Add t = u_ref02_Add t := by
  intro t
  kernel_rfl
theorem k_ref02_Add : (calleeOf sg_ref02_Add u_ref02_Add).OK Try.prog 12 := calleeG_ok mixed ok_ref02_Add Try.func12 (by kernel_rfl) (by kernel_rfl) e_ref02_Add

/-! ref01_Text -/
def sg_ref01_Text : Sig := { na := 1, np := 0, hin := { items := [.slot 0], shapes := [.sl 1] }, nres := 1, kept := [], nnew := 0, hout := { items := [.slot 0], shapes := [.str] }, nob := 130 }
noncomputable def g_ref01_Text : List (Go.FuncId × Callee) := [(61, (calleeOf sg_ref01_byLimb u_ref01_byLimb))]
noncomputable def u_ref01_Text_l1 (s2 : (List T × List T × Int × Int × Unit)) : Option ((List T × List T × Int × Int × Unit) ⊕ ((List T × List T × Unit) ⊕ Empty)) :=
  (bif (ltI s2.2.2.2.1 (9 : Int)) then (bif (ltI (0 : Int) s2.2.2.1) then (ob (nz (10 : Int)) fun x3 => (ob (room s2.1 [(T.v (Value.int IntKind.u8 (wr IntKind.u8 (wr IntKind.u32 (addI (48 : Int) (modI s2.2.2.1 x3))))))] 1) fun x4 => (ob (nz (10 : Int)) fun x5 => (some (Sum.inl (x4, (s2.2.1, ((wr IntKind.u32 (divI s2.2.2.1 x5)), ((wr IntKind.i64 (addI s2.2.2.2.1 (1 : Int))), ()))))))))) else (bif (ltI (0 : Int) (lenL s2.2.1)) then (ob (nz (10 : Int)) fun x6 => (ob (room s2.1 [(T.v (Value.int IntKind.u8 (wr IntKind.u8 (wr IntKind.u32 (addI (48 : Int) (modI s2.2.2.1 x6))))))] 1) fun x7 => (ob (nz (10 : Int)) fun x8 => (some (Sum.inl (x7, (s2.2.1, ((wr IntKind.u32 (divI s2.2.2.1 x8)), ((wr IntKind.i64 (addI s2.2.2.2.1 (1 : Int))), ()))))))))) else (some (Sum.inr (Sum.inl (s2.1, (s2.2.1, ()))))))) else (some (Sum.inr (Sum.inl (s2.1, (s2.2.1, ()))))))
noncomputable def u_ref01_Text_l0 (s0 : (List T × List T × Unit)) : Option ((List T × List T × Unit) ⊕ ((List T × Unit) ⊕ Empty)) :=
  (bif (ltI (0 : Int) (lenL s0.1)) then (ob (u_ref01_byLimb (s0.1, ((1000000000 : Int), ()))) fun x1 => (ob (loopU u_ref01_Text_l1 (s0.2.1, (x1.1, (x1.2.1, ((0 : Int), ()))))) fun q9 => onS q9 (fun t10 => (some (Sum.inl (t10.2.1, (t10.1, ()))))) fun q11 => noS q11)) else (some (Sum.inr (Sum.inl (s0.2.1, ())))))
noncomputable def u_ref01_Text_l2 (s15 : (List T × List T × Int × Unit)) : Option ((List T × List T × Int × Unit) ⊕ ((List T × Unit) ⊕ Empty)) :=
  (bif (ltI s15.2.2.1 (lenL s15.1)) then (ob (chkI (lenL s15.1) s15.2.2.1) fun x16 => (ob (idxN s15.1 x16) fun x17 => (ob (chkI (lenL s15.2.1) (wr IntKind.i64 (subI (wr IntKind.i64 (subI (lenL s15.1) (1 : Int))) s15.2.2.1))) fun x18 => (ob (T.int? IntKind.u8 (T.cell x17 0)) fun x19 => (ob (idxN s15.2.1 x18) fun x20 => (some (Sum.inl (s15.1, ((List.set s15.2.1 x18 (T.upd 1 x20 0 [(T.v (Value.int IntKind.u8 x19))])), ((wr IntKind.i64 (addI s15.2.2.1 (1 : Int))), ())))))))))) else (some (Sum.inr (Sum.inl (s15.2.1, ())))))
noncomputable def u_ref01_Text (t : ((List T) × Unit)) : Option (ByteArray × Unit) :=
  (bif (eqI (lenL t.1) (0 : Int)) then (some ((ByteArray.mk #[48]), ())) else (ob (loopU u_ref01_Text_l0 (t.1, ([], ()))) fun q12 => onS q12 (fun t13 => (ob (mkLen (lenL t13.1) (lenL t13.1) 1) fun x14 => (ob (loopU u_ref01_Text_l2 (t13.1, ((repL x14.1 (T.v (Value.int IntKind.u8 (0 : Int)))), ((0 : Int), ())))) fun q21 => onS q21 (fun t22 => (ob (strOf t22.1) fun x23 => (some (x23, ())))) fun q24 => noS q24))) fun q25 => noS q25))
def h_ref01_Text : HT := (.seq .leaf (.seq .leaf (.seq .leaf (.seq (.one (.loop { items := [.slot 0, .slot 3], shapes := [.sl 1, .row 5 1 39] } [((AEx.exit 0), { items := [.slot 3], shapes := [.row 5 1 39] })] (.seq .leaf (.one (.seq .leaf (.seq (.seq .leaf (.one (.loop { items := [.slot 3, .slot 4, .slot 5, .slot 6], shapes := [.row 5 1 39, .sl 1, .int IntKind.u32, .int IntKind.i64] } [((AEx.exit 2), { items := [.slot 3, .slot 4], shapes := [.row 5 1 39, .sl 1] })] .leaf))) .leaf)))))) (.seq .leaf (.seq (.seq .leaf (.one (.loop { items := [.slot 3, .slot 7, .slot 8], shapes := [.row 5 1 39, .row 5 1 45, .int IntKind.i64] } [((AEx.exit 4), { items := [.slot 7], shapes := [.row 5 1 45] })] .leaf))) .leaf))))))
theorem ok_ref01_Text : TabOK Try.prog [] g_ref01_Text := (TabOK.cons (fun _ => ⟨_, Try.func61, by kernel_rfl, by kernel_rfl⟩) k_ref01_byLimb (calleeOf_nat _ _) (fun h => by cases h) (by kernel_rfl) (fun _ => callK_framed (calleeOf_nat _ _) rfl rfl) (by kernel_rfl) TabOK.nil)
theorem e_ref01_Text : ∀ t, bodyG Try.prog g_ref01_Text [] h_ref01_Text Try.f40 sg_ref01_Text t = u_ref01_Text t := by
  intro t
  kernel_rfl
theorem k_ref01_Text : (calleeOf sg_ref01_Text u_ref01_Text).OK Try.prog 40 := calleeG_ok mixed ok_ref01_Text Try.func40 (by kernel_rfl) (by kernel_rfl) e_ref01_Text

/-! ref02_Text -/
def sg_ref02_Text : Sig := { na := 1, np := 0, hin := { items := [.aggs 0 3], shapes := [.bool, .sl 1, .sl 1] }, nres := 1, kept := [], nnew := 0, hout := { items := [.slot 0], shapes := [.str] }, nob := 44 }
noncomputable def g_ref02_Text : List (Go.FuncId × Callee) := [(40, (calleeOf sg_ref01_Text u_ref01_Text))]
noncomputable def u_ref02_Text (t : (Bool × ((List T) × ((List T) × Unit)))) : Option (ByteArray × Unit) :=
  (ob (u_ref01_Text (t.2.1, ())) fun x0 => (ob (α := ((Unit × ByteArray × Bool × List T × List T × Unit) ⊕ Empty)) (bif t.1 then (ob (catS (ByteArray.mk #[45]) x0.1) fun x1 => (some (Sum.inl ((), (x1, (t.1, (t.2.1, (t.2.2.1, ())))))))) else (some (Sum.inl ((), (x0.1, (t.1, (t.2.1, (t.2.2.1, ())))))))) fun q2 => onS q2 (fun t3 => (ob (α := ((ByteArray × Unit) ⊕ Empty)) (bif (ltI (0 : Int) (lenL t3.2.2.2.2.1)) then (ob (u_ref01_Text (t3.2.2.2.2.1, ())) fun x4 => (ob (catS (ByteArray.mk #[47]) x4.1) fun x5 => (ob (catS t3.2.1 x5) fun x6 => (some (Sum.inl (x6, ())))))) else (some (Sum.inl (t3.2.1, ())))) fun q7 => onS q7 (fun t8 => (some (t8.1, ()))) fun q9 => noS q9)) fun q10 => noS q10))
def h_ref02_Text : HT := (.seq .leaf (.seq .leaf (.seq (.join [(AEx.normal, { items := [.slot 1, .slot 3, .box 1 3], shapes := [.lit (C.box 1 0), .str, .bool, .sl 1, .sl 1] })] .leaf) (.seq (.join [(AEx.normal, { items := [.slot 3], shapes := [.str] })] .leaf) .leaf))))
theorem ok_ref02_Text : TabOK Try.prog [40] g_ref02_Text := (TabOK.cons (fun _ => ⟨_, Try.func40, by kernel_rfl, by kernel_rfl⟩) k_ref01_Text (calleeOf_nat _ _) (fun _ => (calleeOf_pure (by kernel_rfl))) (by kernel_rfl) (fun _ => callK_framed (calleeOf_nat _ _) rfl rfl) (by kernel_rfl) TabOK.nil)
theorem e_ref02_Text : ∀ t, bodyG Try.prog g_ref02_Text [40] h_ref02_Text Try.f16 sg_ref02_Text t = u_ref02_Text t := by
  intro t
  kernel_rfl
theorem k_ref02_Text : (calleeOf sg_ref02_Text u_ref02_Text).OK Try.prog 16 := calleeG_ok mixed ok_ref02_Text Try.func16 (by kernel_rfl) (by kernel_rfl) e_ref02_Text

/-! math_bits_Len32 -/
def sg_math_bits_Len32 : Sig := { na := 1, np := 0, hin := { items := [.slot 0], shapes := [.int IntKind.u32] }, nres := 1, kept := [], nnew := 0, hout := { items := [.slot 0], shapes := [.int IntKind.i64] }, nob := 38 }
noncomputable def g_math_bits_Len32 : List (Go.FuncId × Callee) := []
noncomputable def u_math_bits_Len32 (t : (Int × Unit)) : Option (Int × Unit) :=
  (ob (α := ((Int × Int × Unit) ⊕ Empty)) (bif (leI (65536 : Int) t.1) then (ob (nn (16 : Int)) fun x0 => (some (Sum.inl ((shrI IntKind.u32 t.1 x0), ((16 : Int), ()))))) else (some (Sum.inl (t.1, ((0 : Int), ()))))) fun q1 => onS q1 (fun t2 => (ob (α := ((Int × Int × Unit) ⊕ Empty)) (bif (leI (256 : Int) t2.1) then (ob (nn (8 : Int)) fun x3 => (some (Sum.inl ((shrI IntKind.u32 t2.1 x3), ((wr IntKind.i64 (addI t2.2.1 (8 : Int))), ()))))) else (some (Sum.inl (t2.1, (t2.2.1, ()))))) fun q4 => onS q4 (fun t5 => (ob (idxS (ByteArray.mk #[0, 1, 2, 2, 3, 3, 3, 3, 4, 4, 4, 4, 4, 4, 4, 4, 5, 5, 5, 5, 5, 5, 5, 5, 5, 5, 5, 5, 5, 5, 5, 5, 6, 6, 6, 6, 6, 6, 6, 6, 6, 6, 6, 6, 6, 6, 6, 6, 6, 6, 6, 6, 6, 6, 6, 6, 6, 6, 6, 6, 6, 6, 6, 6, 7, 7, 7, 7, 7, 7, 7, 7, 7, 7, 7, 7, 7, 7, 7, 7, 7, 7, 7, 7, 7, 7, 7, 7, 7, 7, 7, 7, 7, 7, 7, 7, 7, 7, 7, 7, 7, 7, 7, 7, 7, 7, 7, 7, 7, 7, 7, 7, 7, 7, 7, 7, 7, 7, 7, 7, 7, 7, 7, 7, 7, 7, 7, 7, 8, 8, 8, 8, 8, 8, 8, 8, 8, 8, 8, 8, 8, 8, 8, 8, 8, 8, 8, 8, 8, 8, 8, 8, 8, 8, 8, 8, 8, 8, 8, 8, 8, 8, 8, 8, 8, 8, 8, 8, 8, 8, 8, 8, 8, 8, 8, 8, 8, 8, 8, 8, 8, 8, 8, 8, 8, 8, 8, 8, 8, 8, 8, 8, 8, 8, 8, 8, 8, 8, 8, 8, 8, 8, 8, 8, 8, 8, 8, 8, 8, 8, 8, 8, 8, 8, 8, 8, 8, 8, 8, 8, 8, 8, 8, 8, 8, 8, 8, 8, 8, 8, 8, 8, 8, 8, 8, 8, 8, 8, 8, 8, 8, 8, 8, 8, 8, 8, 8, 8, 8, 8, 8, 8, 8, 8, 8, 8]) (wr IntKind.u8 t5.1)) fun x6 => (some ((wr IntKind.i64 (addI t5.2.1 (wr IntKind.i64 x6))), ())))) fun q7 => noS q7)) fun q8 => noS q8)
def h_math_bits_Len32 : HT := (.seq .leaf (.seq (.join [(AEx.normal, { items := [.slot 0, .slot 2], shapes := [.int IntKind.u32, .int IntKind.i64] })] .leaf) (.seq (.join [(AEx.normal, { items := [.slot 0, .slot 2], shapes := [.int IntKind.u32, .int IntKind.i64] })] .leaf) .leaf)))
theorem ok_math_bits_Len32 : TabOK Try.prog [] g_math_bits_Len32 := TabOK.nil
theorem e_math_bits_Len32 : ∀ t, bodyG Try.prog g_math_bits_Len32 [] h_math_bits_Len32 Try.f82 sg_math_bits_Len32 t = u_math_bits_Len32 t := by
  intro t
  kernel_rfl
theorem k_math_bits_Len32 : (calleeOf sg_math_bits_Len32 u_math_bits_Len32).OK Try.prog 82 := calleeG_ok mixed ok_math_bits_Len32 Try.func82 (by kernel_rfl) (by kernel_rfl) e_math_bits_Len32

/-! natural_trim -/
def sg_natural_trim : Sig := { na := 1, np := 0, hin := { items := [.slot 0], shapes := [.sl 1] }, nres := 1, kept := [], nnew := 0, hout := { items := [.slot 0], shapes := [.sl 1] }, nob := 42 }
noncomputable def g_natural_trim : List (Go.FuncId × Callee) := []
noncomputable def u_natural_trim_l0 (s0 : (List T × Int × Unit)) : Option ((List T × Int × Unit) ⊕ ((List T × Int × Unit) ⊕ Empty)) :=
  (bif (ltI (0 : Int) s0.2.1) then (ob (idxL s0.1 (wr IntKind.i64 (subI s0.2.1 (1 : Int)))) fun x1 => (ob (T.int? IntKind.u32 (T.cell x1 0)) fun x2 => (bif (eqI x2 (0 : Int)) then (some (Sum.inl (s0.1, ((wr IntKind.i64 (subI s0.2.1 (1 : Int))), ())))) else (some (Sum.inr (Sum.inl (s0.1, (s0.2.1, ())))))))) else (some (Sum.inr (Sum.inl (s0.1, (s0.2.1, ()))))))
noncomputable def u_natural_trim (t : ((List T) × Unit)) : Option ((List T) × Unit) :=
  (ob (loopU u_natural_trim_l0 (t.1, ((lenL t.1), ()))) fun q3 => onS q3 (fun t4 => (ob (cutL t4.1 (0 : Int) t4.2.1) fun x5 => (some (x5, ())))) fun q6 => noS q6)
def h_natural_trim : HT := (.seq .leaf (.seq .leaf (.seq (.one (.loop { items := [.slot 0, .slot 3], shapes := [.sl 1, .int IntKind.i64] } [((AEx.exit 0), { items := [.slot 0, .slot 3], shapes := [.sl 1, .int IntKind.i64] })] .leaf)) .leaf)))
theorem ok_natural_trim : TabOK Try.prog [] g_natural_trim := TabOK.nil
theorem e_natural_trim : ∀ t, bodyG Try.prog g_natural_trim [] h_natural_trim Try.f74 sg_natural_trim t = u_natural_trim t := by
  intro t
  kernel_rfl
theorem k_natural_trim : (calleeOf sg_natural_trim u_natural_trim).OK Try.prog 74 := calleeG_ok mixed ok_natural_trim Try.func74 (by kernel_rfl) (by kernel_rfl) e_natural_trim

/-! natural_Bits -/
def sg_natural_Bits : Sig := { na := 1, np := 0, hin := { items := [.slot 0], shapes := [.sl 1] }, nres := 1, kept := [], nnew := 0, hout := { items := [.slot 0], shapes := [.int IntKind.i64] }, nob := 40 }
noncomputable def g_natural_Bits : List (Go.FuncId × Callee) := [(74, (calleeOf sg_natural_trim u_natural_trim)), (82, (calleeOf sg_math_bits_Len32 u_math_bits_Len32))]
noncomputable def u_natural_Bits (t : ((List T) × Unit)) : Option (Int × Unit) :=
  (ob (u_natural_trim (t.1, ())) fun x0 => (bif (eqI (lenL x0.1) (0 : Int)) then (some ((0 : Int), ())) else (ob (idxL x0.1 (wr IntKind.i64 (subI (lenL x0.1) (1 : Int)))) fun x1 => (ob (T.int? IntKind.u32 (T.cell x1 0)) fun x2 => (ob (u_math_bits_Len32 (x2, ())) fun x3 => (some ((wr IntKind.i64 (addI (wr IntKind.i64 (mulI (32 : Int) (wr IntKind.i64 (subI (lenL x0.1) (1 : Int))))) x3.1)), ())))))))
def h_natural_Bits : HT := .leaf
theorem ok_natural_Bits : TabOK Try.prog [82] g_natural_Bits := (TabOK.cons (fun _ => ⟨_, Try.func74, by kernel_rfl, by kernel_rfl⟩) k_natural_trim (calleeOf_nat _ _) (fun h => by cases h) (by kernel_rfl) (fun _ => callK_framed (calleeOf_nat _ _) rfl rfl) (by kernel_rfl) (TabOK.cons (fun _ => ⟨_, Try.func82, by kernel_rfl, by kernel_rfl⟩) k_math_bits_Len32 (calleeOf_nat _ _) (fun _ => (calleeOf_pure (by kernel_rfl))) (by kernel_rfl) (fun _ => callK_framed (calleeOf_nat _ _) rfl rfl) (by kernel_rfl) TabOK.nil))
theorem e_natural_Bits : ∀ t, bodyG Try.prog g_natural_Bits [82] h_natural_Bits Try.f55 sg_natural_Bits t = u_natural_Bits t := by
  intro t
  kernel_rfl
theorem k_natural_Bits : (calleeOf sg_natural_Bits u_natural_Bits).OK Try.prog 55 := calleeG_ok mixed ok_natural_Bits Try.func55 (by kernel_rfl) (by kernel_rfl) e_natural_Bits

/-! natural_Cmp -/
def sg_natural_Cmp : Sig := { na := 2, np := 0, hin := { items := [.slot 0, .slot 1], shapes := [.sl 1, .sl 1] }, nres := 1, kept := [], nnew := 0, hout := { items := [.slot 0], shapes := [.int IntKind.i64] }, nob := 90 }
noncomputable def g_natural_Cmp : List (Go.FuncId × Callee) := [(74, (calleeOf sg_natural_trim u_natural_trim))]
noncomputable def u_natural_Cmp_l0 (s2 : (List T × List T × Int × Unit)) : Option ((List T × List T × Int × Unit) ⊕ ((Int × Unit) ⊕ ((Unit) ⊕ Empty))) :=
  (bif (leI (0 : Int) s2.2.2.1) then (ob (idxL s2.1 s2.2.2.1) fun x3 => (ob (idxL s2.2.1 s2.2.2.1) fun x4 => (ob (T.int? IntKind.u32 (T.cell x3 0)) fun x5 => (ob (T.int? IntKind.u32 (T.cell x4 0)) fun x6 => (bif (Bool.not (eqI x5 x6)) then (ob (idxL s2.1 s2.2.2.1) fun x7 => (ob (idxL s2.2.1 s2.2.2.1) fun x8 => (ob (T.int? IntKind.u32 (T.cell x7 0)) fun x9 => (ob (T.int? IntKind.u32 (T.cell x8 0)) fun x10 => (bif (ltI x9 x10) then (some (Sum.inr (Sum.inl ((-1 : Int), ())))) else (some (Sum.inr (Sum.inl ((1 : Int), ()))))))))) else (some (Sum.inl (s2.1, (s2.2.1, ((wr IntKind.i64 (subI s2.2.2.1 (1 : Int))), ())))))))))) else (some (Sum.inr (Sum.inr (Sum.inl ())))))
noncomputable def u_natural_Cmp (t : ((List T) × ((List T) × Unit))) : Option (Int × Unit) :=
  (ob (u_natural_trim (t.1, ())) fun x0 => (ob (u_natural_trim (t.2.1, ())) fun x1 => (bif (Bool.not (eqI (lenL x0.1) (lenL x1.1))) then (bif (ltI (lenL x0.1) (lenL x1.1)) then (some ((-1 : Int), ())) else (some ((1 : Int), ()))) else (ob (loopU u_natural_Cmp_l0 (x0.1, (x1.1, ((wr IntKind.i64 (subI (lenL x0.1) (1 : Int))), ())))) fun q11 => onS q11 (fun t12 => (some (t12.1, ()))) fun q13 => onS q13 (fun t14 => (some ((0 : Int), ()))) fun q15 => noS q15))))
def h_natural_Cmp : HT := (.seq .leaf (.seq .leaf (.seq .leaf (.seq (.seq .leaf (.one (.loop { items := [.slot 0, .slot 1, .slot 5], shapes := [.sl 1, .sl 1, .int IntKind.i64] } [(AEx.ret, { items := [.slot 4], shapes := [.int IntKind.i64] }), ((AEx.exit 0), { items := [], shapes := [] })] .leaf))) .leaf))))
theorem ok_natural_Cmp : TabOK Try.prog [] g_natural_Cmp := (TabOK.cons (fun _ => ⟨_, Try.func74, by kernel_rfl, by kernel_rfl⟩) k_natural_trim (calleeOf_nat _ _) (fun h => by cases h) (by kernel_rfl) (fun _ => callK_framed (calleeOf_nat _ _) rfl rfl) (by kernel_rfl) TabOK.nil)
theorem e_natural_Cmp : ∀ t, bodyG Try.prog g_natural_Cmp [] h_natural_Cmp Try.f88 sg_natural_Cmp t = u_natural_Cmp t := by
  intro t
  kernel_rfl
theorem k_natural_Cmp : (calleeOf sg_natural_Cmp u_natural_Cmp).OK Try.prog 88 := calleeG_ok mixed ok_natural_Cmp Try.func88 (by kernel_rfl) (by kernel_rfl) e_natural_Cmp

/-! natural_Valid -/
def sg_natural_Valid : Sig := { na := 1, np := 0, hin := { items := [.slot 0], shapes := [.sl 1] }, nres := 1, kept := [], nnew := 0, hout := { items := [.slot 0], shapes := [.bool] }, nob := 30 }
noncomputable def g_natural_Valid : List (Go.FuncId × Callee) := []
noncomputable def u_natural_Valid (t : ((List T) × Unit)) : Option (Bool × Unit) :=
  (bif (eqI (lenL t.1) (0 : Int)) then (some (Bool.true, ())) else (ob (idxL t.1 (wr IntKind.i64 (subI (lenL t.1) (1 : Int)))) fun x0 => (ob (T.int? IntKind.u32 (T.cell x0 0)) fun x1 => (some ((Bool.not (eqI x1 (0 : Int))), ())))))
def h_natural_Valid : HT := .leaf
theorem ok_natural_Valid : TabOK Try.prog [] g_natural_Valid := TabOK.nil
theorem e_natural_Valid : ∀ t, bodyG Try.prog g_natural_Valid [] h_natural_Valid Try.f54 sg_natural_Valid t = u_natural_Valid t := by
  intro t
  kernel_rfl
theorem k_natural_Valid : (calleeOf sg_natural_Valid u_natural_Valid).OK Try.prog 54 := calleeG_ok mixed ok_natural_Valid Try.func54 (by kernel_rfl) (by kernel_rfl) e_natural_Valid

/-! natural_word -/
def sg_natural_word : Sig := { na := 1, np := 0, hin := { items := [.slot 0], shapes := [.sl 1] }, nres := 1, kept := [], nnew := 0, hout := { items := [.slot 0], shapes := [.int IntKind.u64] }, nob := 42 }
noncomputable def g_natural_word : List (Go.FuncId × Callee) := []
noncomputable def u_natural_word_l0 (s0 : (List T × Int × Int × Unit)) : Option ((List T × Int × Int × Unit) ⊕ ((Int × Unit) ⊕ Empty)) :=
  (bif (leI (0 : Int) s0.2.2.1) then (ob (nn (32 : Int)) fun x1 => (ob (idxL s0.1 s0.2.2.1) fun x2 => (ob (T.anyInt? (T.cell x2 0)) fun x3 => (some (Sum.inl (s0.1, ((bitI Go.BinOp.or IntKind.u64 (wr IntKind.u64 (shlI IntKind.u64 s0.2.1 x1)) (wr IntKind.u64 x3)), ((wr IntKind.i64 (subI s0.2.2.1 (1 : Int))), ())))))))) else (some (Sum.inr (Sum.inl (s0.2.1, ())))))
noncomputable def u_natural_word (t : ((List T) × Unit)) : Option (Int × Unit) :=
  (ob (loopU u_natural_word_l0 (t.1, ((0 : Int), ((wr IntKind.i64 (subI (lenL t.1) (1 : Int))), ())))) fun q4 => onS q4 (fun t5 => (some (t5.1, ()))) fun q6 => noS q6)
def h_natural_word : HT := (.seq .leaf (.seq .leaf (.seq (.seq .leaf (.one (.loop { items := [.slot 0, .slot 3, .slot 4], shapes := [.sl 1, .int IntKind.u64, .int IntKind.i64] } [((AEx.exit 0), { items := [.slot 3], shapes := [.int IntKind.u64] })] .leaf))) .leaf)))
theorem ok_natural_word : TabOK Try.prog [] g_natural_word := TabOK.nil
theorem e_natural_word : ∀ t, bodyG Try.prog g_natural_word [] h_natural_word Try.f84 sg_natural_word t = u_natural_word t := by
  intro t
  kernel_rfl
theorem k_natural_word : (calleeOf sg_natural_word u_natural_word).OK Try.prog 84 := calleeG_ok mixed ok_natural_word Try.func84 (by kernel_rfl) (by kernel_rfl) e_natural_word

/-! natural_Of -/
def sg_natural_Of : Sig := { na := 1, np := 0, hin := { items := [.slot 0], shapes := [.int IntKind.u64] }, nres := 1, kept := [], nnew := 0, hout := { items := [.slot 0], shapes := [.sl 1] }, nob := 20 }
noncomputable def g_natural_Of : List (Go.FuncId × Callee) := [(74, (calleeOf sg_natural_trim u_natural_trim))]
noncomputable def u_natural_Of (t : (Int × Unit)) : Option ((List T) × Unit) :=
  (ob (nn (32 : Int)) fun x0 => (ob (u_natural_trim ([(T.v (Value.int IntKind.u32 (wr IntKind.u32 t.1))), (T.v (Value.int IntKind.u32 (wr IntKind.u32 (shrI IntKind.u64 t.1 x0))))], ())) fun x1 => (some (x1.1, ()))))
def h_natural_Of : HT := .leaf
theorem ok_natural_Of : TabOK Try.prog [] g_natural_Of := (TabOK.cons (fun _ => ⟨_, Try.func74, by kernel_rfl, by kernel_rfl⟩) k_natural_trim (calleeOf_nat _ _) (fun h => by cases h) (by kernel_rfl) (fun _ => callK_framed (calleeOf_nat _ _) rfl rfl) (by kernel_rfl) TabOK.nil)
theorem e_natural_Of : ∀ t, bodyG Try.prog g_natural_Of [] h_natural_Of Try.f85 sg_natural_Of t = u_natural_Of t := by
  intro t
  kernel_rfl
theorem k_natural_Of : (calleeOf sg_natural_Of u_natural_Of).OK Try.prog 85 := calleeG_ok mixed ok_natural_Of Try.func85 (by kernel_rfl) (by kernel_rfl) e_natural_Of

/-! natural_small -/
def sg_natural_small : Sig := { na := 2, np := 0, hin := { items := [.slot 0, .slot 1], shapes := [.sl 1, .int IntKind.u32] }, nres := 2, kept := [], nnew := 0, hout := { items := [.slot 0, .slot 1], shapes := [.sl 1, .int IntKind.u32] }, nob := 86 }
noncomputable def g_natural_small : List (Go.FuncId × Callee) := [(74, (calleeOf sg_natural_trim u_natural_trim))]
noncomputable def u_natural_small_l0 (s1 : (List T × Int × List T × Int × Int × Unit)) : Option ((List T × Int × List T × Int × Int × Unit) ⊕ ((List T × Int × Unit) ⊕ Empty)) :=
  (bif (leI (0 : Int) s1.2.2.2.2.1) then (ob (nn (32 : Int)) fun x2 => (ob (idxL s1.1 s1.2.2.2.2.1) fun x3 => (ob (T.anyInt? (T.cell x3 0)) fun x4 => (ob (nz (wr IntKind.u64 s1.2.1)) fun x5 => (ob (chkI (lenL s1.2.2.1) s1.2.2.2.2.1) fun x6 => (ob (idxN s1.2.2.1 x6) fun x7 => (ob (nz (wr IntKind.u64 s1.2.1)) fun x8 => (some (Sum.inl (s1.1, (s1.2.1, ((List.set s1.2.2.1 x6 (T.upd 1 x7 0 [(T.v (Value.int IntKind.u32 (wr IntKind.u32 (wr IntKind.u64 (divI (bitI Go.BinOp.or IntKind.u64 (wr IntKind.u64 (shlI IntKind.u64 s1.2.2.2.1 x2)) (wr IntKind.u64 x4)) x5)))))])), ((modI (bitI Go.BinOp.or IntKind.u64 (wr IntKind.u64 (shlI IntKind.u64 s1.2.2.2.1 x2)) (wr IntKind.u64 x4)) x8), ((wr IntKind.i64 (subI s1.2.2.2.2.1 (1 : Int))), ())))))))))))))) else (some (Sum.inr (Sum.inl (s1.2.2.1, (s1.2.2.2.1, ()))))))
noncomputable def u_natural_small (t : ((List T) × (Int × Unit))) : Option ((List T) × (Int × Unit)) :=
  (ob (mkLen (lenL t.1) (lenL t.1) 4) fun x0 => (ob (loopU u_natural_small_l0 (t.1, (t.2.1, ((repL x0.1 (T.v (Value.int IntKind.u32 (0 : Int)))), ((0 : Int), ((wr IntKind.i64 (subI (lenL t.1) (1 : Int))), ())))))) fun q9 => onS q9 (fun t10 => (ob (u_natural_trim (t10.1, ())) fun x11 => (some (x11.1, ((wr IntKind.u32 t10.2.1), ()))))) fun q12 => noS q12))
def h_natural_small : HT := (.seq .leaf (.seq .leaf (.seq .leaf (.seq (.seq .leaf (.one (.loop { items := [.slot 0, .slot 1, .slot 6, .slot 7, .slot 8], shapes := [.sl 1, .int IntKind.u32, .row 81 1 11, .int IntKind.u64, .int IntKind.i64] } [((AEx.exit 0), { items := [.slot 6, .slot 7], shapes := [.row 81 1 11, .int IntKind.u64] })] .leaf))) .leaf))))
theorem ok_natural_small : TabOK Try.prog [] g_natural_small := (TabOK.cons (fun _ => ⟨_, Try.func74, by kernel_rfl, by kernel_rfl⟩) k_natural_trim (calleeOf_nat _ _) (fun h => by cases h) (by kernel_rfl) (fun _ => callK_framed (calleeOf_nat _ _) rfl rfl) (by kernel_rfl) TabOK.nil)
theorem e_natural_small : ∀ t, bodyG Try.prog g_natural_small [] h_natural_small Try.f90 sg_natural_small t = u_natural_small t := by
  intro t
  kernel_rfl
theorem k_natural_small : (calleeOf sg_natural_small u_natural_small).OK Try.prog 90 := calleeG_ok mixed ok_natural_small Try.func90 (by kernel_rfl) (by kernel_rfl) e_natural_small

/-! natural_raise -/
def sg_natural_raise : Sig := { na := 2, np := 0, hin := { items := [.slot 0, .slot 1], shapes := [.sl 1, .int IntKind.i64] }, nres := 1, kept := [], nnew := 0, hout := { items := [.slot 0], shapes := [.sl 1] }, nob := 82 }
noncomputable def g_natural_raise : List (Go.FuncId × Callee) := []
noncomputable def u_natural_raise_l0 (s1 : (List T × Int × List T × Int × List T × Int × Int × Unit)) : Option ((List T × Int × List T × Int × List T × Int × Int × Unit) ⊕ ((List T × List T × Int × Unit) ⊕ Empty)) :=
  (bif (ltI s1.2.2.2.2.2.2.1 s1.2.2.2.2.2.1) then (ob (idxL s1.2.2.2.2.1 s1.2.2.2.2.2.2.1) fun x2 => (ob (T.anyInt? (T.cell x2 0)) fun x3 => (ob (nn s1.2.1) fun x4 => (ob (chkI (lenL s1.2.2.1) s1.2.2.2.2.2.2.1) fun x5 => (ob (idxN s1.2.2.1 x5) fun x6 => (ob (nn (32 : Int)) fun x7 => (some (Sum.inl (s1.1, (s1.2.1, ((List.set s1.2.2.1 x5 (T.upd 1 x6 0 [(T.v (Value.int IntKind.u32 (wr IntKind.u32 (bitI Go.BinOp.or IntKind.u64 s1.2.2.2.1 (wr IntKind.u64 (shlI IntKind.u64 (wr IntKind.u64 x3) x4))))))])), ((shrI IntKind.u64 (bitI Go.BinOp.or IntKind.u64 s1.2.2.2.1 (wr IntKind.u64 (shlI IntKind.u64 (wr IntKind.u64 x3) x4))) x7), (s1.2.2.2.2.1, (s1.2.2.2.2.2.1, ((wr IntKind.i64 (addI s1.2.2.2.2.2.2.1 (1 : Int))), ()))))))))))))))) else (some (Sum.inr (Sum.inl (s1.1, (s1.2.2.1, (s1.2.2.2.1, ())))))))
noncomputable def u_natural_raise (t : ((List T) × (Int × Unit))) : Option ((List T) × Unit) :=
  (ob (mkLen (wr IntKind.i64 (addI (lenL t.1) (1 : Int))) (wr IntKind.i64 (addI (lenL t.1) (1 : Int))) 4) fun x0 => (ob (loopU u_natural_raise_l0 (t.1, (t.2.1, ((repL x0.1 (T.v (Value.int IntKind.u32 (0 : Int)))), ((0 : Int), (t.1, ((lenL t.1), ((0 : Int), ())))))))) fun q8 => onS q8 (fun t9 => (ob (chkI (lenL t9.2.1) (lenL t9.1)) fun x10 => (ob (idxN t9.2.1 x10) fun x11 => (some ((List.set t9.2.1 x10 (T.upd 1 x11 0 [(T.v (Value.int IntKind.u32 (wr IntKind.u32 t9.2.2.1)))])), ()))))) fun q12 => noS q12))
def h_natural_raise : HT := (.seq .leaf (.seq .leaf (.seq .leaf (.seq (.seq .leaf (.one (.loop { items := [.slot 0, .slot 1, .slot 5, .slot 6, .slot 13, .slot 14, .slot 15], shapes := [.sl 1, .int IntKind.i64, .row 81 1 12, .int IntKind.u64, .sl 1, .int IntKind.i64, .int IntKind.i64] } [((AEx.exit 0), { items := [.slot 0, .slot 5, .slot 6], shapes := [.sl 1, .row 81 1 12, .int IntKind.u64] })] .leaf))) .leaf))))
theorem ok_natural_raise : TabOK Try.prog [] g_natural_raise := TabOK.nil
theorem e_natural_raise : ∀ t, bodyG Try.prog g_natural_raise [] h_natural_raise Try.f92 sg_natural_raise t = u_natural_raise t := by
  intro t
  kernel_rfl
theorem k_natural_raise : (calleeOf sg_natural_raise u_natural_raise).OK Try.prog 92 := calleeG_ok mixed ok_natural_raise Try.func92 (by kernel_rfl) (by kernel_rfl) e_natural_raise

/-! natural_Gcd -/
def sg_natural_Gcd : Sig := { na := 2, np := 0, hin := { items := [.slot 0, .slot 1], shapes := [.sl 1, .sl 1] }, nres := 1, kept := [], nnew := 0, hout := { items := [.slot 0], shapes := [.sl 1] }, nob := 122 }
noncomputable def g_natural_Gcd : List (Go.FuncId × Callee) := [(74, (calleeOf sg_natural_trim u_natural_trim)), (84, (calleeOf sg_natural_word u_natural_word)), (85, (calleeOf sg_natural_Of u_natural_Of))]
noncomputable def u_natural_Gcd (t : ((List T) × ((List T) × Unit))) : Option ((List T) × Unit) :=
  (ob (u_natural_trim (t.1, ())) fun x0 => none)
def h_natural_Gcd : HT := (.seq .leaf (.seq .leaf (.seq (.one (.loop { items := [], shapes := [] } [] .leaf)) (.seq .leaf (.seq (.join [] .leaf) (.seq .leaf (.seq (.one (.loop { items := [], shapes := [] } [] .leaf)) .leaf)))))))
theorem ok_natural_Gcd : TabOK Try.prog [1000083, 1000073, 84] g_natural_Gcd := (TabOK.cons (fun _ => ⟨_, Try.func74, by kernel_rfl, by kernel_rfl⟩) k_natural_trim (calleeOf_nat _ _) (fun h => by cases h) (by kernel_rfl) (fun _ => callK_framed (calleeOf_nat _ _) rfl rfl) (by kernel_rfl) (TabOK.cons (fun _ => ⟨_, Try.func84, by kernel_rfl, by kernel_rfl⟩) k_natural_word (calleeOf_nat _ _) (fun _ => (calleeOf_pure (by kernel_rfl))) (by kernel_rfl) (fun _ => callK_framed (calleeOf_nat _ _) rfl rfl) (by kernel_rfl) (TabOK.cons (fun _ => ⟨_, Try.func85, by kernel_rfl, by kernel_rfl⟩) k_natural_Of (calleeOf_nat _ _) (fun h => by cases h) (by kernel_rfl) (fun _ => callK_framed (calleeOf_nat _ _) rfl rfl) (by kernel_rfl) TabOK.nil)))
theorem e_natural_Gcd : ∀ t, bodyG Try.prog g_natural_Gcd [1000083, 1000073, 84] h_natural_Gcd Try.f56 sg_natural_Gcd t = u_natural_Gcd t := by
  intro t
  kernel_rfl
theorem k_natural_Gcd : (calleeOf sg_natural_Gcd u_natural_Gcd).OK Try.prog 56 := calleeG_ok mixed ok_natural_Gcd Try.func56 (by kernel_rfl) (by kernel_rfl) e_natural_Gcd

/-! rational_word -/
def sg_rational_word : Sig := { na := 1, np := 0, hin := { items := [.slot 0], shapes := [.sl 1] }, nres := 1, kept := [], nnew := 0, hout := { items := [.slot 0], shapes := [.int IntKind.u64] }, nob := 42 }
noncomputable def g_rational_word : List (Go.FuncId × Callee) := []
noncomputable def u_rational_word_l0 (s0 : (List T × Int × Int × Unit)) : Option ((List T × Int × Int × Unit) ⊕ ((Int × Unit) ⊕ Empty)) :=
  (bif (leI (0 : Int) s0.2.2.1) then (ob (nn (32 : Int)) fun x1 => (ob (idxL s0.1 s0.2.2.1) fun x2 => (ob (T.anyInt? (T.cell x2 0)) fun x3 => (some (Sum.inl (s0.1, ((bitI Go.BinOp.or IntKind.u64 (wr IntKind.u64 (shlI IntKind.u64 s0.2.1 x1)) (wr IntKind.u64 x3)), ((wr IntKind.i64 (subI s0.2.2.1 (1 : Int))), ())))))))) else (some (Sum.inr (Sum.inl (s0.2.1, ())))))
noncomputable def u_rational_word (t : ((List T) × Unit)) : Option (Int × Unit) :=
  (ob (loopU u_rational_word_l0 (t.1, ((0 : Int), ((wr IntKind.i64 (subI (lenL t.1) (1 : Int))), ())))) fun q4 => onS q4 (fun t5 => (some (t5.1, ()))) fun q6 => noS q6)
def h_rational_word : HT := (.seq .leaf (.seq .leaf (.seq (.seq .leaf (.one (.loop { items := [.slot 0, .slot 3, .slot 4], shapes := [.sl 1, .int IntKind.u64, .int IntKind.i64] } [((AEx.exit 0), { items := [.slot 3], shapes := [.int IntKind.u64] })] .leaf))) .leaf)))
theorem ok_rational_word : TabOK Try.prog [] g_rational_word := TabOK.nil
theorem e_rational_word : ∀ t, bodyG Try.prog g_rational_word [] h_rational_word Try.f70 sg_rational_word t = u_rational_word t := by
  intro t
  kernel_rfl
theorem k_rational_word : (calleeOf sg_rational_word u_rational_word).OK Try.prog 70 := calleeG_ok mixed ok_rational_word Try.func70 (by kernel_rfl) (by kernel_rfl) e_rational_word

/-! rational_divisor -/
def sg_rational_divisor : Sig := { na := 2, np := 0, hin := { items := [.slot 0, .slot 1], shapes := [.int IntKind.u64, .int IntKind.u64] }, nres := 1, kept := [], nnew := 0, hout := { items := [.slot 0], shapes := [.int IntKind.u64] }, nob := 24 }
noncomputable def g_rational_divisor : List (Go.FuncId × Callee) := []
noncomputable def u_rational_divisor_l0 (s0 : (Int × Int × Unit)) : Option ((Int × Int × Unit) ⊕ ((Int × Unit) ⊕ Empty)) :=
  (bif (Bool.not (eqI s0.2.1 (0 : Int))) then (ob (nz s0.2.1) fun x1 => (some (Sum.inl (s0.2.1, ((modI s0.1 x1), ()))))) else (some (Sum.inr (Sum.inl (s0.1, ())))))
noncomputable def u_rational_divisor (t : (Int × (Int × Unit))) : Option (Int × Unit) :=
  (ob (loopU u_rational_divisor_l0 (t.1, (t.2.1, ()))) fun q2 => onS q2 (fun t3 => (some (t3.1, ()))) fun q4 => noS q4)
def h_rational_divisor : HT := (.seq .leaf (.seq (.one (.loop { items := [.slot 0, .slot 1], shapes := [.int IntKind.u64, .int IntKind.u64] } [((AEx.exit 0), { items := [.slot 0], shapes := [.int IntKind.u64] })] .leaf)) .leaf))
theorem ok_rational_divisor : TabOK Try.prog [] g_rational_divisor := TabOK.nil
theorem e_rational_divisor : ∀ t, bodyG Try.prog g_rational_divisor [] h_rational_divisor Try.f71 sg_rational_divisor t = u_rational_divisor t := by
  intro t
  kernel_rfl
theorem k_rational_divisor : (calleeOf sg_rational_divisor u_rational_divisor).OK Try.prog 71 := calleeG_ok mixed ok_rational_divisor Try.func71 (by kernel_rfl) (by kernel_rfl) e_rational_divisor

/-! rational_limbs (walked at its calls) -/
noncomputable def g_rational_limbs : List (Go.FuncId × Callee) := []
theorem ok_rational_limbs : TabOK Try.prog [] g_rational_limbs := TabOK.nil

/-! rational_short -/
def sg_rational_short : Sig := { na := 3, np := 0, hin := { items := [.slot 0, .slot 1, .slot 2], shapes := [.bool, .int IntKind.u64, .int IntKind.u64] }, nres := 1, kept := [], nnew := 0, hout := { items := [.aggs 0 3], shapes := [.bool, .sl 1, .sl 1] }, nob := 100 }
noncomputable def g_rational_short : List (Go.FuncId × Callee) := [(71, (calleeOf sg_rational_divisor u_rational_divisor)), (72, (inlC Try.prog g_rational_limbs [] Try.f72))]
noncomputable def u_rational_short (t : (Bool × (Int × (Int × Unit)))) : Option (Bool × ((List T) × ((List T) × Unit))) :=
  (bif (eqI t.2.1 (0 : Int)) then (some (Bool.false, ([], ([], ())))) else (ob (u_rational_divisor (t.2.1, (t.2.2.1, ()))) fun x0 => (ob (nz x0.1) fun x1 => (ob (nz x0.1) fun x2 => (ob (mkLen (4 : Int) (4 : Int) 4) fun x3 => (ob (chkI (lenL (repL x3.1 (T.v (Value.int IntKind.u32 (0 : Int))))) (0 : Int)) fun x4 => (ob (idxN (repL x3.1 (T.v (Value.int IntKind.u32 (0 : Int)))) x4) fun x5 => (ob (nn (32 : Int)) fun x6 => (bif (eqI (shrI IntKind.u64 (wr IntKind.u64 (divI t.2.1 x1)) x6) (0 : Int)) then (ob (cut3 (lenL (List.set (repL x3.1 (T.v (Value.int IntKind.u32 (0 : Int)))) x4 (T.upd 1 x5 0 [(T.v (Value.int IntKind.u32 (wr IntKind.u32 (wr IntKind.u64 (divI t.2.1 x1)))))]))) (0 : Int) (1 : Int) (1 : Int)) fun x7 => (ob (α := ((Unit × Unit × Bool × T × T × Bool × List T × List T × Unit) ⊕ Empty)) (bif (ltI (1 : Int) (wr IntKind.u64 (divI t.2.2.1 x2))) then (ob (cutI (lenL (List.set (repL x3.1 (T.v (Value.int IntKind.u32 (0 : Int)))) x4 (T.upd 1 x5 0 [(T.v (Value.int IntKind.u32 (wr IntKind.u32 (wr IntKind.u64 (divI t.2.1 x1)))))]))) (1 : Int) (lenL (List.set (repL x3.1 (T.v (Value.int IntKind.u32 (0 : Int)))) x4 (T.upd 1 x5 0 [(T.v (Value.int IntKind.u32 (wr IntKind.u32 (wr IntKind.u64 (divI t.2.1 x1)))))])))) fun x8 => (ob (chkI (natI x8.2) (0 : Int)) fun x9 => (ob (idxN (List.set (repL x3.1 (T.v (Value.int IntKind.u32 (0 : Int)))) x4 (T.upd 1 x5 0 [(T.v (Value.int IntKind.u32 (wr IntKind.u32 (wr IntKind.u64 (divI t.2.1 x1)))))])) (addN x8.1 x9)) fun x10 => (ob (nn (32 : Int)) fun x11 => (bif (eqI (shrI IntKind.u64 (wr IntKind.u64 (divI t.2.2.1 x2)) x11) (0 : Int)) then (ob (cut3 (lenL (List.set (List.set (repL x3.1 (T.v (Value.int IntKind.u32 (0 : Int)))) x4 (T.upd 1 x5 0 [(T.v (Value.int IntKind.u32 (wr IntKind.u32 (wr IntKind.u64 (divI t.2.1 x1)))))])) (addN x8.1 x9) (T.upd 1 x10 0 [(T.v (Value.int IntKind.u32 (wr IntKind.u32 (wr IntKind.u64 (divI t.2.2.1 x2)))))]))) (1 : Int) (2 : Int) (2 : Int)) fun x12 => (some (Sum.inl ((), ((), (Bool.false, ((T.v (Value.slice (Option.none) 0 0)), ((T.v (Value.slice (Option.none) 0 0)), (t.1, ((cutN (List.set (List.set (repL x3.1 (T.v (Value.int IntKind.u32 (0 : Int)))) x4 (T.upd 1 x5 0 [(T.v (Value.int IntKind.u32 (wr IntKind.u32 (wr IntKind.u64 (divI t.2.1 x1)))))])) (addN x8.1 x9) (T.upd 1 x10 0 [(T.v (Value.int IntKind.u32 (wr IntKind.u32 (wr IntKind.u64 (divI t.2.2.1 x2)))))])) x7.1 x7.2), ((cutN (List.set (List.set (repL x3.1 (T.v (Value.int IntKind.u32 (0 : Int)))) x4 (T.upd 1 x5 0 [(T.v (Value.int IntKind.u32 (wr IntKind.u32 (wr IntKind.u64 (divI t.2.1 x1)))))])) (addN x8.1 x9) (T.upd 1 x10 0 [(T.v (Value.int IntKind.u32 (wr IntKind.u32 (wr IntKind.u64 (divI t.2.2.1 x2)))))])) x12.1 x12.2), ()))))))))))) else (ob (nn (32 : Int)) fun x13 => (ob (chkI (natI x8.2) (1 : Int)) fun x14 => (ob (idxN (List.set (List.set (repL x3.1 (T.v (Value.int IntKind.u32 (0 : Int)))) x4 (T.upd 1 x5 0 [(T.v (Value.int IntKind.u32 (wr IntKind.u32 (wr IntKind.u64 (divI t.2.1 x1)))))])) (addN x8.1 x9) (T.upd 1 x10 0 [(T.v (Value.int IntKind.u32 (wr IntKind.u32 (wr IntKind.u64 (divI t.2.2.1 x2)))))])) (addN x8.1 x14)) fun x15 => (ob (cut3 (lenL (List.set (List.set (List.set (repL x3.1 (T.v (Value.int IntKind.u32 (0 : Int)))) x4 (T.upd 1 x5 0 [(T.v (Value.int IntKind.u32 (wr IntKind.u32 (wr IntKind.u64 (divI t.2.1 x1)))))])) (addN x8.1 x9) (T.upd 1 x10 0 [(T.v (Value.int IntKind.u32 (wr IntKind.u32 (wr IntKind.u64 (divI t.2.2.1 x2)))))])) (addN x8.1 x14) (T.upd 1 x15 0 [(T.v (Value.int IntKind.u32 (wr IntKind.u32 (shrI IntKind.u64 (wr IntKind.u64 (divI t.2.2.1 x2)) x13))))]))) (1 : Int) (3 : Int) (3 : Int)) fun x16 => (some (Sum.inl ((), ((), (Bool.false, ((T.v (Value.slice (Option.none) 0 0)), ((T.v (Value.slice (Option.none) 0 0)), (t.1, ((cutN (List.set (List.set (List.set (repL x3.1 (T.v (Value.int IntKind.u32 (0 : Int)))) x4 (T.upd 1 x5 0 [(T.v (Value.int IntKind.u32 (wr IntKind.u32 (wr IntKind.u64 (divI t.2.1 x1)))))])) (addN x8.1 x9) (T.upd 1 x10 0 [(T.v (Value.int IntKind.u32 (wr IntKind.u32 (wr IntKind.u64 (divI t.2.2.1 x2)))))])) (addN x8.1 x14) (T.upd 1 x15 0 [(T.v (Value.int IntKind.u32 (wr IntKind.u32 (shrI IntKind.u64 (wr IntKind.u64 (divI t.2.2.1 x2)) x13))))])) x7.1 x7.2), ((cutN (List.set (List.set (List.set (repL x3.1 (T.v (Value.int IntKind.u32 (0 : Int)))) x4 (T.upd 1 x5 0 [(T.v (Value.int IntKind.u32 (wr IntKind.u32 (wr IntKind.u64 (divI t.2.1 x1)))))])) (addN x8.1 x9) (T.upd 1 x10 0 [(T.v (Value.int IntKind.u32 (wr IntKind.u32 (wr IntKind.u64 (divI t.2.2.1 x2)))))])) (addN x8.1 x14) (T.upd 1 x15 0 [(T.v (Value.int IntKind.u32 (wr IntKind.u32 (shrI IntKind.u64 (wr IntKind.u64 (divI t.2.2.1 x2)) x13))))])) x16.1 x16.2), ()))))))))))))))))))) else (some (Sum.inl ((), ((), (Bool.false, ((T.v (Value.slice (Option.none) 0 0)), ((T.v (Value.slice (Option.none) 0 0)), (t.1, ((cutN (List.set (repL x3.1 (T.v (Value.int IntKind.u32 (0 : Int)))) x4 (T.upd 1 x5 0 [(T.v (Value.int IntKind.u32 (wr IntKind.u32 (wr IntKind.u64 (divI t.2.1 x1)))))])) x7.1 x7.2), ([], ()))))))))))) fun q17 => onS q17 (fun t18 => (some (t18.2.2.2.2.2.1, (t18.2.2.2.2.2.2.1, (t18.2.2.2.2.2.2.2.1, ()))))) fun q19 => noS q19)) else (ob (nn (32 : Int)) fun x20 => (ob (chkI (lenL (List.set (repL x3.1 (T.v (Value.int IntKind.u32 (0 : Int)))) x4 (T.upd 1 x5 0 [(T.v (Value.int IntKind.u32 (wr IntKind.u32 (wr IntKind.u64 (divI t.2.1 x1)))))]))) (1 : Int)) fun x21 => (ob (idxN (List.set (repL x3.1 (T.v (Value.int IntKind.u32 (0 : Int)))) x4 (T.upd 1 x5 0 [(T.v (Value.int IntKind.u32 (wr IntKind.u32 (wr IntKind.u64 (divI t.2.1 x1)))))])) x21) fun x22 => (ob (cut3 (lenL (List.set (List.set (repL x3.1 (T.v (Value.int IntKind.u32 (0 : Int)))) x4 (T.upd 1 x5 0 [(T.v (Value.int IntKind.u32 (wr IntKind.u32 (wr IntKind.u64 (divI t.2.1 x1)))))])) x21 (T.upd 1 x22 0 [(T.v (Value.int IntKind.u32 (wr IntKind.u32 (shrI IntKind.u64 (wr IntKind.u64 (divI t.2.1 x1)) x20))))]))) (0 : Int) (2 : Int) (2 : Int)) fun x23 => (ob (α := ((Unit × Unit × Bool × T × T × Bool × List T × List T × Unit) ⊕ Empty)) (bif (ltI (1 : Int) (wr IntKind.u64 (divI t.2.2.1 x2))) then (ob (cutI (lenL (List.set (List.set (repL x3.1 (T.v (Value.int IntKind.u32 (0 : Int)))) x4 (T.upd 1 x5 0 [(T.v (Value.int IntKind.u32 (wr IntKind.u32 (wr IntKind.u64 (divI t.2.1 x1)))))])) x21 (T.upd 1 x22 0 [(T.v (Value.int IntKind.u32 (wr IntKind.u32 (shrI IntKind.u64 (wr IntKind.u64 (divI t.2.1 x1)) x20))))]))) (2 : Int) (lenL (List.set (List.set (repL x3.1 (T.v (Value.int IntKind.u32 (0 : Int)))) x4 (T.upd 1 x5 0 [(T.v (Value.int IntKind.u32 (wr IntKind.u32 (wr IntKind.u64 (divI t.2.1 x1)))))])) x21 (T.upd 1 x22 0 [(T.v (Value.int IntKind.u32 (wr IntKind.u32 (shrI IntKind.u64 (wr IntKind.u64 (divI t.2.1 x1)) x20))))])))) fun x24 => (ob (chkI (natI x24.2) (0 : Int)) fun x25 => (ob (idxN (List.set (List.set (repL x3.1 (T.v (Value.int IntKind.u32 (0 : Int)))) x4 (T.upd 1 x5 0 [(T.v (Value.int IntKind.u32 (wr IntKind.u32 (wr IntKind.u64 (divI t.2.1 x1)))))])) x21 (T.upd 1 x22 0 [(T.v (Value.int IntKind.u32 (wr IntKind.u32 (shrI IntKind.u64 (wr IntKind.u64 (divI t.2.1 x1)) x20))))])) (addN x24.1 x25)) fun x26 => (ob (nn (32 : Int)) fun x27 => (bif (eqI (shrI IntKind.u64 (wr IntKind.u64 (divI t.2.2.1 x2)) x27) (0 : Int)) then (ob (cut3 (lenL (List.set (List.set (List.set (repL x3.1 (T.v (Value.int IntKind.u32 (0 : Int)))) x4 (T.upd 1 x5 0 [(T.v (Value.int IntKind.u32 (wr IntKind.u32 (wr IntKind.u64 (divI t.2.1 x1)))))])) x21 (T.upd 1 x22 0 [(T.v (Value.int IntKind.u32 (wr IntKind.u32 (shrI IntKind.u64 (wr IntKind.u64 (divI t.2.1 x1)) x20))))])) (addN x24.1 x25) (T.upd 1 x26 0 [(T.v (Value.int IntKind.u32 (wr IntKind.u32 (wr IntKind.u64 (divI t.2.2.1 x2)))))]))) (2 : Int) (3 : Int) (3 : Int)) fun x28 => (some (Sum.inl ((), ((), (Bool.false, ((T.v (Value.slice (Option.none) 0 0)), ((T.v (Value.slice (Option.none) 0 0)), (t.1, ((cutN (List.set (List.set (List.set (repL x3.1 (T.v (Value.int IntKind.u32 (0 : Int)))) x4 (T.upd 1 x5 0 [(T.v (Value.int IntKind.u32 (wr IntKind.u32 (wr IntKind.u64 (divI t.2.1 x1)))))])) x21 (T.upd 1 x22 0 [(T.v (Value.int IntKind.u32 (wr IntKind.u32 (shrI IntKind.u64 (wr IntKind.u64 (divI t.2.1 x1)) x20))))])) (addN x24.1 x25) (T.upd 1 x26 0 [(T.v (Value.int IntKind.u32 (wr IntKind.u32 (wr IntKind.u64 (divI t.2.2.1 x2)))))])) x23.1 x23.2), ((cutN (List.set (List.set (List.set (repL x3.1 (T.v (Value.int IntKind.u32 (0 : Int)))) x4 (T.upd 1 x5 0 [(T.v (Value.int IntKind.u32 (wr IntKind.u32 (wr IntKind.u64 (divI t.2.1 x1)))))])) x21 (T.upd 1 x22 0 [(T.v (Value.int IntKind.u32 (wr IntKind.u32 (shrI IntKind.u64 (wr IntKind.u64 (divI t.2.1 x1)) x20))))])) (addN x24.1 x25) (T.upd 1 x26 0 [(T.v (Value.int IntKind.u32 (wr IntKind.u32 (wr IntKind.u64 (divI t.2.2.1 x2)))))])) x28.1 x28.2), ()))))))))))) else (ob (nn (32 : Int)) fun x29 => (ob (chkI (natI x24.2) (1 : Int)) fun x30 => (ob (idxN (List.set (List.set (List.set (repL x3.1 (T.v (Value.int IntKind.u32 (0 : Int)))) x4 (T.upd 1 x5 0 [(T.v (Value.int IntKind.u32 (wr IntKind.u32 (wr IntKind.u64 (divI t.2.1 x1)))))])) x21 (T.upd 1 x22 0 [(T.v (Value.int IntKind.u32 (wr IntKind.u32 (shrI IntKind.u64 (wr IntKind.u64 (divI t.2.1 x1)) x20))))])) (addN x24.1 x25) (T.upd 1 x26 0 [(T.v (Value.int IntKind.u32 (wr IntKind.u32 (wr IntKind.u64 (divI t.2.2.1 x2)))))])) (addN x24.1 x30)) fun x31 => (ob (cut3 (lenL (List.set (List.set (List.set (List.set (repL x3.1 (T.v (Value.int IntKind.u32 (0 : Int)))) x4 (T.upd 1 x5 0 [(T.v (Value.int IntKind.u32 (wr IntKind.u32 (wr IntKind.u64 (divI t.2.1 x1)))))])) x21 (T.upd 1 x22 0 [(T.v (Value.int IntKind.u32 (wr IntKind.u32 (shrI IntKind.u64 (wr IntKind.u64 (divI t.2.1 x1)) x20))))])) (addN x24.1 x25) (T.upd 1 x26 0 [(T.v (Value.int IntKind.u32 (wr IntKind.u32 (wr IntKind.u64 (divI t.2.2.1 x2)))))])) (addN x24.1 x30) (T.upd 1 x31 0 [(T.v (Value.int IntKind.u32 (wr IntKind.u32 (shrI IntKind.u64 (wr IntKind.u64 (divI t.2.2.1 x2)) x29))))]))) (2 : Int) (4 : Int) (4 : Int)) fun x32 => (some (Sum.inl ((), ((), (Bool.false, ((T.v (Value.slice (Option.none) 0 0)), ((T.v (Value.slice (Option.none) 0 0)), (t.1, ((cutN (List.set (List.set (List.set (List.set (repL x3.1 (T.v (Value.int IntKind.u32 (0 : Int)))) x4 (T.upd 1 x5 0 [(T.v (Value.int IntKind.u32 (wr IntKind.u32 (wr IntKind.u64 (divI t.2.1 x1)))))])) x21 (T.upd 1 x22 0 [(T.v (Value.int IntKind.u32 (wr IntKind.u32 (shrI IntKind.u64 (wr IntKind.u64 (divI t.2.1 x1)) x20))))])) (addN x24.1 x25) (T.upd 1 x26 0 [(T.v (Value.int IntKind.u32 (wr IntKind.u32 (wr IntKind.u64 (divI t.2.2.1 x2)))))])) (addN x24.1 x30) (T.upd 1 x31 0 [(T.v (Value.int IntKind.u32 (wr IntKind.u32 (shrI IntKind.u64 (wr IntKind.u64 (divI t.2.2.1 x2)) x29))))])) x23.1 x23.2), ((cutN (List.set (List.set (List.set (List.set (repL x3.1 (T.v (Value.int IntKind.u32 (0 : Int)))) x4 (T.upd 1 x5 0 [(T.v (Value.int IntKind.u32 (wr IntKind.u32 (wr IntKind.u64 (divI t.2.1 x1)))))])) x21 (T.upd 1 x22 0 [(T.v (Value.int IntKind.u32 (wr IntKind.u32 (shrI IntKind.u64 (wr IntKind.u64 (divI t.2.1 x1)) x20))))])) (addN x24.1 x25) (T.upd 1 x26 0 [(T.v (Value.int IntKind.u32 (wr IntKind.u32 (wr IntKind.u64 (divI t.2.2.1 x2)))))])) (addN x24.1 x30) (T.upd 1 x31 0 [(T.v (Value.int IntKind.u32 (wr IntKind.u32 (shrI IntKind.u64 (wr IntKind.u64 (divI t.2.2.1 x2)) x29))))])) x32.1 x32.2), ()))))))))))))))))))) else (some (Sum.inl ((), ((), (Bool.false, ((T.v (Value.slice (Option.none) 0 0)), ((T.v (Value.slice (Option.none) 0 0)), (t.1, ((cutN (List.set (List.set (repL x3.1 (T.v (Value.int IntKind.u32 (0 : Int)))) x4 (T.upd 1 x5 0 [(T.v (Value.int IntKind.u32 (wr IntKind.u32 (wr IntKind.u64 (divI t.2.1 x1)))))])) x21 (T.upd 1 x22 0 [(T.v (Value.int IntKind.u32 (wr IntKind.u32 (shrI IntKind.u64 (wr IntKind.u64 (divI t.2.1 x1)) x20))))])) x23.1 x23.2), ([], ()))))))))))) fun q33 => onS q33 (fun t34 => (some (t34.2.2.2.2.2.1, (t34.2.2.2.2.2.2.1, (t34.2.2.2.2.2.2.2.1, ()))))) fun q35 => noS q35))))))))))))))
def h_rational_short : HT := (.seq .leaf (.seq .leaf (.seq .leaf (.seq .leaf (.seq .leaf (.seq .leaf (.seq .leaf (.seq (.join [(AEx.normal, { items := [.slot 6, .slot 10, .box 6 3, .box 10 3], shapes := [.lit (C.box 6 0), .lit (C.box 10 0), .bool, .tree, .tree, .bool, .sl 1, .sl 1] })] .leaf) .leaf))))))))
theorem ok_rational_short : TabOK Try.prog [71] g_rational_short := (TabOK.cons (fun _ => ⟨_, Try.func71, by kernel_rfl, by kernel_rfl⟩) k_rational_divisor (calleeOf_nat _ _) (fun _ => (calleeOf_pure (by kernel_rfl))) (by kernel_rfl) (fun _ => callK_framed (calleeOf_nat _ _) rfl rfl) (by kernel_rfl) (TabOK.cons (fun _ => ⟨_, Try.func72, by kernel_rfl, by kernel_rfl⟩) (inlC_ok mixed ok_rational_limbs Try.func72 (by kernel_rfl)) (inlC_nat ok_rational_limbs) (fun h => by cases h) (by kernel_rfl) (fun h => by cases h) (by kernel_rfl) TabOK.nil))
theorem e_rational_short : ∀ t, bodyG Try.prog g_rational_short [71] h_rational_short Try.f45 sg_rational_short t = u_rational_short t := by
  intro t
  kernel_rfl
theorem k_rational_short : (calleeOf sg_rational_short u_rational_short).OK Try.prog 45 := calleeG_ok mixed ok_rational_short Try.func45 (by kernel_rfl) (by kernel_rfl) e_rational_short

/-! rational_parts -/
def sg_rational_parts : Sig := { na := 1, np := 0, hin := { items := [.aggs 0 3], shapes := [.bool, .sl 1, .sl 1] }, nres := 3, kept := [], nnew := 0, hout := { items := [.slot 0, .slot 1, .slot 2], shapes := [.int IntKind.u64, .int IntKind.u64, .bool] }, nob := 60 }
noncomputable def g_rational_parts : List (Go.FuncId × Callee) := [(70, (calleeOf sg_rational_word u_rational_word))]
noncomputable def u_rational_parts (t : (Bool × ((List T) × ((List T) × Unit)))) : Option (Int × (Int × (Bool × Unit))) :=
  (bif (ltI (1 : Int) (lenL t.2.1)) then (some ((0 : Int), ((0 : Int), (Bool.false, ())))) else (bif (ltI (1 : Int) (lenL t.2.2.1)) then (some ((0 : Int), ((0 : Int), (Bool.false, ())))) else (ob (α := ((Unit × Int × Bool × List T × List T × Unit) ⊕ Empty)) (bif (eqI (lenL t.2.2.1) (1 : Int)) then (ob (idxL t.2.2.1 (0 : Int)) fun x0 => (ob (T.anyInt? (T.cell x0 0)) fun x1 => (some (Sum.inl ((), ((wr IntKind.u64 x1), (t.1, (t.2.1, (t.2.2.1, ()))))))))) else (some (Sum.inl ((), ((1 : Int), (t.1, (t.2.1, (t.2.2.1, ())))))))) fun q2 => onS q2 (fun t3 => (ob (u_rational_word (t3.2.2.2.1, ())) fun x4 => (some (x4.1, (t3.2.1, ((Bool.not (eqI t3.2.1 (0 : Int))), ())))))) fun q5 => noS q5)))
def h_rational_parts : HT := (.seq .leaf (.seq .leaf (.seq .leaf (.seq (.join [(AEx.normal, { items := [.slot 1, .slot 3, .box 1 3], shapes := [.lit (C.box 1 0), .int IntKind.u64, .bool, .sl 1, .sl 1] })] .leaf) .leaf))))
theorem ok_rational_parts : TabOK Try.prog [70] g_rational_parts := (TabOK.cons (fun _ => ⟨_, Try.func70, by kernel_rfl, by kernel_rfl⟩) k_rational_word (calleeOf_nat _ _) (fun _ => (calleeOf_pure (by kernel_rfl))) (by kernel_rfl) (fun _ => callK_framed (calleeOf_nat _ _) rfl rfl) (by kernel_rfl) TabOK.nil)
theorem e_rational_parts : ∀ t, bodyG Try.prog g_rational_parts [70] h_rational_parts Try.f44 sg_rational_parts t = u_rational_parts t := by
  intro t
  kernel_rfl
theorem k_rational_parts : (calleeOf sg_rational_parts u_rational_parts).OK Try.prog 44 := calleeG_ok mixed ok_rational_parts Try.func44 (by kernel_rfl) (by kernel_rfl) e_rational_parts

/-! rational_one -/
def sg_rational_one : Sig := { na := 0, np := 0, hin := { items := [], shapes := [] }, nres := 1, kept := [], nnew := 0, hout := { items := [.slot 0], shapes := [.sl 1] }, nob := 4 }
noncomputable def g_rational_one : List (Go.FuncId × Callee) := []
noncomputable def u_rational_one (t : Unit) : Option ((List T) × Unit) :=
  (some ([(T.v (Value.int IntKind.u32 (1 : Int)))], ()))
def h_rational_one : HT := .leaf
theorem ok_rational_one : TabOK Try.prog [] g_rational_one := TabOK.nil
theorem e_rational_one : ∀ t, bodyG Try.prog g_rational_one [] h_rational_one Try.f75 sg_rational_one t = u_rational_one t := by
  intro t
  kernel_rfl
theorem k_rational_one : (calleeOf sg_rational_one u_rational_one).OK Try.prog 75 := calleeG_ok mixed ok_rational_one Try.func75 (by kernel_rfl) (by kernel_rfl) e_rational_one

/-! rational_den -/
def sg_rational_den : Sig := { na := 1, np := 0, hin := { items := [.aggs 0 3], shapes := [.bool, .sl 1, .sl 1] }, nres := 1, kept := [], nnew := 0, hout := { items := [.slot 0], shapes := [.sl 1] }, nob := 20 }
noncomputable def g_rational_den : List (Go.FuncId × Callee) := [(75, (calleeOf sg_rational_one u_rational_one))]
noncomputable def u_rational_den (t : (Bool × ((List T) × ((List T) × Unit)))) : Option ((List T) × Unit) :=
  (bif (eqI (lenL t.2.2.1) (0 : Int)) then (ob (u_rational_one ()) fun x0 => (some (x0.1, ()))) else (some (t.2.2.1, ())))
def h_rational_den : HT := .leaf
theorem ok_rational_den : TabOK Try.prog [] g_rational_den := (TabOK.cons (fun _ => ⟨_, Try.func75, by kernel_rfl, by kernel_rfl⟩) k_rational_one (calleeOf_nat _ _) (fun h => by cases h) (by kernel_rfl) (fun _ => callK_framed (calleeOf_nat _ _) rfl rfl) (by kernel_rfl) TabOK.nil)
theorem e_rational_den : ∀ t, bodyG Try.prog g_rational_den [] h_rational_den Try.f48 sg_rational_den t = u_rational_den t := by
  intro t
  kernel_rfl
theorem k_rational_den : (calleeOf sg_rational_den u_rational_den).OK Try.prog 48 := calleeG_ok mixed ok_rational_den Try.func48 (by kernel_rfl) (by kernel_rfl) e_rational_den

/-! slices_Equal___uint32_uint32_ -/
def sg_slices_Equal___uint32_uint32_ : Sig := { na := 2, np := 0, hin := { items := [.slot 0, .slot 1], shapes := [.sl 1, .sl 1] }, nres := 1, kept := [], nnew := 0, hout := { items := [.slot 0], shapes := [.bool] }, nob := 52 }
noncomputable def g_slices_Equal___uint32_uint32_ : List (Go.FuncId × Callee) := []
noncomputable def u_slices_Equal___uint32_uint32__l0 (s0 : (List T × List T × Int × Int × Unit)) : Option ((List T × List T × Int × Int × Unit) ⊕ ((Bool × Unit) ⊕ ((Unit) ⊕ Empty))) :=
  (bif (ltI s0.2.2.2.1 s0.2.2.1) then (ob (idxL s0.1 s0.2.2.2.1) fun x1 => (ob (idxL s0.2.1 s0.2.2.2.1) fun x2 => (ob (T.int? IntKind.u32 (T.cell x1 0)) fun x3 => (ob (T.int? IntKind.u32 (T.cell x2 0)) fun x4 => (bif (Bool.not (eqI x3 x4)) then (some (Sum.inr (Sum.inl (Bool.false, ())))) else (some (Sum.inl (s0.1, (s0.2.1, (s0.2.2.1, ((wr IntKind.i64 (addI s0.2.2.2.1 (1 : Int))), ()))))))))))) else (some (Sum.inr (Sum.inr (Sum.inl ())))))
noncomputable def u_slices_Equal___uint32_uint32_ (t : ((List T) × ((List T) × Unit))) : Option (Bool × Unit) :=
  (bif (Bool.not (eqI (lenL t.1) (lenL t.2.1))) then (some (Bool.false, ())) else (ob (loopU u_slices_Equal___uint32_uint32__l0 (t.1, (t.2.1, ((lenL t.1), ((0 : Int), ()))))) fun q5 => onS q5 (fun t6 => (some (t6.1, ()))) fun q7 => onS q7 (fun t8 => (some (Bool.true, ()))) fun q9 => noS q9))
def h_slices_Equal___uint32_uint32_ : HT := (.seq .leaf (.seq .leaf (.seq (.seq .leaf (.one (.loop { items := [.slot 0, .slot 1, .slot 12, .slot 13], shapes := [.sl 1, .sl 1, .int IntKind.i64, .int IntKind.i64] } [(AEx.ret, { items := [.slot 4], shapes := [.bool] }), ((AEx.exit 0), { items := [], shapes := [] })] .leaf))) .leaf)))
theorem ok_slices_Equal___uint32_uint32_ : TabOK Try.prog [] g_slices_Equal___uint32_uint32_ := TabOK.nil
theorem e_slices_Equal___uint32_uint32_ : ∀ t, bodyG Try.prog g_slices_Equal___uint32_uint32_ [] h_slices_Equal___uint32_uint32_ Try.f67 sg_slices_Equal___uint32_uint32_ t = u_slices_Equal___uint32_uint32_ t := by
  intro t
  kernel_rfl
theorem k_slices_Equal___uint32_uint32_ : (calleeOf sg_slices_Equal___uint32_uint32_ u_slices_Equal___uint32_uint32_).OK Try.prog 67 := calleeG_ok mixed ok_slices_Equal___uint32_uint32_ Try.func67 (by kernel_rfl) (by kernel_rfl) e_slices_Equal___uint32_uint32_

/-! slices_Clone___uint32_uint32_ -/
def sg_slices_Clone___uint32_uint32_ : Sig := { na := 1, np := 0, hin := { items := [.slot 0], shapes := [.sl 1] }, nres := 1, kept := [], nnew := 0, hout := { items := [.slot 0], shapes := [.sl 1] }, nob := 16 }
noncomputable def g_slices_Clone___uint32_uint32_ : List (Go.FuncId × Callee) := []
noncomputable def u_slices_Clone___uint32_uint32_ (t : ((List T) × Unit)) : Option ((List T) × Unit) :=
  (bif (nilL t.1) then (bothU (some ([], ())) (ob (room [] t.1 4) fun x0 => (some (x0, ())))) else (ob (room [] t.1 4) fun x1 => (some (x1, ()))))
def h_slices_Clone___uint32_uint32_ : HT := .leaf
theorem ok_slices_Clone___uint32_uint32_ : TabOK Try.prog [] g_slices_Clone___uint32_uint32_ := TabOK.nil
theorem e_slices_Clone___uint32_uint32_ : ∀ t, bodyG Try.prog g_slices_Clone___uint32_uint32_ [] h_slices_Clone___uint32_uint32_ Try.f83 sg_slices_Clone___uint32_uint32_ t = u_slices_Clone___uint32_uint32_ t := by
  intro t
  kernel_rfl
theorem k_slices_Clone___uint32_uint32_ : (calleeOf sg_slices_Clone___uint32_uint32_ u_slices_Clone___uint32_uint32_).OK Try.prog 83 := calleeG_ok mixed ok_slices_Clone___uint32_uint32_ Try.func83 (by kernel_rfl) (by kernel_rfl) e_slices_Clone___uint32_uint32_

/-! rational_Sign -/
def sg_rational_Sign : Sig := { na := 1, np := 0, hin := { items := [.aggs 0 3], shapes := [.bool, .sl 1, .sl 1] }, nres := 1, kept := [], nnew := 0, hout := { items := [.slot 0], shapes := [.int IntKind.i64] }, nob := 22 }
noncomputable def g_rational_Sign : List (Go.FuncId × Callee) := [(55, (calleeOf sg_natural_Bits u_natural_Bits))]
noncomputable def u_rational_Sign (t : (Bool × ((List T) × ((List T) × Unit)))) : Option (Int × Unit) :=
  (ob (u_natural_Bits (t.2.1, ())) fun x0 => (bif (eqI x0.1 (0 : Int)) then (some ((0 : Int), ())) else (bif t.1 then (some ((-1 : Int), ())) else (some ((1 : Int), ())))))
def h_rational_Sign : HT := .leaf
theorem ok_rational_Sign : TabOK Try.prog [55] g_rational_Sign := (TabOK.cons (fun _ => ⟨_, Try.func55, by kernel_rfl, by kernel_rfl⟩) k_natural_Bits (calleeOf_nat _ _) (fun _ => (calleeOf_pure (by kernel_rfl))) (by kernel_rfl) (fun _ => callK_framed (calleeOf_nat _ _) rfl rfl) (by kernel_rfl) TabOK.nil)
theorem e_rational_Sign : ∀ t, bodyG Try.prog g_rational_Sign [55] h_rational_Sign Try.f34 sg_rational_Sign t = u_rational_Sign t := by
  intro t
  kernel_rfl
theorem k_rational_Sign : (calleeOf sg_rational_Sign u_rational_Sign).OK Try.prog 34 := calleeG_ok mixed ok_rational_Sign Try.func34 (by kernel_rfl) (by kernel_rfl) e_rational_Sign

/-! rational_add -/
def sg_rational_add : Sig := { na := 3, np := 0, hin := { items := [.aggs 0 3, .aggs 1 3, .slot 2], shapes := [.bool, .sl 1, .sl 1, .bool, .sl 1, .sl 1, .bool] }, nres := 1, kept := [], nnew := 0, hout := { items := [.aggs 0 3], shapes := [.bool, .sl 1, .sl 1] }, nob := 304 }
noncomputable def g_rational_add : List (Go.FuncId × Callee) := [(44, (calleeOf sg_rational_parts u_rational_parts)), (66, add64E), (45, (calleeOf sg_rational_short u_rational_short)), (48, trC (calleeOf sg_rational_den u_rational_den)), (67, (calleeOf sg_slices_Equal___uint32_uint32_ u_slices_Equal___uint32_uint32_))]
noncomputable def u_rational_add (t : (Bool × ((List T) × ((List T) × (Bool × ((List T) × ((List T) × (Bool × Unit)))))))) : Option (Bool × ((List T) × ((List T) × Unit))) :=
  (ob (α := ((Unit × Bool × List T × List T × Unit) ⊕ ((Bool × Unit × Unit × Unit × Bool × List T × List T × Bool × List T × List T × Bool × T × T × Unit) ⊕ Empty))) (ob (u_rational_parts (t.1, (t.2.1, (t.2.2.1, ())))) fun x0 => (bif x0.2.2.1 then (ob (u_rational_parts (t.2.2.2.1, (t.2.2.2.2.1, (t.2.2.2.2.2.1, ())))) fun x1 => (bif x1.2.2.1 then (ob (add64S (wr IntKind.u64 (mulI x0.1 x1.2.1)) (wr IntKind.u64 (mulI x1.1 x0.2.1)) (0 : Int)) fun x2 => (bif (eqB t.1 t.2.2.2.2.2.2.1) then (bif (eqI (add64C (wr IntKind.u64 (mulI x0.1 x1.2.1)) (wr IntKind.u64 (mulI x1.1 x0.2.1)) (0 : Int)) (0 : Int)) then (ob (u_rational_short (t.2.2.2.2.2.2.1, (x2, ((wr IntKind.u64 (mulI x0.2.1 x1.2.1)), ())))) fun x3 => (some (Sum.inl ((), (x3.1, (x3.2.1, (x3.2.2.1, ()))))))) else (bif (Bool.not (eqB t.1 t.2.2.2.2.2.2.1)) then (bif (leI (wr IntKind.u64 (mulI x1.1 x0.2.1)) (wr IntKind.u64 (mulI x0.1 x1.2.1))) then (ob (u_rational_short (t.1, ((wr IntKind.u64 (subI (wr IntKind.u64 (mulI x0.1 x1.2.1)) (wr IntKind.u64 (mulI x1.1 x0.2.1)))), ((wr IntKind.u64 (mulI x0.2.1 x1.2.1)), ())))) fun x4 => (some (Sum.inl ((), (x4.1, (x4.2.1, (x4.2.2.1, ()))))))) else (bif (Bool.not (eqB t.1 t.2.2.2.2.2.2.1)) then (ob (u_rational_short (t.2.2.2.2.2.2.1, ((wr IntKind.u64 (subI (wr IntKind.u64 (mulI x1.1 x0.2.1)) (wr IntKind.u64 (mulI x0.1 x1.2.1)))), ((wr IntKind.u64 (mulI x0.2.1 x1.2.1)), ())))) fun x5 => (some (Sum.inl ((), (x5.1, (x5.2.1, (x5.2.2.1, ()))))))) else (some (Sum.inr (Sum.inl (t.2.2.2.2.2.2.1, ((), ((), ((), (t.1, (t.2.1, (t.2.2.1, (t.2.2.2.1, (t.2.2.2.2.1, (t.2.2.2.2.2.1, (Bool.false, ((T.v (Value.slice (Option.none) 0 0)), ((T.v (Value.slice (Option.none) 0 0)), ())))))))))))))))))) else (bif (Bool.not (eqB t.1 t.2.2.2.2.2.2.1)) then (ob (u_rational_short (t.2.2.2.2.2.2.1, ((wr IntKind.u64 (subI (wr IntKind.u64 (mulI x1.1 x0.2.1)) (wr IntKind.u64 (mulI x0.1 x1.2.1)))), ((wr IntKind.u64 (mulI x0.2.1 x1.2.1)), ())))) fun x6 => (some (Sum.inl ((), (x6.1, (x6.2.1, (x6.2.2.1, ()))))))) else (some (Sum.inr (Sum.inl (t.2.2.2.2.2.2.1, ((), ((), ((), (t.1, (t.2.1, (t.2.2.1, (t.2.2.2.1, (t.2.2.2.2.1, (t.2.2.2.2.2.1, (Bool.false, ((T.v (Value.slice (Option.none) 0 0)), ((T.v (Value.slice (Option.none) 0 0)), ()))))))))))))))))))) else (bif (Bool.not (eqB t.1 t.2.2.2.2.2.2.1)) then (bif (leI (wr IntKind.u64 (mulI x1.1 x0.2.1)) (wr IntKind.u64 (mulI x0.1 x1.2.1))) then (ob (u_rational_short (t.1, ((wr IntKind.u64 (subI (wr IntKind.u64 (mulI x0.1 x1.2.1)) (wr IntKind.u64 (mulI x1.1 x0.2.1)))), ((wr IntKind.u64 (mulI x0.2.1 x1.2.1)), ())))) fun x7 => (some (Sum.inl ((), (x7.1, (x7.2.1, (x7.2.2.1, ()))))))) else (bif (Bool.not (eqB t.1 t.2.2.2.2.2.2.1)) then (ob (u_rational_short (t.2.2.2.2.2.2.1, ((wr IntKind.u64 (subI (wr IntKind.u64 (mulI x1.1 x0.2.1)) (wr IntKind.u64 (mulI x0.1 x1.2.1)))), ((wr IntKind.u64 (mulI x0.2.1 x1.2.1)), ())))) fun x8 => (some (Sum.inl ((), (x8.1, (x8.2.1, (x8.2.2.1, ()))))))) else (some (Sum.inr (Sum.inl (t.2.2.2.2.2.2.1, ((), ((), ((), (t.1, (t.2.1, (t.2.2.1, (t.2.2.2.1, (t.2.2.2.2.1, (t.2.2.2.2.2.1, (Bool.false, ((T.v (Value.slice (Option.none) 0 0)), ((T.v (Value.slice (Option.none) 0 0)), ())))))))))))))))))) else (bif (Bool.not (eqB t.1 t.2.2.2.2.2.2.1)) then (ob (u_rational_short (t.2.2.2.2.2.2.1, ((wr IntKind.u64 (subI (wr IntKind.u64 (mulI x1.1 x0.2.1)) (wr IntKind.u64 (mulI x0.1 x1.2.1)))), ((wr IntKind.u64 (mulI x0.2.1 x1.2.1)), ())))) fun x9 => (some (Sum.inl ((), (x9.1, (x9.2.1, (x9.2.2.1, ()))))))) else (some (Sum.inr (Sum.inl (t.2.2.2.2.2.2.1, ((), ((), ((), (t.1, (t.2.1, (t.2.2.1, (t.2.2.2.1, (t.2.2.2.2.1, (t.2.2.2.2.2.1, (Bool.false, ((T.v (Value.slice (Option.none) 0 0)), ((T.v (Value.slice (Option.none) 0 0)), ())))))))))))))))))))) else (some (Sum.inr (Sum.inl (t.2.2.2.2.2.2.1, ((), ((), ((), (t.1, (t.2.1, (t.2.2.1, (t.2.2.2.1, (t.2.2.2.2.1, (t.2.2.2.2.2.1, (Bool.false, ((T.v (Value.slice (Option.none) 0 0)), ((T.v (Value.slice (Option.none) 0 0)), ())))))))))))))))))) else (some (Sum.inr (Sum.inl (t.2.2.2.2.2.2.1, ((), ((), ((), (t.1, (t.2.1, (t.2.2.1, (t.2.2.2.1, (t.2.2.2.2.1, (t.2.2.2.2.2.1, (Bool.false, ((T.v (Value.slice (Option.none) 0 0)), ((T.v (Value.slice (Option.none) 0 0)), ())))))))))))))))))) fun q10 => onS q10 (fun t11 => (some (t11.2.1, (t11.2.2.1, (t11.2.2.2.1, ()))))) fun q12 => onS q12 (fun t13 => (ob (u_rational_den (t13.2.2.2.2.1, (t13.2.2.2.2.2.1, (t13.2.2.2.2.2.2.1, ())))) fun x14 => (ob (α := ((Bool × Unit × Unit × List T × List T × List T × Bool × List T × List T × Bool × T × T × Unit) ⊕ Empty)) (ob (u_slices_Equal___uint32_uint32_ (t13.2.2.2.2.2.2.1, (t13.2.2.2.2.2.2.2.2.2.1, ()))) fun x15 => (bif (Bool.not x15.1) then (ob (u_rational_den (t13.2.2.2.2.2.2.2.1, (t13.2.2.2.2.2.2.2.2.1, (t13.2.2.2.2.2.2.2.2.2.1, ())))) fun x16 => none) else (some (Sum.inl (t13.1, ((), ((), (t13.2.2.2.2.2.1, (t13.2.2.2.2.2.2.2.2.1, (x14.1, (t13.2.2.2.2.1, (t13.2.2.2.2.2.1, (t13.2.2.2.2.2.2.1, (t13.2.2.2.2.2.2.2.2.2.2.1, (t13.2.2.2.2.2.2.2.2.2.2.2.1, (t13.2.2.2.2.2.2.2.2.2.2.2.2.1, ())))))))))))))))) fun q17 => onS q17 (fun t18 => (bif (eqB t18.2.2.2.2.2.2.1 t18.1) then none else none)) fun q19 => noS q19))) fun q20 => noS q20)
def h_rational_add : HT := (.seq .leaf (.seq (.join [(AEx.ret, { items := [.slot 6, .box 6 3], shapes := [.lit (C.box 6 0), .bool, .sl 1, .sl 1] }), (AEx.normal, { items := [.slot 2, .slot 3, .slot 4, .slot 6, .box 3 3, .box 4 3, .box 6 3], shapes := [.bool, .lit (C.box 3 0), .lit (C.box 4 0), .lit (C.box 6 0), .bool, .sl 1, .sl 1, .bool, .sl 1, .sl 1, .bool, .tree, .tree] })] .leaf) (.seq .leaf (.seq (.join [(AEx.normal, { items := [.slot 2, .slot 3, .slot 6, .slot 15, .slot 16, .slot 17, .box 3 3, .box 6 3], shapes := [.bool, .lit (C.box 3 0), .lit (C.box 6 0), .sl 1, .sl 1, .sl 1, .bool, .sl 1, .sl 1, .bool, .tree, .tree] })] .leaf) .leaf))))
theorem ok_rational_add : TabOK Try.prog [44, 1000048, 67, 1000047, 1000068, 1000046, 1000069] g_rational_add := (TabOK.cons (fun _ => ⟨_, Try.func44, by kernel_rfl, by kernel_rfl⟩) k_rational_parts (calleeOf_nat _ _) (fun _ => (calleeOf_pure (by kernel_rfl))) (by kernel_rfl) (fun _ => callK_framed (calleeOf_nat _ _) rfl rfl) (by kernel_rfl) (TabOK.cons (fun h => by cases h) add64_ok add64E_nat (fun h => by cases h) (by kernel_rfl) (fun h => by cases h) (by kernel_rfl) (TabOK.cons (fun _ => ⟨_, Try.func45, by kernel_rfl, by kernel_rfl⟩) k_rational_short (calleeOf_nat _ _) (fun h => by cases h) (by kernel_rfl) (fun _ => callK_framed (calleeOf_nat _ _) rfl rfl) (by kernel_rfl) (TabOK.consP (fun _ => ⟨_, Try.func48, by kernel_rfl, by kernel_rfl⟩) (trC_ok k_rational_den) (trC_nat (calleeOf_nat _ _)) (fun h => by cases h) (fun _ => trC_pureP (calleeOf_nat _ _)) (fun _ => (trC_pureP (calleeOf_nat _ _)).pure.framed) (by kernel_rfl) (TabOK.cons (fun _ => ⟨_, Try.func67, by kernel_rfl, by kernel_rfl⟩) k_slices_Equal___uint32_uint32_ (calleeOf_nat _ _) (fun _ => (calleeOf_pure (by kernel_rfl))) (by kernel_rfl) (fun _ => callK_framed (calleeOf_nat _ _) rfl rfl) (by kernel_rfl) TabOK.nil)))))
theorem e_rational_add : ∀ t, bodyG Try.prog g_rational_add [44, 1000048, 67, 1000047, 1000068, 1000046, 1000069] h_rational_add Try.f43 sg_rational_add t = u_rational_add t := by
  intro t
  kernel_rfl
theorem k_rational_add : (calleeOf sg_rational_add u_rational_add).OK Try.prog 43 := calleeG_ok mixed ok_rational_add Try.func43 (by kernel_rfl) (by kernel_rfl) e_rational_add

/-! rational_Add -/
def sg_rational_Add : Sig := { na := 2, np := 0, hin := { items := [.aggs 0 3, .aggs 1 3], shapes := [.bool, .sl 1, .sl 1, .bool, .sl 1, .sl 1] }, nres := 1, kept := [], nnew := 0, hout := { items := [.aggs 0 3], shapes := [.bool, .sl 1, .sl 1] }, nob := 20 }
noncomputable def g_rational_Add : List (Go.FuncId × Callee) := [(43, (calleeOf sg_rational_add u_rational_add))]
noncomputable def u_rational_Add (t : (Bool × ((List T) × ((List T) × (Bool × ((List T) × ((List T) × Unit))))))) : Option (Bool × ((List T) × ((List T) × Unit))) :=
  (ob (u_rational_add (t.1, (t.2.1, (t.2.2.1, (t.2.2.2.1, (t.2.2.2.2.1, (t.2.2.2.2.2.1, (t.2.2.2.1, ())))))))) fun x0 => (some (x0.1, (x0.2.1, (x0.2.2.1, ())))))
def h_rational_Add : HT := .leaf
theorem ok_rational_Add : TabOK Try.prog [] g_rational_Add := (TabOK.cons (fun _ => ⟨_, Try.func43, by kernel_rfl, by kernel_rfl⟩) k_rational_add (calleeOf_nat _ _) (fun h => by cases h) (by kernel_rfl) (fun _ => callK_framed (calleeOf_nat _ _) rfl rfl) (by kernel_rfl) TabOK.nil)
theorem e_rational_Add : ∀ t, bodyG Try.prog g_rational_Add [] h_rational_Add Try.f21 sg_rational_Add t = u_rational_Add t := by
  intro t
  kernel_rfl
theorem k_rational_Add : (calleeOf sg_rational_Add u_rational_Add).OK Try.prog 21 := calleeG_ok mixed ok_rational_Add Try.func21 (by kernel_rfl) (by kernel_rfl) e_rational_Add

/-! rational_Sub -/
def sg_rational_Sub : Sig := { na := 2, np := 0, hin := { items := [.aggs 0 3, .aggs 1 3], shapes := [.bool, .sl 1, .sl 1, .bool, .sl 1, .sl 1] }, nres := 1, kept := [], nnew := 0, hout := { items := [.aggs 0 3], shapes := [.bool, .sl 1, .sl 1] }, nob := 22 }
noncomputable def g_rational_Sub : List (Go.FuncId × Callee) := [(43, (calleeOf sg_rational_add u_rational_add))]
noncomputable def u_rational_Sub (t : (Bool × ((List T) × ((List T) × (Bool × ((List T) × ((List T) × Unit))))))) : Option (Bool × ((List T) × ((List T) × Unit))) :=
  (ob (u_rational_add (t.1, (t.2.1, (t.2.2.1, (t.2.2.2.1, (t.2.2.2.2.1, (t.2.2.2.2.2.1, ((Bool.not t.2.2.2.1), ())))))))) fun x0 => (some (x0.1, (x0.2.1, (x0.2.2.1, ())))))
def h_rational_Sub : HT := .leaf
theorem ok_rational_Sub : TabOK Try.prog [] g_rational_Sub := (TabOK.cons (fun _ => ⟨_, Try.func43, by kernel_rfl, by kernel_rfl⟩) k_rational_add (calleeOf_nat _ _) (fun h => by cases h) (by kernel_rfl) (fun _ => callK_framed (calleeOf_nat _ _) rfl rfl) (by kernel_rfl) TabOK.nil)
theorem e_rational_Sub : ∀ t, bodyG Try.prog g_rational_Sub [] h_rational_Sub Try.f22 sg_rational_Sub t = u_rational_Sub t := by
  intro t
  kernel_rfl
theorem k_rational_Sub : (calleeOf sg_rational_Sub u_rational_Sub).OK Try.prog 22 := calleeG_ok mixed ok_rational_Sub Try.func22 (by kernel_rfl) (by kernel_rfl) e_rational_Sub

/-! rational_Mul -/
def sg_rational_Mul : Sig := { na := 2, np := 0, hin := { items := [.aggs 0 3, .aggs 1 3], shapes := [.bool, .sl 1, .sl 1, .bool, .sl 1, .sl 1] }, nres := 1, kept := [], nnew := 0, hout := { items := [.aggs 0 3], shapes := [.bool, .sl 1, .sl 1] }, nob := 128 }
noncomputable def g_rational_Mul : List (Go.FuncId × Callee) := [(44, (calleeOf sg_rational_parts u_rational_parts)), (45, (calleeOf sg_rational_short u_rational_short)), (48, trC (calleeOf sg_rational_den u_rational_den))]
noncomputable def u_rational_Mul (t : (Bool × ((List T) × ((List T) × (Bool × ((List T) × ((List T) × Unit))))))) : Option (Bool × ((List T) × ((List T) × Unit))) :=
  (bif (eqI (lenL t.2.1) (0 : Int)) then (some (Bool.false, ([], ([], ())))) else (bif (eqI (lenL t.2.2.2.2.1) (0 : Int)) then (some (Bool.false, ([], ([], ())))) else (ob (α := ((Unit × Bool × List T × List T × Unit) ⊕ ((Unit × Unit × Unit × Bool × List T × List T × Bool × List T × List T × Bool × T × T × Unit) ⊕ Empty))) (ob (u_rational_parts (t.1, (t.2.1, (t.2.2.1, ())))) fun x0 => (bif x0.2.2.1 then (ob (u_rational_parts (t.2.2.2.1, (t.2.2.2.2.1, (t.2.2.2.2.2.1, ())))) fun x1 => (bif x1.2.2.1 then (ob (u_rational_short ((Bool.not (eqB t.1 t.2.2.2.1)), ((wr IntKind.u64 (mulI x0.1 x1.1)), ((wr IntKind.u64 (mulI x0.2.1 x1.2.1)), ())))) fun x2 => (some (Sum.inl ((), (x2.1, (x2.2.1, (x2.2.2.1, ()))))))) else (some (Sum.inr (Sum.inl ((), ((), ((), (t.1, (t.2.1, (t.2.2.1, (t.2.2.2.1, (t.2.2.2.2.1, (t.2.2.2.2.2.1, (Bool.false, ((T.v (Value.slice (Option.none) 0 0)), ((T.v (Value.slice (Option.none) 0 0)), ()))))))))))))))))) else (some (Sum.inr (Sum.inl ((), ((), ((), (t.1, (t.2.1, (t.2.2.1, (t.2.2.2.1, (t.2.2.2.2.1, (t.2.2.2.2.2.1, (Bool.false, ((T.v (Value.slice (Option.none) 0 0)), ((T.v (Value.slice (Option.none) 0 0)), ()))))))))))))))))) fun q3 => onS q3 (fun t4 => (some (t4.2.1, (t4.2.2.1, (t4.2.2.2.1, ()))))) fun q5 => onS q5 (fun t6 => none) fun q7 => noS q7)))
def h_rational_Mul : HT := (.seq .leaf (.seq .leaf (.seq (.join [(AEx.ret, { items := [.slot 4, .box 4 3], shapes := [.lit (C.box 4 0), .bool, .sl 1, .sl 1] }), (AEx.normal, { items := [.slot 2, .slot 3, .slot 4, .box 2 3, .box 3 3, .box 4 3], shapes := [.lit (C.box 2 0), .lit (C.box 3 0), .lit (C.box 4 0), .bool, .sl 1, .sl 1, .bool, .sl 1, .sl 1, .bool, .tree, .tree] })] .leaf) .leaf)))
theorem ok_rational_Mul : TabOK Try.prog [44, 1000047, 1000048, 1000046] g_rational_Mul := (TabOK.cons (fun _ => ⟨_, Try.func44, by kernel_rfl, by kernel_rfl⟩) k_rational_parts (calleeOf_nat _ _) (fun _ => (calleeOf_pure (by kernel_rfl))) (by kernel_rfl) (fun _ => callK_framed (calleeOf_nat _ _) rfl rfl) (by kernel_rfl) (TabOK.cons (fun _ => ⟨_, Try.func45, by kernel_rfl, by kernel_rfl⟩) k_rational_short (calleeOf_nat _ _) (fun h => by cases h) (by kernel_rfl) (fun _ => callK_framed (calleeOf_nat _ _) rfl rfl) (by kernel_rfl) (TabOK.consP (fun _ => ⟨_, Try.func48, by kernel_rfl, by kernel_rfl⟩) (trC_ok k_rational_den) (trC_nat (calleeOf_nat _ _)) (fun h => by cases h) (fun _ => trC_pureP (calleeOf_nat _ _)) (fun _ => (trC_pureP (calleeOf_nat _ _)).pure.framed) (by kernel_rfl) TabOK.nil)))
theorem e_rational_Mul : ∀ t, bodyG Try.prog g_rational_Mul [44, 1000047, 1000048, 1000046] h_rational_Mul Try.f23 sg_rational_Mul t = u_rational_Mul t := by
  intro t
  kernel_rfl
theorem k_rational_Mul : (calleeOf sg_rational_Mul u_rational_Mul).OK Try.prog 23 := calleeG_ok mixed ok_rational_Mul Try.func23 (by kernel_rfl) (by kernel_rfl) e_rational_Mul

/-! rational_Cmp -/
def sg_rational_Cmp : Sig := { na := 2, np := 0, hin := { items := [.aggs 0 3, .aggs 1 3], shapes := [.bool, .sl 1, .sl 1, .bool, .sl 1, .sl 1] }, nres := 1, kept := [], nnew := 0, hout := { items := [.slot 0], shapes := [.int IntKind.i64] }, nob := 160 }
noncomputable def g_rational_Cmp : List (Go.FuncId × Callee) := [(34, (calleeOf sg_rational_Sign u_rational_Sign)), (44, (calleeOf sg_rational_parts u_rational_parts)), (67, (calleeOf sg_slices_Equal___uint32_uint32_ u_slices_Equal___uint32_uint32_)), (88, (calleeOf sg_natural_Cmp u_natural_Cmp)), (48, trC (calleeOf sg_rational_den u_rational_den))]
noncomputable def u_rational_Cmp (t : (Bool × ((List T) × ((List T) × (Bool × ((List T) × ((List T) × Unit))))))) : Option (Int × Unit) :=
  (ob (u_rational_Sign (t.1, (t.2.1, (t.2.2.1, ())))) fun x0 => (ob (u_rational_Sign (t.2.2.2.1, (t.2.2.2.2.1, (t.2.2.2.2.2.1, ())))) fun x1 => (bif (Bool.not (eqI x0.1 x1.1)) then (bif (ltI x0.1 x1.1) then (some ((-1 : Int), ())) else (some ((1 : Int), ()))) else (ob (α := ((Unit × Int × Bool × List T × List T × Unit) ⊕ Empty)) (ob (u_rational_parts (t.1, (t.2.1, (t.2.2.1, ())))) fun x2 => (ob (u_slices_Equal___uint32_uint32_ (t.2.2.1, (t.2.2.2.2.2.1, ()))) fun x3 => (bif x3.1 then (ob (u_natural_Cmp (t.2.1, (t.2.2.2.2.1, ()))) fun x4 => (some (Sum.inl ((), (x4.1, (t.1, (t.2.1, (t.2.2.1, ())))))))) else (ob (u_rational_parts (t.2.2.2.1, (t.2.2.2.2.1, (t.2.2.2.2.2.1, ())))) fun x5 => (bif x2.2.2.1 then (bif x5.2.2.1 then (bif (ltI (wr IntKind.u64 (mulI x2.1 x5.2.1)) (wr IntKind.u64 (mulI x5.1 x2.2.1))) then (some (Sum.inl ((), ((-1 : Int), (t.1, (t.2.1, (t.2.2.1, ()))))))) else (bif (ltI (wr IntKind.u64 (mulI x5.1 x2.2.1)) (wr IntKind.u64 (mulI x2.1 x5.2.1))) then (some (Sum.inl ((), ((1 : Int), (t.1, (t.2.1, (t.2.2.1, ()))))))) else (some (Sum.inl ((), ((0 : Int), (t.1, (t.2.1, (t.2.2.1, ()))))))))) else (ob (u_rational_den (t.2.2.2.1, (t.2.2.2.2.1, (t.2.2.2.2.2.1, ())))) fun x6 => none)) else (ob (u_rational_den (t.2.2.2.1, (t.2.2.2.2.1, (t.2.2.2.2.2.1, ())))) fun x7 => none)))))) fun q8 => onS q8 (fun t9 => (bif t9.2.2.1 then (some ((wr IntKind.i64 (subI (0 : Int) t9.2.1)), ())) else (some (t9.2.1, ())))) fun q10 => noS q10))))
def h_rational_Cmp : HT := (.seq .leaf (.seq .leaf (.seq .leaf (.seq (.join [(AEx.normal, { items := [.slot 2, .slot 7, .box 2 3], shapes := [.lit (C.box 2 0), .int IntKind.i64, .bool, .sl 1, .sl 1] })] .leaf) .leaf))))
theorem ok_rational_Cmp : TabOK Try.prog [34, 44, 67, 88, 1000048, 1000047] g_rational_Cmp := (TabOK.cons (fun _ => ⟨_, Try.func34, by kernel_rfl, by kernel_rfl⟩) k_rational_Sign (calleeOf_nat _ _) (fun _ => (calleeOf_pure (by kernel_rfl))) (by kernel_rfl) (fun _ => callK_framed (calleeOf_nat _ _) rfl rfl) (by kernel_rfl) (TabOK.cons (fun _ => ⟨_, Try.func44, by kernel_rfl, by kernel_rfl⟩) k_rational_parts (calleeOf_nat _ _) (fun _ => (calleeOf_pure (by kernel_rfl))) (by kernel_rfl) (fun _ => callK_framed (calleeOf_nat _ _) rfl rfl) (by kernel_rfl) (TabOK.cons (fun _ => ⟨_, Try.func67, by kernel_rfl, by kernel_rfl⟩) k_slices_Equal___uint32_uint32_ (calleeOf_nat _ _) (fun _ => (calleeOf_pure (by kernel_rfl))) (by kernel_rfl) (fun _ => callK_framed (calleeOf_nat _ _) rfl rfl) (by kernel_rfl) (TabOK.cons (fun _ => ⟨_, Try.func88, by kernel_rfl, by kernel_rfl⟩) k_natural_Cmp (calleeOf_nat _ _) (fun _ => (calleeOf_pure (by kernel_rfl))) (by kernel_rfl) (fun _ => callK_framed (calleeOf_nat _ _) rfl rfl) (by kernel_rfl) (TabOK.consP (fun _ => ⟨_, Try.func48, by kernel_rfl, by kernel_rfl⟩) (trC_ok k_rational_den) (trC_nat (calleeOf_nat _ _)) (fun h => by cases h) (fun _ => trC_pureP (calleeOf_nat _ _)) (fun _ => (trC_pureP (calleeOf_nat _ _)).pure.framed) (by kernel_rfl) TabOK.nil)))))
theorem e_rational_Cmp : ∀ t, bodyG Try.prog g_rational_Cmp [34, 44, 67, 88, 1000048, 1000047] h_rational_Cmp Try.f63 sg_rational_Cmp t = u_rational_Cmp t := by
  intro t
  kernel_rfl
theorem k_rational_Cmp : (calleeOf sg_rational_Cmp u_rational_Cmp).OK Try.prog 63 := calleeG_ok mixed ok_rational_Cmp Try.func63 (by kernel_rfl) (by kernel_rfl) e_rational_Cmp

/-! rational_copied -/
def sg_rational_copied : Sig := { na := 1, np := 0, hin := { items := [.aggs 0 3], shapes := [.bool, .sl 1, .sl 1] }, nres := 1, kept := [], nnew := 0, hout := { items := [.aggs 0 3], shapes := [.bool, .sl 1, .sl 1] }, nob := 24 }
noncomputable def g_rational_copied : List (Go.FuncId × Callee) := [(83, trC (calleeOf sg_slices_Clone___uint32_uint32_ u_slices_Clone___uint32_uint32_))]
noncomputable def u_rational_copied (t : (Bool × ((List T) × ((List T) × Unit)))) : Option (Bool × ((List T) × ((List T) × Unit))) :=
  (ob (u_slices_Clone___uint32_uint32_ (t.2.1, ())) fun x0 => (ob (u_slices_Clone___uint32_uint32_ (t.2.2.1, ())) fun x1 => (some (t.1, (x0.1, (x1.1, ()))))))
def h_rational_copied : HT := .leaf
theorem ok_rational_copied : TabOK Try.prog [1000083] g_rational_copied := (TabOK.consP (fun _ => ⟨_, Try.func83, by kernel_rfl, by kernel_rfl⟩) (trC_ok k_slices_Clone___uint32_uint32_) (trC_nat (calleeOf_nat _ _)) (fun h => by cases h) (fun _ => trC_pureP (calleeOf_nat _ _)) (fun _ => (trC_pureP (calleeOf_nat _ _)).pure.framed) (by kernel_rfl) TabOK.nil)
theorem e_rational_copied : ∀ t, bodyG Try.prog g_rational_copied [1000083] h_rational_copied Try.f96 sg_rational_copied t = u_rational_copied t := by
  intro t
  kernel_rfl
theorem k_rational_copied : (calleeOf sg_rational_copied u_rational_copied).OK Try.prog 96 := calleeG_ok mixed ok_rational_copied Try.func96 (by kernel_rfl) (by kernel_rfl) e_rational_copied

/-! rational_Min -/
def sg_rational_Min : Sig := { na := 2, np := 0, hin := { items := [.aggs 0 3, .aggs 1 3], shapes := [.bool, .sl 1, .sl 1, .bool, .sl 1, .sl 1] }, nres := 1, kept := [], nnew := 0, hout := { items := [.aggs 0 3], shapes := [.bool, .sl 1, .sl 1] }, nob := 24 }
noncomputable def g_rational_Min : List (Go.FuncId × Callee) := [(63, (calleeOf sg_rational_Cmp u_rational_Cmp)), (96, (calleeOf sg_rational_copied u_rational_copied))]
noncomputable def u_rational_Min (t : (Bool × ((List T) × ((List T) × (Bool × ((List T) × ((List T) × Unit))))))) : Option (Bool × ((List T) × ((List T) × Unit))) :=
  (ob (α := ((Unit × Unit × Bool × List T × List T × Bool × T × T × Unit) ⊕ Empty)) (ob (u_rational_Cmp (t.2.2.2.1, (t.2.2.2.2.1, (t.2.2.2.2.2.1, (t.1, (t.2.1, (t.2.2.1, ()))))))) fun x0 => (bif (ltI x0.1 (0 : Int)) then (some (Sum.inl ((), ((), (t.2.2.2.1, (t.2.2.2.2.1, (t.2.2.2.2.2.1, (Bool.false, ((T.v (Value.slice (Option.none) 0 0)), ((T.v (Value.slice (Option.none) 0 0)), ())))))))))) else (some (Sum.inl ((), ((), (t.1, (t.2.1, (t.2.2.1, (Bool.false, ((T.v (Value.slice (Option.none) 0 0)), ((T.v (Value.slice (Option.none) 0 0)), ())))))))))))) fun q1 => onS q1 (fun t2 => (ob (u_rational_copied (t2.2.2.1, (t2.2.2.2.1, (t2.2.2.2.2.1, ())))) fun x3 => (some (x3.1, (x3.2.1, (x3.2.2.1, ())))))) fun q4 => noS q4)
def h_rational_Min : HT := (.seq .leaf (.seq (.join [(AEx.normal, { items := [.slot 2, .slot 4, .box 2 3, .box 4 3], shapes := [.lit (C.box 2 0), .lit (C.box 4 0), .bool, .sl 1, .sl 1, .bool, .tree, .tree] })] .leaf) .leaf))
theorem ok_rational_Min : TabOK Try.prog [63] g_rational_Min := (TabOK.cons (fun _ => ⟨_, Try.func63, by kernel_rfl, by kernel_rfl⟩) k_rational_Cmp (calleeOf_nat _ _) (fun _ => (calleeOf_pure (by kernel_rfl))) (by kernel_rfl) (fun _ => callK_framed (calleeOf_nat _ _) rfl rfl) (by kernel_rfl) (TabOK.cons (fun _ => ⟨_, Try.func96, by kernel_rfl, by kernel_rfl⟩) k_rational_copied (calleeOf_nat _ _) (fun h => by cases h) (by kernel_rfl) (fun _ => callK_framed (calleeOf_nat _ _) rfl rfl) (by kernel_rfl) TabOK.nil))
theorem e_rational_Min : ∀ t, bodyG Try.prog g_rational_Min [63] h_rational_Min Try.f94 sg_rational_Min t = u_rational_Min t := by
  intro t
  kernel_rfl
theorem k_rational_Min : (calleeOf sg_rational_Min u_rational_Min).OK Try.prog 94 := calleeG_ok mixed ok_rational_Min Try.func94 (by kernel_rfl) (by kernel_rfl) e_rational_Min

/-! rational_Max -/
def sg_rational_Max : Sig := { na := 2, np := 0, hin := { items := [.aggs 0 3, .aggs 1 3], shapes := [.bool, .sl 1, .sl 1, .bool, .sl 1, .sl 1] }, nres := 1, kept := [], nnew := 0, hout := { items := [.aggs 0 3], shapes := [.bool, .sl 1, .sl 1] }, nob := 24 }
noncomputable def g_rational_Max : List (Go.FuncId × Callee) := [(63, (calleeOf sg_rational_Cmp u_rational_Cmp)), (96, (calleeOf sg_rational_copied u_rational_copied))]
noncomputable def u_rational_Max (t : (Bool × ((List T) × ((List T) × (Bool × ((List T) × ((List T) × Unit))))))) : Option (Bool × ((List T) × ((List T) × Unit))) :=
  (ob (α := ((Unit × Unit × Bool × List T × List T × Bool × T × T × Unit) ⊕ Empty)) (ob (u_rational_Cmp (t.2.2.2.1, (t.2.2.2.2.1, (t.2.2.2.2.2.1, (t.1, (t.2.1, (t.2.2.1, ()))))))) fun x0 => (bif (ltI (0 : Int) x0.1) then (some (Sum.inl ((), ((), (t.2.2.2.1, (t.2.2.2.2.1, (t.2.2.2.2.2.1, (Bool.false, ((T.v (Value.slice (Option.none) 0 0)), ((T.v (Value.slice (Option.none) 0 0)), ())))))))))) else (some (Sum.inl ((), ((), (t.1, (t.2.1, (t.2.2.1, (Bool.false, ((T.v (Value.slice (Option.none) 0 0)), ((T.v (Value.slice (Option.none) 0 0)), ())))))))))))) fun q1 => onS q1 (fun t2 => (ob (u_rational_copied (t2.2.2.1, (t2.2.2.2.1, (t2.2.2.2.2.1, ())))) fun x3 => (some (x3.1, (x3.2.1, (x3.2.2.1, ())))))) fun q4 => noS q4)
def h_rational_Max : HT := (.seq .leaf (.seq (.join [(AEx.normal, { items := [.slot 2, .slot 4, .box 2 3, .box 4 3], shapes := [.lit (C.box 2 0), .lit (C.box 4 0), .bool, .sl 1, .sl 1, .bool, .tree, .tree] })] .leaf) .leaf))
theorem ok_rational_Max : TabOK Try.prog [63] g_rational_Max := (TabOK.cons (fun _ => ⟨_, Try.func63, by kernel_rfl, by kernel_rfl⟩) k_rational_Cmp (calleeOf_nat _ _) (fun _ => (calleeOf_pure (by kernel_rfl))) (by kernel_rfl) (fun _ => callK_framed (calleeOf_nat _ _) rfl rfl) (by kernel_rfl) (TabOK.cons (fun _ => ⟨_, Try.func96, by kernel_rfl, by kernel_rfl⟩) k_rational_copied (calleeOf_nat _ _) (fun h => by cases h) (by kernel_rfl) (fun _ => callK_framed (calleeOf_nat _ _) rfl rfl) (by kernel_rfl) TabOK.nil))
theorem e_rational_Max : ∀ t, bodyG Try.prog g_rational_Max [63] h_rational_Max Try.f95 sg_rational_Max t = u_rational_Max t := by
  intro t
  kernel_rfl
theorem k_rational_Max : (calleeOf sg_rational_Max u_rational_Max).OK Try.prog 95 := calleeG_ok mixed ok_rational_Max Try.func95 (by kernel_rfl) (by kernel_rfl) e_rational_Max

/-! rational_Same -/
def sg_rational_Same : Sig := { na := 2, np := 0, hin := { items := [.aggs 0 3, .aggs 1 3], shapes := [.bool, .sl 1, .sl 1, .bool, .sl 1, .sl 1] }, nres := 1, kept := [], nnew := 0, hout := { items := [.slot 0], shapes := [.bool] }, nob := 48 }
noncomputable def g_rational_Same : List (Go.FuncId × Callee) := [(67, (calleeOf sg_slices_Equal___uint32_uint32_ u_slices_Equal___uint32_uint32_))]
noncomputable def u_rational_Same (t : (Bool × ((List T) × ((List T) × (Bool × ((List T) × ((List T) × Unit))))))) : Option (Bool × Unit) :=
  (bif (eqB t.1 t.2.2.2.1) then (ob (u_slices_Equal___uint32_uint32_ (t.2.1, (t.2.2.2.2.1, ()))) fun x0 => (bif x0.1 then (ob (u_slices_Equal___uint32_uint32_ (t.2.2.1, (t.2.2.2.2.2.1, ()))) fun x1 => (some (x1.1, ()))) else (some (Bool.false, ())))) else (some (Bool.false, ())))
def h_rational_Same : HT := .leaf
theorem ok_rational_Same : TabOK Try.prog [67] g_rational_Same := (TabOK.cons (fun _ => ⟨_, Try.func67, by kernel_rfl, by kernel_rfl⟩) k_slices_Equal___uint32_uint32_ (calleeOf_nat _ _) (fun _ => (calleeOf_pure (by kernel_rfl))) (by kernel_rfl) (fun _ => callK_framed (calleeOf_nat _ _) rfl rfl) (by kernel_rfl) TabOK.nil)
theorem e_rational_Same : ∀ t, bodyG Try.prog g_rational_Same [67] h_rational_Same Try.f58 sg_rational_Same t = u_rational_Same t := by
  intro t
  kernel_rfl
theorem k_rational_Same : (calleeOf sg_rational_Same u_rational_Same).OK Try.prog 58 := calleeG_ok mixed ok_rational_Same Try.func58 (by kernel_rfl) (by kernel_rfl) e_rational_Same

/-! rational_Valid -/
def sg_rational_Valid : Sig := { na := 1, np := 0, hin := { items := [.aggs 0 3], shapes := [.bool, .sl 1, .sl 1] }, nres := 1, kept := [], nnew := 0, hout := { items := [.slot 0], shapes := [.bool] }, nob := 104 }
noncomputable def g_rational_Valid : List (Go.FuncId × Callee) := [(54, (calleeOf sg_natural_Valid u_natural_Valid)), (56, (calleeOf sg_natural_Gcd u_natural_Gcd)), (55, (calleeOf sg_natural_Bits u_natural_Bits))]
noncomputable def u_rational_Valid (t : (Bool × ((List T) × ((List T) × Unit)))) : Option (Bool × Unit) :=
  (ob (u_natural_Valid (t.2.1, ())) fun x0 => (bif (Bool.not x0.1) then (some (Bool.false, ())) else (ob (u_natural_Valid (t.2.2.1, ())) fun x1 => (bif (Bool.not x1.1) then (some (Bool.false, ())) else (bif (eqI (lenL t.2.2.1) (1 : Int)) then (ob (idxL t.2.2.1 (0 : Int)) fun x2 => (ob (T.int? IntKind.u32 (T.cell x2 0)) fun x3 => (bif (eqI x3 (1 : Int)) then (some (Bool.false, ())) else (bif (eqI (lenL t.2.1) (0 : Int)) then (bif (Bool.not t.1) then (some ((eqI (lenL t.2.2.1) (0 : Int)), ())) else (some (Bool.false, ()))) else (bif (eqI (lenL t.2.2.1) (0 : Int)) then (some (Bool.true, ())) else (ob (u_natural_Gcd (t.2.1, (t.2.2.1, ()))) fun x4 => (ob (u_natural_Bits (x4.1, ())) fun x5 => (some ((eqI x5.1 (1 : Int)), ()))))))))) else (bif (eqI (lenL t.2.1) (0 : Int)) then (bif (Bool.not t.1) then (some ((eqI (lenL t.2.2.1) (0 : Int)), ())) else (some (Bool.false, ()))) else (bif (eqI (lenL t.2.2.1) (0 : Int)) then (some (Bool.true, ())) else (ob (u_natural_Gcd (t.2.1, (t.2.2.1, ()))) fun x6 => (ob (u_natural_Bits (x6.1, ())) fun x7 => (some ((eqI x7.1 (1 : Int)), ())))))))))))
def h_rational_Valid : HT := .leaf
theorem ok_rational_Valid : TabOK Try.prog [54, 55] g_rational_Valid := (TabOK.cons (fun _ => ⟨_, Try.func54, by kernel_rfl, by kernel_rfl⟩) k_natural_Valid (calleeOf_nat _ _) (fun _ => (calleeOf_pure (by kernel_rfl))) (by kernel_rfl) (fun _ => callK_framed (calleeOf_nat _ _) rfl rfl) (by kernel_rfl) (TabOK.cons (fun _ => ⟨_, Try.func56, by kernel_rfl, by kernel_rfl⟩) k_natural_Gcd (calleeOf_nat _ _) (fun h => by cases h) (by kernel_rfl) (fun _ => callK_framed (calleeOf_nat _ _) rfl rfl) (by kernel_rfl) (TabOK.cons (fun _ => ⟨_, Try.func55, by kernel_rfl, by kernel_rfl⟩) k_natural_Bits (calleeOf_nat _ _) (fun _ => (calleeOf_pure (by kernel_rfl))) (by kernel_rfl) (fun _ => callK_framed (calleeOf_nat _ _) rfl rfl) (by kernel_rfl) TabOK.nil)))
theorem e_rational_Valid : ∀ t, bodyG Try.prog g_rational_Valid [54, 55] h_rational_Valid Try.f33 sg_rational_Valid t = u_rational_Valid t := by
  intro t
  kernel_rfl
theorem k_rational_Valid : (calleeOf sg_rational_Valid u_rational_Valid).OK Try.prog 33 := calleeG_ok mixed ok_rational_Valid Try.func33 (by kernel_rfl) (by kernel_rfl) e_rational_Valid

/-! vector_each_Sub -/
def sg_vector_each_Sub : Sig := { na := 3, np := 0, hin := { items := [.aggs 0 9, .aggs 1 9, .slot 2], shapes := [.bool, .sl 1, .sl 1, .bool, .sl 1, .sl 1, .bool, .sl 1, .sl 1, .bool, .sl 1, .sl 1, .bool, .sl 1, .sl 1, .bool, .sl 1, .sl 1, .lit (.t (.v (.func (.func 22) #[] #[])))] }, nres := 1, kept := [], nnew := 0, hout := { items := [.aggs 0 9], shapes := [.bool, .sl 1, .sl 1, .bool, .sl 1, .sl 1, .bool, .sl 1, .sl 1] }, nob := 48 }
noncomputable def g_vector_each_Sub : List (Go.FuncId × Callee) := [(22, (calleeOf sg_rational_Sub u_rational_Sub)), (2000000, flagC [3, 4] [23])]
noncomputable def u_vector_each_Sub (t : (Bool × ((List T) × ((List T) × (Bool × ((List T) × ((List T) × (Bool × ((List T) × ((List T) × (Bool × ((List T) × ((List T) × (Bool × ((List T) × ((List T) × (Bool × ((List T) × ((List T) × (Unit × Unit)))))))))))))))))))) : Option (Bool × ((List T) × ((List T) × (Bool × ((List T) × ((List T) × (Bool × ((List T) × ((List T) × Unit))))))))) :=
  (ob (α := ((Unit × Unit × Bool × T × T × Bool × T × T × Bool × T × T × Bool × List T × List T × Bool × List T × List T × Bool × List T × List T × Unit) ⊕ Empty)) (ob (u_rational_Sub (t.1, (t.2.1, (t.2.2.1, (t.2.2.2.2.2.2.2.2.2.1, (t.2.2.2.2.2.2.2.2.2.2.1, (t.2.2.2.2.2.2.2.2.2.2.2.1, ()))))))) fun x0 => (ob (u_rational_Sub (t.2.2.2.1, (t.2.2.2.2.1, (t.2.2.2.2.2.1, (t.2.2.2.2.2.2.2.2.2.2.2.2.1, (t.2.2.2.2.2.2.2.2.2.2.2.2.2.1, (t.2.2.2.2.2.2.2.2.2.2.2.2.2.2.1, ()))))))) fun x1 => (ob (u_rational_Sub (t.2.2.2.2.2.2.1, (t.2.2.2.2.2.2.2.1, (t.2.2.2.2.2.2.2.2.1, (t.2.2.2.2.2.2.2.2.2.2.2.2.2.2.2.1, (t.2.2.2.2.2.2.2.2.2.2.2.2.2.2.2.2.1, (t.2.2.2.2.2.2.2.2.2.2.2.2.2.2.2.2.2.1, ()))))))) fun x2 => (some (Sum.inl ((), ((), (Bool.false, ((T.v (Value.slice (Option.none) 0 0)), ((T.v (Value.slice (Option.none) 0 0)), (Bool.false, ((T.v (Value.slice (Option.none) 0 0)), ((T.v (Value.slice (Option.none) 0 0)), (Bool.false, ((T.v (Value.slice (Option.none) 0 0)), ((T.v (Value.slice (Option.none) 0 0)), (x0.1, (x0.2.1, (x0.2.2.1, (x1.1, (x1.2.1, (x1.2.2.1, (x2.1, (x2.2.1, (x2.2.2.1, ()))))))))))))))))))))))))) fun q3 => onS q3 (fun t4 => (some (t4.2.2.2.2.2.2.2.2.2.2.2.1, (t4.2.2.2.2.2.2.2.2.2.2.2.2.1, (t4.2.2.2.2.2.2.2.2.2.2.2.2.2.1, (t4.2.2.2.2.2.2.2.2.2.2.2.2.2.2.1, (t4.2.2.2.2.2.2.2.2.2.2.2.2.2.2.2.1, (t4.2.2.2.2.2.2.2.2.2.2.2.2.2.2.2.2.1, (t4.2.2.2.2.2.2.2.2.2.2.2.2.2.2.2.2.2.1, (t4.2.2.2.2.2.2.2.2.2.2.2.2.2.2.2.2.2.2.1, (t4.2.2.2.2.2.2.2.2.2.2.2.2.2.2.2.2.2.2.2.1, ()))))))))))) fun q5 => noS q5)
def h_vector_each_Sub : HT := (.seq .leaf (.seq .leaf (.seq (.join [(AEx.normal, { items := [.slot 6, .slot 7, .box 6 9, .box 7 9], shapes := [.lit (C.box 6 0), .lit (C.box 7 0), .bool, .tree, .tree, .bool, .tree, .tree, .bool, .tree, .tree, .bool, .sl 1, .sl 1, .bool, .sl 1, .sl 1, .bool, .sl 1, .sl 1] })] (.seq .leaf (.one (.unr 4 .leaf)))) .leaf)))
theorem ok_vector_each_Sub : TabOK Try.prog [9000000, 4000022, 20000023, 9000002] g_vector_each_Sub := (TabOK.cons (fun _ => ⟨_, Try.func22, by kernel_rfl, by kernel_rfl⟩) k_rational_Sub (calleeOf_nat _ _) (fun h => by cases h) (by kernel_rfl) (fun _ => callK_framed (calleeOf_nat _ _) rfl rfl) (by kernel_rfl) (TabOK.flag (by kernel_rfl) (by kernel_rfl) (by kernel_rfl) (by kernel_rfl) (by kernel_rfl)))
theorem e_vector_each_Sub : ∀ t, bodyG Try.prog g_vector_each_Sub [9000000, 4000022, 20000023, 9000002] h_vector_each_Sub Try.f93 sg_vector_each_Sub t = u_vector_each_Sub t := by
  intro t
  kernel_rfl
theorem k_vector_each_Sub : (calleeOf sg_vector_each_Sub u_vector_each_Sub).OK Try.prog 93 := calleeG_ok mixed ok_vector_each_Sub Try.func93 (by kernel_rfl) (by kernel_rfl) e_vector_each_Sub

/-! vector_Sub -/
def sg_vector_Sub : Sig := { na := 2, np := 0, hin := { items := [.aggs 0 9, .aggs 1 9], shapes := [.bool, .sl 1, .sl 1, .bool, .sl 1, .sl 1, .bool, .sl 1, .sl 1, .bool, .sl 1, .sl 1, .bool, .sl 1, .sl 1, .bool, .sl 1, .sl 1] }, nres := 1, kept := [], nnew := 0, hout := { items := [.aggs 0 9], shapes := [.bool, .sl 1, .sl 1, .bool, .sl 1, .sl 1, .bool, .sl 1, .sl 1] }, nob := 16 }
noncomputable def g_vector_Sub : List (Go.FuncId × Callee) := [(93, (calleeOf sg_vector_each_Sub u_vector_each_Sub)), (22, (calleeOf sg_rational_Sub u_rational_Sub))]
noncomputable def u_vector_Sub (t : (Bool × ((List T) × ((List T) × (Bool × ((List T) × ((List T) × (Bool × ((List T) × ((List T) × (Bool × ((List T) × ((List T) × (Bool × ((List T) × ((List T) × (Bool × ((List T) × ((List T) × Unit))))))))))))))))))) : Option (Bool × ((List T) × ((List T) × (Bool × ((List T) × ((List T) × (Bool × ((List T) × ((List T) × Unit))))))))) :=
  (ob (u_vector_each_Sub (t.1, (t.2.1, (t.2.2.1, (t.2.2.2.1, (t.2.2.2.2.1, (t.2.2.2.2.2.1, (t.2.2.2.2.2.2.1, (t.2.2.2.2.2.2.2.1, (t.2.2.2.2.2.2.2.2.1, (t.2.2.2.2.2.2.2.2.2.1, (t.2.2.2.2.2.2.2.2.2.2.1, (t.2.2.2.2.2.2.2.2.2.2.2.1, (t.2.2.2.2.2.2.2.2.2.2.2.2.1, (t.2.2.2.2.2.2.2.2.2.2.2.2.2.1, (t.2.2.2.2.2.2.2.2.2.2.2.2.2.2.1, (t.2.2.2.2.2.2.2.2.2.2.2.2.2.2.2.1, (t.2.2.2.2.2.2.2.2.2.2.2.2.2.2.2.2.1, (t.2.2.2.2.2.2.2.2.2.2.2.2.2.2.2.2.2.1, ((), ())))))))))))))))))))) fun x0 => (some (x0.1, (x0.2.1, (x0.2.2.1, (x0.2.2.2.1, (x0.2.2.2.2.1, (x0.2.2.2.2.2.1, (x0.2.2.2.2.2.2.1, (x0.2.2.2.2.2.2.2.1, (x0.2.2.2.2.2.2.2.2.1, ())))))))))))
def h_vector_Sub : HT := .leaf
theorem ok_vector_Sub : TabOK Try.prog [] g_vector_Sub := (TabOK.cons (fun _ => ⟨_, Try.func93, by kernel_rfl, by kernel_rfl⟩) k_vector_each_Sub (calleeOf_nat _ _) (fun h => by cases h) (by kernel_rfl) (fun _ => callK_framed (calleeOf_nat _ _) rfl rfl) (by kernel_rfl) (TabOK.cons (fun _ => ⟨_, Try.func22, by kernel_rfl, by kernel_rfl⟩) k_rational_Sub (calleeOf_nat _ _) (fun h => by cases h) (by kernel_rfl) (fun _ => callK_framed (calleeOf_nat _ _) rfl rfl) (by kernel_rfl) TabOK.nil))
theorem e_vector_Sub : ∀ t, bodyG Try.prog g_vector_Sub [] h_vector_Sub Try.f86 sg_vector_Sub t = u_vector_Sub t := by
  intro t
  kernel_rfl
theorem k_vector_Sub : (calleeOf sg_vector_Sub u_vector_Sub).OK Try.prog 86 := calleeG_ok mixed ok_vector_Sub Try.func86 (by kernel_rfl) (by kernel_rfl) e_vector_Sub

end Go.Eng
