/- The functions of this seat as plain functions on tuples, each proved to be what its code comes to; no conditions, but that nothing is said where the plain function gives nothing. -/
import Derived.Test.YtdmeejlioobepaaGen2
import Derived.Test.YtdmeejlioobepaaEng3
set_option linter.unusedSimpArgs false
set_option linter.unusedVariables false

/- Twins of functions: rounds of loops are counted, so that the kernel can compute them on closed arguments. -/
namespace Go.Eng
noncomputable def v_ref01_small (n : Nat) (t : ((List T) × Unit)) : Option (Int × (Bool × Unit)) :=
  (bif (eqI (lenL t.1) (0 : Int)) then (some ((0 : Int), (Bool.true, ()))) else (bif (eqI (lenL t.1) (1 : Int)) then (ob (idxL t.1 (0 : Int)) fun x0 => (ob (T.anyInt? (T.cell x0 0)) fun x1 => (some ((wr IntKind.u64 x1), (Bool.true, ()))))) else (bif (eqI (lenL t.1) (2 : Int)) then (ob (idxL t.1 (0 : Int)) fun x2 => (ob (T.anyInt? (T.cell x2 0)) fun x3 => (ob (idxL t.1 (1 : Int)) fun x4 => (ob (T.anyInt? (T.cell x4 0)) fun x5 => (ob (nn (32 : Int)) fun x6 => (some ((bitI Go.BinOp.or IntKind.u64 (wr IntKind.u64 x3) (wr IntKind.u64 (shlI IntKind.u64 (wr IntKind.u64 x5) x6))), (Bool.true, ())))))))) else (some ((0 : Int), (Bool.false, ()))))))
theorem le_ref01_small (n : Nat) (t : ((List T) × Unit)) : Le (v_ref01_small n t) (u_ref01_small t) := by
  unfold v_ref01_small u_ref01_small
  repeat' first
    | with_reducible refine le_cond ?_ ?_
    | with_reducible refine le_onS (fun _ => ?_) fun _ => ?_
    | with_reducible refine le_ob ?_ fun _ => ?_
    | with_reducible refine le_both ?_ ?_
    | with_reducible exact le_rfl
noncomputable def v_ref01_Trim_l0 (n : Nat) (s0 : (List T × Int × Unit)) : Option ((List T × Int × Unit) ⊕ ((List T × Int × Unit) ⊕ Empty)) :=
  (bif (ltI (0 : Int) s0.2.1) then (ob (idxL s0.1 (wr IntKind.i64 (subI s0.2.1 (1 : Int)))) fun x1 => (ob (T.int? IntKind.u32 (T.cell x1 0)) fun x2 => (bif (eqI x2 (0 : Int)) then (some (Sum.inl (s0.1, ((wr IntKind.i64 (subI s0.2.1 (1 : Int))), ())))) else (some (Sum.inr (Sum.inl (s0.1, (s0.2.1, ())))))))) else (some (Sum.inr (Sum.inl (s0.1, (s0.2.1, ()))))))
theorem le_ref01_Trim_l0 (n : Nat) (s0 : (List T × Int × Unit)) : Le (v_ref01_Trim_l0 n s0) (u_ref01_Trim_l0 s0) := by
  unfold v_ref01_Trim_l0 u_ref01_Trim_l0
  repeat' first
    | with_reducible refine le_cond ?_ ?_
    | with_reducible refine le_onS (fun _ => ?_) fun _ => ?_
    | with_reducible refine le_ob ?_ fun _ => ?_
    | with_reducible refine le_both ?_ ?_
    | with_reducible exact le_rfl
noncomputable def v_ref01_Trim (n : Nat) (t : ((List T) × Unit)) : Option ((List T) × Unit) :=
  (ob (iter (v_ref01_Trim_l0 n) n (t.1, ((lenL t.1), ()))) fun q3 => onS q3 (fun t4 => (ob (cutL t4.1 (0 : Int) t4.2.1) fun x5 => (ob (room [] x5 4) fun x6 => (some (x6, ()))))) fun q7 => noS q7)
theorem le_ref01_Trim (n : Nat) (t : ((List T) × Unit)) : Le (v_ref01_Trim n t) (u_ref01_Trim t) := by
  unfold v_ref01_Trim u_ref01_Trim
  repeat' first
    | with_reducible refine le_cond ?_ ?_
    | with_reducible refine le_onS (fun _ => ?_) fun _ => ?_
    | with_reducible refine le_ob ?_ fun _ => ?_
    | with_reducible refine le_both ?_ ?_
    | with_reducible exact le_rfl
    | with_reducible exact le_loop (fun s => le_ref01_Trim_l0 n s) _ _
noncomputable def v_ref01_Of (n : Nat) (t : (Int × Unit)) : Option ((List T) × Unit) :=
  (ob (nn (32 : Int)) fun x0 => (ob (v_ref01_Trim n ([(T.v (Value.int IntKind.u32 (wr IntKind.u32 t.1))), (T.v (Value.int IntKind.u32 (wr IntKind.u32 (shrI IntKind.u64 t.1 x0))))], ())) fun x1 => (some (x1.1, ()))))
theorem le_ref01_Of (n : Nat) (t : (Int × Unit)) : Le (v_ref01_Of n t) (u_ref01_Of t) := by
  unfold v_ref01_Of u_ref01_Of
  repeat' first
    | with_reducible refine le_cond ?_ ?_
    | with_reducible refine le_onS (fun _ => ?_) fun _ => ?_
    | with_reducible refine le_ob ?_ fun _ => ?_
    | with_reducible refine le_both ?_ ?_
    | with_reducible exact le_rfl
    | with_reducible exact le_ref01_Trim n _
noncomputable def v_ref01_Cmp_l0 (n : Nat) (s0 : (List T × List T × Int × Unit)) : Option ((List T × List T × Int × Unit) ⊕ ((Int × Unit) ⊕ ((Unit) ⊕ Empty))) :=
  (bif (leI (0 : Int) s0.2.2.1) then (ob (idxL s0.1 s0.2.2.1) fun x1 => (ob (idxL s0.2.1 s0.2.2.1) fun x2 => (ob (T.int? IntKind.u32 (T.cell x1 0)) fun x3 => (ob (T.int? IntKind.u32 (T.cell x2 0)) fun x4 => (bif (ltI x3 x4) then (some (Sum.inr (Sum.inl ((-1 : Int), ())))) else (ob (idxL s0.1 s0.2.2.1) fun x5 => (ob (idxL s0.2.1 s0.2.2.1) fun x6 => (ob (T.int? IntKind.u32 (T.cell x5 0)) fun x7 => (ob (T.int? IntKind.u32 (T.cell x6 0)) fun x8 => (bif (ltI x8 x7) then (some (Sum.inr (Sum.inl ((1 : Int), ())))) else (some (Sum.inl (s0.1, (s0.2.1, ((wr IntKind.i64 (subI s0.2.2.1 (1 : Int))), ()))))))))))))))) else (some (Sum.inr (Sum.inr (Sum.inl ())))))
theorem le_ref01_Cmp_l0 (n : Nat) (s0 : (List T × List T × Int × Unit)) : Le (v_ref01_Cmp_l0 n s0) (u_ref01_Cmp_l0 s0) := by
  unfold v_ref01_Cmp_l0 u_ref01_Cmp_l0
  repeat' first
    | with_reducible refine le_cond ?_ ?_
    | with_reducible refine le_onS (fun _ => ?_) fun _ => ?_
    | with_reducible refine le_ob ?_ fun _ => ?_
    | with_reducible refine le_both ?_ ?_
    | with_reducible exact le_rfl
noncomputable def v_ref01_Cmp (n : Nat) (t : ((List T) × ((List T) × Unit))) : Option (Int × Unit) :=
  (bif (Bool.not (eqI (lenL t.1) (lenL t.2.1))) then (bif (ltI (lenL t.1) (lenL t.2.1)) then (some ((-1 : Int), ())) else (some ((1 : Int), ()))) else (ob (iter (v_ref01_Cmp_l0 n) n (t.1, (t.2.1, ((wr IntKind.i64 (subI (lenL t.1) (1 : Int))), ())))) fun q9 => onS q9 (fun t10 => (some (t10.1, ()))) fun q11 => onS q11 (fun t12 => (some ((0 : Int), ()))) fun q13 => noS q13))
theorem le_ref01_Cmp (n : Nat) (t : ((List T) × ((List T) × Unit))) : Le (v_ref01_Cmp n t) (u_ref01_Cmp t) := by
  unfold v_ref01_Cmp u_ref01_Cmp
  repeat' first
    | with_reducible refine le_cond ?_ ?_
    | with_reducible refine le_onS (fun _ => ?_) fun _ => ?_
    | with_reducible refine le_ob ?_ fun _ => ?_
    | with_reducible refine le_both ?_ ?_
    | with_reducible exact le_rfl
    | with_reducible exact le_loop (fun s => le_ref01_Cmp_l0 n s) _ _
noncomputable def v_ref01_Mul_l1 (n : Nat) (s2 : (List T × List T × List T × Int × Int × Int × Unit)) : Option ((List T × List T × List T × Int × Int × Int × Unit) ⊕ ((List T × List T × List T × Int × Int × Unit) ⊕ Empty)) :=
  (bif (ltI s2.2.2.2.2.2.1 (lenL s2.2.1)) then (ob (idxL s2.1 s2.2.2.2.1) fun x3 => (ob (T.anyInt? (T.cell x3 0)) fun x4 => (ob (idxL s2.2.1 s2.2.2.2.2.2.1) fun x5 => (ob (T.anyInt? (T.cell x5 0)) fun x6 => (ob (chkI (lenL s2.2.2.1) (wr IntKind.i64 (addI s2.2.2.2.1 s2.2.2.2.2.2.1))) fun x7 => (ob (idxN s2.2.2.1 x7) fun x8 => (ob (T.anyInt? (T.cell x8 0)) fun x9 => (ob (chkI (lenL s2.2.2.1) (wr IntKind.i64 (addI s2.2.2.2.1 s2.2.2.2.2.2.1))) fun x10 => (ob (idxN s2.2.2.1 x10) fun x11 => (ob (nn (32 : Int)) fun x12 => (some (Sum.inl (s2.1, (s2.2.1, ((List.set s2.2.2.1 x10 (T.upd 1 x11 0 [(T.v (Value.int IntKind.u32 (wr IntKind.u32 (wr IntKind.u64 (addI s2.2.2.2.2.1 (wr IntKind.u64 (addI (wr IntKind.u64 (mulI (wr IntKind.u64 x4) (wr IntKind.u64 x6))) (wr IntKind.u64 x9))))))))])), (s2.2.2.2.1, ((shrI IntKind.u64 (wr IntKind.u64 (addI s2.2.2.2.2.1 (wr IntKind.u64 (addI (wr IntKind.u64 (mulI (wr IntKind.u64 x4) (wr IntKind.u64 x6))) (wr IntKind.u64 x9))))) x12), ((wr IntKind.i64 (addI s2.2.2.2.2.2.1 (1 : Int))), ())))))))))))))))))) else (some (Sum.inr (Sum.inl (s2.1, (s2.2.1, (s2.2.2.1, (s2.2.2.2.1, (s2.2.2.2.2.1, ())))))))))
theorem le_ref01_Mul_l1 (n : Nat) (s2 : (List T × List T × List T × Int × Int × Int × Unit)) : Le (v_ref01_Mul_l1 n s2) (u_ref01_Mul_l1 s2) := by
  unfold v_ref01_Mul_l1 u_ref01_Mul_l1
  repeat' first
    | with_reducible refine le_cond ?_ ?_
    | with_reducible refine le_onS (fun _ => ?_) fun _ => ?_
    | with_reducible refine le_ob ?_ fun _ => ?_
    | with_reducible refine le_both ?_ ?_
    | with_reducible exact le_rfl
noncomputable def v_ref01_Mul_l0 (n : Nat) (s1 : (List T × List T × List T × Int × Unit)) : Option ((List T × List T × List T × Int × Unit) ⊕ ((List T × Unit) ⊕ Empty)) :=
  (bif (ltI s1.2.2.2.1 (lenL s1.1)) then (ob (iter (v_ref01_Mul_l1 n) n (s1.1, (s1.2.1, (s1.2.2.1, (s1.2.2.2.1, ((0 : Int), ((0 : Int), ()))))))) fun q13 => onS q13 (fun t14 => (ob (chkI (lenL t14.2.2.1) (wr IntKind.i64 (addI t14.2.2.2.1 (lenL t14.2.1)))) fun x15 => (ob (idxN t14.2.2.1 x15) fun x16 => (some (Sum.inl (t14.1, (t14.2.1, ((List.set t14.2.2.1 x15 (T.upd 1 x16 0 [(T.v (Value.int IntKind.u32 (wr IntKind.u32 t14.2.2.2.2.1)))])), ((wr IntKind.i64 (addI t14.2.2.2.1 (1 : Int))), ()))))))))) fun q17 => noS q17) else (some (Sum.inr (Sum.inl (s1.2.2.1, ())))))
theorem le_ref01_Mul_l0 (n : Nat) (s1 : (List T × List T × List T × Int × Unit)) : Le (v_ref01_Mul_l0 n s1) (u_ref01_Mul_l0 s1) := by
  unfold v_ref01_Mul_l0 u_ref01_Mul_l0
  repeat' first
    | with_reducible refine le_cond ?_ ?_
    | with_reducible refine le_onS (fun _ => ?_) fun _ => ?_
    | with_reducible refine le_ob ?_ fun _ => ?_
    | with_reducible refine le_both ?_ ?_
    | with_reducible exact le_rfl
    | with_reducible exact le_loop (fun s => le_ref01_Mul_l1 n s) _ _
noncomputable def v_ref01_Mul (n : Nat) (t : ((List T) × ((List T) × Unit))) : Option ((List T) × Unit) :=
  (ob (mkLen (wr IntKind.i64 (addI (lenL t.1) (lenL t.2.1))) (wr IntKind.i64 (addI (lenL t.1) (lenL t.2.1))) 4) fun x0 => (ob (iter (v_ref01_Mul_l0 n) n (t.1, (t.2.1, ((repL x0.1 (T.v (Value.int IntKind.u32 (0 : Int)))), ((0 : Int), ()))))) fun q18 => onS q18 (fun t19 => (ob (v_ref01_Trim n (t19.1, ())) fun x20 => (some (x20.1, ())))) fun q21 => noS q21))
theorem le_ref01_Mul (n : Nat) (t : ((List T) × ((List T) × Unit))) : Le (v_ref01_Mul n t) (u_ref01_Mul t) := by
  unfold v_ref01_Mul u_ref01_Mul
  repeat' first
    | with_reducible refine le_cond ?_ ?_
    | with_reducible refine le_onS (fun _ => ?_) fun _ => ?_
    | with_reducible refine le_ob ?_ fun _ => ?_
    | with_reducible refine le_both ?_ ?_
    | with_reducible exact le_rfl
    | with_reducible exact le_ref01_Trim n _
    | with_reducible exact le_loop (fun s => le_ref01_Mul_l0 n s) _ _
noncomputable def v_ref01_minus_l0 (n : Nat) (s1 : (List T × List T × List T × Int × Int × Unit)) : Option ((List T × List T × List T × Int × Int × Unit) ⊕ ((List T × Unit) ⊕ Empty)) :=
  (bif (ltI s1.2.2.2.2.1 (lenL s1.1)) then (ob (α := ((List T × List T × List T × Int × Int × Unit) ⊕ Empty)) (bif (ltI s1.2.2.2.2.1 (lenL s1.2.1)) then (ob (idxL s1.2.1 s1.2.2.2.2.1) fun x2 => (ob (T.anyInt? (T.cell x2 0)) fun x3 => (some (Sum.inl (s1.1, (s1.2.1, (s1.2.2.1, (s1.2.2.2.2.1, ((wr IntKind.u64 (addI s1.2.2.2.1 (wr IntKind.u64 x3))), ()))))))))) else (some (Sum.inl (s1.1, (s1.2.1, (s1.2.2.1, (s1.2.2.2.2.1, (s1.2.2.2.1, ())))))))) fun q4 => onS q4 (fun t5 => (ob (idxL t5.1 t5.2.2.2.1) fun x6 => (ob (T.anyInt? (T.cell x6 0)) fun x7 => (ob (α := ((List T × List T × List T × Int × Int × Int × Int × Unit) ⊕ Empty)) (bif (ltI (wr IntKind.u64 x7) t5.2.2.2.2.1) then (some (Sum.inl (t5.1, (t5.2.1, (t5.2.2.1, ((1 : Int), (t5.2.2.2.1, (t5.2.2.2.2.1, ((wr IntKind.u64 (addI (wr IntKind.u64 x7) (4294967296 : Int))), ()))))))))) else (some (Sum.inl (t5.1, (t5.2.1, (t5.2.2.1, ((0 : Int), (t5.2.2.2.1, (t5.2.2.2.2.1, ((wr IntKind.u64 x7), ())))))))))) fun q8 => onS q8 (fun t9 => (ob (chkI (lenL t9.2.2.1) t9.2.2.2.2.1) fun x10 => (ob (idxN t9.2.2.1 x10) fun x11 => (some (Sum.inl (t9.1, (t9.2.1, ((List.set t9.2.2.1 x10 (T.upd 1 x11 0 [(T.v (Value.int IntKind.u32 (wr IntKind.u32 (wr IntKind.u64 (subI t9.2.2.2.2.2.2.1 t9.2.2.2.2.2.1)))))])), (t9.2.2.2.1, ((wr IntKind.i64 (addI t9.2.2.2.2.1 (1 : Int))), ())))))))))) fun q12 => noS q12)))) fun q13 => noS q13) else (some (Sum.inr (Sum.inl (s1.2.2.1, ())))))
theorem le_ref01_minus_l0 (n : Nat) (s1 : (List T × List T × List T × Int × Int × Unit)) : Le (v_ref01_minus_l0 n s1) (u_ref01_minus_l0 s1) := by
  unfold v_ref01_minus_l0 u_ref01_minus_l0
  repeat' first
    | with_reducible refine le_cond ?_ ?_
    | with_reducible refine le_onS (fun _ => ?_) fun _ => ?_
    | with_reducible refine le_ob ?_ fun _ => ?_
    | with_reducible refine le_both ?_ ?_
    | with_reducible exact le_rfl
noncomputable def v_ref01_minus (n : Nat) (t : ((List T) × ((List T) × Unit))) : Option ((List T) × Unit) :=
  (ob (mkLen (lenL t.1) (lenL t.1) 4) fun x0 => (ob (iter (v_ref01_minus_l0 n) n (t.1, (t.2.1, ((repL x0.1 (T.v (Value.int IntKind.u32 (0 : Int)))), ((0 : Int), ((0 : Int), ())))))) fun q14 => onS q14 (fun t15 => (ob (v_ref01_Trim n (t15.1, ())) fun x16 => (some (x16.1, ())))) fun q17 => noS q17))
theorem le_ref01_minus (n : Nat) (t : ((List T) × ((List T) × Unit))) : Le (v_ref01_minus n t) (u_ref01_minus t) := by
  unfold v_ref01_minus u_ref01_minus
  repeat' first
    | with_reducible refine le_cond ?_ ?_
    | with_reducible refine le_onS (fun _ => ?_) fun _ => ?_
    | with_reducible refine le_ob ?_ fun _ => ?_
    | with_reducible refine le_both ?_ ?_
    | with_reducible exact le_rfl
    | with_reducible exact le_ref01_Trim n _
    | with_reducible exact le_loop (fun s => le_ref01_minus_l0 n s) _ _
noncomputable def v_ref01_Bits_l0 (n : Nat) (s1 : (Int × Int × Unit)) : Option ((Int × Int × Unit) ⊕ ((Int × Unit) ⊕ Empty)) :=
  (bif (Bool.not (eqI s1.2.1 (0 : Int))) then (ob (nn (1 : Int)) fun x2 => (some (Sum.inl ((wr IntKind.i64 (addI s1.1 (1 : Int))), ((shrI IntKind.u32 s1.2.1 x2), ()))))) else (some (Sum.inr (Sum.inl (s1.1, ())))))
theorem le_ref01_Bits_l0 (n : Nat) (s1 : (Int × Int × Unit)) : Le (v_ref01_Bits_l0 n s1) (u_ref01_Bits_l0 s1) := by
  unfold v_ref01_Bits_l0 u_ref01_Bits_l0
  repeat' first
    | with_reducible refine le_cond ?_ ?_
    | with_reducible refine le_onS (fun _ => ?_) fun _ => ?_
    | with_reducible refine le_ob ?_ fun _ => ?_
    | with_reducible refine le_both ?_ ?_
    | with_reducible exact le_rfl
noncomputable def v_ref01_Bits (n : Nat) (t : ((List T) × Unit)) : Option (Int × Unit) :=
  (bif (eqI (lenL t.1) (0 : Int)) then (some ((0 : Int), ())) else (ob (idxL t.1 (wr IntKind.i64 (subI (lenL t.1) (1 : Int)))) fun x0 => (ob (T.int? IntKind.u32 (T.cell x0 0)) fun x3 => (ob (iter (v_ref01_Bits_l0 n) n ((wr IntKind.i64 (mulI (32 : Int) (wr IntKind.i64 (subI (lenL t.1) (1 : Int))))), (x3, ()))) fun q4 => onS q4 (fun t5 => (some (t5.1, ()))) fun q6 => noS q6))))
theorem le_ref01_Bits (n : Nat) (t : ((List T) × Unit)) : Le (v_ref01_Bits n t) (u_ref01_Bits t) := by
  unfold v_ref01_Bits u_ref01_Bits
  repeat' first
    | with_reducible refine le_cond ?_ ?_
    | with_reducible refine le_onS (fun _ => ?_) fun _ => ?_
    | with_reducible refine le_ob ?_ fun _ => ?_
    | with_reducible refine le_both ?_ ?_
    | with_reducible exact le_rfl
    | with_reducible exact le_loop (fun s => le_ref01_Bits_l0 n s) _ _
noncomputable def v_ref01_up_l0 (n : Nat) (s2 : (List T × Int × List T × Int × Int × Unit)) : Option ((List T × Int × List T × Int × Int × Unit) ⊕ ((List T × Int × Unit) ⊕ Empty)) :=
  (bif (ltI s2.2.2.2.2.1 (lenL s2.1)) then (ob (idxL s2.1 s2.2.2.2.2.1) fun x3 => (ob (T.anyInt? (T.cell x3 0)) fun x4 => (ob (nz (32 : Int)) fun x5 => (ob (nn (modI s2.2.1 x5)) fun x6 => (ob (room s2.2.2.1 [(T.v (Value.int IntKind.u32 (wr IntKind.u32 (bitI Go.BinOp.or IntKind.u64 s2.2.2.2.1 (wr IntKind.u64 (shlI IntKind.u64 (wr IntKind.u64 x4) x6))))))] 4) fun x7 => (ob (nn (32 : Int)) fun x8 => (some (Sum.inl (s2.1, (s2.2.1, (x7, ((shrI IntKind.u64 (bitI Go.BinOp.or IntKind.u64 s2.2.2.2.1 (wr IntKind.u64 (shlI IntKind.u64 (wr IntKind.u64 x4) x6))) x8), ((wr IntKind.i64 (addI s2.2.2.2.2.1 (1 : Int))), ()))))))))))))) else (some (Sum.inr (Sum.inl (s2.2.2.1, (s2.2.2.2.1, ()))))))
theorem le_ref01_up_l0 (n : Nat) (s2 : (List T × Int × List T × Int × Int × Unit)) : Le (v_ref01_up_l0 n s2) (u_ref01_up_l0 s2) := by
  unfold v_ref01_up_l0 u_ref01_up_l0
  repeat' first
    | with_reducible refine le_cond ?_ ?_
    | with_reducible refine le_onS (fun _ => ?_) fun _ => ?_
    | with_reducible refine le_ob ?_ fun _ => ?_
    | with_reducible refine le_both ?_ ?_
    | with_reducible exact le_rfl
noncomputable def v_ref01_up (n : Nat) (t : ((List T) × (Int × Unit))) : Option ((List T) × Unit) :=
  (ob (nz (32 : Int)) fun x0 => (ob (mkLen (wr IntKind.i64 (divI t.2.1 x0)) (wr IntKind.i64 (divI t.2.1 x0)) 4) fun x1 => (ob (iter (v_ref01_up_l0 n) n (t.1, (t.2.1, ((repL x1.1 (T.v (Value.int IntKind.u32 (0 : Int)))), ((0 : Int), ((0 : Int), ())))))) fun q9 => onS q9 (fun t10 => (ob (room t10.1 [(T.v (Value.int IntKind.u32 (wr IntKind.u32 t10.2.1)))] 4) fun x11 => (ob (v_ref01_Trim n (x11, ())) fun x12 => (some (x12.1, ()))))) fun q13 => noS q13)))
theorem le_ref01_up (n : Nat) (t : ((List T) × (Int × Unit))) : Le (v_ref01_up n t) (u_ref01_up t) := by
  unfold v_ref01_up u_ref01_up
  repeat' first
    | with_reducible refine le_cond ?_ ?_
    | with_reducible refine le_onS (fun _ => ?_) fun _ => ?_
    | with_reducible refine le_ob ?_ fun _ => ?_
    | with_reducible refine le_both ?_ ?_
    | with_reducible exact le_rfl
    | with_reducible exact le_ref01_Trim n _
    | with_reducible exact le_loop (fun s => le_ref01_up_l0 n s) _ _
noncomputable def v_ref01_shifted (n : Nat) (t : ((List T) × (Int × Unit))) : Option ((List T) × Unit) :=
  (bif (eqI (lenL t.1) (0 : Int)) then (some ([], ())) else (ob (mkLen t.2.1 t.2.1 4) fun x0 => (ob (room (repL x0.1 (T.v (Value.int IntKind.u32 (0 : Int)))) t.1 4) fun x1 => (some (x1, ())))))
theorem le_ref01_shifted (n : Nat) (t : ((List T) × (Int × Unit))) : Le (v_ref01_shifted n t) (u_ref01_shifted t) := by
  unfold v_ref01_shifted u_ref01_shifted
  repeat' first
    | with_reducible refine le_cond ?_ ?_
    | with_reducible refine le_onS (fun _ => ?_) fun _ => ?_
    | with_reducible refine le_ob ?_ fun _ => ?_
    | with_reducible refine le_both ?_ ?_
    | with_reducible exact le_rfl
noncomputable def v_ref01_times (n : Nat) (t : ((List T) × (Int × Unit))) : Option ((List T) × Unit) :=
  (ob (v_ref01_Of n ((wr IntKind.u64 t.2.1), ())) fun x0 => (ob (v_ref01_Mul n (t.1, (x0.1, ()))) fun x1 => (some (x1.1, ()))))
theorem le_ref01_times (n : Nat) (t : ((List T) × (Int × Unit))) : Le (v_ref01_times n t) (u_ref01_times t) := by
  unfold v_ref01_times u_ref01_times
  repeat' first
    | with_reducible refine le_cond ?_ ?_
    | with_reducible refine le_onS (fun _ => ?_) fun _ => ?_
    | with_reducible refine le_ob ?_ fun _ => ?_
    | with_reducible refine le_both ?_ ?_
    | with_reducible exact le_rfl
    | with_reducible exact le_ref01_Of n _
    | with_reducible exact le_ref01_Mul n _
noncomputable def v_ref01_byLimb_l0 (n : Nat) (s1 : (List T × Int × List T × Int × Int × Unit)) : Option ((List T × Int × List T × Int × Int × Unit) ⊕ ((List T × Int × Unit) ⊕ Empty)) :=
  (bif (leI (0 : Int) s1.2.2.2.2.1) then (ob (nn (32 : Int)) fun x2 => (ob (idxL s1.1 s1.2.2.2.2.1) fun x3 => (ob (T.anyInt? (T.cell x3 0)) fun x4 => (ob (nz (wr IntKind.u64 s1.2.1)) fun x5 => (ob (chkI (lenL s1.2.2.1) s1.2.2.2.2.1) fun x6 => (ob (idxN s1.2.2.1 x6) fun x7 => (ob (nz (wr IntKind.u64 s1.2.1)) fun x8 => (some (Sum.inl (s1.1, (s1.2.1, ((List.set s1.2.2.1 x6 (T.upd 1 x7 0 [(T.v (Value.int IntKind.u32 (wr IntKind.u32 (wr IntKind.u64 (divI (bitI Go.BinOp.or IntKind.u64 (wr IntKind.u64 (shlI IntKind.u64 s1.2.2.2.1 x2)) (wr IntKind.u64 x4)) x5)))))])), ((modI (bitI Go.BinOp.or IntKind.u64 (wr IntKind.u64 (shlI IntKind.u64 s1.2.2.2.1 x2)) (wr IntKind.u64 x4)) x8), ((wr IntKind.i64 (subI s1.2.2.2.2.1 (1 : Int))), ())))))))))))))) else (some (Sum.inr (Sum.inl (s1.2.2.1, (s1.2.2.2.1, ()))))))
theorem le_ref01_byLimb_l0 (n : Nat) (s1 : (List T × Int × List T × Int × Int × Unit)) : Le (v_ref01_byLimb_l0 n s1) (u_ref01_byLimb_l0 s1) := by
  unfold v_ref01_byLimb_l0 u_ref01_byLimb_l0
  repeat' first
    | with_reducible refine le_cond ?_ ?_
    | with_reducible refine le_onS (fun _ => ?_) fun _ => ?_
    | with_reducible refine le_ob ?_ fun _ => ?_
    | with_reducible refine le_both ?_ ?_
    | with_reducible exact le_rfl
noncomputable def v_ref01_byLimb (n : Nat) (t : ((List T) × (Int × Unit))) : Option ((List T) × (Int × Unit)) :=
  (ob (mkLen (lenL t.1) (lenL t.1) 4) fun x0 => (ob (iter (v_ref01_byLimb_l0 n) n (t.1, (t.2.1, ((repL x0.1 (T.v (Value.int IntKind.u32 (0 : Int)))), ((0 : Int), ((wr IntKind.i64 (subI (lenL t.1) (1 : Int))), ())))))) fun q9 => onS q9 (fun t10 => (ob (v_ref01_Trim n (t10.1, ())) fun x11 => (some (x11.1, ((wr IntKind.u32 t10.2.1), ()))))) fun q12 => noS q12))
theorem le_ref01_byLimb (n : Nat) (t : ((List T) × (Int × Unit))) : Le (v_ref01_byLimb n t) (u_ref01_byLimb t) := by
  unfold v_ref01_byLimb u_ref01_byLimb
  repeat' first
    | with_reducible refine le_cond ?_ ?_
    | with_reducible refine le_onS (fun _ => ?_) fun _ => ?_
    | with_reducible refine le_ob ?_ fun _ => ?_
    | with_reducible refine le_both ?_ ?_
    | with_reducible exact le_rfl
    | with_reducible exact le_ref01_Trim n _
    | with_reducible exact le_loop (fun s => le_ref01_byLimb_l0 n s) _ _
noncomputable def v_ref01_down_l0 (n : Nat) (s4 : (List T × Int × List T × Int × Unit)) : Option ((List T × Int × List T × Int × Unit) ⊕ ((List T × Unit) ⊕ Empty)) :=
  (bif (ltI s4.2.2.2.1 (lenL s4.1)) then (ob (idxL s4.1 s4.2.2.2.1) fun x5 => (ob (T.anyInt? (T.cell x5 0)) fun x6 => (ob (α := ((List T × Int × List T × Int × Int × Unit) ⊕ Empty)) (bif (ltI (wr IntKind.i64 (addI s4.2.2.2.1 (1 : Int))) (lenL s4.1)) then (ob (idxL s4.1 (wr IntKind.i64 (addI s4.2.2.2.1 (1 : Int)))) fun x7 => (ob (T.anyInt? (T.cell x7 0)) fun x8 => (ob (nn (32 : Int)) fun x9 => (some (Sum.inl (s4.1, (s4.2.1, (s4.2.2.1, (s4.2.2.2.1, ((bitI Go.BinOp.or IntKind.u64 (wr IntKind.u64 x6) (wr IntKind.u64 (shlI IntKind.u64 (wr IntKind.u64 x8) x9))), ())))))))))) else (some (Sum.inl (s4.1, (s4.2.1, (s4.2.2.1, (s4.2.2.2.1, ((wr IntKind.u64 x6), ())))))))) fun q10 => onS q10 (fun t11 => (ob (nz (32 : Int)) fun x12 => (ob (nn (modI t11.2.1 x12)) fun x13 => (ob (chkI (lenL t11.2.2.1) t11.2.2.2.1) fun x14 => (ob (idxN t11.2.2.1 x14) fun x15 => (some (Sum.inl (t11.1, (t11.2.1, ((List.set t11.2.2.1 x14 (T.upd 1 x15 0 [(T.v (Value.int IntKind.u32 (wr IntKind.u32 (shrI IntKind.u64 t11.2.2.2.2.1 x13))))])), ((wr IntKind.i64 (addI t11.2.2.2.1 (1 : Int))), ()))))))))))) fun q16 => noS q16))) else (some (Sum.inr (Sum.inl (s4.2.2.1, ())))))
theorem le_ref01_down_l0 (n : Nat) (s4 : (List T × Int × List T × Int × Unit)) : Le (v_ref01_down_l0 n s4) (u_ref01_down_l0 s4) := by
  unfold v_ref01_down_l0 u_ref01_down_l0
  repeat' first
    | with_reducible refine le_cond ?_ ?_
    | with_reducible refine le_onS (fun _ => ?_) fun _ => ?_
    | with_reducible refine le_ob ?_ fun _ => ?_
    | with_reducible refine le_both ?_ ?_
    | with_reducible exact le_rfl
noncomputable def v_ref01_down (n : Nat) (t : ((List T) × (Int × Unit))) : Option ((List T) × Unit) :=
  (ob (nz (32 : Int)) fun x0 => (bif (leI (lenL t.1) (wr IntKind.i64 (divI t.2.1 x0))) then (some ([], ())) else (ob (nz (32 : Int)) fun x1 => (ob (cutL t.1 (wr IntKind.i64 (divI t.2.1 x1)) (lenL t.1)) fun x2 => (ob (mkLen (lenL x2) (lenL x2) 4) fun x3 => (ob (iter (v_ref01_down_l0 n) n (x2, (t.2.1, ((repL x3.1 (T.v (Value.int IntKind.u32 (0 : Int)))), ((0 : Int), ()))))) fun q17 => onS q17 (fun t18 => (ob (v_ref01_Trim n (t18.1, ())) fun x19 => (some (x19.1, ())))) fun q20 => noS q20))))))
theorem le_ref01_down (n : Nat) (t : ((List T) × (Int × Unit))) : Le (v_ref01_down n t) (u_ref01_down t) := by
  unfold v_ref01_down u_ref01_down
  repeat' first
    | with_reducible refine le_cond ?_ ?_
    | with_reducible refine le_onS (fun _ => ?_) fun _ => ?_
    | with_reducible refine le_ob ?_ fun _ => ?_
    | with_reducible refine le_both ?_ ?_
    | with_reducible exact le_rfl
    | with_reducible exact le_ref01_Trim n _
    | with_reducible exact le_loop (fun s => le_ref01_down_l0 n s) _ _
noncomputable def v_ref01_Div_l1 (n : Nat) (s33 : (List T × List T × List T × Int × Int × Int × Int × List T × Unit)) : Option ((List T × List T × List T × Int × Int × Int × Int × List T × Unit) ⊕ ((List T × List T × List T × Int × Int × Int × Int × List T × Unit) ⊕ Empty)) :=
  (ob (v_ref01_Cmp n (s33.2.2.2.2.2.2.2.1, (s33.2.2.1, ()))) fun x34 => (bif (ltI (0 : Int) x34.1) then (ob (v_ref01_shifted n (s33.1, (s33.2.2.2.2.2.1, ()))) fun x35 => (ob (v_ref01_minus n (s33.2.2.2.2.2.2.2.1, (x35.1, ()))) fun x36 => (some (Sum.inl (s33.1, (s33.2.1, (s33.2.2.1, (s33.2.2.2.1, (s33.2.2.2.2.1, (s33.2.2.2.2.2.1, ((wr IntKind.u64 (subI s33.2.2.2.2.2.2.1 (1 : Int))), (x36.1, ())))))))))))) else (some (Sum.inr (Sum.inl (s33.1, (s33.2.1, (s33.2.2.1, (s33.2.2.2.1, (s33.2.2.2.2.1, (s33.2.2.2.2.2.1, (s33.2.2.2.2.2.2.1, (s33.2.2.2.2.2.2.2.1, ())))))))))))))
theorem le_ref01_Div_l1 (n : Nat) (s33 : (List T × List T × List T × Int × Int × Int × Int × List T × Unit)) : Le (v_ref01_Div_l1 n s33) (u_ref01_Div_l1 s33) := by
  unfold v_ref01_Div_l1 u_ref01_Div_l1
  repeat' first
    | with_reducible refine le_cond ?_ ?_
    | with_reducible refine le_onS (fun _ => ?_) fun _ => ?_
    | with_reducible refine le_ob ?_ fun _ => ?_
    | with_reducible refine le_both ?_ ?_
    | with_reducible exact le_rfl
    | with_reducible exact le_ref01_Cmp n _
    | with_reducible exact le_ref01_shifted n _
    | with_reducible exact le_ref01_minus n _
noncomputable def v_ref01_Div_l0 (n : Nat) (s17 : (List T × List T × List T × Int × Int × Int × Unit)) : Option ((List T × List T × List T × Int × Int × Int × Unit) ⊕ ((List T × List T × Int × Unit) ⊕ Empty)) :=
  (bif (leI (0 : Int) s17.2.2.2.2.2.1) then (ob (α := ((List T × List T × List T × Int × Int × Int × Int × Unit) ⊕ Empty)) (bif (ltI (wr IntKind.i64 (addI s17.2.2.2.2.2.1 s17.2.2.2.2.1)) (lenL s17.2.2.1)) then (ob (idxL s17.2.2.1 (wr IntKind.i64 (addI s17.2.2.2.2.2.1 s17.2.2.2.2.1))) fun x18 => (ob (T.anyInt? (T.cell x18 0)) fun x19 => (some (Sum.inl (s17.1, (s17.2.1, (s17.2.2.1, (s17.2.2.2.1, (s17.2.2.2.2.1, (s17.2.2.2.2.2.1, ((wr IntKind.u64 x19), ()))))))))))) else (some (Sum.inl (s17.1, (s17.2.1, (s17.2.2.1, (s17.2.2.2.1, (s17.2.2.2.2.1, (s17.2.2.2.2.2.1, ((0 : Int), ())))))))))) fun q20 => onS q20 (fun t21 => (ob (α := ((List T × List T × List T × Int × Int × Int × Int × Unit) ⊕ Empty)) (bif (ltI (wr IntKind.i64 (subI (wr IntKind.i64 (addI t21.2.2.2.2.2.1 t21.2.2.2.2.1)) (1 : Int))) (lenL t21.2.2.1)) then (ob (nn (32 : Int)) fun x22 => (ob (idxL t21.2.2.1 (wr IntKind.i64 (subI (wr IntKind.i64 (addI t21.2.2.2.2.2.1 t21.2.2.2.2.1)) (1 : Int)))) fun x23 => (ob (T.anyInt? (T.cell x23 0)) fun x24 => (some (Sum.inl (t21.1, (t21.2.1, (t21.2.2.1, (t21.2.2.2.1, (t21.2.2.2.2.1, (t21.2.2.2.2.2.1, ((bitI Go.BinOp.or IntKind.u64 (wr IntKind.u64 (shlI IntKind.u64 t21.2.2.2.2.2.2.1 x22)) (wr IntKind.u64 x24)), ())))))))))))) else (ob (nn (32 : Int)) fun x25 => (some (Sum.inl (t21.1, (t21.2.1, (t21.2.2.1, (t21.2.2.2.1, (t21.2.2.2.2.1, (t21.2.2.2.2.2.1, ((wr IntKind.u64 (shlI IntKind.u64 t21.2.2.2.2.2.2.1 x25)), ()))))))))))) fun q26 => onS q26 (fun t27 => (ob (idxL t27.1 (wr IntKind.i64 (subI t27.2.2.2.2.1 (1 : Int)))) fun x28 => (ob (T.anyInt? (T.cell x28 0)) fun x29 => (ob (nz (wr IntKind.u64 x29)) fun x30 => (ob (v_ref01_times n (t27.1, ((wr IntKind.u32 (mmI Bool.false (wr IntKind.u64 (divI t27.2.2.2.2.2.2.1 x30)) (4294967295 : Int))), ()))) fun x31 => (ob (v_ref01_shifted n (x31.1, (t27.2.2.2.2.2.1, ()))) fun x32 => (ob (iter (v_ref01_Div_l1 n) n (t27.1, (t27.2.1, (t27.2.2.1, (t27.2.2.2.1, (t27.2.2.2.2.1, (t27.2.2.2.2.2.1, ((mmI Bool.false (wr IntKind.u64 (divI t27.2.2.2.2.2.2.1 x30)) (4294967295 : Int)), (x32.1, ()))))))))) fun q37 => onS q37 (fun t38 => (ob (chkI (lenL t38.2.1) t38.2.2.2.2.2.1) fun x39 => (ob (idxN t38.2.1 x39) fun x40 => (ob (v_ref01_minus n (t38.2.2.1, (t38.2.2.2.2.2.2.2.1, ()))) fun x41 => (some (Sum.inl (t38.1, ((List.set t38.2.1 x39 (T.upd 1 x40 0 [(T.v (Value.int IntKind.u32 (wr IntKind.u32 t38.2.2.2.2.2.2.1)))])), (x41.1, (t38.2.2.2.1, (t38.2.2.2.2.1, ((wr IntKind.i64 (subI t38.2.2.2.2.2.1 (1 : Int))), ())))))))))))) fun q42 => noS q42))))))) fun q43 => noS q43)) fun q44 => noS q44) else (some (Sum.inr (Sum.inl (s17.2.1, (s17.2.2.1, (s17.2.2.2.1, ())))))))
theorem le_ref01_Div_l0 (n : Nat) (s17 : (List T × List T × List T × Int × Int × Int × Unit)) : Le (v_ref01_Div_l0 n s17) (u_ref01_Div_l0 s17) := by
  unfold v_ref01_Div_l0 u_ref01_Div_l0
  repeat' first
    | with_reducible refine le_cond ?_ ?_
    | with_reducible refine le_onS (fun _ => ?_) fun _ => ?_
    | with_reducible refine le_ob ?_ fun _ => ?_
    | with_reducible refine le_both ?_ ?_
    | with_reducible exact le_rfl
    | with_reducible exact le_ref01_times n _
    | with_reducible exact le_ref01_shifted n _
    | with_reducible exact le_ref01_minus n _
    | with_reducible exact le_loop (fun s => le_ref01_Div_l1 n s) _ _
noncomputable def v_ref01_Div (n : Nat) (t : ((List T) × ((List T) × Unit))) : Option ((List T) × ((List T) × (Int × Unit))) :=
  (bif (eqI (lenL t.2.1) (0 : Int)) then (some ([], ([], ((3 : Int), ())))) else (ob (v_ref01_Cmp n (t.1, (t.2.1, ()))) fun x0 => (bif (ltI x0.1 (0 : Int)) then (ob (v_ref01_Trim n (t.1, ())) fun x1 => (some ([], (x1.1, ((0 : Int), ()))))) else (ob (v_ref01_small n (t.1, ())) fun x2 => (bif x2.2.1 then (ob (v_ref01_small n (t.2.1, ())) fun x3 => (ob (nz x3.1) fun x4 => (ob (v_ref01_Of n ((wr IntKind.u64 (divI x2.1 x4)), ())) fun x5 => (ob (nz x3.1) fun x6 => (ob (v_ref01_Of n ((modI x2.1 x6), ())) fun x7 => (some (x5.1, (x7.1, ((0 : Int), ()))))))))) else (bif (eqI (lenL t.2.1) (1 : Int)) then (ob (idxL t.2.1 (0 : Int)) fun x8 => (ob (T.int? IntKind.u32 (T.cell x8 0)) fun x9 => (ob (v_ref01_byLimb n (t.1, (x9, ()))) fun x10 => (ob (v_ref01_Of n ((wr IntKind.u64 x10.2.1), ())) fun x11 => (some (x10.1, (x11.1, ((0 : Int), ())))))))) else (ob (cutL t.2.1 (wr IntKind.i64 (subI (lenL t.2.1) (1 : Int))) (lenL t.2.1)) fun x12 => (ob (v_ref01_Bits n (x12, ())) fun x13 => (ob (v_ref01_up n (t.2.1, ((wr IntKind.i64 (subI (32 : Int) x13.1)), ()))) fun x14 => (ob (v_ref01_up n (t.1, ((wr IntKind.i64 (subI (32 : Int) x13.1)), ()))) fun x15 => (ob (mkLen (wr IntKind.i64 (addI (wr IntKind.i64 (subI (lenL x15.1) (lenL x14.1))) (1 : Int))) (wr IntKind.i64 (addI (wr IntKind.i64 (subI (lenL x15.1) (lenL x14.1))) (1 : Int))) 4) fun x16 => (ob (iter (v_ref01_Div_l0 n) n (x14.1, ((repL x16.1 (T.v (Value.int IntKind.u32 (0 : Int)))), (x15.1, ((wr IntKind.i64 (subI (32 : Int) x13.1)), ((lenL x14.1), ((wr IntKind.i64 (subI (lenL x15.1) (lenL x14.1))), ()))))))) fun q45 => onS q45 (fun t46 => (ob (v_ref01_Trim n (t46.1, ())) fun x47 => (ob (v_ref01_down n (t46.2.1, (t46.2.2.1, ()))) fun x48 => (some (x47.1, (x48.1, ((0 : Int), ()))))))) fun q49 => noS q49))))))))))))
theorem le_ref01_Div (n : Nat) (t : ((List T) × ((List T) × Unit))) : Le (v_ref01_Div n t) (u_ref01_Div t) := by
  unfold v_ref01_Div u_ref01_Div
  repeat' first
    | with_reducible refine le_cond ?_ ?_
    | with_reducible refine le_onS (fun _ => ?_) fun _ => ?_
    | with_reducible refine le_ob ?_ fun _ => ?_
    | with_reducible refine le_both ?_ ?_
    | with_reducible exact le_rfl
    | with_reducible exact le_ref01_Cmp n _
    | with_reducible exact le_ref01_Trim n _
    | with_reducible exact le_ref01_small n _
    | with_reducible exact le_ref01_Of n _
    | with_reducible exact le_ref01_byLimb n _
    | with_reducible exact le_ref01_Bits n _
    | with_reducible exact le_ref01_up n _
    | with_reducible exact le_ref01_down n _
    | with_reducible exact le_loop (fun s => le_ref01_Div_l0 n s) _ _
noncomputable def v_ref01_Gcd_l1 (n : Nat) (s5 : (Int × Int × Unit)) : Option ((Int × Int × Unit) ⊕ ((Int × Unit) ⊕ Empty)) :=
  (bif (Bool.not (eqI s5.2.1 (0 : Int))) then (ob (nz s5.2.1) fun x6 => (some (Sum.inl (s5.2.1, ((modI s5.1 x6), ()))))) else (some (Sum.inr (Sum.inl (s5.1, ())))))
theorem le_ref01_Gcd_l1 (n : Nat) (s5 : (Int × Int × Unit)) : Le (v_ref01_Gcd_l1 n s5) (u_ref01_Gcd_l1 s5) := by
  unfold v_ref01_Gcd_l1 u_ref01_Gcd_l1
  repeat' first
    | with_reducible refine le_cond ?_ ?_
    | with_reducible refine le_onS (fun _ => ?_) fun _ => ?_
    | with_reducible refine le_ob ?_ fun _ => ?_
    | with_reducible refine le_both ?_ ?_
    | with_reducible exact le_rfl
noncomputable def v_ref01_Gcd_l0 (n : Nat) (s2 : (List T × List T × Unit)) : Option ((List T × List T × Unit) ⊕ ((List T × Unit) ⊕ ((List T × Unit) ⊕ Empty))) :=
  (bif (ltI (0 : Int) (lenL s2.2.1)) then (ob (v_ref01_small n (s2.1, ())) fun x3 => (ob (v_ref01_small n (s2.2.1, ())) fun x4 => (bif x3.2.1 then (bif x4.2.1 then (ob (iter (v_ref01_Gcd_l1 n) n (x3.1, (x4.1, ()))) fun q7 => onS q7 (fun t8 => (ob (v_ref01_Of n (t8.1, ())) fun x9 => (some (Sum.inr (Sum.inl (x9.1, ())))))) fun q10 => noS q10) else (ob (v_ref01_Div n (s2.1, (s2.2.1, ()))) fun x11 => (some (Sum.inl (s2.2.1, (x11.2.1, ())))))) else (ob (v_ref01_Div n (s2.1, (s2.2.1, ()))) fun x12 => (some (Sum.inl (s2.2.1, (x12.2.1, ())))))))) else (some (Sum.inr (Sum.inr (Sum.inl (s2.1, ()))))))
theorem le_ref01_Gcd_l0 (n : Nat) (s2 : (List T × List T × Unit)) : Le (v_ref01_Gcd_l0 n s2) (u_ref01_Gcd_l0 s2) := by
  unfold v_ref01_Gcd_l0 u_ref01_Gcd_l0
  repeat' first
    | with_reducible refine le_cond ?_ ?_
    | with_reducible refine le_onS (fun _ => ?_) fun _ => ?_
    | with_reducible refine le_ob ?_ fun _ => ?_
    | with_reducible refine le_both ?_ ?_
    | with_reducible exact le_rfl
    | with_reducible exact le_ref01_small n _
    | with_reducible exact le_ref01_Of n _
    | with_reducible exact le_ref01_Div n _
    | with_reducible exact le_loop (fun s => le_ref01_Gcd_l1 n s) _ _
noncomputable def v_ref01_Gcd (n : Nat) (t : ((List T) × ((List T) × Unit))) : Option ((List T) × Unit) :=
  (ob (v_ref01_Trim n (t.1, ())) fun x0 => (ob (v_ref01_Trim n (t.2.1, ())) fun x1 => (ob (iter (v_ref01_Gcd_l0 n) n (x0.1, (x1.1, ()))) fun q13 => onS q13 (fun t14 => (some (t14.1, ()))) fun q15 => onS q15 (fun t16 => (some (t16.1, ()))) fun q17 => noS q17)))
theorem le_ref01_Gcd (n : Nat) (t : ((List T) × ((List T) × Unit))) : Le (v_ref01_Gcd n t) (u_ref01_Gcd t) := by
  unfold v_ref01_Gcd u_ref01_Gcd
  repeat' first
    | with_reducible refine le_cond ?_ ?_
    | with_reducible refine le_onS (fun _ => ?_) fun _ => ?_
    | with_reducible refine le_ob ?_ fun _ => ?_
    | with_reducible refine le_both ?_ ?_
    | with_reducible exact le_rfl
    | with_reducible exact le_ref01_Trim n _
    | with_reducible exact le_loop (fun s => le_ref01_Gcd_l0 n s) _ _
noncomputable def v_ref02_size (n : Nat) (t : (Int × Unit)) : Option ((List T) × (Bool × Unit)) :=
  (bif (ltI t.1 (0 : Int)) then (ob (v_ref01_Of n ((wr IntKind.u64 (addI (wr IntKind.u64 (wr IntKind.i64 (subI (0 : Int) (wr IntKind.i64 (addI t.1 (1 : Int)))))) (1 : Int))), ())) fun x0 => (some (x0.1, (Bool.true, ())))) else (ob (v_ref01_Of n ((wr IntKind.u64 t.1), ())) fun x1 => (some (x1.1, (Bool.false, ())))))
theorem le_ref02_size (n : Nat) (t : (Int × Unit)) : Le (v_ref02_size n t) (u_ref02_size t) := by
  unfold v_ref02_size u_ref02_size
  repeat' first
    | with_reducible refine le_cond ?_ ?_
    | with_reducible refine le_onS (fun _ => ?_) fun _ => ?_
    | with_reducible refine le_ob ?_ fun _ => ?_
    | with_reducible refine le_both ?_ ?_
    | with_reducible exact le_rfl
    | with_reducible exact le_ref01_Of n _
noncomputable def v_ref02_reduce (n : Nat) (t : (Bool × ((List T) × ((List T) × Unit)))) : Option (Bool × ((List T) × ((List T) × Unit))) :=
  (ob (v_ref01_Trim n (t.2.1, ())) fun x0 => (ob (v_ref01_Trim n (t.2.2.1, ())) fun x1 => (bif (eqI (lenL x0.1) (0 : Int)) then (some (Bool.false, ([], ([], ())))) else (ob (v_ref01_Gcd n (x0.1, (x1.1, ()))) fun x2 => (ob (α := ((Bool × List T × List T × Unit × Bool × T × T × Unit) ⊕ Empty)) (bif (Bool.not (eqI (lenL x2.1) (1 : Int))) then (ob (v_ref01_Div n (x0.1, (x2.1, ()))) fun x3 => (ob (v_ref01_Div n (x1.1, (x2.1, ()))) fun x4 => (some (Sum.inl (t.1, (x3.1, (x4.1, ((), (Bool.false, ((T.v (Value.slice (Option.none) 0 0)), ((T.v (Value.slice (Option.none) 0 0)), ()))))))))))) else (ob (idxL x2.1 (0 : Int)) fun x5 => (ob (T.int? IntKind.u32 (T.cell x5 0)) fun x6 => (bif (Bool.not (eqI x6 (1 : Int))) then (ob (v_ref01_Div n (x0.1, (x2.1, ()))) fun x7 => (ob (v_ref01_Div n (x1.1, (x2.1, ()))) fun x8 => (some (Sum.inl (t.1, (x7.1, (x8.1, ((), (Bool.false, ((T.v (Value.slice (Option.none) 0 0)), ((T.v (Value.slice (Option.none) 0 0)), ()))))))))))) else (some (Sum.inl (t.1, (x0.1, (x1.1, ((), (Bool.false, ((T.v (Value.slice (Option.none) 0 0)), ((T.v (Value.slice (Option.none) 0 0)), ()))))))))))))) fun q9 => onS q9 (fun t10 => (ob (α := ((Bool × List T × List T × Unit × Bool × T × T × Unit) ⊕ Empty)) (bif (eqI (lenL t10.2.2.1) (1 : Int)) then (ob (idxL t10.2.2.1 (0 : Int)) fun x11 => (ob (T.int? IntKind.u32 (T.cell x11 0)) fun x12 => (bif (eqI x12 (1 : Int)) then (some (Sum.inl (t10.1, (t10.2.1, ([], ((), (t10.2.2.2.2.1, (t10.2.2.2.2.2.1, (t10.2.2.2.2.2.2.1, ()))))))))) else (some (Sum.inl (t10.1, (t10.2.1, (t10.2.2.1, ((), (t10.2.2.2.2.1, (t10.2.2.2.2.2.1, (t10.2.2.2.2.2.2.1, ())))))))))))) else (some (Sum.inl (t10.1, (t10.2.1, (t10.2.2.1, ((), (t10.2.2.2.2.1, (t10.2.2.2.2.2.1, (t10.2.2.2.2.2.2.1, ())))))))))) fun q13 => onS q13 (fun t14 => (some (t14.1, (t14.2.1, (t14.2.2.1, ()))))) fun q15 => noS q15)) fun q16 => noS q16)))))
theorem le_ref02_reduce (n : Nat) (t : (Bool × ((List T) × ((List T) × Unit)))) : Le (v_ref02_reduce n t) (u_ref02_reduce t) := by
  unfold v_ref02_reduce u_ref02_reduce
  repeat' first
    | with_reducible refine le_cond ?_ ?_
    | with_reducible refine le_onS (fun _ => ?_) fun _ => ?_
    | with_reducible refine le_ob ?_ fun _ => ?_
    | with_reducible refine le_both ?_ ?_
    | with_reducible exact le_rfl
    | with_reducible exact le_ref01_Trim n _
    | with_reducible exact le_ref01_Gcd n _
    | with_reducible exact le_ref01_Div n _
noncomputable def v_ref02_Make (n : Nat) (t : (Int × (Int × Unit))) : Option (Bool × ((List T) × ((List T) × (Int × Unit)))) :=
  (bif (eqI t.2.1 (0 : Int)) then (some (Bool.false, ([], ([], ((3 : Int), ()))))) else (ob (v_ref02_size n (t.1, ())) fun x0 => (ob (v_ref02_size n (t.2.1, ())) fun x1 => (ob (v_ref02_reduce n ((Bool.not (eqB x0.2.1 x1.2.1)), (x0.1, (x1.1, ())))) fun x2 => (some (x2.1, (x2.2.1, (x2.2.2.1, ((0 : Int), ())))))))))
theorem le_ref02_Make (n : Nat) (t : (Int × (Int × Unit))) : Le (v_ref02_Make n t) (u_ref02_Make t) := by
  unfold v_ref02_Make u_ref02_Make
  repeat' first
    | with_reducible refine le_cond ?_ ?_
    | with_reducible refine le_onS (fun _ => ?_) fun _ => ?_
    | with_reducible refine le_ob ?_ fun _ => ?_
    | with_reducible refine le_both ?_ ?_
    | with_reducible exact le_rfl
    | with_reducible exact le_ref02_size n _
    | with_reducible exact le_ref02_reduce n _
noncomputable def v_ref02_Frac (n : Nat) (t : (Int × (Int × Unit))) : Option (Bool × ((List T) × ((List T) × Unit))) :=
  (ob (v_ref02_Make n (t.1, (t.2.1, ()))) fun x0 => (some (x0.1, (x0.2.1, (x0.2.2.1, ())))))
theorem le_ref02_Frac (n : Nat) (t : (Int × (Int × Unit))) : Le (v_ref02_Frac n t) (u_ref02_Frac t) := by
  unfold v_ref02_Frac u_ref02_Frac
  repeat' first
    | with_reducible refine le_cond ?_ ?_
    | with_reducible refine le_onS (fun _ => ?_) fun _ => ?_
    | with_reducible refine le_ob ?_ fun _ => ?_
    | with_reducible refine le_both ?_ ?_
    | with_reducible exact le_rfl
    | with_reducible exact le_ref02_Make n _
noncomputable def v_ref02_Int (n : Nat) (t : (Int × Unit)) : Option (Bool × ((List T) × ((List T) × Unit))) :=
  (ob (v_ref02_size n (t.1, ())) fun x0 => (some (x0.2.1, (x0.1, ([], ())))))
theorem le_ref02_Int (n : Nat) (t : (Int × Unit)) : Le (v_ref02_Int n t) (u_ref02_Int t) := by
  unfold v_ref02_Int u_ref02_Int
  repeat' first
    | with_reducible refine le_cond ?_ ?_
    | with_reducible refine le_onS (fun _ => ?_) fun _ => ?_
    | with_reducible refine le_ob ?_ fun _ => ?_
    | with_reducible refine le_both ?_ ?_
    | with_reducible exact le_rfl
    | with_reducible exact le_ref02_size n _
noncomputable def v_ref01_Text_l1 (n : Nat) (s2 : (List T × List T × Int × Int × Unit)) : Option ((List T × List T × Int × Int × Unit) ⊕ ((List T × List T × Unit) ⊕ Empty)) :=
  (bif (ltI s2.2.2.2.1 (9 : Int)) then (bif (ltI (0 : Int) s2.2.2.1) then (ob (nz (10 : Int)) fun x3 => (ob (room s2.1 [(T.v (Value.int IntKind.u8 (wr IntKind.u8 (wr IntKind.u32 (addI (48 : Int) (modI s2.2.2.1 x3))))))] 1) fun x4 => (ob (nz (10 : Int)) fun x5 => (some (Sum.inl (x4, (s2.2.1, ((wr IntKind.u32 (divI s2.2.2.1 x5)), ((wr IntKind.i64 (addI s2.2.2.2.1 (1 : Int))), ()))))))))) else (bif (ltI (0 : Int) (lenL s2.2.1)) then (ob (nz (10 : Int)) fun x6 => (ob (room s2.1 [(T.v (Value.int IntKind.u8 (wr IntKind.u8 (wr IntKind.u32 (addI (48 : Int) (modI s2.2.2.1 x6))))))] 1) fun x7 => (ob (nz (10 : Int)) fun x8 => (some (Sum.inl (x7, (s2.2.1, ((wr IntKind.u32 (divI s2.2.2.1 x8)), ((wr IntKind.i64 (addI s2.2.2.2.1 (1 : Int))), ()))))))))) else (some (Sum.inr (Sum.inl (s2.1, (s2.2.1, ()))))))) else (some (Sum.inr (Sum.inl (s2.1, (s2.2.1, ()))))))
theorem le_ref01_Text_l1 (n : Nat) (s2 : (List T × List T × Int × Int × Unit)) : Le (v_ref01_Text_l1 n s2) (u_ref01_Text_l1 s2) := by
  unfold v_ref01_Text_l1 u_ref01_Text_l1
  repeat' first
    | with_reducible refine le_cond ?_ ?_
    | with_reducible refine le_onS (fun _ => ?_) fun _ => ?_
    | with_reducible refine le_ob ?_ fun _ => ?_
    | with_reducible refine le_both ?_ ?_
    | with_reducible exact le_rfl
noncomputable def v_ref01_Text_l0 (n : Nat) (s0 : (List T × List T × Unit)) : Option ((List T × List T × Unit) ⊕ ((List T × Unit) ⊕ Empty)) :=
  (bif (ltI (0 : Int) (lenL s0.1)) then (ob (v_ref01_byLimb n (s0.1, ((1000000000 : Int), ()))) fun x1 => (ob (iter (v_ref01_Text_l1 n) n (s0.2.1, (x1.1, (x1.2.1, ((0 : Int), ()))))) fun q9 => onS q9 (fun t10 => (some (Sum.inl (t10.2.1, (t10.1, ()))))) fun q11 => noS q11)) else (some (Sum.inr (Sum.inl (s0.2.1, ())))))
theorem le_ref01_Text_l0 (n : Nat) (s0 : (List T × List T × Unit)) : Le (v_ref01_Text_l0 n s0) (u_ref01_Text_l0 s0) := by
  unfold v_ref01_Text_l0 u_ref01_Text_l0
  repeat' first
    | with_reducible refine le_cond ?_ ?_
    | with_reducible refine le_onS (fun _ => ?_) fun _ => ?_
    | with_reducible refine le_ob ?_ fun _ => ?_
    | with_reducible refine le_both ?_ ?_
    | with_reducible exact le_rfl
    | with_reducible exact le_ref01_byLimb n _
    | with_reducible exact le_loop (fun s => le_ref01_Text_l1 n s) _ _
noncomputable def v_ref01_Text_l2 (n : Nat) (s15 : (List T × List T × Int × Unit)) : Option ((List T × List T × Int × Unit) ⊕ ((List T × Unit) ⊕ Empty)) :=
  (bif (ltI s15.2.2.1 (lenL s15.1)) then (ob (chkI (lenL s15.1) s15.2.2.1) fun x16 => (ob (idxN s15.1 x16) fun x17 => (ob (chkI (lenL s15.2.1) (wr IntKind.i64 (subI (wr IntKind.i64 (subI (lenL s15.1) (1 : Int))) s15.2.2.1))) fun x18 => (ob (T.int? IntKind.u8 (T.cell x17 0)) fun x19 => (ob (idxN s15.2.1 x18) fun x20 => (some (Sum.inl (s15.1, ((List.set s15.2.1 x18 (T.upd 1 x20 0 [(T.v (Value.int IntKind.u8 x19))])), ((wr IntKind.i64 (addI s15.2.2.1 (1 : Int))), ())))))))))) else (some (Sum.inr (Sum.inl (s15.2.1, ())))))
theorem le_ref01_Text_l2 (n : Nat) (s15 : (List T × List T × Int × Unit)) : Le (v_ref01_Text_l2 n s15) (u_ref01_Text_l2 s15) := by
  unfold v_ref01_Text_l2 u_ref01_Text_l2
  repeat' first
    | with_reducible refine le_cond ?_ ?_
    | with_reducible refine le_onS (fun _ => ?_) fun _ => ?_
    | with_reducible refine le_ob ?_ fun _ => ?_
    | with_reducible refine le_both ?_ ?_
    | with_reducible exact le_rfl
noncomputable def v_ref01_Text (n : Nat) (t : ((List T) × Unit)) : Option (ByteArray × Unit) :=
  (bif (eqI (lenL t.1) (0 : Int)) then (some ((ByteArray.mk #[48]), ())) else (ob (iter (v_ref01_Text_l0 n) n (t.1, ([], ()))) fun q12 => onS q12 (fun t13 => (ob (mkLen (lenL t13.1) (lenL t13.1) 1) fun x14 => (ob (iter (v_ref01_Text_l2 n) n (t13.1, ((repL x14.1 (T.v (Value.int IntKind.u8 (0 : Int)))), ((0 : Int), ())))) fun q21 => onS q21 (fun t22 => (ob (strOf t22.1) fun x23 => (some (x23, ())))) fun q24 => noS q24))) fun q25 => noS q25))
theorem le_ref01_Text (n : Nat) (t : ((List T) × Unit)) : Le (v_ref01_Text n t) (u_ref01_Text t) := by
  unfold v_ref01_Text u_ref01_Text
  repeat' first
    | with_reducible refine le_cond ?_ ?_
    | with_reducible refine le_onS (fun _ => ?_) fun _ => ?_
    | with_reducible refine le_ob ?_ fun _ => ?_
    | with_reducible refine le_both ?_ ?_
    | with_reducible exact le_rfl
    | with_reducible exact le_loop (fun s => le_ref01_Text_l0 n s) _ _
    | with_reducible exact le_loop (fun s => le_ref01_Text_l2 n s) _ _
noncomputable def v_ref02_Text (n : Nat) (t : (Bool × ((List T) × ((List T) × Unit)))) : Option (ByteArray × Unit) :=
  (ob (v_ref01_Text n (t.2.1, ())) fun x0 => (ob (α := ((Unit × ByteArray × Bool × List T × List T × Unit) ⊕ Empty)) (bif t.1 then (ob (catS (ByteArray.mk #[45]) x0.1) fun x1 => (some (Sum.inl ((), (x1, (t.1, (t.2.1, (t.2.2.1, ())))))))) else (some (Sum.inl ((), (x0.1, (t.1, (t.2.1, (t.2.2.1, ())))))))) fun q2 => onS q2 (fun t3 => (ob (α := ((ByteArray × Unit) ⊕ Empty)) (bif (ltI (0 : Int) (lenL t3.2.2.2.2.1)) then (ob (v_ref01_Text n (t3.2.2.2.2.1, ())) fun x4 => (ob (catS (ByteArray.mk #[47]) x4.1) fun x5 => (ob (catS t3.2.1 x5) fun x6 => (some (Sum.inl (x6, ())))))) else (some (Sum.inl (t3.2.1, ())))) fun q7 => onS q7 (fun t8 => (some (t8.1, ()))) fun q9 => noS q9)) fun q10 => noS q10))
theorem le_ref02_Text (n : Nat) (t : (Bool × ((List T) × ((List T) × Unit)))) : Le (v_ref02_Text n t) (u_ref02_Text t) := by
  unfold v_ref02_Text u_ref02_Text
  repeat' first
    | with_reducible refine le_cond ?_ ?_
    | with_reducible refine le_onS (fun _ => ?_) fun _ => ?_
    | with_reducible refine le_ob ?_ fun _ => ?_
    | with_reducible refine le_both ?_ ?_
    | with_reducible exact le_rfl
    | with_reducible exact le_ref01_Text n _
noncomputable def v_math_bits_Len32 (n : Nat) (t : (Int × Unit)) : Option (Int × Unit) :=
  (ob (α := ((Int × Int × Unit) ⊕ Empty)) (bif (leI (65536 : Int) t.1) then (ob (nn (16 : Int)) fun x0 => (some (Sum.inl ((shrI IntKind.u32 t.1 x0), ((16 : Int), ()))))) else (some (Sum.inl (t.1, ((0 : Int), ()))))) fun q1 => onS q1 (fun t2 => (ob (α := ((Int × Int × Unit) ⊕ Empty)) (bif (leI (256 : Int) t2.1) then (ob (nn (8 : Int)) fun x3 => (some (Sum.inl ((shrI IntKind.u32 t2.1 x3), ((wr IntKind.i64 (addI t2.2.1 (8 : Int))), ()))))) else (some (Sum.inl (t2.1, (t2.2.1, ()))))) fun q4 => onS q4 (fun t5 => (ob (idxS (ByteArray.mk #[0, 1, 2, 2, 3, 3, 3, 3, 4, 4, 4, 4, 4, 4, 4, 4, 5, 5, 5, 5, 5, 5, 5, 5, 5, 5, 5, 5, 5, 5, 5, 5, 6, 6, 6, 6, 6, 6, 6, 6, 6, 6, 6, 6, 6, 6, 6, 6, 6, 6, 6, 6, 6, 6, 6, 6, 6, 6, 6, 6, 6, 6, 6, 6, 7, 7, 7, 7, 7, 7, 7, 7, 7, 7, 7, 7, 7, 7, 7, 7, 7, 7, 7, 7, 7, 7, 7, 7, 7, 7, 7, 7, 7, 7, 7, 7, 7, 7, 7, 7, 7, 7, 7, 7, 7, 7, 7, 7, 7, 7, 7, 7, 7, 7, 7, 7, 7, 7, 7, 7, 7, 7, 7, 7, 7, 7, 7, 7, 8, 8, 8, 8, 8, 8, 8, 8, 8, 8, 8, 8, 8, 8, 8, 8, 8, 8, 8, 8, 8, 8, 8, 8, 8, 8, 8, 8, 8, 8, 8, 8, 8, 8, 8, 8, 8, 8, 8, 8, 8, 8, 8, 8, 8, 8, 8, 8, 8, 8, 8, 8, 8, 8, 8, 8, 8, 8, 8, 8, 8, 8, 8, 8, 8, 8, 8, 8, 8, 8, 8, 8, 8, 8, 8, 8, 8, 8, 8, 8, 8, 8, 8, 8, 8, 8, 8, 8, 8, 8, 8, 8, 8, 8, 8, 8, 8, 8, 8, 8, 8, 8, 8, 8, 8, 8, 8, 8, 8, 8, 8, 8, 8, 8, 8, 8, 8, 8, 8, 8, 8, 8, 8, 8, 8, 8, 8, 8]) (wr IntKind.u8 t5.1)) fun x6 => (some ((wr IntKind.i64 (addI t5.2.1 (wr IntKind.i64 x6))), ())))) fun q7 => noS q7)) fun q8 => noS q8)
theorem le_math_bits_Len32 (n : Nat) (t : (Int × Unit)) : Le (v_math_bits_Len32 n t) (u_math_bits_Len32 t) := by
  unfold v_math_bits_Len32 u_math_bits_Len32
  repeat' first
    | with_reducible refine le_cond ?_ ?_
    | with_reducible refine le_onS (fun _ => ?_) fun _ => ?_
    | with_reducible refine le_ob ?_ fun _ => ?_
    | with_reducible refine le_both ?_ ?_
    | with_reducible exact le_rfl
noncomputable def v_natural_trim_l0 (n : Nat) (s0 : (List T × Int × Unit)) : Option ((List T × Int × Unit) ⊕ ((List T × Int × Unit) ⊕ Empty)) :=
  (bif (ltI (0 : Int) s0.2.1) then (ob (idxL s0.1 (wr IntKind.i64 (subI s0.2.1 (1 : Int)))) fun x1 => (ob (T.int? IntKind.u32 (T.cell x1 0)) fun x2 => (bif (eqI x2 (0 : Int)) then (some (Sum.inl (s0.1, ((wr IntKind.i64 (subI s0.2.1 (1 : Int))), ())))) else (some (Sum.inr (Sum.inl (s0.1, (s0.2.1, ())))))))) else (some (Sum.inr (Sum.inl (s0.1, (s0.2.1, ()))))))
theorem le_natural_trim_l0 (n : Nat) (s0 : (List T × Int × Unit)) : Le (v_natural_trim_l0 n s0) (u_natural_trim_l0 s0) := by
  unfold v_natural_trim_l0 u_natural_trim_l0
  repeat' first
    | with_reducible refine le_cond ?_ ?_
    | with_reducible refine le_onS (fun _ => ?_) fun _ => ?_
    | with_reducible refine le_ob ?_ fun _ => ?_
    | with_reducible refine le_both ?_ ?_
    | with_reducible exact le_rfl
noncomputable def v_natural_trim (n : Nat) (t : ((List T) × Unit)) : Option ((List T) × Unit) :=
  (ob (iter (v_natural_trim_l0 n) n (t.1, ((lenL t.1), ()))) fun q3 => onS q3 (fun t4 => (ob (cutL t4.1 (0 : Int) t4.2.1) fun x5 => (some (x5, ())))) fun q6 => noS q6)
theorem le_natural_trim (n : Nat) (t : ((List T) × Unit)) : Le (v_natural_trim n t) (u_natural_trim t) := by
  unfold v_natural_trim u_natural_trim
  repeat' first
    | with_reducible refine le_cond ?_ ?_
    | with_reducible refine le_onS (fun _ => ?_) fun _ => ?_
    | with_reducible refine le_ob ?_ fun _ => ?_
    | with_reducible refine le_both ?_ ?_
    | with_reducible exact le_rfl
    | with_reducible exact le_loop (fun s => le_natural_trim_l0 n s) _ _
noncomputable def v_natural_Bits (n : Nat) (t : ((List T) × Unit)) : Option (Int × Unit) :=
  (ob (v_natural_trim n (t.1, ())) fun x0 => (bif (eqI (lenL x0.1) (0 : Int)) then (some ((0 : Int), ())) else (ob (idxL x0.1 (wr IntKind.i64 (subI (lenL x0.1) (1 : Int)))) fun x1 => (ob (T.int? IntKind.u32 (T.cell x1 0)) fun x2 => (ob (v_math_bits_Len32 n (x2, ())) fun x3 => (some ((wr IntKind.i64 (addI (wr IntKind.i64 (mulI (32 : Int) (wr IntKind.i64 (subI (lenL x0.1) (1 : Int))))) x3.1)), ())))))))
theorem le_natural_Bits (n : Nat) (t : ((List T) × Unit)) : Le (v_natural_Bits n t) (u_natural_Bits t) := by
  unfold v_natural_Bits u_natural_Bits
  repeat' first
    | with_reducible refine le_cond ?_ ?_
    | with_reducible refine le_onS (fun _ => ?_) fun _ => ?_
    | with_reducible refine le_ob ?_ fun _ => ?_
    | with_reducible refine le_both ?_ ?_
    | with_reducible exact le_rfl
    | with_reducible exact le_natural_trim n _
    | with_reducible exact le_math_bits_Len32 n _
noncomputable def v_natural_Cmp_l0 (n : Nat) (s2 : (List T × List T × Int × Unit)) : Option ((List T × List T × Int × Unit) ⊕ ((Int × Unit) ⊕ ((Unit) ⊕ Empty))) :=
  (bif (leI (0 : Int) s2.2.2.1) then (ob (idxL s2.1 s2.2.2.1) fun x3 => (ob (idxL s2.2.1 s2.2.2.1) fun x4 => (ob (T.int? IntKind.u32 (T.cell x3 0)) fun x5 => (ob (T.int? IntKind.u32 (T.cell x4 0)) fun x6 => (bif (Bool.not (eqI x5 x6)) then (ob (idxL s2.1 s2.2.2.1) fun x7 => (ob (idxL s2.2.1 s2.2.2.1) fun x8 => (ob (T.int? IntKind.u32 (T.cell x7 0)) fun x9 => (ob (T.int? IntKind.u32 (T.cell x8 0)) fun x10 => (bif (ltI x9 x10) then (some (Sum.inr (Sum.inl ((-1 : Int), ())))) else (some (Sum.inr (Sum.inl ((1 : Int), ()))))))))) else (some (Sum.inl (s2.1, (s2.2.1, ((wr IntKind.i64 (subI s2.2.2.1 (1 : Int))), ())))))))))) else (some (Sum.inr (Sum.inr (Sum.inl ())))))
theorem le_natural_Cmp_l0 (n : Nat) (s2 : (List T × List T × Int × Unit)) : Le (v_natural_Cmp_l0 n s2) (u_natural_Cmp_l0 s2) := by
  unfold v_natural_Cmp_l0 u_natural_Cmp_l0
  repeat' first
    | with_reducible refine le_cond ?_ ?_
    | with_reducible refine le_onS (fun _ => ?_) fun _ => ?_
    | with_reducible refine le_ob ?_ fun _ => ?_
    | with_reducible refine le_both ?_ ?_
    | with_reducible exact le_rfl
noncomputable def v_natural_Cmp (n : Nat) (t : ((List T) × ((List T) × Unit))) : Option (Int × Unit) :=
  (ob (v_natural_trim n (t.1, ())) fun x0 => (ob (v_natural_trim n (t.2.1, ())) fun x1 => (bif (Bool.not (eqI (lenL x0.1) (lenL x1.1))) then (bif (ltI (lenL x0.1) (lenL x1.1)) then (some ((-1 : Int), ())) else (some ((1 : Int), ()))) else (ob (iter (v_natural_Cmp_l0 n) n (x0.1, (x1.1, ((wr IntKind.i64 (subI (lenL x0.1) (1 : Int))), ())))) fun q11 => onS q11 (fun t12 => (some (t12.1, ()))) fun q13 => onS q13 (fun t14 => (some ((0 : Int), ()))) fun q15 => noS q15))))
theorem le_natural_Cmp (n : Nat) (t : ((List T) × ((List T) × Unit))) : Le (v_natural_Cmp n t) (u_natural_Cmp t) := by
  unfold v_natural_Cmp u_natural_Cmp
  repeat' first
    | with_reducible refine le_cond ?_ ?_
    | with_reducible refine le_onS (fun _ => ?_) fun _ => ?_
    | with_reducible refine le_ob ?_ fun _ => ?_
    | with_reducible refine le_both ?_ ?_
    | with_reducible exact le_rfl
    | with_reducible exact le_natural_trim n _
    | with_reducible exact le_loop (fun s => le_natural_Cmp_l0 n s) _ _
noncomputable def v_natural_Valid (n : Nat) (t : ((List T) × Unit)) : Option (Bool × Unit) :=
  (bif (eqI (lenL t.1) (0 : Int)) then (some (Bool.true, ())) else (ob (idxL t.1 (wr IntKind.i64 (subI (lenL t.1) (1 : Int)))) fun x0 => (ob (T.int? IntKind.u32 (T.cell x0 0)) fun x1 => (some ((Bool.not (eqI x1 (0 : Int))), ())))))
theorem le_natural_Valid (n : Nat) (t : ((List T) × Unit)) : Le (v_natural_Valid n t) (u_natural_Valid t) := by
  unfold v_natural_Valid u_natural_Valid
  repeat' first
    | with_reducible refine le_cond ?_ ?_
    | with_reducible refine le_onS (fun _ => ?_) fun _ => ?_
    | with_reducible refine le_ob ?_ fun _ => ?_
    | with_reducible refine le_both ?_ ?_
    | with_reducible exact le_rfl
noncomputable def v_natural_Gcd (n : Nat) (t : ((List T) × ((List T) × Unit))) : Option ((List T) × Unit) :=
  (ob (v_natural_trim n (t.1, ())) fun x0 => none)
theorem le_natural_Gcd (n : Nat) (t : ((List T) × ((List T) × Unit))) : Le (v_natural_Gcd n t) (u_natural_Gcd t) := by
  unfold v_natural_Gcd u_natural_Gcd
  repeat' first
    | with_reducible refine le_cond ?_ ?_
    | with_reducible refine le_onS (fun _ => ?_) fun _ => ?_
    | with_reducible refine le_ob ?_ fun _ => ?_
    | with_reducible refine le_both ?_ ?_
    | with_reducible exact le_rfl
    | with_reducible exact le_natural_trim n _
noncomputable def v_rational_word_l0 (n : Nat) (s0 : (List T × Int × Int × Unit)) : Option ((List T × Int × Int × Unit) ⊕ ((Int × Unit) ⊕ Empty)) :=
  (bif (leI (0 : Int) s0.2.2.1) then (ob (nn (32 : Int)) fun x1 => (ob (idxL s0.1 s0.2.2.1) fun x2 => (ob (T.anyInt? (T.cell x2 0)) fun x3 => (some (Sum.inl (s0.1, ((bitI Go.BinOp.or IntKind.u64 (wr IntKind.u64 (shlI IntKind.u64 s0.2.1 x1)) (wr IntKind.u64 x3)), ((wr IntKind.i64 (subI s0.2.2.1 (1 : Int))), ())))))))) else (some (Sum.inr (Sum.inl (s0.2.1, ())))))
theorem le_rational_word_l0 (n : Nat) (s0 : (List T × Int × Int × Unit)) : Le (v_rational_word_l0 n s0) (u_rational_word_l0 s0) := by
  unfold v_rational_word_l0 u_rational_word_l0
  repeat' first
    | with_reducible refine le_cond ?_ ?_
    | with_reducible refine le_onS (fun _ => ?_) fun _ => ?_
    | with_reducible refine le_ob ?_ fun _ => ?_
    | with_reducible refine le_both ?_ ?_
    | with_reducible exact le_rfl
noncomputable def v_rational_word (n : Nat) (t : ((List T) × Unit)) : Option (Int × Unit) :=
  (ob (iter (v_rational_word_l0 n) n (t.1, ((0 : Int), ((wr IntKind.i64 (subI (lenL t.1) (1 : Int))), ())))) fun q4 => onS q4 (fun t5 => (some (t5.1, ()))) fun q6 => noS q6)
theorem le_rational_word (n : Nat) (t : ((List T) × Unit)) : Le (v_rational_word n t) (u_rational_word t) := by
  unfold v_rational_word u_rational_word
  repeat' first
    | with_reducible refine le_cond ?_ ?_
    | with_reducible refine le_onS (fun _ => ?_) fun _ => ?_
    | with_reducible refine le_ob ?_ fun _ => ?_
    | with_reducible refine le_both ?_ ?_
    | with_reducible exact le_rfl
    | with_reducible exact le_loop (fun s => le_rational_word_l0 n s) _ _
noncomputable def v_rational_divisor_l0 (n : Nat) (s0 : (Int × Int × Unit)) : Option ((Int × Int × Unit) ⊕ ((Int × Unit) ⊕ Empty)) :=
  (bif (Bool.not (eqI s0.2.1 (0 : Int))) then (ob (nz s0.2.1) fun x1 => (some (Sum.inl (s0.2.1, ((modI s0.1 x1), ()))))) else (some (Sum.inr (Sum.inl (s0.1, ())))))
theorem le_rational_divisor_l0 (n : Nat) (s0 : (Int × Int × Unit)) : Le (v_rational_divisor_l0 n s0) (u_rational_divisor_l0 s0) := by
  unfold v_rational_divisor_l0 u_rational_divisor_l0
  repeat' first
    | with_reducible refine le_cond ?_ ?_
    | with_reducible refine le_onS (fun _ => ?_) fun _ => ?_
    | with_reducible refine le_ob ?_ fun _ => ?_
    | with_reducible refine le_both ?_ ?_
    | with_reducible exact le_rfl
noncomputable def v_rational_divisor (n : Nat) (t : (Int × (Int × Unit))) : Option (Int × Unit) :=
  (ob (iter (v_rational_divisor_l0 n) n (t.1, (t.2.1, ()))) fun q2 => onS q2 (fun t3 => (some (t3.1, ()))) fun q4 => noS q4)
theorem le_rational_divisor (n : Nat) (t : (Int × (Int × Unit))) : Le (v_rational_divisor n t) (u_rational_divisor t) := by
  unfold v_rational_divisor u_rational_divisor
  repeat' first
    | with_reducible refine le_cond ?_ ?_
    | with_reducible refine le_onS (fun _ => ?_) fun _ => ?_
    | with_reducible refine le_ob ?_ fun _ => ?_
    | with_reducible refine le_both ?_ ?_
    | with_reducible exact le_rfl
    | with_reducible exact le_loop (fun s => le_rational_divisor_l0 n s) _ _
noncomputable def v_rational_short (n : Nat) (t : (Bool × (Int × (Int × Unit)))) : Option (Bool × ((List T) × ((List T) × Unit))) :=
  (bif (eqI t.2.1 (0 : Int)) then (some (Bool.false, ([], ([], ())))) else (ob (v_rational_divisor n (t.2.1, (t.2.2.1, ()))) fun x0 => (ob (nz x0.1) fun x1 => (ob (nz x0.1) fun x2 => (ob (mkLen (4 : Int) (4 : Int) 4) fun x3 => (ob (chkI (lenL (repL x3.1 (T.v (Value.int IntKind.u32 (0 : Int))))) (0 : Int)) fun x4 => (ob (idxN (repL x3.1 (T.v (Value.int IntKind.u32 (0 : Int)))) x4) fun x5 => (ob (nn (32 : Int)) fun x6 => (bif (eqI (shrI IntKind.u64 (wr IntKind.u64 (divI t.2.1 x1)) x6) (0 : Int)) then (ob (cut3 (lenL (List.set (repL x3.1 (T.v (Value.int IntKind.u32 (0 : Int)))) x4 (T.upd 1 x5 0 [(T.v (Value.int IntKind.u32 (wr IntKind.u32 (wr IntKind.u64 (divI t.2.1 x1)))))]))) (0 : Int) (1 : Int) (1 : Int)) fun x7 => (ob (α := ((Unit × Unit × Bool × T × T × Bool × List T × List T × Unit) ⊕ Empty)) (bif (ltI (1 : Int) (wr IntKind.u64 (divI t.2.2.1 x2))) then (ob (cutI (lenL (List.set (repL x3.1 (T.v (Value.int IntKind.u32 (0 : Int)))) x4 (T.upd 1 x5 0 [(T.v (Value.int IntKind.u32 (wr IntKind.u32 (wr IntKind.u64 (divI t.2.1 x1)))))]))) (1 : Int) (lenL (List.set (repL x3.1 (T.v (Value.int IntKind.u32 (0 : Int)))) x4 (T.upd 1 x5 0 [(T.v (Value.int IntKind.u32 (wr IntKind.u32 (wr IntKind.u64 (divI t.2.1 x1)))))])))) fun x8 => (ob (chkI (natI x8.2) (0 : Int)) fun x9 => (ob (idxN (List.set (repL x3.1 (T.v (Value.int IntKind.u32 (0 : Int)))) x4 (T.upd 1 x5 0 [(T.v (Value.int IntKind.u32 (wr IntKind.u32 (wr IntKind.u64 (divI t.2.1 x1)))))])) (addN x8.1 x9)) fun x10 => (ob (nn (32 : Int)) fun x11 => (bif (eqI (shrI IntKind.u64 (wr IntKind.u64 (divI t.2.2.1 x2)) x11) (0 : Int)) then (ob (cut3 (lenL (List.set (List.set (repL x3.1 (T.v (Value.int IntKind.u32 (0 : Int)))) x4 (T.upd 1 x5 0 [(T.v (Value.int IntKind.u32 (wr IntKind.u32 (wr IntKind.u64 (divI t.2.1 x1)))))])) (addN x8.1 x9) (T.upd 1 x10 0 [(T.v (Value.int IntKind.u32 (wr IntKind.u32 (wr IntKind.u64 (divI t.2.2.1 x2)))))]))) (1 : Int) (2 : Int) (2 : Int)) fun x12 => (some (Sum.inl ((), ((), (Bool.false, ((T.v (Value.slice (Option.none) 0 0)), ((T.v (Value.slice (Option.none) 0 0)), (t.1, ((cutN (List.set (List.set (repL x3.1 (T.v (Value.int IntKind.u32 (0 : Int)))) x4 (T.upd 1 x5 0 [(T.v (Value.int IntKind.u32 (wr IntKind.u32 (wr IntKind.u64 (divI t.2.1 x1)))))])) (addN x8.1 x9) (T.upd 1 x10 0 [(T.v (Value.int IntKind.u32 (wr IntKind.u32 (wr IntKind.u64 (divI t.2.2.1 x2)))))])) x7.1 x7.2), ((cutN (List.set (List.set (repL x3.1 (T.v (Value.int IntKind.u32 (0 : Int)))) x4 (T.upd 1 x5 0 [(T.v (Value.int IntKind.u32 (wr IntKind.u32 (wr IntKind.u64 (divI t.2.1 x1)))))])) (addN x8.1 x9) (T.upd 1 x10 0 [(T.v (Value.int IntKind.u32 (wr IntKind.u32 (wr IntKind.u64 (divI t.2.2.1 x2)))))])) x12.1 x12.2), ()))))))))))) else (ob (nn (32 : Int)) fun x13 => (ob (chkI (natI x8.2) (1 : Int)) fun x14 => (ob (idxN (List.set (List.set (repL x3.1 (T.v (Value.int IntKind.u32 (0 : Int)))) x4 (T.upd 1 x5 0 [(T.v (Value.int IntKind.u32 (wr IntKind.u32 (wr IntKind.u64 (divI t.2.1 x1)))))])) (addN x8.1 x9) (T.upd 1 x10 0 [(T.v (Value.int IntKind.u32 (wr IntKind.u32 (wr IntKind.u64 (divI t.2.2.1 x2)))))])) (addN x8.1 x14)) fun x15 => (ob (cut3 (lenL (List.set (List.set (List.set (repL x3.1 (T.v (Value.int IntKind.u32 (0 : Int)))) x4 (T.upd 1 x5 0 [(T.v (Value.int IntKind.u32 (wr IntKind.u32 (wr IntKind.u64 (divI t.2.1 x1)))))])) (addN x8.1 x9) (T.upd 1 x10 0 [(T.v (Value.int IntKind.u32 (wr IntKind.u32 (wr IntKind.u64 (divI t.2.2.1 x2)))))])) (addN x8.1 x14) (T.upd 1 x15 0 [(T.v (Value.int IntKind.u32 (wr IntKind.u32 (shrI IntKind.u64 (wr IntKind.u64 (divI t.2.2.1 x2)) x13))))]))) (1 : Int) (3 : Int) (3 : Int)) fun x16 => (some (Sum.inl ((), ((), (Bool.false, ((T.v (Value.slice (Option.none) 0 0)), ((T.v (Value.slice (Option.none) 0 0)), (t.1, ((cutN (List.set (List.set (List.set (repL x3.1 (T.v (Value.int IntKind.u32 (0 : Int)))) x4 (T.upd 1 x5 0 [(T.v (Value.int IntKind.u32 (wr IntKind.u32 (wr IntKind.u64 (divI t.2.1 x1)))))])) (addN x8.1 x9) (T.upd 1 x10 0 [(T.v (Value.int IntKind.u32 (wr IntKind.u32 (wr IntKind.u64 (divI t.2.2.1 x2)))))])) (addN x8.1 x14) (T.upd 1 x15 0 [(T.v (Value.int IntKind.u32 (wr IntKind.u32 (shrI IntKind.u64 (wr IntKind.u64 (divI t.2.2.1 x2)) x13))))])) x7.1 x7.2), ((cutN (List.set (List.set (List.set (repL x3.1 (T.v (Value.int IntKind.u32 (0 : Int)))) x4 (T.upd 1 x5 0 [(T.v (Value.int IntKind.u32 (wr IntKind.u32 (wr IntKind.u64 (divI t.2.1 x1)))))])) (addN x8.1 x9) (T.upd 1 x10 0 [(T.v (Value.int IntKind.u32 (wr IntKind.u32 (wr IntKind.u64 (divI t.2.2.1 x2)))))])) (addN x8.1 x14) (T.upd 1 x15 0 [(T.v (Value.int IntKind.u32 (wr IntKind.u32 (shrI IntKind.u64 (wr IntKind.u64 (divI t.2.2.1 x2)) x13))))])) x16.1 x16.2), ()))))))))))))))))))) else (some (Sum.inl ((), ((), (Bool.false, ((T.v (Value.slice (Option.none) 0 0)), ((T.v (Value.slice (Option.none) 0 0)), (t.1, ((cutN (List.set (repL x3.1 (T.v (Value.int IntKind.u32 (0 : Int)))) x4 (T.upd 1 x5 0 [(T.v (Value.int IntKind.u32 (wr IntKind.u32 (wr IntKind.u64 (divI t.2.1 x1)))))])) x7.1 x7.2), ([], ()))))))))))) fun q17 => onS q17 (fun t18 => (some (t18.2.2.2.2.2.1, (t18.2.2.2.2.2.2.1, (t18.2.2.2.2.2.2.2.1, ()))))) fun q19 => noS q19)) else (ob (nn (32 : Int)) fun x20 => (ob (chkI (lenL (List.set (repL x3.1 (T.v (Value.int IntKind.u32 (0 : Int)))) x4 (T.upd 1 x5 0 [(T.v (Value.int IntKind.u32 (wr IntKind.u32 (wr IntKind.u64 (divI t.2.1 x1)))))]))) (1 : Int)) fun x21 => (ob (idxN (List.set (repL x3.1 (T.v (Value.int IntKind.u32 (0 : Int)))) x4 (T.upd 1 x5 0 [(T.v (Value.int IntKind.u32 (wr IntKind.u32 (wr IntKind.u64 (divI t.2.1 x1)))))])) x21) fun x22 => (ob (cut3 (lenL (List.set (List.set (repL x3.1 (T.v (Value.int IntKind.u32 (0 : Int)))) x4 (T.upd 1 x5 0 [(T.v (Value.int IntKind.u32 (wr IntKind.u32 (wr IntKind.u64 (divI t.2.1 x1)))))])) x21 (T.upd 1 x22 0 [(T.v (Value.int IntKind.u32 (wr IntKind.u32 (shrI IntKind.u64 (wr IntKind.u64 (divI t.2.1 x1)) x20))))]))) (0 : Int) (2 : Int) (2 : Int)) fun x23 => (ob (α := ((Unit × Unit × Bool × T × T × Bool × List T × List T × Unit) ⊕ Empty)) (bif (ltI (1 : Int) (wr IntKind.u64 (divI t.2.2.1 x2))) then (ob (cutI (lenL (List.set (List.set (repL x3.1 (T.v (Value.int IntKind.u32 (0 : Int)))) x4 (T.upd 1 x5 0 [(T.v (Value.int IntKind.u32 (wr IntKind.u32 (wr IntKind.u64 (divI t.2.1 x1)))))])) x21 (T.upd 1 x22 0 [(T.v (Value.int IntKind.u32 (wr IntKind.u32 (shrI IntKind.u64 (wr IntKind.u64 (divI t.2.1 x1)) x20))))]))) (2 : Int) (lenL (List.set (List.set (repL x3.1 (T.v (Value.int IntKind.u32 (0 : Int)))) x4 (T.upd 1 x5 0 [(T.v (Value.int IntKind.u32 (wr IntKind.u32 (wr IntKind.u64 (divI t.2.1 x1)))))])) x21 (T.upd 1 x22 0 [(T.v (Value.int IntKind.u32 (wr IntKind.u32 (shrI IntKind.u64 (wr IntKind.u64 (divI t.2.1 x1)) x20))))])))) fun x24 => (ob (chkI (natI x24.2) (0 : Int)) fun x25 => (ob (idxN (List.set (List.set (repL x3.1 (T.v (Value.int IntKind.u32 (0 : Int)))) x4 (T.upd 1 x5 0 [(T.v (Value.int IntKind.u32 (wr IntKind.u32 (wr IntKind.u64 (divI t.2.1 x1)))))])) x21 (T.upd 1 x22 0 [(T.v (Value.int IntKind.u32 (wr IntKind.u32 (shrI IntKind.u64 (wr IntKind.u64 (divI t.2.1 x1)) x20))))])) (addN x24.1 x25)) fun x26 => (ob (nn (32 : Int)) fun x27 => (bif (eqI (shrI IntKind.u64 (wr IntKind.u64 (divI t.2.2.1 x2)) x27) (0 : Int)) then (ob (cut3 (lenL (List.set (List.set (List.set (repL x3.1 (T.v (Value.int IntKind.u32 (0 : Int)))) x4 (T.upd 1 x5 0 [(T.v (Value.int IntKind.u32 (wr IntKind.u32 (wr IntKind.u64 (divI t.2.1 x1)))))])) x21 (T.upd 1 x22 0 [(T.v (Value.int IntKind.u32 (wr IntKind.u32 (shrI IntKind.u64 (wr IntKind.u64 (divI t.2.1 x1)) x20))))])) (addN x24.1 x25) (T.upd 1 x26 0 [(T.v (Value.int IntKind.u32 (wr IntKind.u32 (wr IntKind.u64 (divI t.2.2.1 x2)))))]))) (2 : Int) (3 : Int) (3 : Int)) fun x28 => (some (Sum.inl ((), ((), (Bool.false, ((T.v (Value.slice (Option.none) 0 0)), ((T.v (Value.slice (Option.none) 0 0)), (t.1, ((cutN (List.set (List.set (List.set (repL x3.1 (T.v (Value.int IntKind.u32 (0 : Int)))) x4 (T.upd 1 x5 0 [(T.v (Value.int IntKind.u32 (wr IntKind.u32 (wr IntKind.u64 (divI t.2.1 x1)))))])) x21 (T.upd 1 x22 0 [(T.v (Value.int IntKind.u32 (wr IntKind.u32 (shrI IntKind.u64 (wr IntKind.u64 (divI t.2.1 x1)) x20))))])) (addN x24.1 x25) (T.upd 1 x26 0 [(T.v (Value.int IntKind.u32 (wr IntKind.u32 (wr IntKind.u64 (divI t.2.2.1 x2)))))])) x23.1 x23.2), ((cutN (List.set (List.set (List.set (repL x3.1 (T.v (Value.int IntKind.u32 (0 : Int)))) x4 (T.upd 1 x5 0 [(T.v (Value.int IntKind.u32 (wr IntKind.u32 (wr IntKind.u64 (divI t.2.1 x1)))))])) x21 (T.upd 1 x22 0 [(T.v (Value.int IntKind.u32 (wr IntKind.u32 (shrI IntKind.u64 (wr IntKind.u64 (divI t.2.1 x1)) x20))))])) (addN x24.1 x25) (T.upd 1 x26 0 [(T.v (Value.int IntKind.u32 (wr IntKind.u32 (wr IntKind.u64 (divI t.2.2.1 x2)))))])) x28.1 x28.2), ()))))))))))) else (ob (nn (32 : Int)) fun x29 => (ob (chkI (natI x24.2) (1 : Int)) fun x30 => (ob (idxN (List.set (List.set (List.set (repL x3.1 (T.v (Value.int IntKind.u32 (0 : Int)))) x4 (T.upd 1 x5 0 [(T.v (Value.int IntKind.u32 (wr IntKind.u32 (wr IntKind.u64 (divI t.2.1 x1)))))])) x21 (T.upd 1 x22 0 [(T.v (Value.int IntKind.u32 (wr IntKind.u32 (shrI IntKind.u64 (wr IntKind.u64 (divI t.2.1 x1)) x20))))])) (addN x24.1 x25) (T.upd 1 x26 0 [(T.v (Value.int IntKind.u32 (wr IntKind.u32 (wr IntKind.u64 (divI t.2.2.1 x2)))))])) (addN x24.1 x30)) fun x31 => (ob (cut3 (lenL (List.set (List.set (List.set (List.set (repL x3.1 (T.v (Value.int IntKind.u32 (0 : Int)))) x4 (T.upd 1 x5 0 [(T.v (Value.int IntKind.u32 (wr IntKind.u32 (wr IntKind.u64 (divI t.2.1 x1)))))])) x21 (T.upd 1 x22 0 [(T.v (Value.int IntKind.u32 (wr IntKind.u32 (shrI IntKind.u64 (wr IntKind.u64 (divI t.2.1 x1)) x20))))])) (addN x24.1 x25) (T.upd 1 x26 0 [(T.v (Value.int IntKind.u32 (wr IntKind.u32 (wr IntKind.u64 (divI t.2.2.1 x2)))))])) (addN x24.1 x30) (T.upd 1 x31 0 [(T.v (Value.int IntKind.u32 (wr IntKind.u32 (shrI IntKind.u64 (wr IntKind.u64 (divI t.2.2.1 x2)) x29))))]))) (2 : Int) (4 : Int) (4 : Int)) fun x32 => (some (Sum.inl ((), ((), (Bool.false, ((T.v (Value.slice (Option.none) 0 0)), ((T.v (Value.slice (Option.none) 0 0)), (t.1, ((cutN (List.set (List.set (List.set (List.set (repL x3.1 (T.v (Value.int IntKind.u32 (0 : Int)))) x4 (T.upd 1 x5 0 [(T.v (Value.int IntKind.u32 (wr IntKind.u32 (wr IntKind.u64 (divI t.2.1 x1)))))])) x21 (T.upd 1 x22 0 [(T.v (Value.int IntKind.u32 (wr IntKind.u32 (shrI IntKind.u64 (wr IntKind.u64 (divI t.2.1 x1)) x20))))])) (addN x24.1 x25) (T.upd 1 x26 0 [(T.v (Value.int IntKind.u32 (wr IntKind.u32 (wr IntKind.u64 (divI t.2.2.1 x2)))))])) (addN x24.1 x30) (T.upd 1 x31 0 [(T.v (Value.int IntKind.u32 (wr IntKind.u32 (shrI IntKind.u64 (wr IntKind.u64 (divI t.2.2.1 x2)) x29))))])) x23.1 x23.2), ((cutN (List.set (List.set (List.set (List.set (repL x3.1 (T.v (Value.int IntKind.u32 (0 : Int)))) x4 (T.upd 1 x5 0 [(T.v (Value.int IntKind.u32 (wr IntKind.u32 (wr IntKind.u64 (divI t.2.1 x1)))))])) x21 (T.upd 1 x22 0 [(T.v (Value.int IntKind.u32 (wr IntKind.u32 (shrI IntKind.u64 (wr IntKind.u64 (divI t.2.1 x1)) x20))))])) (addN x24.1 x25) (T.upd 1 x26 0 [(T.v (Value.int IntKind.u32 (wr IntKind.u32 (wr IntKind.u64 (divI t.2.2.1 x2)))))])) (addN x24.1 x30) (T.upd 1 x31 0 [(T.v (Value.int IntKind.u32 (wr IntKind.u32 (shrI IntKind.u64 (wr IntKind.u64 (divI t.2.2.1 x2)) x29))))])) x32.1 x32.2), ()))))))))))))))))))) else (some (Sum.inl ((), ((), (Bool.false, ((T.v (Value.slice (Option.none) 0 0)), ((T.v (Value.slice (Option.none) 0 0)), (t.1, ((cutN (List.set (List.set (repL x3.1 (T.v (Value.int IntKind.u32 (0 : Int)))) x4 (T.upd 1 x5 0 [(T.v (Value.int IntKind.u32 (wr IntKind.u32 (wr IntKind.u64 (divI t.2.1 x1)))))])) x21 (T.upd 1 x22 0 [(T.v (Value.int IntKind.u32 (wr IntKind.u32 (shrI IntKind.u64 (wr IntKind.u64 (divI t.2.1 x1)) x20))))])) x23.1 x23.2), ([], ()))))))))))) fun q33 => onS q33 (fun t34 => (some (t34.2.2.2.2.2.1, (t34.2.2.2.2.2.2.1, (t34.2.2.2.2.2.2.2.1, ()))))) fun q35 => noS q35))))))))))))))
theorem le_rational_short (n : Nat) (t : (Bool × (Int × (Int × Unit)))) : Le (v_rational_short n t) (u_rational_short t) := by
  unfold v_rational_short u_rational_short
  repeat' first
    | with_reducible refine le_cond ?_ ?_
    | with_reducible refine le_onS (fun _ => ?_) fun _ => ?_
    | with_reducible refine le_ob ?_ fun _ => ?_
    | with_reducible refine le_both ?_ ?_
    | with_reducible exact le_rfl
    | with_reducible exact le_rational_divisor n _
noncomputable def v_rational_parts (n : Nat) (t : (Bool × ((List T) × ((List T) × Unit)))) : Option (Int × (Int × (Bool × Unit))) :=
  (bif (ltI (1 : Int) (lenL t.2.1)) then (some ((0 : Int), ((0 : Int), (Bool.false, ())))) else (bif (ltI (1 : Int) (lenL t.2.2.1)) then (some ((0 : Int), ((0 : Int), (Bool.false, ())))) else (ob (α := ((Unit × Int × Bool × List T × List T × Unit) ⊕ Empty)) (bif (eqI (lenL t.2.2.1) (1 : Int)) then (ob (idxL t.2.2.1 (0 : Int)) fun x0 => (ob (T.anyInt? (T.cell x0 0)) fun x1 => (some (Sum.inl ((), ((wr IntKind.u64 x1), (t.1, (t.2.1, (t.2.2.1, ()))))))))) else (some (Sum.inl ((), ((1 : Int), (t.1, (t.2.1, (t.2.2.1, ())))))))) fun q2 => onS q2 (fun t3 => (ob (v_rational_word n (t3.2.2.2.1, ())) fun x4 => (some (x4.1, (t3.2.1, ((Bool.not (eqI t3.2.1 (0 : Int))), ())))))) fun q5 => noS q5)))
theorem le_rational_parts (n : Nat) (t : (Bool × ((List T) × ((List T) × Unit)))) : Le (v_rational_parts n t) (u_rational_parts t) := by
  unfold v_rational_parts u_rational_parts
  repeat' first
    | with_reducible refine le_cond ?_ ?_
    | with_reducible refine le_onS (fun _ => ?_) fun _ => ?_
    | with_reducible refine le_ob ?_ fun _ => ?_
    | with_reducible refine le_both ?_ ?_
    | with_reducible exact le_rfl
    | with_reducible exact le_rational_word n _
noncomputable def v_rational_one (n : Nat) (t : Unit) : Option ((List T) × Unit) :=
  (some ([(T.v (Value.int IntKind.u32 (1 : Int)))], ()))
theorem le_rational_one (n : Nat) (t : Unit) : Le (v_rational_one n t) (u_rational_one t) := by
  unfold v_rational_one u_rational_one
  repeat' first
    | with_reducible refine le_cond ?_ ?_
    | with_reducible refine le_onS (fun _ => ?_) fun _ => ?_
    | with_reducible refine le_ob ?_ fun _ => ?_
    | with_reducible refine le_both ?_ ?_
    | with_reducible exact le_rfl
noncomputable def v_rational_den (n : Nat) (t : (Bool × ((List T) × ((List T) × Unit)))) : Option ((List T) × Unit) :=
  (bif (eqI (lenL t.2.2.1) (0 : Int)) then (ob (v_rational_one n ()) fun x0 => (some (x0.1, ()))) else (some (t.2.2.1, ())))
theorem le_rational_den (n : Nat) (t : (Bool × ((List T) × ((List T) × Unit)))) : Le (v_rational_den n t) (u_rational_den t) := by
  unfold v_rational_den u_rational_den
  repeat' first
    | with_reducible refine le_cond ?_ ?_
    | with_reducible refine le_onS (fun _ => ?_) fun _ => ?_
    | with_reducible refine le_ob ?_ fun _ => ?_
    | with_reducible refine le_both ?_ ?_
    | with_reducible exact le_rfl
    | with_reducible exact le_rational_one n _
noncomputable def v_slices_Equal___uint32_uint32__l0 (n : Nat) (s0 : (List T × List T × Int × Int × Unit)) : Option ((List T × List T × Int × Int × Unit) ⊕ ((Bool × Unit) ⊕ ((Unit) ⊕ Empty))) :=
  (bif (ltI s0.2.2.2.1 s0.2.2.1) then (ob (idxL s0.1 s0.2.2.2.1) fun x1 => (ob (idxL s0.2.1 s0.2.2.2.1) fun x2 => (ob (T.int? IntKind.u32 (T.cell x1 0)) fun x3 => (ob (T.int? IntKind.u32 (T.cell x2 0)) fun x4 => (bif (Bool.not (eqI x3 x4)) then (some (Sum.inr (Sum.inl (Bool.false, ())))) else (some (Sum.inl (s0.1, (s0.2.1, (s0.2.2.1, ((wr IntKind.i64 (addI s0.2.2.2.1 (1 : Int))), ()))))))))))) else (some (Sum.inr (Sum.inr (Sum.inl ())))))
theorem le_slices_Equal___uint32_uint32__l0 (n : Nat) (s0 : (List T × List T × Int × Int × Unit)) : Le (v_slices_Equal___uint32_uint32__l0 n s0) (u_slices_Equal___uint32_uint32__l0 s0) := by
  unfold v_slices_Equal___uint32_uint32__l0 u_slices_Equal___uint32_uint32__l0
  repeat' first
    | with_reducible refine le_cond ?_ ?_
    | with_reducible refine le_onS (fun _ => ?_) fun _ => ?_
    | with_reducible refine le_ob ?_ fun _ => ?_
    | with_reducible refine le_both ?_ ?_
    | with_reducible exact le_rfl
noncomputable def v_slices_Equal___uint32_uint32_ (n : Nat) (t : ((List T) × ((List T) × Unit))) : Option (Bool × Unit) :=
  (bif (Bool.not (eqI (lenL t.1) (lenL t.2.1))) then (some (Bool.false, ())) else (ob (iter (v_slices_Equal___uint32_uint32__l0 n) n (t.1, (t.2.1, ((lenL t.1), ((0 : Int), ()))))) fun q5 => onS q5 (fun t6 => (some (t6.1, ()))) fun q7 => onS q7 (fun t8 => (some (Bool.true, ()))) fun q9 => noS q9))
theorem le_slices_Equal___uint32_uint32_ (n : Nat) (t : ((List T) × ((List T) × Unit))) : Le (v_slices_Equal___uint32_uint32_ n t) (u_slices_Equal___uint32_uint32_ t) := by
  unfold v_slices_Equal___uint32_uint32_ u_slices_Equal___uint32_uint32_
  repeat' first
    | with_reducible refine le_cond ?_ ?_
    | with_reducible refine le_onS (fun _ => ?_) fun _ => ?_
    | with_reducible refine le_ob ?_ fun _ => ?_
    | with_reducible refine le_both ?_ ?_
    | with_reducible exact le_rfl
    | with_reducible exact le_loop (fun s => le_slices_Equal___uint32_uint32__l0 n s) _ _
noncomputable def v_slices_Clone___uint32_uint32_ (n : Nat) (t : ((List T) × Unit)) : Option ((List T) × Unit) :=
  (bif (nilL t.1) then (bothV (some ([], ())) (ob (room [] t.1 4) fun x0 => (some (x0, ())))) else (ob (room [] t.1 4) fun x1 => (some (x1, ()))))
theorem le_slices_Clone___uint32_uint32_ (n : Nat) (t : ((List T) × Unit)) : Le (v_slices_Clone___uint32_uint32_ n t) (u_slices_Clone___uint32_uint32_ t) := by
  unfold v_slices_Clone___uint32_uint32_ u_slices_Clone___uint32_uint32_
  repeat' first
    | with_reducible refine le_cond ?_ ?_
    | with_reducible refine le_onS (fun _ => ?_) fun _ => ?_
    | with_reducible refine le_ob ?_ fun _ => ?_
    | with_reducible refine le_both ?_ ?_
    | with_reducible exact le_rfl
noncomputable def v_rational_Sign (n : Nat) (t : (Bool × ((List T) × ((List T) × Unit)))) : Option (Int × Unit) :=
  (ob (v_natural_Bits n (t.2.1, ())) fun x0 => (bif (eqI x0.1 (0 : Int)) then (some ((0 : Int), ())) else (bif t.1 then (some ((-1 : Int), ())) else (some ((1 : Int), ())))))
theorem le_rational_Sign (n : Nat) (t : (Bool × ((List T) × ((List T) × Unit)))) : Le (v_rational_Sign n t) (u_rational_Sign t) := by
  unfold v_rational_Sign u_rational_Sign
  repeat' first
    | with_reducible refine le_cond ?_ ?_
    | with_reducible refine le_onS (fun _ => ?_) fun _ => ?_
    | with_reducible refine le_ob ?_ fun _ => ?_
    | with_reducible refine le_both ?_ ?_
    | with_reducible exact le_rfl
    | with_reducible exact le_natural_Bits n _
noncomputable def v_rational_add (n : Nat) (t : (Bool × ((List T) × ((List T) × (Bool × ((List T) × ((List T) × (Bool × Unit)))))))) : Option (Bool × ((List T) × ((List T) × Unit))) :=
  (ob (α := ((Unit × Bool × List T × List T × Unit) ⊕ ((Bool × Unit × Unit × Unit × Bool × List T × List T × Bool × List T × List T × Bool × T × T × Unit) ⊕ Empty))) (ob (v_rational_parts n (t.1, (t.2.1, (t.2.2.1, ())))) fun x0 => (bif x0.2.2.1 then (ob (v_rational_parts n (t.2.2.2.1, (t.2.2.2.2.1, (t.2.2.2.2.2.1, ())))) fun x1 => (bif x1.2.2.1 then (ob (add64S (wr IntKind.u64 (mulI x0.1 x1.2.1)) (wr IntKind.u64 (mulI x1.1 x0.2.1)) (0 : Int)) fun x2 => (bif (eqB t.1 t.2.2.2.2.2.2.1) then (bif (eqI (add64C (wr IntKind.u64 (mulI x0.1 x1.2.1)) (wr IntKind.u64 (mulI x1.1 x0.2.1)) (0 : Int)) (0 : Int)) then (ob (v_rational_short n (t.2.2.2.2.2.2.1, (x2, ((wr IntKind.u64 (mulI x0.2.1 x1.2.1)), ())))) fun x3 => (some (Sum.inl ((), (x3.1, (x3.2.1, (x3.2.2.1, ()))))))) else (bif (Bool.not (eqB t.1 t.2.2.2.2.2.2.1)) then (bif (leI (wr IntKind.u64 (mulI x1.1 x0.2.1)) (wr IntKind.u64 (mulI x0.1 x1.2.1))) then (ob (v_rational_short n (t.1, ((wr IntKind.u64 (subI (wr IntKind.u64 (mulI x0.1 x1.2.1)) (wr IntKind.u64 (mulI x1.1 x0.2.1)))), ((wr IntKind.u64 (mulI x0.2.1 x1.2.1)), ())))) fun x4 => (some (Sum.inl ((), (x4.1, (x4.2.1, (x4.2.2.1, ()))))))) else (bif (Bool.not (eqB t.1 t.2.2.2.2.2.2.1)) then (ob (v_rational_short n (t.2.2.2.2.2.2.1, ((wr IntKind.u64 (subI (wr IntKind.u64 (mulI x1.1 x0.2.1)) (wr IntKind.u64 (mulI x0.1 x1.2.1)))), ((wr IntKind.u64 (mulI x0.2.1 x1.2.1)), ())))) fun x5 => (some (Sum.inl ((), (x5.1, (x5.2.1, (x5.2.2.1, ()))))))) else (some (Sum.inr (Sum.inl (t.2.2.2.2.2.2.1, ((), ((), ((), (t.1, (t.2.1, (t.2.2.1, (t.2.2.2.1, (t.2.2.2.2.1, (t.2.2.2.2.2.1, (Bool.false, ((T.v (Value.slice (Option.none) 0 0)), ((T.v (Value.slice (Option.none) 0 0)), ())))))))))))))))))) else (bif (Bool.not (eqB t.1 t.2.2.2.2.2.2.1)) then (ob (v_rational_short n (t.2.2.2.2.2.2.1, ((wr IntKind.u64 (subI (wr IntKind.u64 (mulI x1.1 x0.2.1)) (wr IntKind.u64 (mulI x0.1 x1.2.1)))), ((wr IntKind.u64 (mulI x0.2.1 x1.2.1)), ())))) fun x6 => (some (Sum.inl ((), (x6.1, (x6.2.1, (x6.2.2.1, ()))))))) else (some (Sum.inr (Sum.inl (t.2.2.2.2.2.2.1, ((), ((), ((), (t.1, (t.2.1, (t.2.2.1, (t.2.2.2.1, (t.2.2.2.2.1, (t.2.2.2.2.2.1, (Bool.false, ((T.v (Value.slice (Option.none) 0 0)), ((T.v (Value.slice (Option.none) 0 0)), ()))))))))))))))))))) else (bif (Bool.not (eqB t.1 t.2.2.2.2.2.2.1)) then (bif (leI (wr IntKind.u64 (mulI x1.1 x0.2.1)) (wr IntKind.u64 (mulI x0.1 x1.2.1))) then (ob (v_rational_short n (t.1, ((wr IntKind.u64 (subI (wr IntKind.u64 (mulI x0.1 x1.2.1)) (wr IntKind.u64 (mulI x1.1 x0.2.1)))), ((wr IntKind.u64 (mulI x0.2.1 x1.2.1)), ())))) fun x7 => (some (Sum.inl ((), (x7.1, (x7.2.1, (x7.2.2.1, ()))))))) else (bif (Bool.not (eqB t.1 t.2.2.2.2.2.2.1)) then (ob (v_rational_short n (t.2.2.2.2.2.2.1, ((wr IntKind.u64 (subI (wr IntKind.u64 (mulI x1.1 x0.2.1)) (wr IntKind.u64 (mulI x0.1 x1.2.1)))), ((wr IntKind.u64 (mulI x0.2.1 x1.2.1)), ())))) fun x8 => (some (Sum.inl ((), (x8.1, (x8.2.1, (x8.2.2.1, ()))))))) else (some (Sum.inr (Sum.inl (t.2.2.2.2.2.2.1, ((), ((), ((), (t.1, (t.2.1, (t.2.2.1, (t.2.2.2.1, (t.2.2.2.2.1, (t.2.2.2.2.2.1, (Bool.false, ((T.v (Value.slice (Option.none) 0 0)), ((T.v (Value.slice (Option.none) 0 0)), ())))))))))))))))))) else (bif (Bool.not (eqB t.1 t.2.2.2.2.2.2.1)) then (ob (v_rational_short n (t.2.2.2.2.2.2.1, ((wr IntKind.u64 (subI (wr IntKind.u64 (mulI x1.1 x0.2.1)) (wr IntKind.u64 (mulI x0.1 x1.2.1)))), ((wr IntKind.u64 (mulI x0.2.1 x1.2.1)), ())))) fun x9 => (some (Sum.inl ((), (x9.1, (x9.2.1, (x9.2.2.1, ()))))))) else (some (Sum.inr (Sum.inl (t.2.2.2.2.2.2.1, ((), ((), ((), (t.1, (t.2.1, (t.2.2.1, (t.2.2.2.1, (t.2.2.2.2.1, (t.2.2.2.2.2.1, (Bool.false, ((T.v (Value.slice (Option.none) 0 0)), ((T.v (Value.slice (Option.none) 0 0)), ())))))))))))))))))))) else (some (Sum.inr (Sum.inl (t.2.2.2.2.2.2.1, ((), ((), ((), (t.1, (t.2.1, (t.2.2.1, (t.2.2.2.1, (t.2.2.2.2.1, (t.2.2.2.2.2.1, (Bool.false, ((T.v (Value.slice (Option.none) 0 0)), ((T.v (Value.slice (Option.none) 0 0)), ())))))))))))))))))) else (some (Sum.inr (Sum.inl (t.2.2.2.2.2.2.1, ((), ((), ((), (t.1, (t.2.1, (t.2.2.1, (t.2.2.2.1, (t.2.2.2.2.1, (t.2.2.2.2.2.1, (Bool.false, ((T.v (Value.slice (Option.none) 0 0)), ((T.v (Value.slice (Option.none) 0 0)), ())))))))))))))))))) fun q10 => onS q10 (fun t11 => (some (t11.2.1, (t11.2.2.1, (t11.2.2.2.1, ()))))) fun q12 => onS q12 (fun t13 => (ob (v_rational_den n (t13.2.2.2.2.1, (t13.2.2.2.2.2.1, (t13.2.2.2.2.2.2.1, ())))) fun x14 => (ob (α := ((Bool × Unit × Unit × List T × List T × List T × Bool × List T × List T × Bool × T × T × Unit) ⊕ Empty)) (ob (v_slices_Equal___uint32_uint32_ n (t13.2.2.2.2.2.2.1, (t13.2.2.2.2.2.2.2.2.2.1, ()))) fun x15 => (bif (Bool.not x15.1) then (ob (v_rational_den n (t13.2.2.2.2.2.2.2.1, (t13.2.2.2.2.2.2.2.2.1, (t13.2.2.2.2.2.2.2.2.2.1, ())))) fun x16 => none) else (some (Sum.inl (t13.1, ((), ((), (t13.2.2.2.2.2.1, (t13.2.2.2.2.2.2.2.2.1, (x14.1, (t13.2.2.2.2.1, (t13.2.2.2.2.2.1, (t13.2.2.2.2.2.2.1, (t13.2.2.2.2.2.2.2.2.2.2.1, (t13.2.2.2.2.2.2.2.2.2.2.2.1, (t13.2.2.2.2.2.2.2.2.2.2.2.2.1, ())))))))))))))))) fun q17 => onS q17 (fun t18 => (bif (eqB t18.2.2.2.2.2.2.1 t18.1) then none else none)) fun q19 => noS q19))) fun q20 => noS q20)
theorem le_rational_add (n : Nat) (t : (Bool × ((List T) × ((List T) × (Bool × ((List T) × ((List T) × (Bool × Unit)))))))) : Le (v_rational_add n t) (u_rational_add t) := by
  unfold v_rational_add u_rational_add
  repeat' first
    | with_reducible refine le_cond ?_ ?_
    | with_reducible refine le_onS (fun _ => ?_) fun _ => ?_
    | with_reducible refine le_ob ?_ fun _ => ?_
    | with_reducible refine le_both ?_ ?_
    | with_reducible exact le_rfl
    | with_reducible exact le_rational_parts n _
    | with_reducible exact le_rational_short n _
    | with_reducible exact le_rational_den n _
    | with_reducible exact le_slices_Equal___uint32_uint32_ n _
noncomputable def v_rational_Add (n : Nat) (t : (Bool × ((List T) × ((List T) × (Bool × ((List T) × ((List T) × Unit))))))) : Option (Bool × ((List T) × ((List T) × Unit))) :=
  (ob (v_rational_add n (t.1, (t.2.1, (t.2.2.1, (t.2.2.2.1, (t.2.2.2.2.1, (t.2.2.2.2.2.1, (t.2.2.2.1, ())))))))) fun x0 => (some (x0.1, (x0.2.1, (x0.2.2.1, ())))))
theorem le_rational_Add (n : Nat) (t : (Bool × ((List T) × ((List T) × (Bool × ((List T) × ((List T) × Unit))))))) : Le (v_rational_Add n t) (u_rational_Add t) := by
  unfold v_rational_Add u_rational_Add
  repeat' first
    | with_reducible refine le_cond ?_ ?_
    | with_reducible refine le_onS (fun _ => ?_) fun _ => ?_
    | with_reducible refine le_ob ?_ fun _ => ?_
    | with_reducible refine le_both ?_ ?_
    | with_reducible exact le_rfl
    | with_reducible exact le_rational_add n _
noncomputable def v_rational_Sub (n : Nat) (t : (Bool × ((List T) × ((List T) × (Bool × ((List T) × ((List T) × Unit))))))) : Option (Bool × ((List T) × ((List T) × Unit))) :=
  (ob (v_rational_add n (t.1, (t.2.1, (t.2.2.1, (t.2.2.2.1, (t.2.2.2.2.1, (t.2.2.2.2.2.1, ((Bool.not t.2.2.2.1), ())))))))) fun x0 => (some (x0.1, (x0.2.1, (x0.2.2.1, ())))))
theorem le_rational_Sub (n : Nat) (t : (Bool × ((List T) × ((List T) × (Bool × ((List T) × ((List T) × Unit))))))) : Le (v_rational_Sub n t) (u_rational_Sub t) := by
  unfold v_rational_Sub u_rational_Sub
  repeat' first
    | with_reducible refine le_cond ?_ ?_
    | with_reducible refine le_onS (fun _ => ?_) fun _ => ?_
    | with_reducible refine le_ob ?_ fun _ => ?_
    | with_reducible refine le_both ?_ ?_
    | with_reducible exact le_rfl
    | with_reducible exact le_rational_add n _
noncomputable def v_rational_Mul (n : Nat) (t : (Bool × ((List T) × ((List T) × (Bool × ((List T) × ((List T) × Unit))))))) : Option (Bool × ((List T) × ((List T) × Unit))) :=
  (bif (eqI (lenL t.2.1) (0 : Int)) then (some (Bool.false, ([], ([], ())))) else (bif (eqI (lenL t.2.2.2.2.1) (0 : Int)) then (some (Bool.false, ([], ([], ())))) else (ob (α := ((Unit × Bool × List T × List T × Unit) ⊕ ((Unit × Unit × Unit × Bool × List T × List T × Bool × List T × List T × Bool × T × T × Unit) ⊕ Empty))) (ob (v_rational_parts n (t.1, (t.2.1, (t.2.2.1, ())))) fun x0 => (bif x0.2.2.1 then (ob (v_rational_parts n (t.2.2.2.1, (t.2.2.2.2.1, (t.2.2.2.2.2.1, ())))) fun x1 => (bif x1.2.2.1 then (ob (v_rational_short n ((Bool.not (eqB t.1 t.2.2.2.1)), ((wr IntKind.u64 (mulI x0.1 x1.1)), ((wr IntKind.u64 (mulI x0.2.1 x1.2.1)), ())))) fun x2 => (some (Sum.inl ((), (x2.1, (x2.2.1, (x2.2.2.1, ()))))))) else (some (Sum.inr (Sum.inl ((), ((), ((), (t.1, (t.2.1, (t.2.2.1, (t.2.2.2.1, (t.2.2.2.2.1, (t.2.2.2.2.2.1, (Bool.false, ((T.v (Value.slice (Option.none) 0 0)), ((T.v (Value.slice (Option.none) 0 0)), ()))))))))))))))))) else (some (Sum.inr (Sum.inl ((), ((), ((), (t.1, (t.2.1, (t.2.2.1, (t.2.2.2.1, (t.2.2.2.2.1, (t.2.2.2.2.2.1, (Bool.false, ((T.v (Value.slice (Option.none) 0 0)), ((T.v (Value.slice (Option.none) 0 0)), ()))))))))))))))))) fun q3 => onS q3 (fun t4 => (some (t4.2.1, (t4.2.2.1, (t4.2.2.2.1, ()))))) fun q5 => onS q5 (fun t6 => none) fun q7 => noS q7)))
theorem le_rational_Mul (n : Nat) (t : (Bool × ((List T) × ((List T) × (Bool × ((List T) × ((List T) × Unit))))))) : Le (v_rational_Mul n t) (u_rational_Mul t) := by
  unfold v_rational_Mul u_rational_Mul
  repeat' first
    | with_reducible refine le_cond ?_ ?_
    | with_reducible refine le_onS (fun _ => ?_) fun _ => ?_
    | with_reducible refine le_ob ?_ fun _ => ?_
    | with_reducible refine le_both ?_ ?_
    | with_reducible exact le_rfl
    | with_reducible exact le_rational_parts n _
    | with_reducible exact le_rational_short n _
noncomputable def v_rational_Cmp (n : Nat) (t : (Bool × ((List T) × ((List T) × (Bool × ((List T) × ((List T) × Unit))))))) : Option (Int × Unit) :=
  (ob (v_rational_Sign n (t.1, (t.2.1, (t.2.2.1, ())))) fun x0 => (ob (v_rational_Sign n (t.2.2.2.1, (t.2.2.2.2.1, (t.2.2.2.2.2.1, ())))) fun x1 => (bif (Bool.not (eqI x0.1 x1.1)) then (bif (ltI x0.1 x1.1) then (some ((-1 : Int), ())) else (some ((1 : Int), ()))) else (ob (α := ((Unit × Int × Bool × List T × List T × Unit) ⊕ Empty)) (ob (v_rational_parts n (t.1, (t.2.1, (t.2.2.1, ())))) fun x2 => (ob (v_slices_Equal___uint32_uint32_ n (t.2.2.1, (t.2.2.2.2.2.1, ()))) fun x3 => (bif x3.1 then (ob (v_natural_Cmp n (t.2.1, (t.2.2.2.2.1, ()))) fun x4 => (some (Sum.inl ((), (x4.1, (t.1, (t.2.1, (t.2.2.1, ())))))))) else (ob (v_rational_parts n (t.2.2.2.1, (t.2.2.2.2.1, (t.2.2.2.2.2.1, ())))) fun x5 => (bif x2.2.2.1 then (bif x5.2.2.1 then (bif (ltI (wr IntKind.u64 (mulI x2.1 x5.2.1)) (wr IntKind.u64 (mulI x5.1 x2.2.1))) then (some (Sum.inl ((), ((-1 : Int), (t.1, (t.2.1, (t.2.2.1, ()))))))) else (bif (ltI (wr IntKind.u64 (mulI x5.1 x2.2.1)) (wr IntKind.u64 (mulI x2.1 x5.2.1))) then (some (Sum.inl ((), ((1 : Int), (t.1, (t.2.1, (t.2.2.1, ()))))))) else (some (Sum.inl ((), ((0 : Int), (t.1, (t.2.1, (t.2.2.1, ()))))))))) else (ob (v_rational_den n (t.2.2.2.1, (t.2.2.2.2.1, (t.2.2.2.2.2.1, ())))) fun x6 => none)) else (ob (v_rational_den n (t.2.2.2.1, (t.2.2.2.2.1, (t.2.2.2.2.2.1, ())))) fun x7 => none)))))) fun q8 => onS q8 (fun t9 => (bif t9.2.2.1 then (some ((wr IntKind.i64 (subI (0 : Int) t9.2.1)), ())) else (some (t9.2.1, ())))) fun q10 => noS q10))))
theorem le_rational_Cmp (n : Nat) (t : (Bool × ((List T) × ((List T) × (Bool × ((List T) × ((List T) × Unit))))))) : Le (v_rational_Cmp n t) (u_rational_Cmp t) := by
  unfold v_rational_Cmp u_rational_Cmp
  repeat' first
    | with_reducible refine le_cond ?_ ?_
    | with_reducible refine le_onS (fun _ => ?_) fun _ => ?_
    | with_reducible refine le_ob ?_ fun _ => ?_
    | with_reducible refine le_both ?_ ?_
    | with_reducible exact le_rfl
    | with_reducible exact le_rational_Sign n _
    | with_reducible exact le_rational_parts n _
    | with_reducible exact le_slices_Equal___uint32_uint32_ n _
    | with_reducible exact le_natural_Cmp n _
    | with_reducible exact le_rational_den n _
noncomputable def v_rational_copied (n : Nat) (t : (Bool × ((List T) × ((List T) × Unit)))) : Option (Bool × ((List T) × ((List T) × Unit))) :=
  (ob (v_slices_Clone___uint32_uint32_ n (t.2.1, ())) fun x0 => (ob (v_slices_Clone___uint32_uint32_ n (t.2.2.1, ())) fun x1 => (some (t.1, (x0.1, (x1.1, ()))))))
theorem le_rational_copied (n : Nat) (t : (Bool × ((List T) × ((List T) × Unit)))) : Le (v_rational_copied n t) (u_rational_copied t) := by
  unfold v_rational_copied u_rational_copied
  repeat' first
    | with_reducible refine le_cond ?_ ?_
    | with_reducible refine le_onS (fun _ => ?_) fun _ => ?_
    | with_reducible refine le_ob ?_ fun _ => ?_
    | with_reducible refine le_both ?_ ?_
    | with_reducible exact le_rfl
    | with_reducible exact le_slices_Clone___uint32_uint32_ n _
noncomputable def v_rational_Min (n : Nat) (t : (Bool × ((List T) × ((List T) × (Bool × ((List T) × ((List T) × Unit))))))) : Option (Bool × ((List T) × ((List T) × Unit))) :=
  (ob (α := ((Unit × Unit × Bool × List T × List T × Bool × T × T × Unit) ⊕ Empty)) (ob (v_rational_Cmp n (t.2.2.2.1, (t.2.2.2.2.1, (t.2.2.2.2.2.1, (t.1, (t.2.1, (t.2.2.1, ()))))))) fun x0 => (bif (ltI x0.1 (0 : Int)) then (some (Sum.inl ((), ((), (t.2.2.2.1, (t.2.2.2.2.1, (t.2.2.2.2.2.1, (Bool.false, ((T.v (Value.slice (Option.none) 0 0)), ((T.v (Value.slice (Option.none) 0 0)), ())))))))))) else (some (Sum.inl ((), ((), (t.1, (t.2.1, (t.2.2.1, (Bool.false, ((T.v (Value.slice (Option.none) 0 0)), ((T.v (Value.slice (Option.none) 0 0)), ())))))))))))) fun q1 => onS q1 (fun t2 => (ob (v_rational_copied n (t2.2.2.1, (t2.2.2.2.1, (t2.2.2.2.2.1, ())))) fun x3 => (some (x3.1, (x3.2.1, (x3.2.2.1, ())))))) fun q4 => noS q4)
theorem le_rational_Min (n : Nat) (t : (Bool × ((List T) × ((List T) × (Bool × ((List T) × ((List T) × Unit))))))) : Le (v_rational_Min n t) (u_rational_Min t) := by
  unfold v_rational_Min u_rational_Min
  repeat' first
    | with_reducible refine le_cond ?_ ?_
    | with_reducible refine le_onS (fun _ => ?_) fun _ => ?_
    | with_reducible refine le_ob ?_ fun _ => ?_
    | with_reducible refine le_both ?_ ?_
    | with_reducible exact le_rfl
    | with_reducible exact le_rational_Cmp n _
    | with_reducible exact le_rational_copied n _
noncomputable def v_rational_Max (n : Nat) (t : (Bool × ((List T) × ((List T) × (Bool × ((List T) × ((List T) × Unit))))))) : Option (Bool × ((List T) × ((List T) × Unit))) :=
  (ob (α := ((Unit × Unit × Bool × List T × List T × Bool × T × T × Unit) ⊕ Empty)) (ob (v_rational_Cmp n (t.2.2.2.1, (t.2.2.2.2.1, (t.2.2.2.2.2.1, (t.1, (t.2.1, (t.2.2.1, ()))))))) fun x0 => (bif (ltI (0 : Int) x0.1) then (some (Sum.inl ((), ((), (t.2.2.2.1, (t.2.2.2.2.1, (t.2.2.2.2.2.1, (Bool.false, ((T.v (Value.slice (Option.none) 0 0)), ((T.v (Value.slice (Option.none) 0 0)), ())))))))))) else (some (Sum.inl ((), ((), (t.1, (t.2.1, (t.2.2.1, (Bool.false, ((T.v (Value.slice (Option.none) 0 0)), ((T.v (Value.slice (Option.none) 0 0)), ())))))))))))) fun q1 => onS q1 (fun t2 => (ob (v_rational_copied n (t2.2.2.1, (t2.2.2.2.1, (t2.2.2.2.2.1, ())))) fun x3 => (some (x3.1, (x3.2.1, (x3.2.2.1, ())))))) fun q4 => noS q4)
theorem le_rational_Max (n : Nat) (t : (Bool × ((List T) × ((List T) × (Bool × ((List T) × ((List T) × Unit))))))) : Le (v_rational_Max n t) (u_rational_Max t) := by
  unfold v_rational_Max u_rational_Max
  repeat' first
    | with_reducible refine le_cond ?_ ?_
    | with_reducible refine le_onS (fun _ => ?_) fun _ => ?_
    | with_reducible refine le_ob ?_ fun _ => ?_
    | with_reducible refine le_both ?_ ?_
    | with_reducible exact le_rfl
    | with_reducible exact le_rational_Cmp n _
    | with_reducible exact le_rational_copied n _
noncomputable def v_rational_Same (n : Nat) (t : (Bool × ((List T) × ((List T) × (Bool × ((List T) × ((List T) × Unit))))))) : Option (Bool × Unit) :=
  (bif (eqB t.1 t.2.2.2.1) then (ob (v_slices_Equal___uint32_uint32_ n (t.2.1, (t.2.2.2.2.1, ()))) fun x0 => (bif x0.1 then (ob (v_slices_Equal___uint32_uint32_ n (t.2.2.1, (t.2.2.2.2.2.1, ()))) fun x1 => (some (x1.1, ()))) else (some (Bool.false, ())))) else (some (Bool.false, ())))
theorem le_rational_Same (n : Nat) (t : (Bool × ((List T) × ((List T) × (Bool × ((List T) × ((List T) × Unit))))))) : Le (v_rational_Same n t) (u_rational_Same t) := by
  unfold v_rational_Same u_rational_Same
  repeat' first
    | with_reducible refine le_cond ?_ ?_
    | with_reducible refine le_onS (fun _ => ?_) fun _ => ?_
    | with_reducible refine le_ob ?_ fun _ => ?_
    | with_reducible refine le_both ?_ ?_
    | with_reducible exact le_rfl
    | with_reducible exact le_slices_Equal___uint32_uint32_ n _
noncomputable def v_rational_Valid (n : Nat) (t : (Bool × ((List T) × ((List T) × Unit)))) : Option (Bool × Unit) :=
  (ob (v_natural_Valid n (t.2.1, ())) fun x0 => (bif (Bool.not x0.1) then (some (Bool.false, ())) else (ob (v_natural_Valid n (t.2.2.1, ())) fun x1 => (bif (Bool.not x1.1) then (some (Bool.false, ())) else (bif (eqI (lenL t.2.2.1) (1 : Int)) then (ob (idxL t.2.2.1 (0 : Int)) fun x2 => (ob (T.int? IntKind.u32 (T.cell x2 0)) fun x3 => (bif (eqI x3 (1 : Int)) then (some (Bool.false, ())) else (bif (eqI (lenL t.2.1) (0 : Int)) then (bif (Bool.not t.1) then (some ((eqI (lenL t.2.2.1) (0 : Int)), ())) else (some (Bool.false, ()))) else (bif (eqI (lenL t.2.2.1) (0 : Int)) then (some (Bool.true, ())) else (ob (v_natural_Gcd n (t.2.1, (t.2.2.1, ()))) fun x4 => (ob (v_natural_Bits n (x4.1, ())) fun x5 => (some ((eqI x5.1 (1 : Int)), ()))))))))) else (bif (eqI (lenL t.2.1) (0 : Int)) then (bif (Bool.not t.1) then (some ((eqI (lenL t.2.2.1) (0 : Int)), ())) else (some (Bool.false, ()))) else (bif (eqI (lenL t.2.2.1) (0 : Int)) then (some (Bool.true, ())) else (ob (v_natural_Gcd n (t.2.1, (t.2.2.1, ()))) fun x6 => (ob (v_natural_Bits n (x6.1, ())) fun x7 => (some ((eqI x7.1 (1 : Int)), ())))))))))))
theorem le_rational_Valid (n : Nat) (t : (Bool × ((List T) × ((List T) × Unit)))) : Le (v_rational_Valid n t) (u_rational_Valid t) := by
  unfold v_rational_Valid u_rational_Valid
  repeat' first
    | with_reducible refine le_cond ?_ ?_
    | with_reducible refine le_onS (fun _ => ?_) fun _ => ?_
    | with_reducible refine le_ob ?_ fun _ => ?_
    | with_reducible refine le_both ?_ ?_
    | with_reducible exact le_rfl
    | with_reducible exact le_natural_Valid n _
    | with_reducible exact le_natural_Gcd n _
    | with_reducible exact le_natural_Bits n _
noncomputable def v_vector_each_Sub (n : Nat) (t : (Bool × ((List T) × ((List T) × (Bool × ((List T) × ((List T) × (Bool × ((List T) × ((List T) × (Bool × ((List T) × ((List T) × (Bool × ((List T) × ((List T) × (Bool × ((List T) × ((List T) × (Unit × Unit)))))))))))))))))))) : Option (Bool × ((List T) × ((List T) × (Bool × ((List T) × ((List T) × (Bool × ((List T) × ((List T) × Unit))))))))) :=
  (ob (α := ((Unit × Unit × Bool × T × T × Bool × T × T × Bool × T × T × Bool × List T × List T × Bool × List T × List T × Bool × List T × List T × Unit) ⊕ Empty)) (ob (v_rational_Sub n (t.1, (t.2.1, (t.2.2.1, (t.2.2.2.2.2.2.2.2.2.1, (t.2.2.2.2.2.2.2.2.2.2.1, (t.2.2.2.2.2.2.2.2.2.2.2.1, ()))))))) fun x0 => (ob (v_rational_Sub n (t.2.2.2.1, (t.2.2.2.2.1, (t.2.2.2.2.2.1, (t.2.2.2.2.2.2.2.2.2.2.2.2.1, (t.2.2.2.2.2.2.2.2.2.2.2.2.2.1, (t.2.2.2.2.2.2.2.2.2.2.2.2.2.2.1, ()))))))) fun x1 => (ob (v_rational_Sub n (t.2.2.2.2.2.2.1, (t.2.2.2.2.2.2.2.1, (t.2.2.2.2.2.2.2.2.1, (t.2.2.2.2.2.2.2.2.2.2.2.2.2.2.2.1, (t.2.2.2.2.2.2.2.2.2.2.2.2.2.2.2.2.1, (t.2.2.2.2.2.2.2.2.2.2.2.2.2.2.2.2.2.1, ()))))))) fun x2 => (some (Sum.inl ((), ((), (Bool.false, ((T.v (Value.slice (Option.none) 0 0)), ((T.v (Value.slice (Option.none) 0 0)), (Bool.false, ((T.v (Value.slice (Option.none) 0 0)), ((T.v (Value.slice (Option.none) 0 0)), (Bool.false, ((T.v (Value.slice (Option.none) 0 0)), ((T.v (Value.slice (Option.none) 0 0)), (x0.1, (x0.2.1, (x0.2.2.1, (x1.1, (x1.2.1, (x1.2.2.1, (x2.1, (x2.2.1, (x2.2.2.1, ()))))))))))))))))))))))))) fun q3 => onS q3 (fun t4 => (some (t4.2.2.2.2.2.2.2.2.2.2.2.1, (t4.2.2.2.2.2.2.2.2.2.2.2.2.1, (t4.2.2.2.2.2.2.2.2.2.2.2.2.2.1, (t4.2.2.2.2.2.2.2.2.2.2.2.2.2.2.1, (t4.2.2.2.2.2.2.2.2.2.2.2.2.2.2.2.1, (t4.2.2.2.2.2.2.2.2.2.2.2.2.2.2.2.2.1, (t4.2.2.2.2.2.2.2.2.2.2.2.2.2.2.2.2.2.1, (t4.2.2.2.2.2.2.2.2.2.2.2.2.2.2.2.2.2.2.1, (t4.2.2.2.2.2.2.2.2.2.2.2.2.2.2.2.2.2.2.2.1, ()))))))))))) fun q5 => noS q5)
theorem le_vector_each_Sub (n : Nat) (t : (Bool × ((List T) × ((List T) × (Bool × ((List T) × ((List T) × (Bool × ((List T) × ((List T) × (Bool × ((List T) × ((List T) × (Bool × ((List T) × ((List T) × (Bool × ((List T) × ((List T) × (Unit × Unit)))))))))))))))))))) : Le (v_vector_each_Sub n t) (u_vector_each_Sub t) := by
  unfold v_vector_each_Sub u_vector_each_Sub
  repeat' first
    | with_reducible refine le_cond ?_ ?_
    | with_reducible refine le_onS (fun _ => ?_) fun _ => ?_
    | with_reducible refine le_ob ?_ fun _ => ?_
    | with_reducible refine le_both ?_ ?_
    | with_reducible exact le_rfl
    | with_reducible exact le_rational_Sub n _
noncomputable def v_vector_Sub (n : Nat) (t : (Bool × ((List T) × ((List T) × (Bool × ((List T) × ((List T) × (Bool × ((List T) × ((List T) × (Bool × ((List T) × ((List T) × (Bool × ((List T) × ((List T) × (Bool × ((List T) × ((List T) × Unit))))))))))))))))))) : Option (Bool × ((List T) × ((List T) × (Bool × ((List T) × ((List T) × (Bool × ((List T) × ((List T) × Unit))))))))) :=
  (ob (v_vector_each_Sub n (t.1, (t.2.1, (t.2.2.1, (t.2.2.2.1, (t.2.2.2.2.1, (t.2.2.2.2.2.1, (t.2.2.2.2.2.2.1, (t.2.2.2.2.2.2.2.1, (t.2.2.2.2.2.2.2.2.1, (t.2.2.2.2.2.2.2.2.2.1, (t.2.2.2.2.2.2.2.2.2.2.1, (t.2.2.2.2.2.2.2.2.2.2.2.1, (t.2.2.2.2.2.2.2.2.2.2.2.2.1, (t.2.2.2.2.2.2.2.2.2.2.2.2.2.1, (t.2.2.2.2.2.2.2.2.2.2.2.2.2.2.1, (t.2.2.2.2.2.2.2.2.2.2.2.2.2.2.2.1, (t.2.2.2.2.2.2.2.2.2.2.2.2.2.2.2.2.1, (t.2.2.2.2.2.2.2.2.2.2.2.2.2.2.2.2.2.1, ((), ())))))))))))))))))))) fun x0 => (some (x0.1, (x0.2.1, (x0.2.2.1, (x0.2.2.2.1, (x0.2.2.2.2.1, (x0.2.2.2.2.2.1, (x0.2.2.2.2.2.2.1, (x0.2.2.2.2.2.2.2.1, (x0.2.2.2.2.2.2.2.2.1, ())))))))))))
theorem le_vector_Sub (n : Nat) (t : (Bool × ((List T) × ((List T) × (Bool × ((List T) × ((List T) × (Bool × ((List T) × ((List T) × (Bool × ((List T) × ((List T) × (Bool × ((List T) × ((List T) × (Bool × ((List T) × ((List T) × Unit))))))))))))))))))) : Le (v_vector_Sub n t) (u_vector_Sub t) := by
  unfold v_vector_Sub u_vector_Sub
  repeat' first
    | with_reducible refine le_cond ?_ ?_
    | with_reducible refine le_onS (fun _ => ?_) fun _ => ?_
    | with_reducible refine le_ob ?_ fun _ => ?_
    | with_reducible refine le_both ?_ ?_
    | with_reducible exact le_rfl
    | with_reducible exact le_vector_each_Sub n _
noncomputable def v_vector_Cross (n : Nat) (t : (Bool × ((List T) × ((List T) × (Bool × ((List T) × ((List T) × (Bool × ((List T) × ((List T) × (Bool × ((List T) × ((List T) × (Bool × ((List T) × ((List T) × (Bool × ((List T) × ((List T) × Unit))))))))))))))))))) : Option (Bool × ((List T) × ((List T) × (Bool × ((List T) × ((List T) × (Bool × ((List T) × ((List T) × Unit))))))))) :=
  (ob (α := ((Unit × Unit × Bool × T × T × Bool × T × T × Bool × T × T × Bool × List T × List T × Bool × List T × List T × Bool × List T × List T × Unit) ⊕ Empty)) (ob (v_rational_Mul n (t.2.2.2.1, (t.2.2.2.2.1, (t.2.2.2.2.2.1, (t.2.2.2.2.2.2.2.2.2.2.2.2.2.2.2.1, (t.2.2.2.2.2.2.2.2.2.2.2.2.2.2.2.2.1, (t.2.2.2.2.2.2.2.2.2.2.2.2.2.2.2.2.2.1, ()))))))) fun x0 => (ob (v_rational_Mul n (t.2.2.2.2.2.2.1, (t.2.2.2.2.2.2.2.1, (t.2.2.2.2.2.2.2.2.1, (t.2.2.2.2.2.2.2.2.2.2.2.2.1, (t.2.2.2.2.2.2.2.2.2.2.2.2.2.1, (t.2.2.2.2.2.2.2.2.2.2.2.2.2.2.1, ()))))))) fun x1 => (ob (v_rational_Sub n (x0.1, (x0.2.1, (x0.2.2.1, (x1.1, (x1.2.1, (x1.2.2.1, ()))))))) fun x2 => (ob (v_rational_Mul n (t.2.2.2.2.2.2.1, (t.2.2.2.2.2.2.2.1, (t.2.2.2.2.2.2.2.2.1, (t.2.2.2.2.2.2.2.2.2.1, (t.2.2.2.2.2.2.2.2.2.2.1, (t.2.2.2.2.2.2.2.2.2.2.2.1, ()))))))) fun x3 => (ob (v_rational_Mul n (t.1, (t.2.1, (t.2.2.1, (t.2.2.2.2.2.2.2.2.2.2.2.2.2.2.2.1, (t.2.2.2.2.2.2.2.2.2.2.2.2.2.2.2.2.1, (t.2.2.2.2.2.2.2.2.2.2.2.2.2.2.2.2.2.1, ()))))))) fun x4 => (ob (v_rational_Sub n (x3.1, (x3.2.1, (x3.2.2.1, (x4.1, (x4.2.1, (x4.2.2.1, ()))))))) fun x5 => (ob (v_rational_Mul n (t.1, (t.2.1, (t.2.2.1, (t.2.2.2.2.2.2.2.2.2.2.2.2.1, (t.2.2.2.2.2.2.2.2.2.2.2.2.2.1, (t.2.2.2.2.2.2.2.2.2.2.2.2.2.2.1, ()))))))) fun x6 => (ob (v_rational_Mul n (t.2.2.2.1, (t.2.2.2.2.1, (t.2.2.2.2.2.1, (t.2.2.2.2.2.2.2.2.2.1, (t.2.2.2.2.2.2.2.2.2.2.1, (t.2.2.2.2.2.2.2.2.2.2.2.1, ()))))))) fun x7 => (ob (v_rational_Sub n (x6.1, (x6.2.1, (x6.2.2.1, (x7.1, (x7.2.1, (x7.2.2.1, ()))))))) fun x8 => (some (Sum.inl ((), ((), (Bool.false, ((T.v (Value.slice (Option.none) 0 0)), ((T.v (Value.slice (Option.none) 0 0)), (Bool.false, ((T.v (Value.slice (Option.none) 0 0)), ((T.v (Value.slice (Option.none) 0 0)), (Bool.false, ((T.v (Value.slice (Option.none) 0 0)), ((T.v (Value.slice (Option.none) 0 0)), (x2.1, (x2.2.1, (x2.2.2.1, (x5.1, (x5.2.1, (x5.2.2.1, (x8.1, (x8.2.1, (x8.2.2.1, ()))))))))))))))))))))))))))))))) fun q9 => onS q9 (fun t10 => (some (t10.2.2.2.2.2.2.2.2.2.2.2.1, (t10.2.2.2.2.2.2.2.2.2.2.2.2.1, (t10.2.2.2.2.2.2.2.2.2.2.2.2.2.1, (t10.2.2.2.2.2.2.2.2.2.2.2.2.2.2.1, (t10.2.2.2.2.2.2.2.2.2.2.2.2.2.2.2.1, (t10.2.2.2.2.2.2.2.2.2.2.2.2.2.2.2.2.1, (t10.2.2.2.2.2.2.2.2.2.2.2.2.2.2.2.2.2.1, (t10.2.2.2.2.2.2.2.2.2.2.2.2.2.2.2.2.2.2.1, (t10.2.2.2.2.2.2.2.2.2.2.2.2.2.2.2.2.2.2.2.1, ()))))))))))) fun q11 => noS q11)
theorem le_vector_Cross (n : Nat) (t : (Bool × ((List T) × ((List T) × (Bool × ((List T) × ((List T) × (Bool × ((List T) × ((List T) × (Bool × ((List T) × ((List T) × (Bool × ((List T) × ((List T) × (Bool × ((List T) × ((List T) × Unit))))))))))))))))))) : Le (v_vector_Cross n t) (u_vector_Cross t) := by
  unfold v_vector_Cross u_vector_Cross
  repeat' first
    | with_reducible refine le_cond ?_ ?_
    | with_reducible refine le_onS (fun _ => ?_) fun _ => ?_
    | with_reducible refine le_ob ?_ fun _ => ?_
    | with_reducible refine le_both ?_ ?_
    | with_reducible exact le_rfl
    | with_reducible exact le_rational_Mul n _
    | with_reducible exact le_rational_Sub n _
noncomputable def v_vector_Orient2 (n : Nat) (t : (Bool × ((List T) × ((List T) × (Bool × ((List T) × ((List T) × (Bool × ((List T) × ((List T) × (Bool × ((List T) × ((List T) × (Bool × ((List T) × ((List T) × (Bool × ((List T) × ((List T) × (Bool × ((List T) × ((List T) × (Bool × ((List T) × ((List T) × (Bool × ((List T) × ((List T) × Unit)))))))))))))))))))))))))))) : Option (Int × Unit) :=
  (ob (v_vector_Sub n (t.2.2.2.2.2.2.2.2.2.1, (t.2.2.2.2.2.2.2.2.2.2.1, (t.2.2.2.2.2.2.2.2.2.2.2.1, (t.2.2.2.2.2.2.2.2.2.2.2.2.1, (t.2.2.2.2.2.2.2.2.2.2.2.2.2.1, (t.2.2.2.2.2.2.2.2.2.2.2.2.2.2.1, (t.2.2.2.2.2.2.2.2.2.2.2.2.2.2.2.1, (t.2.2.2.2.2.2.2.2.2.2.2.2.2.2.2.2.1, (t.2.2.2.2.2.2.2.2.2.2.2.2.2.2.2.2.2.1, (t.1, (t.2.1, (t.2.2.1, (t.2.2.2.1, (t.2.2.2.2.1, (t.2.2.2.2.2.1, (t.2.2.2.2.2.2.1, (t.2.2.2.2.2.2.2.1, (t.2.2.2.2.2.2.2.2.1, ()))))))))))))))))))) fun x0 => (ob (v_vector_Sub n (t.2.2.2.2.2.2.2.2.2.2.2.2.2.2.2.2.2.2.1, (t.2.2.2.2.2.2.2.2.2.2.2.2.2.2.2.2.2.2.2.1, (t.2.2.2.2.2.2.2.2.2.2.2.2.2.2.2.2.2.2.2.2.1, (t.2.2.2.2.2.2.2.2.2.2.2.2.2.2.2.2.2.2.2.2.2.1, (t.2.2.2.2.2.2.2.2.2.2.2.2.2.2.2.2.2.2.2.2.2.2.1, (t.2.2.2.2.2.2.2.2.2.2.2.2.2.2.2.2.2.2.2.2.2.2.2.1, (t.2.2.2.2.2.2.2.2.2.2.2.2.2.2.2.2.2.2.2.2.2.2.2.2.1, (t.2.2.2.2.2.2.2.2.2.2.2.2.2.2.2.2.2.2.2.2.2.2.2.2.2.1, (t.2.2.2.2.2.2.2.2.2.2.2.2.2.2.2.2.2.2.2.2.2.2.2.2.2.2.1, (t.1, (t.2.1, (t.2.2.1, (t.2.2.2.1, (t.2.2.2.2.1, (t.2.2.2.2.2.1, (t.2.2.2.2.2.2.1, (t.2.2.2.2.2.2.2.1, (t.2.2.2.2.2.2.2.2.1, ()))))))))))))))))))) fun x1 => (ob (v_vector_Cross n (x0.1, (x0.2.1, (x0.2.2.1, (x0.2.2.2.1, (x0.2.2.2.2.1, (x0.2.2.2.2.2.1, (x0.2.2.2.2.2.2.1, (x0.2.2.2.2.2.2.2.1, (x0.2.2.2.2.2.2.2.2.1, (x1.1, (x1.2.1, (x1.2.2.1, (x1.2.2.2.1, (x1.2.2.2.2.1, (x1.2.2.2.2.2.1, (x1.2.2.2.2.2.2.1, (x1.2.2.2.2.2.2.2.1, (x1.2.2.2.2.2.2.2.2.1, ()))))))))))))))))))) fun x2 => (ob (v_rational_Sign n (x2.2.2.2.2.2.2.1, (x2.2.2.2.2.2.2.2.1, (x2.2.2.2.2.2.2.2.2.1, ())))) fun x3 => (some (x3.1, ()))))))
theorem le_vector_Orient2 (n : Nat) (t : (Bool × ((List T) × ((List T) × (Bool × ((List T) × ((List T) × (Bool × ((List T) × ((List T) × (Bool × ((List T) × ((List T) × (Bool × ((List T) × ((List T) × (Bool × ((List T) × ((List T) × (Bool × ((List T) × ((List T) × (Bool × ((List T) × ((List T) × (Bool × ((List T) × ((List T) × Unit)))))))))))))))))))))))))))) : Le (v_vector_Orient2 n t) (u_vector_Orient2 t) := by
  unfold v_vector_Orient2 u_vector_Orient2
  repeat' first
    | with_reducible refine le_cond ?_ ?_
    | with_reducible refine le_onS (fun _ => ?_) fun _ => ?_
    | with_reducible refine le_ob ?_ fun _ => ?_
    | with_reducible refine le_both ?_ ?_
    | with_reducible exact le_rfl
    | with_reducible exact le_vector_Sub n _
    | with_reducible exact le_vector_Cross n _
    | with_reducible exact le_rational_Sign n _
noncomputable def v_trim_between (n : Nat) (t : (Bool × ((List T) × ((List T) × (Bool × ((List T) × ((List T) × (Bool × ((List T) × ((List T) × Unit)))))))))) : Option (Bool × Unit) :=
  (ob (v_rational_Min n (t.1, (t.2.1, (t.2.2.1, (t.2.2.2.1, (t.2.2.2.2.1, (t.2.2.2.2.2.1, ()))))))) fun x0 => (ob (v_rational_Cmp n (x0.1, (x0.2.1, (x0.2.2.1, (t.2.2.2.2.2.2.1, (t.2.2.2.2.2.2.2.1, (t.2.2.2.2.2.2.2.2.1, ()))))))) fun x1 => (bif (leI x1.1 (0 : Int)) then (ob (v_rational_Max n (t.1, (t.2.1, (t.2.2.1, (t.2.2.2.1, (t.2.2.2.2.1, (t.2.2.2.2.2.1, ()))))))) fun x2 => (ob (v_rational_Cmp n (t.2.2.2.2.2.2.1, (t.2.2.2.2.2.2.2.1, (t.2.2.2.2.2.2.2.2.1, (x2.1, (x2.2.1, (x2.2.2.1, ()))))))) fun x3 => (some ((leI x3.1 (0 : Int)), ())))) else (some (Bool.false, ())))))
theorem le_trim_between (n : Nat) (t : (Bool × ((List T) × ((List T) × (Bool × ((List T) × ((List T) × (Bool × ((List T) × ((List T) × Unit)))))))))) : Le (v_trim_between n t) (u_trim_between t) := by
  unfold v_trim_between u_trim_between
  repeat' first
    | with_reducible refine le_cond ?_ ?_
    | with_reducible refine le_onS (fun _ => ?_) fun _ => ?_
    | with_reducible refine le_ob ?_ fun _ => ?_
    | with_reducible refine le_both ?_ ?_
    | with_reducible exact le_rfl
    | with_reducible exact le_rational_Min n _
    | with_reducible exact le_rational_Cmp n _
    | with_reducible exact le_rational_Max n _
noncomputable def v_trim_on (n : Nat) (t : (Bool × ((List T) × ((List T) × (Bool × ((List T) × ((List T) × (Bool × ((List T) × ((List T) × (Bool × ((List T) × ((List T) × (Bool × ((List T) × ((List T) × (Bool × ((List T) × ((List T) × (Bool × ((List T) × ((List T) × (Bool × ((List T) × ((List T) × (Bool × ((List T) × ((List T) × Unit)))))))))))))))))))))))))))) : Option (Bool × Unit) :=
  (ob (v_vector_Orient2 n (t.1, (t.2.1, (t.2.2.1, (t.2.2.2.1, (t.2.2.2.2.1, (t.2.2.2.2.2.1, (t.2.2.2.2.2.2.1, (t.2.2.2.2.2.2.2.1, (t.2.2.2.2.2.2.2.2.1, (t.2.2.2.2.2.2.2.2.2.1, (t.2.2.2.2.2.2.2.2.2.2.1, (t.2.2.2.2.2.2.2.2.2.2.2.1, (t.2.2.2.2.2.2.2.2.2.2.2.2.1, (t.2.2.2.2.2.2.2.2.2.2.2.2.2.1, (t.2.2.2.2.2.2.2.2.2.2.2.2.2.2.1, (t.2.2.2.2.2.2.2.2.2.2.2.2.2.2.2.1, (t.2.2.2.2.2.2.2.2.2.2.2.2.2.2.2.2.1, (t.2.2.2.2.2.2.2.2.2.2.2.2.2.2.2.2.2.1, (t.2.2.2.2.2.2.2.2.2.2.2.2.2.2.2.2.2.2.1, (t.2.2.2.2.2.2.2.2.2.2.2.2.2.2.2.2.2.2.2.1, (t.2.2.2.2.2.2.2.2.2.2.2.2.2.2.2.2.2.2.2.2.1, (t.2.2.2.2.2.2.2.2.2.2.2.2.2.2.2.2.2.2.2.2.2.1, (t.2.2.2.2.2.2.2.2.2.2.2.2.2.2.2.2.2.2.2.2.2.2.1, (t.2.2.2.2.2.2.2.2.2.2.2.2.2.2.2.2.2.2.2.2.2.2.2.1, (t.2.2.2.2.2.2.2.2.2.2.2.2.2.2.2.2.2.2.2.2.2.2.2.2.1, (t.2.2.2.2.2.2.2.2.2.2.2.2.2.2.2.2.2.2.2.2.2.2.2.2.2.1, (t.2.2.2.2.2.2.2.2.2.2.2.2.2.2.2.2.2.2.2.2.2.2.2.2.2.2.1, ())))))))))))))))))))))))))))) fun x0 => (bif (eqI x0.1 (0 : Int)) then (ob (v_trim_between n (t.1, (t.2.1, (t.2.2.1, (t.2.2.2.2.2.2.2.2.2.1, (t.2.2.2.2.2.2.2.2.2.2.1, (t.2.2.2.2.2.2.2.2.2.2.2.1, (t.2.2.2.2.2.2.2.2.2.2.2.2.2.2.2.2.2.2.1, (t.2.2.2.2.2.2.2.2.2.2.2.2.2.2.2.2.2.2.2.1, (t.2.2.2.2.2.2.2.2.2.2.2.2.2.2.2.2.2.2.2.2.1, ())))))))))) fun x1 => (bif x1.1 then (ob (v_trim_between n (t.2.2.2.1, (t.2.2.2.2.1, (t.2.2.2.2.2.1, (t.2.2.2.2.2.2.2.2.2.2.2.2.1, (t.2.2.2.2.2.2.2.2.2.2.2.2.2.1, (t.2.2.2.2.2.2.2.2.2.2.2.2.2.2.1, (t.2.2.2.2.2.2.2.2.2.2.2.2.2.2.2.2.2.2.2.2.2.1, (t.2.2.2.2.2.2.2.2.2.2.2.2.2.2.2.2.2.2.2.2.2.2.1, (t.2.2.2.2.2.2.2.2.2.2.2.2.2.2.2.2.2.2.2.2.2.2.2.1, ())))))))))) fun x2 => (some (x2.1, ()))) else (some (Bool.false, ())))) else (some (Bool.false, ()))))
theorem le_trim_on (n : Nat) (t : (Bool × ((List T) × ((List T) × (Bool × ((List T) × ((List T) × (Bool × ((List T) × ((List T) × (Bool × ((List T) × ((List T) × (Bool × ((List T) × ((List T) × (Bool × ((List T) × ((List T) × (Bool × ((List T) × ((List T) × (Bool × ((List T) × ((List T) × (Bool × ((List T) × ((List T) × Unit)))))))))))))))))))))))))))) : Le (v_trim_on n t) (u_trim_on t) := by
  unfold v_trim_on u_trim_on
  repeat' first
    | with_reducible refine le_cond ?_ ?_
    | with_reducible refine le_onS (fun _ => ?_) fun _ => ?_
    | with_reducible refine le_ob ?_ fun _ => ?_
    | with_reducible refine le_both ?_ ?_
    | with_reducible exact le_rfl
    | with_reducible exact le_vector_Orient2 n _
    | with_reducible exact le_trim_between n _
noncomputable def v_trim_edge (n : Nat) (t : ((List T) × (Int × Unit))) : Option (Bool × ((List T) × ((List T) × (Bool × ((List T) × ((List T) × (Bool × ((List T) × ((List T) × (Bool × ((List T) × ((List T) × (Bool × ((List T) × ((List T) × (Bool × ((List T) × ((List T) × Unit)))))))))))))))))) :=
  (ob (idxL t.1 t.2.1) fun x0 => (ob (nz (lenL t.1)) fun x1 => (ob (idxL t.1 (modI (wr IntKind.i64 (addI t.2.1 (1 : Int))) x1)) fun x2 => (ob (T.bool? (T.cell x0 0)) fun x3 => (ob (T.sl? 1 (T.cell x0 1)) fun x4 => (ob (T.sl? 1 (T.cell x0 2)) fun x5 => (ob (T.bool? (T.cell x0 3)) fun x6 => (ob (T.sl? 1 (T.cell x0 4)) fun x7 => (ob (T.sl? 1 (T.cell x0 5)) fun x8 => (ob (T.bool? (T.cell x0 6)) fun x9 => (ob (T.sl? 1 (T.cell x0 7)) fun x10 => (ob (T.sl? 1 (T.cell x0 8)) fun x11 => (ob (T.bool? (T.cell x2 0)) fun x12 => (ob (T.sl? 1 (T.cell x2 1)) fun x13 => (ob (T.sl? 1 (T.cell x2 2)) fun x14 => (ob (T.bool? (T.cell x2 3)) fun x15 => (ob (T.sl? 1 (T.cell x2 4)) fun x16 => (ob (T.sl? 1 (T.cell x2 5)) fun x17 => (ob (T.bool? (T.cell x2 6)) fun x18 => (ob (T.sl? 1 (T.cell x2 7)) fun x19 => (ob (T.sl? 1 (T.cell x2 8)) fun x20 => (some (x3, (x4, (x5, (x6, (x7, (x8, (x9, (x10, (x11, (x12, (x13, (x14, (x15, (x16, (x17, (x18, (x19, (x20, ()))))))))))))))))))))))))))))))))))))))))
theorem le_trim_edge (n : Nat) (t : ((List T) × (Int × Unit))) : Le (v_trim_edge n t) (u_trim_edge t) := by
  unfold v_trim_edge u_trim_edge
  repeat' first
    | with_reducible refine le_cond ?_ ?_
    | with_reducible refine le_onS (fun _ => ?_) fun _ => ?_
    | with_reducible refine le_ob ?_ fun _ => ?_
    | with_reducible refine le_both ?_ ?_
    | with_reducible exact le_rfl
noncomputable def v_trim_Area_l0 (n : Nat) (s0 : (List T × Unit × Unit × Int × Int × Bool × T × T × Bool × List T × List T × Unit)) : Option ((List T × Unit × Unit × Int × Int × Bool × T × T × Bool × List T × List T × Unit) ⊕ ((Unit × Unit × Bool × T × T × Bool × List T × List T × Unit) ⊕ Empty)) :=
  (bif (ltI s0.2.2.2.2.1 s0.2.2.2.1) then (ob (v_trim_edge n (s0.1, (s0.2.2.2.2.1, ()))) fun x1 => (ob (v_rational_Mul n (x1.1, (x1.2.1, (x1.2.2.1, (x1.2.2.2.2.2.2.2.2.2.2.2.2.1, (x1.2.2.2.2.2.2.2.2.2.2.2.2.2.1, (x1.2.2.2.2.2.2.2.2.2.2.2.2.2.2.1, ()))))))) fun x2 => (ob (v_rational_Mul n (x1.2.2.2.2.2.2.2.2.2.1, (x1.2.2.2.2.2.2.2.2.2.2.1, (x1.2.2.2.2.2.2.2.2.2.2.2.1, (x1.2.2.2.1, (x1.2.2.2.2.1, (x1.2.2.2.2.2.1, ()))))))) fun x3 => (ob (v_rational_Sub n (x2.1, (x2.2.1, (x2.2.2.1, (x3.1, (x3.2.1, (x3.2.2.1, ()))))))) fun x4 => (ob (v_rational_Add n (s0.2.2.2.2.2.2.2.2.1, (s0.2.2.2.2.2.2.2.2.2.1, (s0.2.2.2.2.2.2.2.2.2.2.1, (x4.1, (x4.2.1, (x4.2.2.1, ()))))))) fun x5 => (some (Sum.inl (s0.1, ((), ((), (s0.2.2.2.1, ((wr IntKind.i64 (addI s0.2.2.2.2.1 (1 : Int))), (s0.2.2.2.2.2.1, (s0.2.2.2.2.2.2.1, (s0.2.2.2.2.2.2.2.1, (x5.1, (x5.2.1, (x5.2.2.1, ())))))))))))))))))) else (some (Sum.inr (Sum.inl ((), ((), (s0.2.2.2.2.2.1, (s0.2.2.2.2.2.2.1, (s0.2.2.2.2.2.2.2.1, (s0.2.2.2.2.2.2.2.2.1, (s0.2.2.2.2.2.2.2.2.2.1, (s0.2.2.2.2.2.2.2.2.2.2.1, ()))))))))))))
theorem le_trim_Area_l0 (n : Nat) (s0 : (List T × Unit × Unit × Int × Int × Bool × T × T × Bool × List T × List T × Unit)) : Le (v_trim_Area_l0 n s0) (u_trim_Area_l0 s0) := by
  unfold v_trim_Area_l0 u_trim_Area_l0
  repeat' first
    | with_reducible refine le_cond ?_ ?_
    | with_reducible refine le_onS (fun _ => ?_) fun _ => ?_
    | with_reducible refine le_ob ?_ fun _ => ?_
    | with_reducible refine le_both ?_ ?_
    | with_reducible exact le_rfl
    | with_reducible exact le_trim_edge n _
    | with_reducible exact le_rational_Mul n _
    | with_reducible exact le_rational_Sub n _
    | with_reducible exact le_rational_Add n _
noncomputable def v_trim_Area (n : Nat) (t : ((List T) × Unit)) : Option (Bool × ((List T) × ((List T) × Unit))) :=
  (ob (iter (v_trim_Area_l0 n) n (t.1, ((), ((), ((lenL t.1), ((0 : Int), (Bool.false, ((T.v (Value.slice (Option.none) 0 0)), ((T.v (Value.slice (Option.none) 0 0)), (Bool.false, ([], ([], ())))))))))))) fun q6 => onS q6 (fun t7 => (some (t7.2.2.2.2.2.1, (t7.2.2.2.2.2.2.1, (t7.2.2.2.2.2.2.2.1, ()))))) fun q8 => noS q8)
theorem le_trim_Area (n : Nat) (t : ((List T) × Unit)) : Le (v_trim_Area n t) (u_trim_Area t) := by
  unfold v_trim_Area u_trim_Area
  repeat' first
    | with_reducible refine le_cond ?_ ?_
    | with_reducible refine le_onS (fun _ => ?_) fun _ => ?_
    | with_reducible refine le_ob ?_ fun _ => ?_
    | with_reducible refine le_both ?_ ?_
    | with_reducible exact le_rfl
    | with_reducible exact le_loop (fun s => le_trim_Area_l0 n s) _ _
noncomputable def v_trim_Winding_l0 (n : Nat) (s0 : (List T × Unit × Int × Int × Int × Bool × List T × List T × Bool × List T × List T × Bool × List T × List T × Unit)) : Option ((List T × Unit × Int × Int × Int × Bool × List T × List T × Bool × List T × List T × Bool × List T × List T × Unit) ⊕ ((Int × Bool × Unit) ⊕ ((Int × Unit) ⊕ Empty))) :=
  (bif (ltI s0.2.2.2.2.1 s0.2.2.2.1) then (ob (α := ((Int × Bool × Unit) ⊕ ((List T × Unit × Int × Int × Int × Bool × List T × List T × Bool × List T × List T × Bool × List T × List T × Unit) ⊕ Empty))) (ob (v_trim_edge n (s0.1, (s0.2.2.2.2.1, ()))) fun x1 => (ob (v_trim_on n (x1.1, (x1.2.1, (x1.2.2.1, (x1.2.2.2.1, (x1.2.2.2.2.1, (x1.2.2.2.2.2.1, (x1.2.2.2.2.2.2.1, (x1.2.2.2.2.2.2.2.1, (x1.2.2.2.2.2.2.2.2.1, (x1.2.2.2.2.2.2.2.2.2.1, (x1.2.2.2.2.2.2.2.2.2.2.1, (x1.2.2.2.2.2.2.2.2.2.2.2.1, (x1.2.2.2.2.2.2.2.2.2.2.2.2.1, (x1.2.2.2.2.2.2.2.2.2.2.2.2.2.1, (x1.2.2.2.2.2.2.2.2.2.2.2.2.2.2.1, (x1.2.2.2.2.2.2.2.2.2.2.2.2.2.2.2.1, (x1.2.2.2.2.2.2.2.2.2.2.2.2.2.2.2.2.1, (x1.2.2.2.2.2.2.2.2.2.2.2.2.2.2.2.2.2.1, (s0.2.2.2.2.2.1, (s0.2.2.2.2.2.2.1, (s0.2.2.2.2.2.2.2.1, (s0.2.2.2.2.2.2.2.2.1, (s0.2.2.2.2.2.2.2.2.2.1, (s0.2.2.2.2.2.2.2.2.2.2.1, (s0.2.2.2.2.2.2.2.2.2.2.2.1, (s0.2.2.2.2.2.2.2.2.2.2.2.2.1, (s0.2.2.2.2.2.2.2.2.2.2.2.2.2.1, ())))))))))))))))))))))))))))) fun x2 => (bif x2.1 then (some (Sum.inl ((0 : Int), (Bool.false, ())))) else (ob (v_rational_Cmp n (x1.2.2.2.1, (x1.2.2.2.2.1, (x1.2.2.2.2.2.1, (s0.2.2.2.2.2.2.2.2.1, (s0.2.2.2.2.2.2.2.2.2.1, (s0.2.2.2.2.2.2.2.2.2.2.1, ()))))))) fun x3 => (ob (v_rational_Cmp n (x1.2.2.2.2.2.2.2.2.2.2.2.2.1, (x1.2.2.2.2.2.2.2.2.2.2.2.2.2.1, (x1.2.2.2.2.2.2.2.2.2.2.2.2.2.2.1, (s0.2.2.2.2.2.2.2.2.1, (s0.2.2.2.2.2.2.2.2.2.1, (s0.2.2.2.2.2.2.2.2.2.2.1, ()))))))) fun x4 => (ob (v_vector_Orient2 n (x1.1, (x1.2.1, (x1.2.2.1, (x1.2.2.2.1, (x1.2.2.2.2.1, (x1.2.2.2.2.2.1, (x1.2.2.2.2.2.2.1, (x1.2.2.2.2.2.2.2.1, (x1.2.2.2.2.2.2.2.2.1, (x1.2.2.2.2.2.2.2.2.2.1, (x1.2.2.2.2.2.2.2.2.2.2.1, (x1.2.2.2.2.2.2.2.2.2.2.2.1, (x1.2.2.2.2.2.2.2.2.2.2.2.2.1, (x1.2.2.2.2.2.2.2.2.2.2.2.2.2.1, (x1.2.2.2.2.2.2.2.2.2.2.2.2.2.2.1, (x1.2.2.2.2.2.2.2.2.2.2.2.2.2.2.2.1, (x1.2.2.2.2.2.2.2.2.2.2.2.2.2.2.2.2.1, (x1.2.2.2.2.2.2.2.2.2.2.2.2.2.2.2.2.2.1, (s0.2.2.2.2.2.1, (s0.2.2.2.2.2.2.1, (s0.2.2.2.2.2.2.2.1, (s0.2.2.2.2.2.2.2.2.1, (s0.2.2.2.2.2.2.2.2.2.1, (s0.2.2.2.2.2.2.2.2.2.2.1, (s0.2.2.2.2.2.2.2.2.2.2.2.1, (s0.2.2.2.2.2.2.2.2.2.2.2.2.1, (s0.2.2.2.2.2.2.2.2.2.2.2.2.2.1, ())))))))))))))))))))))))))))) fun x5 => (bif (leI x3.1 (0 : Int)) then (bif (Bool.not (leI x4.1 (0 : Int))) then (bif (ltI (0 : Int) x5.1) then (some (Sum.inr (Sum.inl (s0.1, ((), ((wr IntKind.i64 (addI s0.2.2.1 (1 : Int))), (s0.2.2.2.1, (s0.2.2.2.2.1, (s0.2.2.2.2.2.1, (s0.2.2.2.2.2.2.1, (s0.2.2.2.2.2.2.2.1, (s0.2.2.2.2.2.2.2.2.1, (s0.2.2.2.2.2.2.2.2.2.1, (s0.2.2.2.2.2.2.2.2.2.2.1, (s0.2.2.2.2.2.2.2.2.2.2.2.1, (s0.2.2.2.2.2.2.2.2.2.2.2.2.1, (s0.2.2.2.2.2.2.2.2.2.2.2.2.2.1, ()))))))))))))))))) else (bif (leI x4.1 (0 : Int)) then (bif (Bool.not (leI x3.1 (0 : Int))) then (bif (ltI x5.1 (0 : Int)) then (some (Sum.inr (Sum.inl (s0.1, ((), ((wr IntKind.i64 (subI s0.2.2.1 (1 : Int))), (s0.2.2.2.1, (s0.2.2.2.2.1, (s0.2.2.2.2.2.1, (s0.2.2.2.2.2.2.1, (s0.2.2.2.2.2.2.2.1, (s0.2.2.2.2.2.2.2.2.1, (s0.2.2.2.2.2.2.2.2.2.1, (s0.2.2.2.2.2.2.2.2.2.2.1, (s0.2.2.2.2.2.2.2.2.2.2.2.1, (s0.2.2.2.2.2.2.2.2.2.2.2.2.1, (s0.2.2.2.2.2.2.2.2.2.2.2.2.2.1, ()))))))))))))))))) else (some (Sum.inr (Sum.inl (s0.1, ((), (s0.2.2.1, (s0.2.2.2.1, (s0.2.2.2.2.1, (s0.2.2.2.2.2.1, (s0.2.2.2.2.2.2.1, (s0.2.2.2.2.2.2.2.1, (s0.2.2.2.2.2.2.2.2.1, (s0.2.2.2.2.2.2.2.2.2.1, (s0.2.2.2.2.2.2.2.2.2.2.1, (s0.2.2.2.2.2.2.2.2.2.2.2.1, (s0.2.2.2.2.2.2.2.2.2.2.2.2.1, (s0.2.2.2.2.2.2.2.2.2.2.2.2.2.1, ())))))))))))))))))) else (some (Sum.inr (Sum.inl (s0.1, ((), (s0.2.2.1, (s0.2.2.2.1, (s0.2.2.2.2.1, (s0.2.2.2.2.2.1, (s0.2.2.2.2.2.2.1, (s0.2.2.2.2.2.2.2.1, (s0.2.2.2.2.2.2.2.2.1, (s0.2.2.2.2.2.2.2.2.2.1, (s0.2.2.2.2.2.2.2.2.2.2.1, (s0.2.2.2.2.2.2.2.2.2.2.2.1, (s0.2.2.2.2.2.2.2.2.2.2.2.2.1, (s0.2.2.2.2.2.2.2.2.2.2.2.2.2.1, ())))))))))))))))))) else (some (Sum.inr (Sum.inl (s0.1, ((), (s0.2.2.1, (s0.2.2.2.1, (s0.2.2.2.2.1, (s0.2.2.2.2.2.1, (s0.2.2.2.2.2.2.1, (s0.2.2.2.2.2.2.2.1, (s0.2.2.2.2.2.2.2.2.1, (s0.2.2.2.2.2.2.2.2.2.1, (s0.2.2.2.2.2.2.2.2.2.2.1, (s0.2.2.2.2.2.2.2.2.2.2.2.1, (s0.2.2.2.2.2.2.2.2.2.2.2.2.1, (s0.2.2.2.2.2.2.2.2.2.2.2.2.2.1, ()))))))))))))))))))) else (bif (leI x4.1 (0 : Int)) then (bif (Bool.not (leI x3.1 (0 : Int))) then (bif (ltI x5.1 (0 : Int)) then (some (Sum.inr (Sum.inl (s0.1, ((), ((wr IntKind.i64 (subI s0.2.2.1 (1 : Int))), (s0.2.2.2.1, (s0.2.2.2.2.1, (s0.2.2.2.2.2.1, (s0.2.2.2.2.2.2.1, (s0.2.2.2.2.2.2.2.1, (s0.2.2.2.2.2.2.2.2.1, (s0.2.2.2.2.2.2.2.2.2.1, (s0.2.2.2.2.2.2.2.2.2.2.1, (s0.2.2.2.2.2.2.2.2.2.2.2.1, (s0.2.2.2.2.2.2.2.2.2.2.2.2.1, (s0.2.2.2.2.2.2.2.2.2.2.2.2.2.1, ()))))))))))))))))) else (some (Sum.inr (Sum.inl (s0.1, ((), (s0.2.2.1, (s0.2.2.2.1, (s0.2.2.2.2.1, (s0.2.2.2.2.2.1, (s0.2.2.2.2.2.2.1, (s0.2.2.2.2.2.2.2.1, (s0.2.2.2.2.2.2.2.2.1, (s0.2.2.2.2.2.2.2.2.2.1, (s0.2.2.2.2.2.2.2.2.2.2.1, (s0.2.2.2.2.2.2.2.2.2.2.2.1, (s0.2.2.2.2.2.2.2.2.2.2.2.2.1, (s0.2.2.2.2.2.2.2.2.2.2.2.2.2.1, ())))))))))))))))))) else (some (Sum.inr (Sum.inl (s0.1, ((), (s0.2.2.1, (s0.2.2.2.1, (s0.2.2.2.2.1, (s0.2.2.2.2.2.1, (s0.2.2.2.2.2.2.1, (s0.2.2.2.2.2.2.2.1, (s0.2.2.2.2.2.2.2.2.1, (s0.2.2.2.2.2.2.2.2.2.1, (s0.2.2.2.2.2.2.2.2.2.2.1, (s0.2.2.2.2.2.2.2.2.2.2.2.1, (s0.2.2.2.2.2.2.2.2.2.2.2.2.1, (s0.2.2.2.2.2.2.2.2.2.2.2.2.2.1, ())))))))))))))))))) else (some (Sum.inr (Sum.inl (s0.1, ((), (s0.2.2.1, (s0.2.2.2.1, (s0.2.2.2.2.1, (s0.2.2.2.2.2.1, (s0.2.2.2.2.2.2.1, (s0.2.2.2.2.2.2.2.1, (s0.2.2.2.2.2.2.2.2.1, (s0.2.2.2.2.2.2.2.2.2.1, (s0.2.2.2.2.2.2.2.2.2.2.1, (s0.2.2.2.2.2.2.2.2.2.2.2.1, (s0.2.2.2.2.2.2.2.2.2.2.2.2.1, (s0.2.2.2.2.2.2.2.2.2.2.2.2.2.1, ()))))))))))))))))))) else (bif (leI x4.1 (0 : Int)) then (bif (Bool.not (leI x3.1 (0 : Int))) then (bif (ltI x5.1 (0 : Int)) then (some (Sum.inr (Sum.inl (s0.1, ((), ((wr IntKind.i64 (subI s0.2.2.1 (1 : Int))), (s0.2.2.2.1, (s0.2.2.2.2.1, (s0.2.2.2.2.2.1, (s0.2.2.2.2.2.2.1, (s0.2.2.2.2.2.2.2.1, (s0.2.2.2.2.2.2.2.2.1, (s0.2.2.2.2.2.2.2.2.2.1, (s0.2.2.2.2.2.2.2.2.2.2.1, (s0.2.2.2.2.2.2.2.2.2.2.2.1, (s0.2.2.2.2.2.2.2.2.2.2.2.2.1, (s0.2.2.2.2.2.2.2.2.2.2.2.2.2.1, ()))))))))))))))))) else (some (Sum.inr (Sum.inl (s0.1, ((), (s0.2.2.1, (s0.2.2.2.1, (s0.2.2.2.2.1, (s0.2.2.2.2.2.1, (s0.2.2.2.2.2.2.1, (s0.2.2.2.2.2.2.2.1, (s0.2.2.2.2.2.2.2.2.1, (s0.2.2.2.2.2.2.2.2.2.1, (s0.2.2.2.2.2.2.2.2.2.2.1, (s0.2.2.2.2.2.2.2.2.2.2.2.1, (s0.2.2.2.2.2.2.2.2.2.2.2.2.1, (s0.2.2.2.2.2.2.2.2.2.2.2.2.2.1, ())))))))))))))))))) else (some (Sum.inr (Sum.inl (s0.1, ((), (s0.2.2.1, (s0.2.2.2.1, (s0.2.2.2.2.1, (s0.2.2.2.2.2.1, (s0.2.2.2.2.2.2.1, (s0.2.2.2.2.2.2.2.1, (s0.2.2.2.2.2.2.2.2.1, (s0.2.2.2.2.2.2.2.2.2.1, (s0.2.2.2.2.2.2.2.2.2.2.1, (s0.2.2.2.2.2.2.2.2.2.2.2.1, (s0.2.2.2.2.2.2.2.2.2.2.2.2.1, (s0.2.2.2.2.2.2.2.2.2.2.2.2.2.1, ())))))))))))))))))) else (some (Sum.inr (Sum.inl (s0.1, ((), (s0.2.2.1, (s0.2.2.2.1, (s0.2.2.2.2.1, (s0.2.2.2.2.2.1, (s0.2.2.2.2.2.2.1, (s0.2.2.2.2.2.2.2.1, (s0.2.2.2.2.2.2.2.2.1, (s0.2.2.2.2.2.2.2.2.2.1, (s0.2.2.2.2.2.2.2.2.2.2.1, (s0.2.2.2.2.2.2.2.2.2.2.2.1, (s0.2.2.2.2.2.2.2.2.2.2.2.2.1, (s0.2.2.2.2.2.2.2.2.2.2.2.2.2.1, ()))))))))))))))))))))))))) fun q6 => onS q6 (fun t7 => (some (Sum.inr (Sum.inl (t7.1, (t7.2.1, ())))))) fun q8 => onS q8 (fun t9 => (some (Sum.inl (t9.1, ((), (t9.2.2.1, (t9.2.2.2.1, ((wr IntKind.i64 (addI t9.2.2.2.2.1 (1 : Int))), (t9.2.2.2.2.2.1, (t9.2.2.2.2.2.2.1, (t9.2.2.2.2.2.2.2.1, (t9.2.2.2.2.2.2.2.2.1, (t9.2.2.2.2.2.2.2.2.2.1, (t9.2.2.2.2.2.2.2.2.2.2.1, (t9.2.2.2.2.2.2.2.2.2.2.2.1, (t9.2.2.2.2.2.2.2.2.2.2.2.2.1, (t9.2.2.2.2.2.2.2.2.2.2.2.2.2.1, ()))))))))))))))))) fun q10 => noS q10) else (some (Sum.inr (Sum.inr (Sum.inl (s0.2.2.1, ()))))))
theorem le_trim_Winding_l0 (n : Nat) (s0 : (List T × Unit × Int × Int × Int × Bool × List T × List T × Bool × List T × List T × Bool × List T × List T × Unit)) : Le (v_trim_Winding_l0 n s0) (u_trim_Winding_l0 s0) := by
  unfold v_trim_Winding_l0 u_trim_Winding_l0
  repeat' first
    | with_reducible refine le_cond ?_ ?_
    | with_reducible refine le_onS (fun _ => ?_) fun _ => ?_
    | with_reducible refine le_ob ?_ fun _ => ?_
    | with_reducible refine le_both ?_ ?_
    | with_reducible exact le_rfl
    | with_reducible exact le_trim_edge n _
    | with_reducible exact le_trim_on n _
    | with_reducible exact le_rational_Cmp n _
    | with_reducible exact le_vector_Orient2 n _
noncomputable def v_trim_Winding (n : Nat) (t : ((List T) × (Bool × ((List T) × ((List T) × (Bool × ((List T) × ((List T) × (Bool × ((List T) × ((List T) × Unit))))))))))) : Option (Int × (Bool × Unit)) :=
  (ob (iter (v_trim_Winding_l0 n) n (t.1, ((), ((0 : Int), ((lenL t.1), ((0 : Int), (t.2.1, (t.2.2.1, (t.2.2.2.1, (t.2.2.2.2.1, (t.2.2.2.2.2.1, (t.2.2.2.2.2.2.1, (t.2.2.2.2.2.2.2.1, (t.2.2.2.2.2.2.2.2.1, (t.2.2.2.2.2.2.2.2.2.1, ()))))))))))))))) fun q11 => onS q11 (fun t12 => (some (t12.1, (t12.2.1, ())))) fun q13 => onS q13 (fun t14 => (some (t14.1, (Bool.true, ())))) fun q15 => noS q15)
theorem le_trim_Winding (n : Nat) (t : ((List T) × (Bool × ((List T) × ((List T) × (Bool × ((List T) × ((List T) × (Bool × ((List T) × ((List T) × Unit))))))))))) : Le (v_trim_Winding n t) (u_trim_Winding t) := by
  unfold v_trim_Winding u_trim_Winding
  repeat' first
    | with_reducible refine le_cond ?_ ?_
    | with_reducible refine le_onS (fun _ => ?_) fun _ => ?_
    | with_reducible refine le_ob ?_ fun _ => ?_
    | with_reducible refine le_both ?_ ?_
    | with_reducible exact le_rfl
    | with_reducible exact le_loop (fun s => le_trim_Winding_l0 n s) _ _
noncomputable def v_trim_meet (n : Nat) (t : (Bool × ((List T) × ((List T) × (Bool × ((List T) × ((List T) × (Bool × ((List T) × ((List T) × (Bool × ((List T) × ((List T) × (Bool × ((List T) × ((List T) × (Bool × ((List T) × ((List T) × (Bool × ((List T) × ((List T) × (Bool × ((List T) × ((List T) × (Bool × ((List T) × ((List T) × (Bool × ((List T) × ((List T) × (Bool × ((List T) × ((List T) × (Bool × ((List T) × ((List T) × Unit))))))))))))))))))))))))))))))))))))) : Option (Bool × Unit) :=
  (ob (v_trim_on n (t.1, (t.2.1, (t.2.2.1, (t.2.2.2.1, (t.2.2.2.2.1, (t.2.2.2.2.2.1, (t.2.2.2.2.2.2.1, (t.2.2.2.2.2.2.2.1, (t.2.2.2.2.2.2.2.2.1, (t.2.2.2.2.2.2.2.2.2.1, (t.2.2.2.2.2.2.2.2.2.2.1, (t.2.2.2.2.2.2.2.2.2.2.2.1, (t.2.2.2.2.2.2.2.2.2.2.2.2.1, (t.2.2.2.2.2.2.2.2.2.2.2.2.2.1, (t.2.2.2.2.2.2.2.2.2.2.2.2.2.2.1, (t.2.2.2.2.2.2.2.2.2.2.2.2.2.2.2.1, (t.2.2.2.2.2.2.2.2.2.2.2.2.2.2.2.2.1, (t.2.2.2.2.2.2.2.2.2.2.2.2.2.2.2.2.2.1, (t.2.2.2.2.2.2.2.2.2.2.2.2.2.2.2.2.2.2.1, (t.2.2.2.2.2.2.2.2.2.2.2.2.2.2.2.2.2.2.2.1, (t.2.2.2.2.2.2.2.2.2.2.2.2.2.2.2.2.2.2.2.2.1, (t.2.2.2.2.2.2.2.2.2.2.2.2.2.2.2.2.2.2.2.2.2.1, (t.2.2.2.2.2.2.2.2.2.2.2.2.2.2.2.2.2.2.2.2.2.2.1, (t.2.2.2.2.2.2.2.2.2.2.2.2.2.2.2.2.2.2.2.2.2.2.2.1, (t.2.2.2.2.2.2.2.2.2.2.2.2.2.2.2.2.2.2.2.2.2.2.2.2.1, (t.2.2.2.2.2.2.2.2.2.2.2.2.2.2.2.2.2.2.2.2.2.2.2.2.2.1, (t.2.2.2.2.2.2.2.2.2.2.2.2.2.2.2.2.2.2.2.2.2.2.2.2.2.2.1, ())))))))))))))))))))))))))))) fun x0 => (bif x0.1 then (some (Bool.true, ())) else (ob (v_trim_on n (t.1, (t.2.1, (t.2.2.1, (t.2.2.2.1, (t.2.2.2.2.1, (t.2.2.2.2.2.1, (t.2.2.2.2.2.2.1, (t.2.2.2.2.2.2.2.1, (t.2.2.2.2.2.2.2.2.1, (t.2.2.2.2.2.2.2.2.2.1, (t.2.2.2.2.2.2.2.2.2.2.1, (t.2.2.2.2.2.2.2.2.2.2.2.1, (t.2.2.2.2.2.2.2.2.2.2.2.2.1, (t.2.2.2.2.2.2.2.2.2.2.2.2.2.1, (t.2.2.2.2.2.2.2.2.2.2.2.2.2.2.1, (t.2.2.2.2.2.2.2.2.2.2.2.2.2.2.2.1, (t.2.2.2.2.2.2.2.2.2.2.2.2.2.2.2.2.1, (t.2.2.2.2.2.2.2.2.2.2.2.2.2.2.2.2.2.1, (t.2.2.2.2.2.2.2.2.2.2.2.2.2.2.2.2.2.2.2.2.2.2.2.2.2.2.2.1, (t.2.2.2.2.2.2.2.2.2.2.2.2.2.2.2.2.2.2.2.2.2.2.2.2.2.2.2.2.1, (t.2.2.2.2.2.2.2.2.2.2.2.2.2.2.2.2.2.2.2.2.2.2.2.2.2.2.2.2.2.1, (t.2.2.2.2.2.2.2.2.2.2.2.2.2.2.2.2.2.2.2.2.2.2.2.2.2.2.2.2.2.2.1, (t.2.2.2.2.2.2.2.2.2.2.2.2.2.2.2.2.2.2.2.2.2.2.2.2.2.2.2.2.2.2.2.1, (t.2.2.2.2.2.2.2.2.2.2.2.2.2.2.2.2.2.2.2.2.2.2.2.2.2.2.2.2.2.2.2.2.1, (t.2.2.2.2.2.2.2.2.2.2.2.2.2.2.2.2.2.2.2.2.2.2.2.2.2.2.2.2.2.2.2.2.2.1, (t.2.2.2.2.2.2.2.2.2.2.2.2.2.2.2.2.2.2.2.2.2.2.2.2.2.2.2.2.2.2.2.2.2.2.1, (t.2.2.2.2.2.2.2.2.2.2.2.2.2.2.2.2.2.2.2.2.2.2.2.2.2.2.2.2.2.2.2.2.2.2.2.1, ())))))))))))))))))))))))))))) fun x1 => (bif x1.1 then (some (Bool.true, ())) else (ob (v_trim_on n (t.2.2.2.2.2.2.2.2.2.2.2.2.2.2.2.2.2.2.1, (t.2.2.2.2.2.2.2.2.2.2.2.2.2.2.2.2.2.2.2.1, (t.2.2.2.2.2.2.2.2.2.2.2.2.2.2.2.2.2.2.2.2.1, (t.2.2.2.2.2.2.2.2.2.2.2.2.2.2.2.2.2.2.2.2.2.1, (t.2.2.2.2.2.2.2.2.2.2.2.2.2.2.2.2.2.2.2.2.2.2.1, (t.2.2.2.2.2.2.2.2.2.2.2.2.2.2.2.2.2.2.2.2.2.2.2.1, (t.2.2.2.2.2.2.2.2.2.2.2.2.2.2.2.2.2.2.2.2.2.2.2.2.1, (t.2.2.2.2.2.2.2.2.2.2.2.2.2.2.2.2.2.2.2.2.2.2.2.2.2.1, (t.2.2.2.2.2.2.2.2.2.2.2.2.2.2.2.2.2.2.2.2.2.2.2.2.2.2.1, (t.2.2.2.2.2.2.2.2.2.2.2.2.2.2.2.2.2.2.2.2.2.2.2.2.2.2.2.1, (t.2.2.2.2.2.2.2.2.2.2.2.2.2.2.2.2.2.2.2.2.2.2.2.2.2.2.2.2.1, (t.2.2.2.2.2.2.2.2.2.2.2.2.2.2.2.2.2.2.2.2.2.2.2.2.2.2.2.2.2.1, (t.2.2.2.2.2.2.2.2.2.2.2.2.2.2.2.2.2.2.2.2.2.2.2.2.2.2.2.2.2.2.1, (t.2.2.2.2.2.2.2.2.2.2.2.2.2.2.2.2.2.2.2.2.2.2.2.2.2.2.2.2.2.2.2.1, (t.2.2.2.2.2.2.2.2.2.2.2.2.2.2.2.2.2.2.2.2.2.2.2.2.2.2.2.2.2.2.2.2.1, (t.2.2.2.2.2.2.2.2.2.2.2.2.2.2.2.2.2.2.2.2.2.2.2.2.2.2.2.2.2.2.2.2.2.1, (t.2.2.2.2.2.2.2.2.2.2.2.2.2.2.2.2.2.2.2.2.2.2.2.2.2.2.2.2.2.2.2.2.2.2.1, (t.2.2.2.2.2.2.2.2.2.2.2.2.2.2.2.2.2.2.2.2.2.2.2.2.2.2.2.2.2.2.2.2.2.2.2.1, (t.1, (t.2.1, (t.2.2.1, (t.2.2.2.1, (t.2.2.2.2.1, (t.2.2.2.2.2.1, (t.2.2.2.2.2.2.1, (t.2.2.2.2.2.2.2.1, (t.2.2.2.2.2.2.2.2.1, ())))))))))))))))))))))))))))) fun x2 => (bif x2.1 then (some (Bool.true, ())) else (ob (v_trim_on n (t.2.2.2.2.2.2.2.2.2.2.2.2.2.2.2.2.2.2.1, (t.2.2.2.2.2.2.2.2.2.2.2.2.2.2.2.2.2.2.2.1, (t.2.2.2.2.2.2.2.2.2.2.2.2.2.2.2.2.2.2.2.2.1, (t.2.2.2.2.2.2.2.2.2.2.2.2.2.2.2.2.2.2.2.2.2.1, (t.2.2.2.2.2.2.2.2.2.2.2.2.2.2.2.2.2.2.2.2.2.2.1, (t.2.2.2.2.2.2.2.2.2.2.2.2.2.2.2.2.2.2.2.2.2.2.2.1, (t.2.2.2.2.2.2.2.2.2.2.2.2.2.2.2.2.2.2.2.2.2.2.2.2.1, (t.2.2.2.2.2.2.2.2.2.2.2.2.2.2.2.2.2.2.2.2.2.2.2.2.2.1, (t.2.2.2.2.2.2.2.2.2.2.2.2.2.2.2.2.2.2.2.2.2.2.2.2.2.2.1, (t.2.2.2.2.2.2.2.2.2.2.2.2.2.2.2.2.2.2.2.2.2.2.2.2.2.2.2.1, (t.2.2.2.2.2.2.2.2.2.2.2.2.2.2.2.2.2.2.2.2.2.2.2.2.2.2.2.2.1, (t.2.2.2.2.2.2.2.2.2.2.2.2.2.2.2.2.2.2.2.2.2.2.2.2.2.2.2.2.2.1, (t.2.2.2.2.2.2.2.2.2.2.2.2.2.2.2.2.2.2.2.2.2.2.2.2.2.2.2.2.2.2.1, (t.2.2.2.2.2.2.2.2.2.2.2.2.2.2.2.2.2.2.2.2.2.2.2.2.2.2.2.2.2.2.2.1, (t.2.2.2.2.2.2.2.2.2.2.2.2.2.2.2.2.2.2.2.2.2.2.2.2.2.2.2.2.2.2.2.2.1, (t.2.2.2.2.2.2.2.2.2.2.2.2.2.2.2.2.2.2.2.2.2.2.2.2.2.2.2.2.2.2.2.2.2.1, (t.2.2.2.2.2.2.2.2.2.2.2.2.2.2.2.2.2.2.2.2.2.2.2.2.2.2.2.2.2.2.2.2.2.2.1, (t.2.2.2.2.2.2.2.2.2.2.2.2.2.2.2.2.2.2.2.2.2.2.2.2.2.2.2.2.2.2.2.2.2.2.2.1, (t.2.2.2.2.2.2.2.2.2.1, (t.2.2.2.2.2.2.2.2.2.2.1, (t.2.2.2.2.2.2.2.2.2.2.2.1, (t.2.2.2.2.2.2.2.2.2.2.2.2.1, (t.2.2.2.2.2.2.2.2.2.2.2.2.2.1, (t.2.2.2.2.2.2.2.2.2.2.2.2.2.2.1, (t.2.2.2.2.2.2.2.2.2.2.2.2.2.2.2.1, (t.2.2.2.2.2.2.2.2.2.2.2.2.2.2.2.2.1, (t.2.2.2.2.2.2.2.2.2.2.2.2.2.2.2.2.2.1, ())))))))))))))))))))))))))))) fun x3 => (bif x3.1 then (some (Bool.true, ())) else (ob (v_vector_Orient2 n (t.1, (t.2.1, (t.2.2.1, (t.2.2.2.1, (t.2.2.2.2.1, (t.2.2.2.2.2.1, (t.2.2.2.2.2.2.1, (t.2.2.2.2.2.2.2.1, (t.2.2.2.2.2.2.2.2.1, (t.2.2.2.2.2.2.2.2.2.1, (t.2.2.2.2.2.2.2.2.2.2.1, (t.2.2.2.2.2.2.2.2.2.2.2.1, (t.2.2.2.2.2.2.2.2.2.2.2.2.1, (t.2.2.2.2.2.2.2.2.2.2.2.2.2.1, (t.2.2.2.2.2.2.2.2.2.2.2.2.2.2.1, (t.2.2.2.2.2.2.2.2.2.2.2.2.2.2.2.1, (t.2.2.2.2.2.2.2.2.2.2.2.2.2.2.2.2.1, (t.2.2.2.2.2.2.2.2.2.2.2.2.2.2.2.2.2.1, (t.2.2.2.2.2.2.2.2.2.2.2.2.2.2.2.2.2.2.1, (t.2.2.2.2.2.2.2.2.2.2.2.2.2.2.2.2.2.2.2.1, (t.2.2.2.2.2.2.2.2.2.2.2.2.2.2.2.2.2.2.2.2.1, (t.2.2.2.2.2.2.2.2.2.2.2.2.2.2.2.2.2.2.2.2.2.1, (t.2.2.2.2.2.2.2.2.2.2.2.2.2.2.2.2.2.2.2.2.2.2.1, (t.2.2.2.2.2.2.2.2.2.2.2.2.2.2.2.2.2.2.2.2.2.2.2.1, (t.2.2.2.2.2.2.2.2.2.2.2.2.2.2.2.2.2.2.2.2.2.2.2.2.1, (t.2.2.2.2.2.2.2.2.2.2.2.2.2.2.2.2.2.2.2.2.2.2.2.2.2.1, (t.2.2.2.2.2.2.2.2.2.2.2.2.2.2.2.2.2.2.2.2.2.2.2.2.2.2.1, ())))))))))))))))))))))))))))) fun x4 => (ob (v_vector_Orient2 n (t.1, (t.2.1, (t.2.2.1, (t.2.2.2.1, (t.2.2.2.2.1, (t.2.2.2.2.2.1, (t.2.2.2.2.2.2.1, (t.2.2.2.2.2.2.2.1, (t.2.2.2.2.2.2.2.2.1, (t.2.2.2.2.2.2.2.2.2.1, (t.2.2.2.2.2.2.2.2.2.2.1, (t.2.2.2.2.2.2.2.2.2.2.2.1, (t.2.2.2.2.2.2.2.2.2.2.2.2.1, (t.2.2.2.2.2.2.2.2.2.2.2.2.2.1, (t.2.2.2.2.2.2.2.2.2.2.2.2.2.2.1, (t.2.2.2.2.2.2.2.2.2.2.2.2.2.2.2.1, (t.2.2.2.2.2.2.2.2.2.2.2.2.2.2.2.2.1, (t.2.2.2.2.2.2.2.2.2.2.2.2.2.2.2.2.2.1, (t.2.2.2.2.2.2.2.2.2.2.2.2.2.2.2.2.2.2.2.2.2.2.2.2.2.2.2.1, (t.2.2.2.2.2.2.2.2.2.2.2.2.2.2.2.2.2.2.2.2.2.2.2.2.2.2.2.2.1, (t.2.2.2.2.2.2.2.2.2.2.2.2.2.2.2.2.2.2.2.2.2.2.2.2.2.2.2.2.2.1, (t.2.2.2.2.2.2.2.2.2.2.2.2.2.2.2.2.2.2.2.2.2.2.2.2.2.2.2.2.2.2.1, (t.2.2.2.2.2.2.2.2.2.2.2.2.2.2.2.2.2.2.2.2.2.2.2.2.2.2.2.2.2.2.2.1, (t.2.2.2.2.2.2.2.2.2.2.2.2.2.2.2.2.2.2.2.2.2.2.2.2.2.2.2.2.2.2.2.2.1, (t.2.2.2.2.2.2.2.2.2.2.2.2.2.2.2.2.2.2.2.2.2.2.2.2.2.2.2.2.2.2.2.2.2.1, (t.2.2.2.2.2.2.2.2.2.2.2.2.2.2.2.2.2.2.2.2.2.2.2.2.2.2.2.2.2.2.2.2.2.2.1, (t.2.2.2.2.2.2.2.2.2.2.2.2.2.2.2.2.2.2.2.2.2.2.2.2.2.2.2.2.2.2.2.2.2.2.2.1, ())))))))))))))))))))))))))))) fun x5 => (bif (ltI (wr IntKind.i64 (mulI x4.1 x5.1)) (0 : Int)) then (ob (v_vector_Orient2 n (t.2.2.2.2.2.2.2.2.2.2.2.2.2.2.2.2.2.2.1, (t.2.2.2.2.2.2.2.2.2.2.2.2.2.2.2.2.2.2.2.1, (t.2.2.2.2.2.2.2.2.2.2.2.2.2.2.2.2.2.2.2.2.1, (t.2.2.2.2.2.2.2.2.2.2.2.2.2.2.2.2.2.2.2.2.2.1, (t.2.2.2.2.2.2.2.2.2.2.2.2.2.2.2.2.2.2.2.2.2.2.1, (t.2.2.2.2.2.2.2.2.2.2.2.2.2.2.2.2.2.2.2.2.2.2.2.1, (t.2.2.2.2.2.2.2.2.2.2.2.2.2.2.2.2.2.2.2.2.2.2.2.2.1, (t.2.2.2.2.2.2.2.2.2.2.2.2.2.2.2.2.2.2.2.2.2.2.2.2.2.1, (t.2.2.2.2.2.2.2.2.2.2.2.2.2.2.2.2.2.2.2.2.2.2.2.2.2.2.1, (t.2.2.2.2.2.2.2.2.2.2.2.2.2.2.2.2.2.2.2.2.2.2.2.2.2.2.2.1, (t.2.2.2.2.2.2.2.2.2.2.2.2.2.2.2.2.2.2.2.2.2.2.2.2.2.2.2.2.1, (t.2.2.2.2.2.2.2.2.2.2.2.2.2.2.2.2.2.2.2.2.2.2.2.2.2.2.2.2.2.1, (t.2.2.2.2.2.2.2.2.2.2.2.2.2.2.2.2.2.2.2.2.2.2.2.2.2.2.2.2.2.2.1, (t.2.2.2.2.2.2.2.2.2.2.2.2.2.2.2.2.2.2.2.2.2.2.2.2.2.2.2.2.2.2.2.1, (t.2.2.2.2.2.2.2.2.2.2.2.2.2.2.2.2.2.2.2.2.2.2.2.2.2.2.2.2.2.2.2.2.1, (t.2.2.2.2.2.2.2.2.2.2.2.2.2.2.2.2.2.2.2.2.2.2.2.2.2.2.2.2.2.2.2.2.2.1, (t.2.2.2.2.2.2.2.2.2.2.2.2.2.2.2.2.2.2.2.2.2.2.2.2.2.2.2.2.2.2.2.2.2.2.1, (t.2.2.2.2.2.2.2.2.2.2.2.2.2.2.2.2.2.2.2.2.2.2.2.2.2.2.2.2.2.2.2.2.2.2.2.1, (t.1, (t.2.1, (t.2.2.1, (t.2.2.2.1, (t.2.2.2.2.1, (t.2.2.2.2.2.1, (t.2.2.2.2.2.2.1, (t.2.2.2.2.2.2.2.1, (t.2.2.2.2.2.2.2.2.1, ())))))))))))))))))))))))))))) fun x6 => (ob (v_vector_Orient2 n (t.2.2.2.2.2.2.2.2.2.2.2.2.2.2.2.2.2.2.1, (t.2.2.2.2.2.2.2.2.2.2.2.2.2.2.2.2.2.2.2.1, (t.2.2.2.2.2.2.2.2.2.2.2.2.2.2.2.2.2.2.2.2.1, (t.2.2.2.2.2.2.2.2.2.2.2.2.2.2.2.2.2.2.2.2.2.1, (t.2.2.2.2.2.2.2.2.2.2.2.2.2.2.2.2.2.2.2.2.2.2.1, (t.2.2.2.2.2.2.2.2.2.2.2.2.2.2.2.2.2.2.2.2.2.2.2.1, (t.2.2.2.2.2.2.2.2.2.2.2.2.2.2.2.2.2.2.2.2.2.2.2.2.1, (t.2.2.2.2.2.2.2.2.2.2.2.2.2.2.2.2.2.2.2.2.2.2.2.2.2.1, (t.2.2.2.2.2.2.2.2.2.2.2.2.2.2.2.2.2.2.2.2.2.2.2.2.2.2.1, (t.2.2.2.2.2.2.2.2.2.2.2.2.2.2.2.2.2.2.2.2.2.2.2.2.2.2.2.1, (t.2.2.2.2.2.2.2.2.2.2.2.2.2.2.2.2.2.2.2.2.2.2.2.2.2.2.2.2.1, (t.2.2.2.2.2.2.2.2.2.2.2.2.2.2.2.2.2.2.2.2.2.2.2.2.2.2.2.2.2.1, (t.2.2.2.2.2.2.2.2.2.2.2.2.2.2.2.2.2.2.2.2.2.2.2.2.2.2.2.2.2.2.1, (t.2.2.2.2.2.2.2.2.2.2.2.2.2.2.2.2.2.2.2.2.2.2.2.2.2.2.2.2.2.2.2.1, (t.2.2.2.2.2.2.2.2.2.2.2.2.2.2.2.2.2.2.2.2.2.2.2.2.2.2.2.2.2.2.2.2.1, (t.2.2.2.2.2.2.2.2.2.2.2.2.2.2.2.2.2.2.2.2.2.2.2.2.2.2.2.2.2.2.2.2.2.1, (t.2.2.2.2.2.2.2.2.2.2.2.2.2.2.2.2.2.2.2.2.2.2.2.2.2.2.2.2.2.2.2.2.2.2.1, (t.2.2.2.2.2.2.2.2.2.2.2.2.2.2.2.2.2.2.2.2.2.2.2.2.2.2.2.2.2.2.2.2.2.2.2.1, (t.2.2.2.2.2.2.2.2.2.1, (t.2.2.2.2.2.2.2.2.2.2.1, (t.2.2.2.2.2.2.2.2.2.2.2.1, (t.2.2.2.2.2.2.2.2.2.2.2.2.1, (t.2.2.2.2.2.2.2.2.2.2.2.2.2.1, (t.2.2.2.2.2.2.2.2.2.2.2.2.2.2.1, (t.2.2.2.2.2.2.2.2.2.2.2.2.2.2.2.1, (t.2.2.2.2.2.2.2.2.2.2.2.2.2.2.2.2.1, (t.2.2.2.2.2.2.2.2.2.2.2.2.2.2.2.2.2.1, ())))))))))))))))))))))))))))) fun x7 => (some ((ltI (wr IntKind.i64 (mulI x6.1 x7.1)) (0 : Int)), ())))) else (some (Bool.false, ())))))))))))))
theorem le_trim_meet (n : Nat) (t : (Bool × ((List T) × ((List T) × (Bool × ((List T) × ((List T) × (Bool × ((List T) × ((List T) × (Bool × ((List T) × ((List T) × (Bool × ((List T) × ((List T) × (Bool × ((List T) × ((List T) × (Bool × ((List T) × ((List T) × (Bool × ((List T) × ((List T) × (Bool × ((List T) × ((List T) × (Bool × ((List T) × ((List T) × (Bool × ((List T) × ((List T) × (Bool × ((List T) × ((List T) × Unit))))))))))))))))))))))))))))))))))))) : Le (v_trim_meet n t) (u_trim_meet t) := by
  unfold v_trim_meet u_trim_meet
  repeat' first
    | with_reducible refine le_cond ?_ ?_
    | with_reducible refine le_onS (fun _ => ?_) fun _ => ?_
    | with_reducible refine le_ob ?_ fun _ => ?_
    | with_reducible refine le_both ?_ ?_
    | with_reducible exact le_rfl
    | with_reducible exact le_trim_on n _
    | with_reducible exact le_vector_Orient2 n _
noncomputable def v_trim_folded (n : Nat) (t : (Bool × ((List T) × ((List T) × (Bool × ((List T) × ((List T) × (Bool × ((List T) × ((List T) × (Bool × ((List T) × ((List T) × (Bool × ((List T) × ((List T) × (Bool × ((List T) × ((List T) × (Bool × ((List T) × ((List T) × (Bool × ((List T) × ((List T) × (Bool × ((List T) × ((List T) × Unit)))))))))))))))))))))))))))) : Option (Bool × Unit) :=
  (ob (v_vector_Sub n (t.1, (t.2.1, (t.2.2.1, (t.2.2.2.1, (t.2.2.2.2.1, (t.2.2.2.2.2.1, (t.2.2.2.2.2.2.1, (t.2.2.2.2.2.2.2.1, (t.2.2.2.2.2.2.2.2.1, (t.2.2.2.2.2.2.2.2.2.1, (t.2.2.2.2.2.2.2.2.2.2.1, (t.2.2.2.2.2.2.2.2.2.2.2.1, (t.2.2.2.2.2.2.2.2.2.2.2.2.1, (t.2.2.2.2.2.2.2.2.2.2.2.2.2.1, (t.2.2.2.2.2.2.2.2.2.2.2.2.2.2.1, (t.2.2.2.2.2.2.2.2.2.2.2.2.2.2.2.1, (t.2.2.2.2.2.2.2.2.2.2.2.2.2.2.2.2.1, (t.2.2.2.2.2.2.2.2.2.2.2.2.2.2.2.2.2.1, ()))))))))))))))))))) fun x0 => (ob (v_vector_Sub n (t.2.2.2.2.2.2.2.2.2.2.2.2.2.2.2.2.2.2.1, (t.2.2.2.2.2.2.2.2.2.2.2.2.2.2.2.2.2.2.2.1, (t.2.2.2.2.2.2.2.2.2.2.2.2.2.2.2.2.2.2.2.2.1, (t.2.2.2.2.2.2.2.2.2.2.2.2.2.2.2.2.2.2.2.2.2.1, (t.2.2.2.2.2.2.2.2.2.2.2.2.2.2.2.2.2.2.2.2.2.2.1, (t.2.2.2.2.2.2.2.2.2.2.2.2.2.2.2.2.2.2.2.2.2.2.2.1, (t.2.2.2.2.2.2.2.2.2.2.2.2.2.2.2.2.2.2.2.2.2.2.2.2.1, (t.2.2.2.2.2.2.2.2.2.2.2.2.2.2.2.2.2.2.2.2.2.2.2.2.2.1, (t.2.2.2.2.2.2.2.2.2.2.2.2.2.2.2.2.2.2.2.2.2.2.2.2.2.2.1, (t.2.2.2.2.2.2.2.2.2.1, (t.2.2.2.2.2.2.2.2.2.2.1, (t.2.2.2.2.2.2.2.2.2.2.2.1, (t.2.2.2.2.2.2.2.2.2.2.2.2.1, (t.2.2.2.2.2.2.2.2.2.2.2.2.2.1, (t.2.2.2.2.2.2.2.2.2.2.2.2.2.2.1, (t.2.2.2.2.2.2.2.2.2.2.2.2.2.2.2.1, (t.2.2.2.2.2.2.2.2.2.2.2.2.2.2.2.2.1, (t.2.2.2.2.2.2.2.2.2.2.2.2.2.2.2.2.2.1, ()))))))))))))))))))) fun x1 => (ob (v_rational_Mul n (x0.1, (x0.2.1, (x0.2.2.1, (x1.1, (x1.2.1, (x1.2.2.1, ()))))))) fun x2 => (ob (v_rational_Mul n (x0.2.2.2.1, (x0.2.2.2.2.1, (x0.2.2.2.2.2.1, (x1.2.2.2.1, (x1.2.2.2.2.1, (x1.2.2.2.2.2.1, ()))))))) fun x3 => (ob (v_rational_Add n (x2.1, (x2.2.1, (x2.2.2.1, (x3.1, (x3.2.1, (x3.2.2.1, ()))))))) fun x4 => (ob (v_vector_Orient2 n (t.1, (t.2.1, (t.2.2.1, (t.2.2.2.1, (t.2.2.2.2.1, (t.2.2.2.2.2.1, (t.2.2.2.2.2.2.1, (t.2.2.2.2.2.2.2.1, (t.2.2.2.2.2.2.2.2.1, (t.2.2.2.2.2.2.2.2.2.1, (t.2.2.2.2.2.2.2.2.2.2.1, (t.2.2.2.2.2.2.2.2.2.2.2.1, (t.2.2.2.2.2.2.2.2.2.2.2.2.1, (t.2.2.2.2.2.2.2.2.2.2.2.2.2.1, (t.2.2.2.2.2.2.2.2.2.2.2.2.2.2.1, (t.2.2.2.2.2.2.2.2.2.2.2.2.2.2.2.1, (t.2.2.2.2.2.2.2.2.2.2.2.2.2.2.2.2.1, (t.2.2.2.2.2.2.2.2.2.2.2.2.2.2.2.2.2.1, (t.2.2.2.2.2.2.2.2.2.2.2.2.2.2.2.2.2.2.1, (t.2.2.2.2.2.2.2.2.2.2.2.2.2.2.2.2.2.2.2.1, (t.2.2.2.2.2.2.2.2.2.2.2.2.2.2.2.2.2.2.2.2.1, (t.2.2.2.2.2.2.2.2.2.2.2.2.2.2.2.2.2.2.2.2.2.1, (t.2.2.2.2.2.2.2.2.2.2.2.2.2.2.2.2.2.2.2.2.2.2.1, (t.2.2.2.2.2.2.2.2.2.2.2.2.2.2.2.2.2.2.2.2.2.2.2.1, (t.2.2.2.2.2.2.2.2.2.2.2.2.2.2.2.2.2.2.2.2.2.2.2.2.1, (t.2.2.2.2.2.2.2.2.2.2.2.2.2.2.2.2.2.2.2.2.2.2.2.2.2.1, (t.2.2.2.2.2.2.2.2.2.2.2.2.2.2.2.2.2.2.2.2.2.2.2.2.2.2.1, ())))))))))))))))))))))))))))) fun x5 => (bif (eqI x5.1 (0 : Int)) then (ob (v_rational_Sign n (x4.1, (x4.2.1, (x4.2.2.1, ())))) fun x6 => (some ((ltI (0 : Int) x6.1), ()))) else (some (Bool.false, ())))))))))
theorem le_trim_folded (n : Nat) (t : (Bool × ((List T) × ((List T) × (Bool × ((List T) × ((List T) × (Bool × ((List T) × ((List T) × (Bool × ((List T) × ((List T) × (Bool × ((List T) × ((List T) × (Bool × ((List T) × ((List T) × (Bool × ((List T) × ((List T) × (Bool × ((List T) × ((List T) × (Bool × ((List T) × ((List T) × Unit)))))))))))))))))))))))))))) : Le (v_trim_folded n t) (u_trim_folded t) := by
  unfold v_trim_folded u_trim_folded
  repeat' first
    | with_reducible refine le_cond ?_ ?_
    | with_reducible refine le_onS (fun _ => ?_) fun _ => ?_
    | with_reducible refine le_ob ?_ fun _ => ?_
    | with_reducible refine le_both ?_ ?_
    | with_reducible exact le_rfl
    | with_reducible exact le_vector_Sub n _
    | with_reducible exact le_rational_Mul n _
    | with_reducible exact le_rational_Add n _
    | with_reducible exact le_vector_Orient2 n _
    | with_reducible exact le_rational_Sign n _
noncomputable def v_trim_simple_l1 (n : Nat) (s7 : (List T × Int × Unit × Unit × Int × Int × Int × Bool × List T × List T × Bool × List T × List T × Bool × List T × List T × Bool × List T × List T × Bool × List T × List T × Bool × List T × List T × Unit)) : Option ((List T × Int × Unit × Unit × Int × Int × Int × Bool × List T × List T × Bool × List T × List T × Bool × List T × List T × Bool × List T × List T × Bool × List T × List T × Bool × List T × List T × Unit) ⊕ ((Bool × Unit) ⊕ ((List T × Int × Int × Unit) ⊕ Empty))) :=
  (bif (ltI s7.2.2.2.2.1 (lenL s7.1)) then (bif (ltI (0 : Int) s7.2.1) then (ob (v_trim_edge n (s7.1, (s7.2.2.2.2.1, ()))) fun x8 => (ob (v_trim_meet n (s7.2.2.2.2.2.2.2.1, (s7.2.2.2.2.2.2.2.2.1, (s7.2.2.2.2.2.2.2.2.2.1, (s7.2.2.2.2.2.2.2.2.2.2.1, (s7.2.2.2.2.2.2.2.2.2.2.2.1, (s7.2.2.2.2.2.2.2.2.2.2.2.2.1, (s7.2.2.2.2.2.2.2.2.2.2.2.2.2.1, (s7.2.2.2.2.2.2.2.2.2.2.2.2.2.2.1, (s7.2.2.2.2.2.2.2.2.2.2.2.2.2.2.2.1, (s7.2.2.2.2.2.2.2.2.2.2.2.2.2.2.2.2.1, (s7.2.2.2.2.2.2.2.2.2.2.2.2.2.2.2.2.2.1, (s7.2.2.2.2.2.2.2.2.2.2.2.2.2.2.2.2.2.2.1, (s7.2.2.2.2.2.2.2.2.2.2.2.2.2.2.2.2.2.2.2.1, (s7.2.2.2.2.2.2.2.2.2.2.2.2.2.2.2.2.2.2.2.2.1, (s7.2.2.2.2.2.2.2.2.2.2.2.2.2.2.2.2.2.2.2.2.2.1, (s7.2.2.2.2.2.2.2.2.2.2.2.2.2.2.2.2.2.2.2.2.2.2.1, (s7.2.2.2.2.2.2.2.2.2.2.2.2.2.2.2.2.2.2.2.2.2.2.2.1, (s7.2.2.2.2.2.2.2.2.2.2.2.2.2.2.2.2.2.2.2.2.2.2.2.2.1, (x8.1, (x8.2.1, (x8.2.2.1, (x8.2.2.2.1, (x8.2.2.2.2.1, (x8.2.2.2.2.2.1, (x8.2.2.2.2.2.2.1, (x8.2.2.2.2.2.2.2.1, (x8.2.2.2.2.2.2.2.2.1, (x8.2.2.2.2.2.2.2.2.2.1, (x8.2.2.2.2.2.2.2.2.2.2.1, (x8.2.2.2.2.2.2.2.2.2.2.2.1, (x8.2.2.2.2.2.2.2.2.2.2.2.2.1, (x8.2.2.2.2.2.2.2.2.2.2.2.2.2.1, (x8.2.2.2.2.2.2.2.2.2.2.2.2.2.2.1, (x8.2.2.2.2.2.2.2.2.2.2.2.2.2.2.2.1, (x8.2.2.2.2.2.2.2.2.2.2.2.2.2.2.2.2.1, (x8.2.2.2.2.2.2.2.2.2.2.2.2.2.2.2.2.2.1, ()))))))))))))))))))))))))))))))))))))) fun x9 => (bif x9.1 then (some (Sum.inr (Sum.inl (Bool.false, ())))) else (some (Sum.inl (s7.1, (s7.2.1, ((), ((), ((wr IntKind.i64 (addI s7.2.2.2.2.1 (1 : Int))), (s7.2.2.2.2.2.1, (s7.2.2.2.2.2.2.1, (s7.2.2.2.2.2.2.2.1, (s7.2.2.2.2.2.2.2.2.1, (s7.2.2.2.2.2.2.2.2.2.1, (s7.2.2.2.2.2.2.2.2.2.2.1, (s7.2.2.2.2.2.2.2.2.2.2.2.1, (s7.2.2.2.2.2.2.2.2.2.2.2.2.1, (s7.2.2.2.2.2.2.2.2.2.2.2.2.2.1, (s7.2.2.2.2.2.2.2.2.2.2.2.2.2.2.1, (s7.2.2.2.2.2.2.2.2.2.2.2.2.2.2.2.1, (s7.2.2.2.2.2.2.2.2.2.2.2.2.2.2.2.2.1, (s7.2.2.2.2.2.2.2.2.2.2.2.2.2.2.2.2.2.1, (s7.2.2.2.2.2.2.2.2.2.2.2.2.2.2.2.2.2.2.1, (s7.2.2.2.2.2.2.2.2.2.2.2.2.2.2.2.2.2.2.2.1, (s7.2.2.2.2.2.2.2.2.2.2.2.2.2.2.2.2.2.2.2.2.1, (s7.2.2.2.2.2.2.2.2.2.2.2.2.2.2.2.2.2.2.2.2.2.1, (s7.2.2.2.2.2.2.2.2.2.2.2.2.2.2.2.2.2.2.2.2.2.2.1, (s7.2.2.2.2.2.2.2.2.2.2.2.2.2.2.2.2.2.2.2.2.2.2.2.1, (s7.2.2.2.2.2.2.2.2.2.2.2.2.2.2.2.2.2.2.2.2.2.2.2.2.1, ())))))))))))))))))))))))))))))) else (bif (ltI s7.2.2.2.2.1 (wr IntKind.i64 (subI (lenL s7.1) (1 : Int)))) then (ob (v_trim_edge n (s7.1, (s7.2.2.2.2.1, ()))) fun x10 => (ob (v_trim_meet n (s7.2.2.2.2.2.2.2.1, (s7.2.2.2.2.2.2.2.2.1, (s7.2.2.2.2.2.2.2.2.2.1, (s7.2.2.2.2.2.2.2.2.2.2.1, (s7.2.2.2.2.2.2.2.2.2.2.2.1, (s7.2.2.2.2.2.2.2.2.2.2.2.2.1, (s7.2.2.2.2.2.2.2.2.2.2.2.2.2.1, (s7.2.2.2.2.2.2.2.2.2.2.2.2.2.2.1, (s7.2.2.2.2.2.2.2.2.2.2.2.2.2.2.2.1, (s7.2.2.2.2.2.2.2.2.2.2.2.2.2.2.2.2.1, (s7.2.2.2.2.2.2.2.2.2.2.2.2.2.2.2.2.2.1, (s7.2.2.2.2.2.2.2.2.2.2.2.2.2.2.2.2.2.2.1, (s7.2.2.2.2.2.2.2.2.2.2.2.2.2.2.2.2.2.2.2.1, (s7.2.2.2.2.2.2.2.2.2.2.2.2.2.2.2.2.2.2.2.2.1, (s7.2.2.2.2.2.2.2.2.2.2.2.2.2.2.2.2.2.2.2.2.2.1, (s7.2.2.2.2.2.2.2.2.2.2.2.2.2.2.2.2.2.2.2.2.2.2.1, (s7.2.2.2.2.2.2.2.2.2.2.2.2.2.2.2.2.2.2.2.2.2.2.2.1, (s7.2.2.2.2.2.2.2.2.2.2.2.2.2.2.2.2.2.2.2.2.2.2.2.2.1, (x10.1, (x10.2.1, (x10.2.2.1, (x10.2.2.2.1, (x10.2.2.2.2.1, (x10.2.2.2.2.2.1, (x10.2.2.2.2.2.2.1, (x10.2.2.2.2.2.2.2.1, (x10.2.2.2.2.2.2.2.2.1, (x10.2.2.2.2.2.2.2.2.2.1, (x10.2.2.2.2.2.2.2.2.2.2.1, (x10.2.2.2.2.2.2.2.2.2.2.2.1, (x10.2.2.2.2.2.2.2.2.2.2.2.2.1, (x10.2.2.2.2.2.2.2.2.2.2.2.2.2.1, (x10.2.2.2.2.2.2.2.2.2.2.2.2.2.2.1, (x10.2.2.2.2.2.2.2.2.2.2.2.2.2.2.2.1, (x10.2.2.2.2.2.2.2.2.2.2.2.2.2.2.2.2.1, (x10.2.2.2.2.2.2.2.2.2.2.2.2.2.2.2.2.2.1, ()))))))))))))))))))))))))))))))))))))) fun x11 => (bif x11.1 then (some (Sum.inr (Sum.inl (Bool.false, ())))) else (some (Sum.inl (s7.1, (s7.2.1, ((), ((), ((wr IntKind.i64 (addI s7.2.2.2.2.1 (1 : Int))), (s7.2.2.2.2.2.1, (s7.2.2.2.2.2.2.1, (s7.2.2.2.2.2.2.2.1, (s7.2.2.2.2.2.2.2.2.1, (s7.2.2.2.2.2.2.2.2.2.1, (s7.2.2.2.2.2.2.2.2.2.2.1, (s7.2.2.2.2.2.2.2.2.2.2.2.1, (s7.2.2.2.2.2.2.2.2.2.2.2.2.1, (s7.2.2.2.2.2.2.2.2.2.2.2.2.2.1, (s7.2.2.2.2.2.2.2.2.2.2.2.2.2.2.1, (s7.2.2.2.2.2.2.2.2.2.2.2.2.2.2.2.1, (s7.2.2.2.2.2.2.2.2.2.2.2.2.2.2.2.2.1, (s7.2.2.2.2.2.2.2.2.2.2.2.2.2.2.2.2.2.1, (s7.2.2.2.2.2.2.2.2.2.2.2.2.2.2.2.2.2.2.1, (s7.2.2.2.2.2.2.2.2.2.2.2.2.2.2.2.2.2.2.2.1, (s7.2.2.2.2.2.2.2.2.2.2.2.2.2.2.2.2.2.2.2.2.1, (s7.2.2.2.2.2.2.2.2.2.2.2.2.2.2.2.2.2.2.2.2.2.1, (s7.2.2.2.2.2.2.2.2.2.2.2.2.2.2.2.2.2.2.2.2.2.2.1, (s7.2.2.2.2.2.2.2.2.2.2.2.2.2.2.2.2.2.2.2.2.2.2.2.1, (s7.2.2.2.2.2.2.2.2.2.2.2.2.2.2.2.2.2.2.2.2.2.2.2.2.1, ())))))))))))))))))))))))))))))) else (some (Sum.inr (Sum.inr (Sum.inl (s7.1, (s7.2.2.2.2.2.1, (s7.2.2.2.2.2.2.1, ()))))))))) else (some (Sum.inr (Sum.inr (Sum.inl (s7.1, (s7.2.2.2.2.2.1, (s7.2.2.2.2.2.2.1, ()))))))))
theorem le_trim_simple_l1 (n : Nat) (s7 : (List T × Int × Unit × Unit × Int × Int × Int × Bool × List T × List T × Bool × List T × List T × Bool × List T × List T × Bool × List T × List T × Bool × List T × List T × Bool × List T × List T × Unit)) : Le (v_trim_simple_l1 n s7) (u_trim_simple_l1 s7) := by
  unfold v_trim_simple_l1 u_trim_simple_l1
  repeat' first
    | with_reducible refine le_cond ?_ ?_
    | with_reducible refine le_onS (fun _ => ?_) fun _ => ?_
    | with_reducible refine le_ob ?_ fun _ => ?_
    | with_reducible refine le_both ?_ ?_
    | with_reducible exact le_rfl
    | with_reducible exact le_trim_edge n _
    | with_reducible exact le_trim_meet n _
noncomputable def v_trim_simple_l0 (n : Nat) (s0 : (List T × Int × Int × Unit)) : Option ((List T × Int × Int × Unit) ⊕ ((Bool × Unit) ⊕ ((Unit) ⊕ Empty))) :=
  (bif (ltI s0.2.2.1 s0.2.1) then (ob (v_trim_edge n (s0.1, (s0.2.2.1, ()))) fun x1 => (ob (v_rational_Same n (x1.1, (x1.2.1, (x1.2.2.1, (x1.2.2.2.2.2.2.2.2.2.1, (x1.2.2.2.2.2.2.2.2.2.2.1, (x1.2.2.2.2.2.2.2.2.2.2.2.1, ()))))))) fun x2 => (bif x2.1 then (ob (v_rational_Same n (x1.2.2.2.1, (x1.2.2.2.2.1, (x1.2.2.2.2.2.1, (x1.2.2.2.2.2.2.2.2.2.2.2.2.1, (x1.2.2.2.2.2.2.2.2.2.2.2.2.2.1, (x1.2.2.2.2.2.2.2.2.2.2.2.2.2.2.1, ()))))))) fun x3 => (bif x3.1 then (some (Sum.inr (Sum.inl (Bool.false, ())))) else (ob (nz (lenL s0.1)) fun x4 => (ob (v_trim_edge n (s0.1, ((modI (wr IntKind.i64 (addI s0.2.2.1 (1 : Int))) x4), ()))) fun x5 => (ob (v_trim_folded n (x1.1, (x1.2.1, (x1.2.2.1, (x1.2.2.2.1, (x1.2.2.2.2.1, (x1.2.2.2.2.2.1, (x1.2.2.2.2.2.2.1, (x1.2.2.2.2.2.2.2.1, (x1.2.2.2.2.2.2.2.2.1, (x1.2.2.2.2.2.2.2.2.2.1, (x1.2.2.2.2.2.2.2.2.2.2.1, (x1.2.2.2.2.2.2.2.2.2.2.2.1, (x1.2.2.2.2.2.2.2.2.2.2.2.2.1, (x1.2.2.2.2.2.2.2.2.2.2.2.2.2.1, (x1.2.2.2.2.2.2.2.2.2.2.2.2.2.2.1, (x1.2.2.2.2.2.2.2.2.2.2.2.2.2.2.2.1, (x1.2.2.2.2.2.2.2.2.2.2.2.2.2.2.2.2.1, (x1.2.2.2.2.2.2.2.2.2.2.2.2.2.2.2.2.2.1, (x5.2.2.2.2.2.2.2.2.2.1, (x5.2.2.2.2.2.2.2.2.2.2.1, (x5.2.2.2.2.2.2.2.2.2.2.2.1, (x5.2.2.2.2.2.2.2.2.2.2.2.2.1, (x5.2.2.2.2.2.2.2.2.2.2.2.2.2.1, (x5.2.2.2.2.2.2.2.2.2.2.2.2.2.2.1, (x5.2.2.2.2.2.2.2.2.2.2.2.2.2.2.2.1, (x5.2.2.2.2.2.2.2.2.2.2.2.2.2.2.2.2.1, (x5.2.2.2.2.2.2.2.2.2.2.2.2.2.2.2.2.2.1, ())))))))))))))))))))))))))))) fun x6 => (bif x6.1 then (some (Sum.inr (Sum.inl (Bool.false, ())))) else (ob (iter (v_trim_simple_l1 n) n (s0.1, (s0.2.2.1, ((), ((), ((wr IntKind.i64 (addI s0.2.2.1 (2 : Int))), (s0.2.1, (s0.2.2.1, (x1.1, (x1.2.1, (x1.2.2.1, (x1.2.2.2.1, (x1.2.2.2.2.1, (x1.2.2.2.2.2.1, (x1.2.2.2.2.2.2.1, (x1.2.2.2.2.2.2.2.1, (x1.2.2.2.2.2.2.2.2.1, (x1.2.2.2.2.2.2.2.2.2.1, (x1.2.2.2.2.2.2.2.2.2.2.1, (x1.2.2.2.2.2.2.2.2.2.2.2.1, (x1.2.2.2.2.2.2.2.2.2.2.2.2.1, (x1.2.2.2.2.2.2.2.2.2.2.2.2.2.1, (x1.2.2.2.2.2.2.2.2.2.2.2.2.2.2.1, (x1.2.2.2.2.2.2.2.2.2.2.2.2.2.2.2.1, (x1.2.2.2.2.2.2.2.2.2.2.2.2.2.2.2.2.1, (x1.2.2.2.2.2.2.2.2.2.2.2.2.2.2.2.2.2.1, ())))))))))))))))))))))))))) fun q12 => onS q12 (fun t13 => (some (Sum.inr (Sum.inl (t13.1, ()))))) fun q14 => onS q14 (fun t15 => (some (Sum.inl (t15.1, (t15.2.1, ((wr IntKind.i64 (addI t15.2.2.1 (1 : Int))), ())))))) fun q16 => noS q16))))))) else (ob (nz (lenL s0.1)) fun x17 => (ob (v_trim_edge n (s0.1, ((modI (wr IntKind.i64 (addI s0.2.2.1 (1 : Int))) x17), ()))) fun x18 => (ob (v_trim_folded n (x1.1, (x1.2.1, (x1.2.2.1, (x1.2.2.2.1, (x1.2.2.2.2.1, (x1.2.2.2.2.2.1, (x1.2.2.2.2.2.2.1, (x1.2.2.2.2.2.2.2.1, (x1.2.2.2.2.2.2.2.2.1, (x1.2.2.2.2.2.2.2.2.2.1, (x1.2.2.2.2.2.2.2.2.2.2.1, (x1.2.2.2.2.2.2.2.2.2.2.2.1, (x1.2.2.2.2.2.2.2.2.2.2.2.2.1, (x1.2.2.2.2.2.2.2.2.2.2.2.2.2.1, (x1.2.2.2.2.2.2.2.2.2.2.2.2.2.2.1, (x1.2.2.2.2.2.2.2.2.2.2.2.2.2.2.2.1, (x1.2.2.2.2.2.2.2.2.2.2.2.2.2.2.2.2.1, (x1.2.2.2.2.2.2.2.2.2.2.2.2.2.2.2.2.2.1, (x18.2.2.2.2.2.2.2.2.2.1, (x18.2.2.2.2.2.2.2.2.2.2.1, (x18.2.2.2.2.2.2.2.2.2.2.2.1, (x18.2.2.2.2.2.2.2.2.2.2.2.2.1, (x18.2.2.2.2.2.2.2.2.2.2.2.2.2.1, (x18.2.2.2.2.2.2.2.2.2.2.2.2.2.2.1, (x18.2.2.2.2.2.2.2.2.2.2.2.2.2.2.2.1, (x18.2.2.2.2.2.2.2.2.2.2.2.2.2.2.2.2.1, (x18.2.2.2.2.2.2.2.2.2.2.2.2.2.2.2.2.2.1, ())))))))))))))))))))))))))))) fun x19 => (bif x19.1 then (some (Sum.inr (Sum.inl (Bool.false, ())))) else (ob (iter (v_trim_simple_l1 n) n (s0.1, (s0.2.2.1, ((), ((), ((wr IntKind.i64 (addI s0.2.2.1 (2 : Int))), (s0.2.1, (s0.2.2.1, (x1.1, (x1.2.1, (x1.2.2.1, (x1.2.2.2.1, (x1.2.2.2.2.1, (x1.2.2.2.2.2.1, (x1.2.2.2.2.2.2.1, (x1.2.2.2.2.2.2.2.1, (x1.2.2.2.2.2.2.2.2.1, (x1.2.2.2.2.2.2.2.2.2.1, (x1.2.2.2.2.2.2.2.2.2.2.1, (x1.2.2.2.2.2.2.2.2.2.2.2.1, (x1.2.2.2.2.2.2.2.2.2.2.2.2.1, (x1.2.2.2.2.2.2.2.2.2.2.2.2.2.1, (x1.2.2.2.2.2.2.2.2.2.2.2.2.2.2.1, (x1.2.2.2.2.2.2.2.2.2.2.2.2.2.2.2.1, (x1.2.2.2.2.2.2.2.2.2.2.2.2.2.2.2.2.1, (x1.2.2.2.2.2.2.2.2.2.2.2.2.2.2.2.2.2.1, ())))))))))))))))))))))))))) fun q25 => onS q25 (fun t26 => (some (Sum.inr (Sum.inl (t26.1, ()))))) fun q27 => onS q27 (fun t28 => (some (Sum.inl (t28.1, (t28.2.1, ((wr IntKind.i64 (addI t28.2.2.1 (1 : Int))), ())))))) fun q29 => noS q29)))))))) else (some (Sum.inr (Sum.inr (Sum.inl ())))))
theorem le_trim_simple_l0 (n : Nat) (s0 : (List T × Int × Int × Unit)) : Le (v_trim_simple_l0 n s0) (u_trim_simple_l0 s0) := by
  unfold v_trim_simple_l0 u_trim_simple_l0
  repeat' first
    | with_reducible refine le_cond ?_ ?_
    | with_reducible refine le_onS (fun _ => ?_) fun _ => ?_
    | with_reducible refine le_ob ?_ fun _ => ?_
    | with_reducible refine le_both ?_ ?_
    | with_reducible exact le_rfl
    | with_reducible exact le_trim_edge n _
    | with_reducible exact le_rational_Same n _
    | with_reducible exact le_trim_folded n _
    | with_reducible exact le_loop (fun s => le_trim_simple_l1 n s) _ _
noncomputable def v_trim_simple (n : Nat) (t : ((List T) × Unit)) : Option (Bool × Unit) :=
  (bif (ltI (lenL t.1) (3 : Int)) then (some (Bool.false, ())) else (ob (iter (v_trim_simple_l0 n) n (t.1, ((lenL t.1), ((0 : Int), ())))) fun q30 => onS q30 (fun t31 => (some (t31.1, ()))) fun q32 => onS q32 (fun t33 => (some (Bool.true, ()))) fun q34 => noS q34))
theorem le_trim_simple (n : Nat) (t : ((List T) × Unit)) : Le (v_trim_simple n t) (u_trim_simple t) := by
  unfold v_trim_simple u_trim_simple
  repeat' first
    | with_reducible refine le_cond ?_ ?_
    | with_reducible refine le_onS (fun _ => ?_) fun _ => ?_
    | with_reducible refine le_ob ?_ fun _ => ?_
    | with_reducible refine le_both ?_ ?_
    | with_reducible exact le_rfl
    | with_reducible exact le_loop (fun s => le_trim_simple_l0 n s) _ _
noncomputable def v_trim_apart_l1 (n : Nat) (s1 : (List T × List T × Int × Int × Int × Int × Int × Unit)) : Option ((List T × List T × Int × Int × Int × Int × Int × Unit) ⊕ ((Bool × Unit) ⊕ ((List T × List T × Int × Int × Unit) ⊕ Empty))) :=
  (bif (ltI s1.2.2.2.2.2.2.1 s1.2.2.2.2.2.1) then (ob (v_trim_edge n (s1.1, (s1.2.2.1, ()))) fun x2 => (ob (v_trim_edge n (s1.2.1, (s1.2.2.2.2.2.2.1, ()))) fun x3 => (ob (v_trim_meet n (x2.1, (x2.2.1, (x2.2.2.1, (x2.2.2.2.1, (x2.2.2.2.2.1, (x2.2.2.2.2.2.1, (x2.2.2.2.2.2.2.1, (x2.2.2.2.2.2.2.2.1, (x2.2.2.2.2.2.2.2.2.1, (x2.2.2.2.2.2.2.2.2.2.1, (x2.2.2.2.2.2.2.2.2.2.2.1, (x2.2.2.2.2.2.2.2.2.2.2.2.1, (x2.2.2.2.2.2.2.2.2.2.2.2.2.1, (x2.2.2.2.2.2.2.2.2.2.2.2.2.2.1, (x2.2.2.2.2.2.2.2.2.2.2.2.2.2.2.1, (x2.2.2.2.2.2.2.2.2.2.2.2.2.2.2.2.1, (x2.2.2.2.2.2.2.2.2.2.2.2.2.2.2.2.2.1, (x2.2.2.2.2.2.2.2.2.2.2.2.2.2.2.2.2.2.1, (x3.1, (x3.2.1, (x3.2.2.1, (x3.2.2.2.1, (x3.2.2.2.2.1, (x3.2.2.2.2.2.1, (x3.2.2.2.2.2.2.1, (x3.2.2.2.2.2.2.2.1, (x3.2.2.2.2.2.2.2.2.1, (x3.2.2.2.2.2.2.2.2.2.1, (x3.2.2.2.2.2.2.2.2.2.2.1, (x3.2.2.2.2.2.2.2.2.2.2.2.1, (x3.2.2.2.2.2.2.2.2.2.2.2.2.1, (x3.2.2.2.2.2.2.2.2.2.2.2.2.2.1, (x3.2.2.2.2.2.2.2.2.2.2.2.2.2.2.1, (x3.2.2.2.2.2.2.2.2.2.2.2.2.2.2.2.1, (x3.2.2.2.2.2.2.2.2.2.2.2.2.2.2.2.2.1, (x3.2.2.2.2.2.2.2.2.2.2.2.2.2.2.2.2.2.1, ()))))))))))))))))))))))))))))))))))))) fun x4 => (bif x4.1 then (some (Sum.inr (Sum.inl (Bool.false, ())))) else (some (Sum.inl (s1.1, (s1.2.1, (s1.2.2.1, (s1.2.2.2.1, (s1.2.2.2.2.1, (s1.2.2.2.2.2.1, ((wr IntKind.i64 (addI s1.2.2.2.2.2.2.1 (1 : Int))), ()))))))))))))) else (some (Sum.inr (Sum.inr (Sum.inl (s1.1, (s1.2.1, (s1.2.2.2.1, (s1.2.2.2.2.1, ())))))))))
theorem le_trim_apart_l1 (n : Nat) (s1 : (List T × List T × Int × Int × Int × Int × Int × Unit)) : Le (v_trim_apart_l1 n s1) (u_trim_apart_l1 s1) := by
  unfold v_trim_apart_l1 u_trim_apart_l1
  repeat' first
    | with_reducible refine le_cond ?_ ?_
    | with_reducible refine le_onS (fun _ => ?_) fun _ => ?_
    | with_reducible refine le_ob ?_ fun _ => ?_
    | with_reducible refine le_both ?_ ?_
    | with_reducible exact le_rfl
    | with_reducible exact le_trim_edge n _
    | with_reducible exact le_trim_meet n _
noncomputable def v_trim_apart_l0 (n : Nat) (s0 : (List T × List T × Int × Int × Unit)) : Option ((List T × List T × Int × Int × Unit) ⊕ ((Bool × Unit) ⊕ ((Unit) ⊕ Empty))) :=
  (bif (ltI s0.2.2.2.1 s0.2.2.1) then (ob (iter (v_trim_apart_l1 n) n (s0.1, (s0.2.1, (s0.2.2.2.1, (s0.2.2.1, (s0.2.2.2.1, ((lenL s0.2.1), ((0 : Int), ())))))))) fun q5 => onS q5 (fun t6 => (some (Sum.inr (Sum.inl (t6.1, ()))))) fun q7 => onS q7 (fun t8 => (some (Sum.inl (t8.1, (t8.2.1, (t8.2.2.1, ((wr IntKind.i64 (addI t8.2.2.2.1 (1 : Int))), ()))))))) fun q9 => noS q9) else (some (Sum.inr (Sum.inr (Sum.inl ())))))
theorem le_trim_apart_l0 (n : Nat) (s0 : (List T × List T × Int × Int × Unit)) : Le (v_trim_apart_l0 n s0) (u_trim_apart_l0 s0) := by
  unfold v_trim_apart_l0 u_trim_apart_l0
  repeat' first
    | with_reducible refine le_cond ?_ ?_
    | with_reducible refine le_onS (fun _ => ?_) fun _ => ?_
    | with_reducible refine le_ob ?_ fun _ => ?_
    | with_reducible refine le_both ?_ ?_
    | with_reducible exact le_rfl
    | with_reducible exact le_loop (fun s => le_trim_apart_l1 n s) _ _
noncomputable def v_trim_apart (n : Nat) (t : ((List T) × ((List T) × Unit))) : Option (Bool × Unit) :=
  (ob (iter (v_trim_apart_l0 n) n (t.1, (t.2.1, ((lenL t.1), ((0 : Int), ()))))) fun q10 => onS q10 (fun t11 => (some (t11.1, ()))) fun q12 => onS q12 (fun t13 => (some (Bool.true, ()))) fun q14 => noS q14)
theorem le_trim_apart (n : Nat) (t : ((List T) × ((List T) × Unit))) : Le (v_trim_apart n t) (u_trim_apart t) := by
  unfold v_trim_apart u_trim_apart
  repeat' first
    | with_reducible refine le_cond ?_ ?_
    | with_reducible refine le_onS (fun _ => ?_) fun _ => ?_
    | with_reducible refine le_ob ?_ fun _ => ?_
    | with_reducible refine le_both ?_ ?_
    | with_reducible exact le_rfl
    | with_reducible exact le_loop (fun s => le_trim_apart_l0 n s) _ _
noncomputable def v_trim_around_l0 (n : Nat) (s0 : (List T × Int × List T × List T × Int × Int × Unit)) : Option ((List T × Int × List T × List T × Int × Int × Unit) ⊕ ((List T × Unit) ⊕ Empty)) :=
  (bif (ltI s0.2.2.2.2.2.1 s0.2.2.2.2.1) then (ob (α := ((List T × Int × List T × List T × Int × Int × Unit) ⊕ Empty)) (ob (idxL s0.2.2.2.1 s0.2.2.2.2.2.1) fun x1 => (ob (idxL s0.1 s0.2.1) fun x2 => (ob (T.rw? 9 (T.cell x2 0)) fun x3 => (ob (idxL x3 (0 : Int)) fun x4 => (ob (T.sl? 9 (T.cell x1 0)) fun x5 => (ob (T.bool? (T.cell x4 0)) fun x6 => (ob (T.sl? 1 (T.cell x4 1)) fun x7 => (ob (T.sl? 1 (T.cell x4 2)) fun x8 => (ob (T.bool? (T.cell x4 3)) fun x9 => (ob (T.sl? 1 (T.cell x4 4)) fun x10 => (ob (T.sl? 1 (T.cell x4 5)) fun x11 => (ob (T.bool? (T.cell x4 6)) fun x12 => (ob (T.sl? 1 (T.cell x4 7)) fun x13 => (ob (T.sl? 1 (T.cell x4 8)) fun x14 => (ob (v_trim_Winding n (x5, (x6, (x7, (x8, (x9, (x10, (x11, (x12, (x13, (x14, ()))))))))))) fun x15 => (bif (Bool.not (eqI s0.2.2.2.2.2.1 s0.2.1)) then (bif (Bool.not (eqI x15.1 (0 : Int))) then (ob (room s0.2.2.1 [(T.v (Value.int IntKind.i64 s0.2.2.2.2.2.1))] 8) fun x16 => (some (Sum.inl (s0.1, (s0.2.1, (x16, (s0.2.2.2.1, (s0.2.2.2.2.1, (s0.2.2.2.2.2.1, ()))))))))) else (some (Sum.inl (s0.1, (s0.2.1, (s0.2.2.1, (s0.2.2.2.1, (s0.2.2.2.2.1, (s0.2.2.2.2.2.1, ()))))))))) else (some (Sum.inl (s0.1, (s0.2.1, (s0.2.2.1, (s0.2.2.2.1, (s0.2.2.2.2.1, (s0.2.2.2.2.2.1, ())))))))))))))))))))))))) fun q17 => onS q17 (fun t18 => (some (Sum.inl (t18.1, (t18.2.1, (t18.2.2.1, (t18.2.2.2.1, (t18.2.2.2.2.1, ((wr IntKind.i64 (addI t18.2.2.2.2.2.1 (1 : Int))), ()))))))))) fun q19 => noS q19) else (some (Sum.inr (Sum.inl (s0.2.2.1, ())))))
theorem le_trim_around_l0 (n : Nat) (s0 : (List T × Int × List T × List T × Int × Int × Unit)) : Le (v_trim_around_l0 n s0) (u_trim_around_l0 s0) := by
  unfold v_trim_around_l0 u_trim_around_l0
  repeat' first
    | with_reducible refine le_cond ?_ ?_
    | with_reducible refine le_onS (fun _ => ?_) fun _ => ?_
    | with_reducible refine le_ob ?_ fun _ => ?_
    | with_reducible refine le_both ?_ ?_
    | with_reducible exact le_rfl
    | with_reducible exact le_trim_Winding n _
noncomputable def v_trim_around (n : Nat) (t : ((List T) × (Int × Unit))) : Option ((List T) × Unit) :=
  (ob (iter (v_trim_around_l0 n) n (t.1, (t.2.1, ([], (t.1, ((lenL t.1), ((0 : Int), ()))))))) fun q20 => onS q20 (fun t21 => (some (t21.1, ()))) fun q22 => noS q22)
theorem le_trim_around (n : Nat) (t : ((List T) × (Int × Unit))) : Le (v_trim_around n t) (u_trim_around t) := by
  unfold v_trim_around u_trim_around
  repeat' first
    | with_reducible refine le_cond ?_ ?_
    | with_reducible refine le_onS (fun _ => ?_) fun _ => ?_
    | with_reducible refine le_ob ?_ fun _ => ?_
    | with_reducible refine le_both ?_ ?_
    | with_reducible exact le_rfl
    | with_reducible exact le_loop (fun s => le_trim_around_l0 n s) _ _
noncomputable def v_trim_Check_1 (n : Nat) (t : (Bool × ((List T) × ((List T) × Unit)))) : Option (Bool × Unit) :=
  (ob (v_rational_Valid n (t.1, (t.2.1, (t.2.2.1, ())))) fun x0 => (some ((Bool.not x0.1), ())))
theorem le_trim_Check_1 (n : Nat) (t : (Bool × ((List T) × ((List T) × Unit)))) : Le (v_trim_Check_1 n t) (u_trim_Check_1 t) := by
  unfold v_trim_Check_1 u_trim_Check_1
  repeat' first
    | with_reducible refine le_cond ?_ ?_
    | with_reducible refine le_onS (fun _ => ?_) fun _ => ?_
    | with_reducible refine le_ob ?_ fun _ => ?_
    | with_reducible refine le_both ?_ ?_
    | with_reducible exact le_rfl
    | with_reducible exact le_rational_Valid n _
noncomputable def v_slices_IndexFunc___api_Rat_api_Rat__l0 (n : Nat) (s0 : (List T × Unit × Int × Int × Unit)) : Option ((List T × Unit × Int × Int × Unit) ⊕ ((Int × Unit) ⊕ ((Unit) ⊕ Empty))) :=
  (bif (ltI s0.2.2.2.1 s0.2.2.1) then (ob (idxL s0.1 s0.2.2.2.1) fun x1 => (ob (T.bool? (T.cell x1 0)) fun x2 => (ob (T.sl? 1 (T.cell x1 1)) fun x3 => (ob (T.sl? 1 (T.cell x1 2)) fun x4 => (ob (v_trim_Check_1 n (x2, (x3, (x4, ())))) fun x5 => (bif x5.1 then (some (Sum.inr (Sum.inl (s0.2.2.2.1, ())))) else (some (Sum.inl (s0.1, ((), (s0.2.2.1, ((wr IntKind.i64 (addI s0.2.2.2.1 (1 : Int))), ())))))))))))) else (some (Sum.inr (Sum.inr (Sum.inl ())))))
theorem le_slices_IndexFunc___api_Rat_api_Rat__l0 (n : Nat) (s0 : (List T × Unit × Int × Int × Unit)) : Le (v_slices_IndexFunc___api_Rat_api_Rat__l0 n s0) (u_slices_IndexFunc___api_Rat_api_Rat__l0 s0) := by
  unfold v_slices_IndexFunc___api_Rat_api_Rat__l0 u_slices_IndexFunc___api_Rat_api_Rat__l0
  repeat' first
    | with_reducible refine le_cond ?_ ?_
    | with_reducible refine le_onS (fun _ => ?_) fun _ => ?_
    | with_reducible refine le_ob ?_ fun _ => ?_
    | with_reducible refine le_both ?_ ?_
    | with_reducible exact le_rfl
    | with_reducible exact le_trim_Check_1 n _
noncomputable def v_slices_IndexFunc___api_Rat_api_Rat_ (n : Nat) (t : ((List T) × (Unit × Unit))) : Option (Int × Unit) :=
  (ob (iter (v_slices_IndexFunc___api_Rat_api_Rat__l0 n) n (t.1, ((), ((lenL t.1), ((0 : Int), ()))))) fun q6 => onS q6 (fun t7 => (some (t7.1, ()))) fun q8 => onS q8 (fun t9 => (some ((-1 : Int), ()))) fun q10 => noS q10)
theorem le_slices_IndexFunc___api_Rat_api_Rat_ (n : Nat) (t : ((List T) × (Unit × Unit))) : Le (v_slices_IndexFunc___api_Rat_api_Rat_ n t) (u_slices_IndexFunc___api_Rat_api_Rat_ t) := by
  unfold v_slices_IndexFunc___api_Rat_api_Rat_ u_slices_IndexFunc___api_Rat_api_Rat_
  repeat' first
    | with_reducible refine le_cond ?_ ?_
    | with_reducible refine le_onS (fun _ => ?_) fun _ => ?_
    | with_reducible refine le_ob ?_ fun _ => ?_
    | with_reducible refine le_both ?_ ?_
    | with_reducible exact le_rfl
    | with_reducible exact le_loop (fun s => le_slices_IndexFunc___api_Rat_api_Rat__l0 n s) _ _
noncomputable def v_slices_ContainsFunc___api_Rat_api_Rat_ (n : Nat) (t : ((List T) × (Unit × Unit))) : Option (Bool × Unit) :=
  (ob (v_slices_IndexFunc___api_Rat_api_Rat_ n (t.1, ((), ()))) fun x0 => (some ((leI (0 : Int) x0.1), ())))
theorem le_slices_ContainsFunc___api_Rat_api_Rat_ (n : Nat) (t : ((List T) × (Unit × Unit))) : Le (v_slices_ContainsFunc___api_Rat_api_Rat_ n t) (u_slices_ContainsFunc___api_Rat_api_Rat_ t) := by
  unfold v_slices_ContainsFunc___api_Rat_api_Rat_ u_slices_ContainsFunc___api_Rat_api_Rat_
  repeat' first
    | with_reducible refine le_cond ?_ ?_
    | with_reducible refine le_onS (fun _ => ?_) fun _ => ?_
    | with_reducible refine le_ob ?_ fun _ => ?_
    | with_reducible refine le_both ?_ ?_
    | with_reducible exact le_rfl
    | with_reducible exact le_slices_IndexFunc___api_Rat_api_Rat_ n _
noncomputable def v_trim_Check_2 (n : Nat) (t : ((List T) × Unit)) : Option (Bool × Unit) :=
  (some ((ltI (64 : Int) (lenL t.1)), ()))
theorem le_trim_Check_2 (n : Nat) (t : ((List T) × Unit)) : Le (v_trim_Check_2 n t) (u_trim_Check_2 t) := by
  unfold v_trim_Check_2 u_trim_Check_2
  repeat' first
    | with_reducible refine le_cond ?_ ?_
    | with_reducible refine le_onS (fun _ => ?_) fun _ => ?_
    | with_reducible refine le_ob ?_ fun _ => ?_
    | with_reducible refine le_both ?_ ?_
    | with_reducible exact le_rfl
noncomputable def v_slices_IndexFunc_____api_Point___api_Point__l0 (n : Nat) (s0 : (List T × Unit × Int × Int × Unit)) : Option ((List T × Unit × Int × Int × Unit) ⊕ ((Int × Unit) ⊕ ((Unit) ⊕ Empty))) :=
  (bif (ltI s0.2.2.2.1 s0.2.2.1) then (ob (idxL s0.1 s0.2.2.2.1) fun x1 => (ob (T.sl? 9 (T.cell x1 0)) fun x2 => (ob (v_trim_Check_2 n (x2, ())) fun x3 => (bif x3.1 then (some (Sum.inr (Sum.inl (s0.2.2.2.1, ())))) else (some (Sum.inl (s0.1, ((), (s0.2.2.1, ((wr IntKind.i64 (addI s0.2.2.2.1 (1 : Int))), ())))))))))) else (some (Sum.inr (Sum.inr (Sum.inl ())))))
theorem le_slices_IndexFunc_____api_Point___api_Point__l0 (n : Nat) (s0 : (List T × Unit × Int × Int × Unit)) : Le (v_slices_IndexFunc_____api_Point___api_Point__l0 n s0) (u_slices_IndexFunc_____api_Point___api_Point__l0 s0) := by
  unfold v_slices_IndexFunc_____api_Point___api_Point__l0 u_slices_IndexFunc_____api_Point___api_Point__l0
  repeat' first
    | with_reducible refine le_cond ?_ ?_
    | with_reducible refine le_onS (fun _ => ?_) fun _ => ?_
    | with_reducible refine le_ob ?_ fun _ => ?_
    | with_reducible refine le_both ?_ ?_
    | with_reducible exact le_rfl
    | with_reducible exact le_trim_Check_2 n _
noncomputable def v_slices_IndexFunc_____api_Point___api_Point_ (n : Nat) (t : ((List T) × (Unit × Unit))) : Option (Int × Unit) :=
  (ob (iter (v_slices_IndexFunc_____api_Point___api_Point__l0 n) n (t.1, ((), ((lenL t.1), ((0 : Int), ()))))) fun q4 => onS q4 (fun t5 => (some (t5.1, ()))) fun q6 => onS q6 (fun t7 => (some ((-1 : Int), ()))) fun q8 => noS q8)
theorem le_slices_IndexFunc_____api_Point___api_Point_ (n : Nat) (t : ((List T) × (Unit × Unit))) : Le (v_slices_IndexFunc_____api_Point___api_Point_ n t) (u_slices_IndexFunc_____api_Point___api_Point_ t) := by
  unfold v_slices_IndexFunc_____api_Point___api_Point_ u_slices_IndexFunc_____api_Point___api_Point_
  repeat' first
    | with_reducible refine le_cond ?_ ?_
    | with_reducible refine le_onS (fun _ => ?_) fun _ => ?_
    | with_reducible refine le_ob ?_ fun _ => ?_
    | with_reducible refine le_both ?_ ?_
    | with_reducible exact le_rfl
    | with_reducible exact le_loop (fun s => le_slices_IndexFunc_____api_Point___api_Point__l0 n s) _ _
noncomputable def v_slices_ContainsFunc_____api_Point___api_Point_ (n : Nat) (t : ((List T) × (Unit × Unit))) : Option (Bool × Unit) :=
  (ob (v_slices_IndexFunc_____api_Point___api_Point_ n (t.1, ((), ()))) fun x0 => (some ((leI (0 : Int) x0.1), ())))
theorem le_slices_ContainsFunc_____api_Point___api_Point_ (n : Nat) (t : ((List T) × (Unit × Unit))) : Le (v_slices_ContainsFunc_____api_Point___api_Point_ n t) (u_slices_ContainsFunc_____api_Point___api_Point_ t) := by
  unfold v_slices_ContainsFunc_____api_Point___api_Point_ u_slices_ContainsFunc_____api_Point___api_Point_
  repeat' first
    | with_reducible refine le_cond ?_ ?_
    | with_reducible refine le_onS (fun _ => ?_) fun _ => ?_
    | with_reducible refine le_ob ?_ fun _ => ?_
    | with_reducible refine le_both ?_ ?_
    | with_reducible exact le_rfl
    | with_reducible exact le_slices_IndexFunc_____api_Point___api_Point_ n _
noncomputable def v_trim_Check_l1 (n : Nat) (s3 : (List T × List T × Int × Int × T × Int × Int × Unit)) : Option ((List T × List T × Int × Int × T × Int × Int × Unit) ⊕ ((Int × Unit) ⊕ ((List T × List T × Int × Int × Unit) ⊕ Empty))) :=
  (bif (ltI s3.2.2.2.2.2.2.1 s3.2.2.2.2.2.1) then (ob (T.rw? 9 s3.2.2.2.2.1) fun x4 => (ob (idxL x4 s3.2.2.2.2.2.2.1) fun x5 => (ob (T.bool? (T.cell x5 0)) fun x6 => (ob (T.sl? 1 (T.cell x5 1)) fun x7 => (ob (T.sl? 1 (T.cell x5 2)) fun x8 => (ob (T.bool? (T.cell x5 3)) fun x9 => (ob (T.sl? 1 (T.cell x5 4)) fun x10 => (ob (T.sl? 1 (T.cell x5 5)) fun x11 => (ob (T.bool? (T.cell x5 6)) fun x12 => (ob (T.sl? 1 (T.cell x5 7)) fun x13 => (ob (T.sl? 1 (T.cell x5 8)) fun x14 => (ob (v_slices_ContainsFunc___api_Rat_api_Rat_ n ([(T.agg [(T.v (Value.bool x6)), (T.sl 1 x7), (T.sl 1 x8)]), (T.agg [(T.v (Value.bool x9)), (T.sl 1 x10), (T.sl 1 x11)]), (T.agg [(T.v (Value.bool x12)), (T.sl 1 x13), (T.sl 1 x14)])], ((), ()))) fun x15 => (bif x15.1 then (some (Sum.inr (Sum.inl ((1 : Int), ())))) else (ob (v_rational_Sign n (x12, (x13, (x14, ())))) fun x16 => (bif (Bool.not (eqI x16.1 (0 : Int))) then (some (Sum.inr (Sum.inl ((1 : Int), ())))) else (some (Sum.inl (s3.1, (s3.2.1, (s3.2.2.1, (s3.2.2.2.1, (s3.2.2.2.2.1, (s3.2.2.2.2.2.1, ((wr IntKind.i64 (addI s3.2.2.2.2.2.2.1 (1 : Int))), ())))))))))))))))))))))))) else (some (Sum.inr (Sum.inr (Sum.inl (s3.1, (s3.2.1, (s3.2.2.1, (s3.2.2.2.1, ())))))))))
theorem le_trim_Check_l1 (n : Nat) (s3 : (List T × List T × Int × Int × T × Int × Int × Unit)) : Le (v_trim_Check_l1 n s3) (u_trim_Check_l1 s3) := by
  unfold v_trim_Check_l1 u_trim_Check_l1
  repeat' first
    | with_reducible refine le_cond ?_ ?_
    | with_reducible refine le_onS (fun _ => ?_) fun _ => ?_
    | with_reducible refine le_ob ?_ fun _ => ?_
    | with_reducible refine le_both ?_ ?_
    | with_reducible exact le_rfl
    | with_reducible exact le_slices_ContainsFunc___api_Rat_api_Rat_ n _
    | with_reducible exact le_rational_Sign n _
noncomputable def v_trim_Check_l0 (n : Nat) (s0 : (List T × List T × Int × Int × Unit)) : Option ((List T × List T × Int × Int × Unit) ⊕ ((Int × Unit) ⊕ ((List T × Unit) ⊕ Empty))) :=
  (bif (ltI s0.2.2.2.1 s0.2.2.1) then (ob (idxL s0.2.1 s0.2.2.2.1) fun x1 => (ob (T.len? (T.cell x1 0)) fun x2 => (ob (iter (v_trim_Check_l1 n) n (s0.1, (s0.2.1, (s0.2.2.1, (s0.2.2.2.1, ((T.cell x1 0), (x2, ((0 : Int), ())))))))) fun q17 => onS q17 (fun t18 => (some (Sum.inr (Sum.inl (t18.1, ()))))) fun q19 => onS q19 (fun t20 => (some (Sum.inl (t20.1, (t20.2.1, (t20.2.2.1, ((wr IntKind.i64 (addI t20.2.2.2.1 (1 : Int))), ()))))))) fun q21 => noS q21))) else (some (Sum.inr (Sum.inr (Sum.inl (s0.1, ()))))))
theorem le_trim_Check_l0 (n : Nat) (s0 : (List T × List T × Int × Int × Unit)) : Le (v_trim_Check_l0 n s0) (u_trim_Check_l0 s0) := by
  unfold v_trim_Check_l0 u_trim_Check_l0
  repeat' first
    | with_reducible refine le_cond ?_ ?_
    | with_reducible refine le_onS (fun _ => ?_) fun _ => ?_
    | with_reducible refine le_ob ?_ fun _ => ?_
    | with_reducible refine le_both ?_ ?_
    | with_reducible exact le_rfl
    | with_reducible exact le_loop (fun s => le_trim_Check_l1 n s) _ _
noncomputable def v_trim_Check_l3 (n : Nat) (s32 : (List T × T × List T × Int × Int × List T × Int × Int × Unit)) : Option ((List T × T × List T × Int × Int × List T × Int × Int × Unit) ⊕ ((Int × Unit) ⊕ ((List T × List T × Int × Int × Unit) ⊕ Empty))) :=
  (bif (ltI s32.2.2.2.2.2.2.2.1 s32.2.2.2.2.2.2.1) then (ob (idxL s32.2.2.2.2.2.1 s32.2.2.2.2.2.2.2.1) fun x33 => (ob (T.sl? 9 s32.2.1) fun x34 => (ob (T.sl? 9 (T.cell x33 0)) fun x35 => (ob (v_trim_apart n (x34, (x35, ()))) fun x36 => (bif (Bool.not x36.1) then (some (Sum.inr (Sum.inl ((8 : Int), ())))) else (some (Sum.inl (s32.1, (s32.2.1, (s32.2.2.1, (s32.2.2.2.1, (s32.2.2.2.2.1, (s32.2.2.2.2.2.1, (s32.2.2.2.2.2.2.1, ((wr IntKind.i64 (addI s32.2.2.2.2.2.2.2.1 (1 : Int))), ()))))))))))))))) else (some (Sum.inr (Sum.inr (Sum.inl (s32.1, (s32.2.2.1, (s32.2.2.2.1, (s32.2.2.2.2.1, ())))))))))
theorem le_trim_Check_l3 (n : Nat) (s32 : (List T × T × List T × Int × Int × List T × Int × Int × Unit)) : Le (v_trim_Check_l3 n s32) (u_trim_Check_l3 s32) := by
  unfold v_trim_Check_l3 u_trim_Check_l3
  repeat' first
    | with_reducible refine le_cond ?_ ?_
    | with_reducible refine le_onS (fun _ => ?_) fun _ => ?_
    | with_reducible refine le_ob ?_ fun _ => ?_
    | with_reducible refine le_both ?_ ?_
    | with_reducible exact le_rfl
    | with_reducible exact le_trim_apart n _
noncomputable def v_trim_Check_l2 (n : Nat) (s27 : (List T × List T × Int × Int × Unit)) : Option ((List T × List T × Int × Int × Unit) ⊕ ((Int × Unit) ⊕ ((List T × Unit) ⊕ Empty))) :=
  (bif (ltI s27.2.2.2.1 s27.2.2.1) then (ob (idxL s27.2.1 s27.2.2.2.1) fun x28 => (ob (T.sl? 9 (T.cell x28 0)) fun x29 => (ob (v_trim_simple n (x29, ())) fun x30 => (bif (Bool.not x30.1) then (some (Sum.inr (Sum.inl ((8 : Int), ())))) else (ob (cutL s27.1 (0 : Int) s27.2.2.2.1) fun x31 => (ob (iter (v_trim_Check_l3 n) n (s27.1, ((T.cell x28 0), (s27.2.1, (s27.2.2.1, (s27.2.2.2.1, (x31, ((lenL x31), ((0 : Int), ()))))))))) fun q37 => onS q37 (fun t38 => (some (Sum.inr (Sum.inl (t38.1, ()))))) fun q39 => onS q39 (fun t40 => (some (Sum.inl (t40.1, (t40.2.1, (t40.2.2.1, ((wr IntKind.i64 (addI t40.2.2.2.1 (1 : Int))), ()))))))) fun q41 => noS q41)))))) else (some (Sum.inr (Sum.inr (Sum.inl (s27.1, ()))))))
theorem le_trim_Check_l2 (n : Nat) (s27 : (List T × List T × Int × Int × Unit)) : Le (v_trim_Check_l2 n s27) (u_trim_Check_l2 s27) := by
  unfold v_trim_Check_l2 u_trim_Check_l2
  repeat' first
    | with_reducible refine le_cond ?_ ?_
    | with_reducible refine le_onS (fun _ => ?_) fun _ => ?_
    | with_reducible refine le_ob ?_ fun _ => ?_
    | with_reducible refine le_both ?_ ?_
    | with_reducible exact le_rfl
    | with_reducible exact le_trim_simple n _
    | with_reducible exact le_loop (fun s => le_trim_Check_l3 n s) _ _
noncomputable def v_trim_Check_l5 (n : Nat) (s49 : (List T × T × Int × List T × Int × Int × List T × Int × Int × Unit)) : Option ((List T × T × Int × List T × Int × Int × List T × Int × Int × Unit) ⊕ ((List T × T × Int × List T × Int × Int × Unit) ⊕ Empty)) :=
  (bif (ltI s49.2.2.2.2.2.2.2.2.1 s49.2.2.2.2.2.2.2.1) then (ob (idxL s49.2.2.2.2.2.2.1 s49.2.2.2.2.2.2.2.2.1) fun x50 => (ob (T.anyInt? (T.cell x50 0)) fun x51 => (ob (idxL s49.1 x51) fun x52 => (ob (T.sl? 9 (T.cell x52 0)) fun x53 => (ob (v_trim_Area n (x53, ())) fun x54 => (ob (v_rational_Sign n (x54.1, (x54.2.1, (x54.2.2.1, ())))) fun x55 => (some (Sum.inl (s49.1, (s49.2.1, ((wr IntKind.i64 (addI s49.2.2.1 x55.1)), (s49.2.2.2.1, (s49.2.2.2.2.1, (s49.2.2.2.2.2.1, (s49.2.2.2.2.2.2.1, (s49.2.2.2.2.2.2.2.1, ((wr IntKind.i64 (addI s49.2.2.2.2.2.2.2.2.1 (1 : Int))), ()))))))))))))))))) else (some (Sum.inr (Sum.inl (s49.1, (s49.2.1, (s49.2.2.1, (s49.2.2.2.1, (s49.2.2.2.2.1, (s49.2.2.2.2.2.1, ()))))))))))
theorem le_trim_Check_l5 (n : Nat) (s49 : (List T × T × Int × List T × Int × Int × List T × Int × Int × Unit)) : Le (v_trim_Check_l5 n s49) (u_trim_Check_l5 s49) := by
  unfold v_trim_Check_l5 u_trim_Check_l5
  repeat' first
    | with_reducible refine le_cond ?_ ?_
    | with_reducible refine le_onS (fun _ => ?_) fun _ => ?_
    | with_reducible refine le_ob ?_ fun _ => ?_
    | with_reducible refine le_both ?_ ?_
    | with_reducible exact le_rfl
    | with_reducible exact le_trim_Area n _
    | with_reducible exact le_rational_Sign n _
noncomputable def v_trim_Check_l4 (n : Nat) (s46 : (List T × List T × Int × Int × Unit)) : Option ((List T × List T × Int × Int × Unit) ⊕ ((Int × Unit) ⊕ ((Unit) ⊕ Empty))) :=
  (bif (ltI s46.2.2.2.1 s46.2.2.1) then (ob (idxL s46.2.1 s46.2.2.2.1) fun x47 => (ob (v_trim_around n (s46.1, (s46.2.2.2.1, ()))) fun x48 => (ob (iter (v_trim_Check_l5 n) n (s46.1, ((T.cell x47 0), ((0 : Int), (s46.2.1, (s46.2.2.1, (s46.2.2.2.1, (x48.1, ((lenL x48.1), ((0 : Int), ())))))))))) fun q56 => onS q56 (fun t57 => (ob (T.sl? 9 t57.2.1) fun x58 => (ob (v_trim_Area n (x58, ())) fun x59 => (ob (v_rational_Sign n (x59.1, (x59.2.1, (x59.2.2.1, ())))) fun x60 => (bif (Bool.not (eqI (mmI Bool.false (wr IntKind.i64 (addI t57.2.2.1 x60.1)) t57.2.2.1) (0 : Int))) then (some (Sum.inr (Sum.inl ((8 : Int), ())))) else (bif (Bool.not (eqI (mmI Bool.true (wr IntKind.i64 (addI t57.2.2.1 x60.1)) t57.2.2.1) (1 : Int))) then (some (Sum.inr (Sum.inl ((8 : Int), ())))) else (some (Sum.inl (t57.1, (t57.2.2.2.1, (t57.2.2.2.2.1, ((wr IntKind.i64 (addI t57.2.2.2.2.2.1 (1 : Int))), ())))))))))))) fun q61 => noS q61))) else (some (Sum.inr (Sum.inr (Sum.inl ())))))
theorem le_trim_Check_l4 (n : Nat) (s46 : (List T × List T × Int × Int × Unit)) : Le (v_trim_Check_l4 n s46) (u_trim_Check_l4 s46) := by
  unfold v_trim_Check_l4 u_trim_Check_l4
  repeat' first
    | with_reducible refine le_cond ?_ ?_
    | with_reducible refine le_onS (fun _ => ?_) fun _ => ?_
    | with_reducible refine le_ob ?_ fun _ => ?_
    | with_reducible refine le_both ?_ ?_
    | with_reducible exact le_rfl
    | with_reducible exact le_trim_around n _
    | with_reducible exact le_trim_Area n _
    | with_reducible exact le_rational_Sign n _
    | with_reducible exact le_loop (fun s => le_trim_Check_l5 n s) _ _
noncomputable def v_trim_Check (n : Nat) (t : ((List T) × Unit)) : Option (Int × Unit) :=
  (bif (eqI (lenL t.1) (0 : Int)) then (some ((1 : Int), ())) else (ob (iter (v_trim_Check_l0 n) n (t.1, (t.1, ((lenL t.1), ((0 : Int), ()))))) fun q22 => onS q22 (fun t23 => (some (t23.1, ()))) fun q24 => onS q24 (fun t25 => (bif (ltI (16 : Int) (lenL t25.1)) then (some ((2 : Int), ())) else (ob (v_slices_ContainsFunc_____api_Point___api_Point_ n (t25.1, ((), ()))) fun x26 => (bif x26.1 then (some ((2 : Int), ())) else (ob (iter (v_trim_Check_l2 n) n (t25.1, (t25.1, ((lenL t25.1), ((0 : Int), ()))))) fun q42 => onS q42 (fun t43 => (some (t43.1, ()))) fun q44 => onS q44 (fun t45 => (ob (iter (v_trim_Check_l4 n) n (t45.1, (t45.1, ((lenL t45.1), ((0 : Int), ()))))) fun q62 => onS q62 (fun t63 => (some (t63.1, ()))) fun q64 => onS q64 (fun t65 => (some ((0 : Int), ()))) fun q66 => noS q66)) fun q67 => noS q67))))) fun q68 => noS q68))
theorem le_trim_Check (n : Nat) (t : ((List T) × Unit)) : Le (v_trim_Check n t) (u_trim_Check t) := by
  unfold v_trim_Check u_trim_Check
  repeat' first
    | with_reducible refine le_cond ?_ ?_
    | with_reducible refine le_onS (fun _ => ?_) fun _ => ?_
    | with_reducible refine le_ob ?_ fun _ => ?_
    | with_reducible refine le_both ?_ ?_
    | with_reducible exact le_rfl
    | with_reducible exact le_slices_ContainsFunc_____api_Point___api_Point_ n _
    | with_reducible exact le_loop (fun s => le_trim_Check_l0 n s) _ _
    | with_reducible exact le_loop (fun s => le_trim_Check_l2 n s) _ _
    | with_reducible exact le_loop (fun s => le_trim_Check_l4 n s) _ _
noncomputable def v_trim_Where_l0 (n : Nat) (s0 : (Unit × Int × List T × Int × Int × Bool × List T × List T × Bool × List T × List T × Bool × List T × List T × Unit)) : Option ((Unit × Int × List T × Int × Int × Bool × List T × List T × Bool × List T × List T × Bool × List T × List T × Unit) ⊕ ((Int × Unit) ⊕ ((Int × Unit) ⊕ Empty))) :=
  (bif (ltI s0.2.2.2.2.1 s0.2.2.2.1) then (ob (idxL s0.2.2.1 s0.2.2.2.2.1) fun x1 => (ob (T.sl? 9 (T.cell x1 0)) fun x2 => (ob (v_trim_Winding n (x2, (s0.2.2.2.2.2.1, (s0.2.2.2.2.2.2.1, (s0.2.2.2.2.2.2.2.1, (s0.2.2.2.2.2.2.2.2.1, (s0.2.2.2.2.2.2.2.2.2.1, (s0.2.2.2.2.2.2.2.2.2.2.1, (s0.2.2.2.2.2.2.2.2.2.2.2.1, (s0.2.2.2.2.2.2.2.2.2.2.2.2.1, (s0.2.2.2.2.2.2.2.2.2.2.2.2.2.1, ()))))))))))) fun x3 => (bif (Bool.not x3.2.1) then (some (Sum.inr (Sum.inl ((0 : Int), ())))) else (some (Sum.inl ((), ((wr IntKind.i64 (addI s0.2.1 x3.1)), (s0.2.2.1, (s0.2.2.2.1, ((wr IntKind.i64 (addI s0.2.2.2.2.1 (1 : Int))), (s0.2.2.2.2.2.1, (s0.2.2.2.2.2.2.1, (s0.2.2.2.2.2.2.2.1, (s0.2.2.2.2.2.2.2.2.1, (s0.2.2.2.2.2.2.2.2.2.1, (s0.2.2.2.2.2.2.2.2.2.2.1, (s0.2.2.2.2.2.2.2.2.2.2.2.1, (s0.2.2.2.2.2.2.2.2.2.2.2.2.1, (s0.2.2.2.2.2.2.2.2.2.2.2.2.2.1, ())))))))))))))))))))) else (some (Sum.inr (Sum.inr (Sum.inl (s0.2.1, ()))))))
theorem le_trim_Where_l0 (n : Nat) (s0 : (Unit × Int × List T × Int × Int × Bool × List T × List T × Bool × List T × List T × Bool × List T × List T × Unit)) : Le (v_trim_Where_l0 n s0) (u_trim_Where_l0 s0) := by
  unfold v_trim_Where_l0 u_trim_Where_l0
  repeat' first
    | with_reducible refine le_cond ?_ ?_
    | with_reducible refine le_onS (fun _ => ?_) fun _ => ?_
    | with_reducible refine le_ob ?_ fun _ => ?_
    | with_reducible refine le_both ?_ ?_
    | with_reducible exact le_rfl
    | with_reducible exact le_trim_Winding n _
noncomputable def v_trim_Where (n : Nat) (t : ((List T) × (Bool × ((List T) × ((List T) × (Bool × ((List T) × ((List T) × (Bool × ((List T) × ((List T) × Unit))))))))))) : Option (Int × Unit) :=
  (ob (iter (v_trim_Where_l0 n) n ((), ((0 : Int), (t.1, ((lenL t.1), ((0 : Int), (t.2.1, (t.2.2.1, (t.2.2.2.1, (t.2.2.2.2.1, (t.2.2.2.2.2.1, (t.2.2.2.2.2.2.1, (t.2.2.2.2.2.2.2.1, (t.2.2.2.2.2.2.2.2.1, (t.2.2.2.2.2.2.2.2.2.1, ()))))))))))))))) fun q4 => onS q4 (fun t5 => (some (t5.1, ()))) fun q6 => onS q6 (fun t7 => (bif (eqI t7.1 (1 : Int)) then (some ((1 : Int), ())) else (some ((-1 : Int), ())))) fun q8 => noS q8)
theorem le_trim_Where (n : Nat) (t : ((List T) × (Bool × ((List T) × ((List T) × (Bool × ((List T) × ((List T) × (Bool × ((List T) × ((List T) × Unit))))))))))) : Le (v_trim_Where n t) (u_trim_Where t) := by
  unfold v_trim_Where u_trim_Where
  repeat' first
    | with_reducible refine le_cond ?_ ?_
    | with_reducible refine le_onS (fun _ => ?_) fun _ => ?_
    | with_reducible refine le_ob ?_ fun _ => ?_
    | with_reducible refine le_both ?_ ?_
    | with_reducible exact le_rfl
    | with_reducible exact le_loop (fun s => le_trim_Where_l0 n s) _ _
noncomputable def v_brepkernellaw21_at (n : Nat) (t : (Int × (Int × Unit))) : Option (Bool × ((List T) × ((List T) × (Bool × ((List T) × ((List T) × (Bool × ((List T) × ((List T) × Unit))))))))) :=
  (ob (v_ref02_Int n (t.1, ())) fun x0 => (ob (v_ref02_Int n (t.2.1, ())) fun x1 => (some (x0.1, (x0.2.1, (x0.2.2.1, (x1.1, (x1.2.1, (x1.2.2.1, (Bool.false, ([], ([], ()))))))))))))
theorem le_brepkernellaw21_at (n : Nat) (t : (Int × (Int × Unit))) : Le (v_brepkernellaw21_at n t) (u_brepkernellaw21_at t) := by
  unfold v_brepkernellaw21_at u_brepkernellaw21_at
  repeat' first
    | with_reducible refine le_cond ?_ ?_
    | with_reducible refine le_onS (fun _ => ?_) fun _ => ?_
    | with_reducible refine le_ob ?_ fun _ => ?_
    | with_reducible refine le_both ?_ ?_
    | with_reducible exact le_rfl
    | with_reducible exact le_ref02_Int n _
noncomputable def v_brepkernellaw21_awake (n : Nat) (t : Unit) : Option (Bool × Unit) :=
  (ob (v_brepkernellaw21_at n ((0 : Int), ((0 : Int), ()))) fun x0 => (ob (v_brepkernellaw21_at n ((1 : Int), ((0 : Int), ()))) fun x1 => (ob (v_brepkernellaw21_at n ((1 : Int), ((1 : Int), ()))) fun x2 => (ob (v_brepkernellaw21_at n ((0 : Int), ((1 : Int), ()))) fun x3 => (ob (v_ref02_Frac n ((1 : Int), ((2 : Int), ()))) fun x4 => (ob (v_trim_Check n ([(T.sl 9 [(T.agg [(T.v (Value.bool x0.1)), (T.sl 1 x0.2.1), (T.sl 1 x0.2.2.1), (T.v (Value.bool x0.2.2.2.1)), (T.sl 1 x0.2.2.2.2.1), (T.sl 1 x0.2.2.2.2.2.1), (T.v (Value.bool x0.2.2.2.2.2.2.1)), (T.sl 1 x0.2.2.2.2.2.2.2.1), (T.sl 1 x0.2.2.2.2.2.2.2.2.1)]), (T.agg [(T.v (Value.bool x1.1)), (T.sl 1 x1.2.1), (T.sl 1 x1.2.2.1), (T.v (Value.bool x1.2.2.2.1)), (T.sl 1 x1.2.2.2.2.1), (T.sl 1 x1.2.2.2.2.2.1), (T.v (Value.bool x1.2.2.2.2.2.2.1)), (T.sl 1 x1.2.2.2.2.2.2.2.1), (T.sl 1 x1.2.2.2.2.2.2.2.2.1)]), (T.agg [(T.v (Value.bool x2.1)), (T.sl 1 x2.2.1), (T.sl 1 x2.2.2.1), (T.v (Value.bool x2.2.2.2.1)), (T.sl 1 x2.2.2.2.2.1), (T.sl 1 x2.2.2.2.2.2.1), (T.v (Value.bool x2.2.2.2.2.2.2.1)), (T.sl 1 x2.2.2.2.2.2.2.2.1), (T.sl 1 x2.2.2.2.2.2.2.2.2.1)]), (T.agg [(T.v (Value.bool x3.1)), (T.sl 1 x3.2.1), (T.sl 1 x3.2.2.1), (T.v (Value.bool x3.2.2.2.1)), (T.sl 1 x3.2.2.2.2.1), (T.sl 1 x3.2.2.2.2.2.1), (T.v (Value.bool x3.2.2.2.2.2.2.1)), (T.sl 1 x3.2.2.2.2.2.2.2.1), (T.sl 1 x3.2.2.2.2.2.2.2.2.1)])])], ())) fun x5 => (bif (eqI x5.1 (0 : Int)) then (ob (v_trim_Area n ([(T.agg [(T.v (Value.bool x0.1)), (T.sl 1 x0.2.1), (T.sl 1 x0.2.2.1), (T.v (Value.bool x0.2.2.2.1)), (T.sl 1 x0.2.2.2.2.1), (T.sl 1 x0.2.2.2.2.2.1), (T.v (Value.bool x0.2.2.2.2.2.2.1)), (T.sl 1 x0.2.2.2.2.2.2.2.1), (T.sl 1 x0.2.2.2.2.2.2.2.2.1)]), (T.agg [(T.v (Value.bool x1.1)), (T.sl 1 x1.2.1), (T.sl 1 x1.2.2.1), (T.v (Value.bool x1.2.2.2.1)), (T.sl 1 x1.2.2.2.2.1), (T.sl 1 x1.2.2.2.2.2.1), (T.v (Value.bool x1.2.2.2.2.2.2.1)), (T.sl 1 x1.2.2.2.2.2.2.2.1), (T.sl 1 x1.2.2.2.2.2.2.2.2.1)]), (T.agg [(T.v (Value.bool x2.1)), (T.sl 1 x2.2.1), (T.sl 1 x2.2.2.1), (T.v (Value.bool x2.2.2.2.1)), (T.sl 1 x2.2.2.2.2.1), (T.sl 1 x2.2.2.2.2.2.1), (T.v (Value.bool x2.2.2.2.2.2.2.1)), (T.sl 1 x2.2.2.2.2.2.2.2.1), (T.sl 1 x2.2.2.2.2.2.2.2.2.1)]), (T.agg [(T.v (Value.bool x3.1)), (T.sl 1 x3.2.1), (T.sl 1 x3.2.2.1), (T.v (Value.bool x3.2.2.2.1)), (T.sl 1 x3.2.2.2.2.1), (T.sl 1 x3.2.2.2.2.2.1), (T.v (Value.bool x3.2.2.2.2.2.2.1)), (T.sl 1 x3.2.2.2.2.2.2.2.1), (T.sl 1 x3.2.2.2.2.2.2.2.2.1)])], ())) fun x6 => (ob (v_ref02_Text n (x6.1, (x6.2.1, (x6.2.2.1, ())))) fun x7 => (bif (eqS x7.1 (ByteArray.mk #[50])) then (ob (v_trim_Where n ([(T.sl 9 [(T.agg [(T.v (Value.bool x0.1)), (T.sl 1 x0.2.1), (T.sl 1 x0.2.2.1), (T.v (Value.bool x0.2.2.2.1)), (T.sl 1 x0.2.2.2.2.1), (T.sl 1 x0.2.2.2.2.2.1), (T.v (Value.bool x0.2.2.2.2.2.2.1)), (T.sl 1 x0.2.2.2.2.2.2.2.1), (T.sl 1 x0.2.2.2.2.2.2.2.2.1)]), (T.agg [(T.v (Value.bool x1.1)), (T.sl 1 x1.2.1), (T.sl 1 x1.2.2.1), (T.v (Value.bool x1.2.2.2.1)), (T.sl 1 x1.2.2.2.2.1), (T.sl 1 x1.2.2.2.2.2.1), (T.v (Value.bool x1.2.2.2.2.2.2.1)), (T.sl 1 x1.2.2.2.2.2.2.2.1), (T.sl 1 x1.2.2.2.2.2.2.2.2.1)]), (T.agg [(T.v (Value.bool x2.1)), (T.sl 1 x2.2.1), (T.sl 1 x2.2.2.1), (T.v (Value.bool x2.2.2.2.1)), (T.sl 1 x2.2.2.2.2.1), (T.sl 1 x2.2.2.2.2.2.1), (T.v (Value.bool x2.2.2.2.2.2.2.1)), (T.sl 1 x2.2.2.2.2.2.2.2.1), (T.sl 1 x2.2.2.2.2.2.2.2.2.1)]), (T.agg [(T.v (Value.bool x3.1)), (T.sl 1 x3.2.1), (T.sl 1 x3.2.2.1), (T.v (Value.bool x3.2.2.2.1)), (T.sl 1 x3.2.2.2.2.1), (T.sl 1 x3.2.2.2.2.2.1), (T.v (Value.bool x3.2.2.2.2.2.2.1)), (T.sl 1 x3.2.2.2.2.2.2.2.1), (T.sl 1 x3.2.2.2.2.2.2.2.2.1)])])], (x4.1, (x4.2.1, (x4.2.2.1, (x4.1, (x4.2.1, (x4.2.2.1, (Bool.false, ([], ([], ()))))))))))) fun x8 => (bif (eqI x8.1 (1 : Int)) then (ob (v_ref02_Int n ((1 : Int), ())) fun x9 => (ob (v_trim_Where n ([(T.sl 9 [(T.agg [(T.v (Value.bool x0.1)), (T.sl 1 x0.2.1), (T.sl 1 x0.2.2.1), (T.v (Value.bool x0.2.2.2.1)), (T.sl 1 x0.2.2.2.2.1), (T.sl 1 x0.2.2.2.2.2.1), (T.v (Value.bool x0.2.2.2.2.2.2.1)), (T.sl 1 x0.2.2.2.2.2.2.2.1), (T.sl 1 x0.2.2.2.2.2.2.2.2.1)]), (T.agg [(T.v (Value.bool x1.1)), (T.sl 1 x1.2.1), (T.sl 1 x1.2.2.1), (T.v (Value.bool x1.2.2.2.1)), (T.sl 1 x1.2.2.2.2.1), (T.sl 1 x1.2.2.2.2.2.1), (T.v (Value.bool x1.2.2.2.2.2.2.1)), (T.sl 1 x1.2.2.2.2.2.2.2.1), (T.sl 1 x1.2.2.2.2.2.2.2.2.1)]), (T.agg [(T.v (Value.bool x2.1)), (T.sl 1 x2.2.1), (T.sl 1 x2.2.2.1), (T.v (Value.bool x2.2.2.2.1)), (T.sl 1 x2.2.2.2.2.1), (T.sl 1 x2.2.2.2.2.2.1), (T.v (Value.bool x2.2.2.2.2.2.2.1)), (T.sl 1 x2.2.2.2.2.2.2.2.1), (T.sl 1 x2.2.2.2.2.2.2.2.2.1)]), (T.agg [(T.v (Value.bool x3.1)), (T.sl 1 x3.2.1), (T.sl 1 x3.2.2.1), (T.v (Value.bool x3.2.2.2.1)), (T.sl 1 x3.2.2.2.2.1), (T.sl 1 x3.2.2.2.2.2.1), (T.v (Value.bool x3.2.2.2.2.2.2.1)), (T.sl 1 x3.2.2.2.2.2.2.2.1), (T.sl 1 x3.2.2.2.2.2.2.2.2.1)])])], (x9.1, (x9.2.1, (x9.2.2.1, (x4.1, (x4.2.1, (x4.2.2.1, (Bool.false, ([], ([], ()))))))))))) fun x10 => (bif (eqI x10.1 (0 : Int)) then (ob (v_brepkernellaw21_at n ((0 : Int), ((0 : Int), ()))) fun x11 => (ob (v_brepkernellaw21_at n ((0 : Int), ((1 : Int), ()))) fun x12 => (ob (v_brepkernellaw21_at n ((1 : Int), ((1 : Int), ()))) fun x13 => (ob (v_brepkernellaw21_at n ((1 : Int), ((0 : Int), ()))) fun x14 => (ob (v_trim_Check n ([(T.sl 9 [(T.agg [(T.v (Value.bool x11.1)), (T.sl 1 x11.2.1), (T.sl 1 x11.2.2.1), (T.v (Value.bool x11.2.2.2.1)), (T.sl 1 x11.2.2.2.2.1), (T.sl 1 x11.2.2.2.2.2.1), (T.v (Value.bool x11.2.2.2.2.2.2.1)), (T.sl 1 x11.2.2.2.2.2.2.2.1), (T.sl 1 x11.2.2.2.2.2.2.2.2.1)]), (T.agg [(T.v (Value.bool x12.1)), (T.sl 1 x12.2.1), (T.sl 1 x12.2.2.1), (T.v (Value.bool x12.2.2.2.1)), (T.sl 1 x12.2.2.2.2.1), (T.sl 1 x12.2.2.2.2.2.1), (T.v (Value.bool x12.2.2.2.2.2.2.1)), (T.sl 1 x12.2.2.2.2.2.2.2.1), (T.sl 1 x12.2.2.2.2.2.2.2.2.1)]), (T.agg [(T.v (Value.bool x13.1)), (T.sl 1 x13.2.1), (T.sl 1 x13.2.2.1), (T.v (Value.bool x13.2.2.2.1)), (T.sl 1 x13.2.2.2.2.1), (T.sl 1 x13.2.2.2.2.2.1), (T.v (Value.bool x13.2.2.2.2.2.2.1)), (T.sl 1 x13.2.2.2.2.2.2.2.1), (T.sl 1 x13.2.2.2.2.2.2.2.2.1)]), (T.agg [(T.v (Value.bool x14.1)), (T.sl 1 x14.2.1), (T.sl 1 x14.2.2.1), (T.v (Value.bool x14.2.2.2.1)), (T.sl 1 x14.2.2.2.2.1), (T.sl 1 x14.2.2.2.2.2.1), (T.v (Value.bool x14.2.2.2.2.2.2.1)), (T.sl 1 x14.2.2.2.2.2.2.2.1), (T.sl 1 x14.2.2.2.2.2.2.2.2.1)])])], ())) fun x15 => (some ((eqI x15.1 (8 : Int)), ()))))))) else (some (Bool.false, ()))))) else (some (Bool.false, ())))) else (some (Bool.false, ()))))) else (some (Bool.false, ())))))))))
theorem le_brepkernellaw21_awake (n : Nat) (t : Unit) : Le (v_brepkernellaw21_awake n t) (u_brepkernellaw21_awake t) := by
  unfold v_brepkernellaw21_awake u_brepkernellaw21_awake
  repeat' first
    | with_reducible refine le_cond ?_ ?_
    | with_reducible refine le_onS (fun _ => ?_) fun _ => ?_
    | with_reducible refine le_ob ?_ fun _ => ?_
    | with_reducible refine le_both ?_ ?_
    | with_reducible exact le_rfl
    | with_reducible exact le_brepkernellaw21_at n _
    | with_reducible exact le_ref02_Frac n _
    | with_reducible exact le_trim_Check n _
    | with_reducible exact le_trim_Area n _
    | with_reducible exact le_ref02_Text n _
    | with_reducible exact le_trim_Where n _
    | with_reducible exact le_ref02_Int n _
theorem v_awake : v_brepkernellaw21_awake 60 () = some (true, ()) := by kernel_rfl
theorem awake_true : u_brepkernellaw21_awake () = some (true, ()) := by
  have h := le_brepkernellaw21_awake 60 ()
  rw [v_awake] at h
  exact h _ rfl
end Go.Eng
