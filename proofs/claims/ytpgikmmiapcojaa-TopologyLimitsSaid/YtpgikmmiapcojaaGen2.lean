/- The functions of this seat as plain functions on tuples, each proved to be what its code comes to; no conditions, but that nothing is said where the plain function gives nothing. -/
import Derived.Test.YtpgikmmiapcojaaGen
import Derived.Test.YtpgikmmiapcojaaEng3
set_option linter.unusedSimpArgs false
set_option linter.unusedVariables false

/- Twins of functions: rounds of loops are counted, so that the kernel can compute them on closed arguments. -/
namespace Go.Eng
noncomputable def v_ref27_in (n : Nat) (t : (Int × (Int × Unit))) : Option (Bool × Unit) :=
  (bif (leI (0 : Int) t.1) then (some ((ltI t.1 t.2.1), ())) else (some (Bool.false, ())))
theorem le_ref27_in (n : Nat) (t : (Int × (Int × Unit))) : Le (v_ref27_in n t) (u_ref27_in t) := by
  unfold v_ref27_in u_ref27_in
  repeat' first
    | with_reducible refine le_cond ?_ ?_
    | with_reducible refine le_onS (fun _ => ?_) fun _ => ?_
    | with_reducible refine le_ob ?_ fun _ => ?_
    | with_reducible refine le_both ?_ ?_
    | with_reducible exact le_rfl
noncomputable def v_ref27_Mate (n : Nat) (t : (Int × Unit)) : Option (Int × Unit) :=
  (some ((bitI Go.BinOp.xor Go.IntKind.i64 t.1 (1 : Int)), ()))
theorem le_ref27_Mate (n : Nat) (t : (Int × Unit)) : Le (v_ref27_Mate n t) (u_ref27_Mate t) := by
  unfold v_ref27_Mate u_ref27_Mate
  repeat' first
    | with_reducible refine le_cond ?_ ?_
    | with_reducible refine le_onS (fun _ => ?_) fun _ => ?_
    | with_reducible refine le_ob ?_ fun _ => ?_
    | with_reducible refine le_both ?_ ?_
    | with_reducible exact le_rfl
noncomputable def v_ref27_Cycle_l0 (n : Nat) (s1 : (Int × Unit × List T × T × Int × Int × List T × List T × Unit)) : Option ((Int × Unit × List T × T × Int × Int × List T × List T × Unit) ⊕ ((List T × Unit) ⊕ Empty)) :=
  (ob (T.int? Go.IntKind.i64 s1.2.2.2.1) fun x2 => (bif (Bool.not (eqI x2 s1.1)) then (ob (T.int? Go.IntKind.i64 s1.2.2.2.1) fun x3 => (ob (room s1.2.2.1 [(T.v (Go.Value.int Go.IntKind.i64 x3))] 8) fun x4 => (ob (T.anyInt? s1.2.2.2.1) fun x5 => (ob (idxL s1.2.2.2.2.2.2.1 x5) fun x6 => (some (Sum.inl (s1.1, ((), (x4, ((T.cell x6 1), (s1.2.2.2.2.1, (s1.2.2.2.2.2.1, (s1.2.2.2.2.2.2.1, (s1.2.2.2.2.2.2.2.1, ())))))))))))))) else (some (Sum.inr (Sum.inl (s1.2.2.1, ()))))))
theorem le_ref27_Cycle_l0 (n : Nat) (s1 : (Int × Unit × List T × T × Int × Int × List T × List T × Unit)) : Le (v_ref27_Cycle_l0 n s1) (u_ref27_Cycle_l0 s1) := by
  unfold v_ref27_Cycle_l0 u_ref27_Cycle_l0
  repeat' first
    | with_reducible refine le_cond ?_ ?_
    | with_reducible refine le_onS (fun _ => ?_) fun _ => ?_
    | with_reducible refine le_ob ?_ fun _ => ?_
    | with_reducible refine le_both ?_ ?_
    | with_reducible exact le_rfl
noncomputable def v_ref27_Cycle (n : Nat) (t : (Int × (Int × ((List T) × ((List T) × (Int × Unit)))))) : Option ((List T) × Unit) :=
  (ob (idxL t.2.2.1 t.2.2.2.2.1) fun x0 => (ob (iter (v_ref27_Cycle_l0 n) n (t.2.2.2.2.1, ((), ([(T.v (Go.Value.int Go.IntKind.i64 t.2.2.2.2.1))], ((T.cell x0 1), (t.1, (t.2.1, (t.2.2.1, (t.2.2.2.1, ()))))))))) fun q7 => onS q7 (fun t8 => (some (t8.1, ()))) fun q9 => noS q9))
theorem le_ref27_Cycle (n : Nat) (t : (Int × (Int × ((List T) × ((List T) × (Int × Unit)))))) : Le (v_ref27_Cycle n t) (u_ref27_Cycle t) := by
  unfold v_ref27_Cycle u_ref27_Cycle
  repeat' first
    | with_reducible refine le_cond ?_ ?_
    | with_reducible refine le_onS (fun _ => ?_) fun _ => ?_
    | with_reducible refine le_ob ?_ fun _ => ?_
    | with_reducible refine le_both ?_ ?_
    | with_reducible exact le_rfl
    | with_reducible exact le_loop (fun s => le_ref27_Cycle_l0 n s) _ _
noncomputable def v_ref27_Cycle_r_l0 (n : Nat) (s2 : (Int × Unit × List T × T × Int × Int × List T × List T × Unit)) : Option ((Int × Unit × List T × T × Int × Int × List T × List T × Unit) ⊕ ((List T × Int × Int × List T × List T × Unit) ⊕ Empty)) :=
  (ob (T.int? Go.IntKind.i64 s2.2.2.2.1) fun x3 => (bif (Bool.not (eqI x3 s2.1)) then (ob (T.int? Go.IntKind.i64 s2.2.2.2.1) fun x4 => (ob (room s2.2.2.1 [(T.v (Go.Value.int Go.IntKind.i64 x4))] 8) fun x5 => (ob (T.anyInt? s2.2.2.2.1) fun x6 => (ob (chkI (lenL s2.2.2.2.2.2.2.1) x6) fun x7 => (ob (idxN s2.2.2.2.2.2.2.1 x7) fun x8 => (some (Sum.inl (s2.1, ((), (x5, ((T.cell x8 1), (s2.2.2.2.2.1, (s2.2.2.2.2.2.1, (s2.2.2.2.2.2.2.1, (s2.2.2.2.2.2.2.2.1, ()))))))))))))))) else (some (Sum.inr (Sum.inl (s2.2.2.1, (s2.2.2.2.2.1, (s2.2.2.2.2.2.1, (s2.2.2.2.2.2.2.1, (s2.2.2.2.2.2.2.2.1, ()))))))))))
theorem le_ref27_Cycle_r_l0 (n : Nat) (s2 : (Int × Unit × List T × T × Int × Int × List T × List T × Unit)) : Le (v_ref27_Cycle_r_l0 n s2) (u_ref27_Cycle_r_l0 s2) := by
  unfold v_ref27_Cycle_r_l0 u_ref27_Cycle_r_l0
  repeat' first
    | with_reducible refine le_cond ?_ ?_
    | with_reducible refine le_onS (fun _ => ?_) fun _ => ?_
    | with_reducible refine le_ob ?_ fun _ => ?_
    | with_reducible refine le_both ?_ ?_
    | with_reducible exact le_rfl
noncomputable def v_ref27_Cycle_r (n : Nat) (t : (Int × (Int × ((List T) × ((List T) × (Int × Unit)))))) : Option ((List T) × ((List T) × ((List T) × Unit))) :=
  (ob (chkI (lenL t.2.2.1) t.2.2.2.2.1) fun x0 => (ob (idxN t.2.2.1 x0) fun x1 => (ob (iter (v_ref27_Cycle_r_l0 n) n (t.2.2.2.2.1, ((), ([(T.v (Go.Value.int Go.IntKind.i64 t.2.2.2.2.1))], ((T.cell x1 1), (t.1, (t.2.1, (t.2.2.1, (t.2.2.2.1, ()))))))))) fun q9 => onS q9 (fun t10 => (some (t10.1, (t10.2.2.2.1, (t10.2.2.2.2.1, ()))))) fun q11 => noS q11)))
theorem le_ref27_Cycle_r (n : Nat) (t : (Int × (Int × ((List T) × ((List T) × (Int × Unit)))))) : Le (v_ref27_Cycle_r n t) (u_ref27_Cycle_r t) := by
  unfold v_ref27_Cycle_r u_ref27_Cycle_r
  repeat' first
    | with_reducible refine le_cond ?_ ?_
    | with_reducible refine le_onS (fun _ => ?_) fun _ => ?_
    | with_reducible refine le_ob ?_ fun _ => ?_
    | with_reducible refine le_both ?_ ?_
    | with_reducible exact le_rfl
    | with_reducible exact le_loop (fun s => le_ref27_Cycle_r_l0 n s) _ _
noncomputable def v_ref27_halves_l0 (n : Nat) (s0 : (Unit × Int × Int × Int × Int × List T × List T × Unit)) : Option ((Unit × Int × Int × Int × Int × List T × List T × Unit) ⊕ ((Bool × Unit) ⊕ ((Unit × Int × Int × Int × List T × List T × Unit) ⊕ Empty))) :=
  (bif (ltI s0.2.2.1 s0.2.1) then (ob (idxL s0.2.2.2.2.2.1 s0.2.2.1) fun x1 => (ob (T.int? Go.IntKind.i64 (T.cell x1 0)) fun x2 => (ob (v_ref27_in n (x2, (s0.2.2.2.1, ()))) fun x3 => (bif (Bool.not x3.1) then (some (Sum.inr (Sum.inl (Bool.false, ())))) else (ob (T.int? Go.IntKind.i64 (T.cell x1 1)) fun x4 => (ob (v_ref27_in n (x4, (s0.2.1, ()))) fun x5 => (bif (Bool.not x5.1) then (some (Sum.inr (Sum.inl (Bool.false, ())))) else (ob (T.int? Go.IntKind.i64 (T.cell x1 2)) fun x6 => (ob (v_ref27_in n (x6, (s0.2.1, ()))) fun x7 => (bif (Bool.not x7.1) then (some (Sum.inr (Sum.inl (Bool.false, ())))) else (ob (T.int? Go.IntKind.i64 (T.cell x1 3)) fun x8 => (ob (v_ref27_in n (x8, ((lenL s0.2.2.2.2.2.2.1), ()))) fun x9 => (bif (Bool.not x9.1) then (some (Sum.inr (Sum.inl (Bool.false, ())))) else (some (Sum.inl ((), (s0.2.1, ((wr Go.IntKind.i64 (addI s0.2.2.1 (1 : Int))), (s0.2.2.2.1, (s0.2.2.2.2.1, (s0.2.2.2.2.2.1, (s0.2.2.2.2.2.2.1, ())))))))))))))))))))))) else (some (Sum.inr (Sum.inr (Sum.inl ((), (s0.2.1, (s0.2.2.2.1, (s0.2.2.2.2.1, (s0.2.2.2.2.2.1, (s0.2.2.2.2.2.2.1, ())))))))))))
theorem le_ref27_halves_l0 (n : Nat) (s0 : (Unit × Int × Int × Int × Int × List T × List T × Unit)) : Le (v_ref27_halves_l0 n s0) (u_ref27_halves_l0 s0) := by
  unfold v_ref27_halves_l0 u_ref27_halves_l0
  repeat' first
    | with_reducible refine le_cond ?_ ?_
    | with_reducible refine le_onS (fun _ => ?_) fun _ => ?_
    | with_reducible refine le_ob ?_ fun _ => ?_
    | with_reducible refine le_both ?_ ?_
    | with_reducible exact le_rfl
    | with_reducible exact le_ref27_in n _
noncomputable def v_ref27_halves_l1 (n : Nat) (s14 : (Unit × Int × Int × Int × Int × List T × List T × Unit)) : Option ((Unit × Int × Int × Int × Int × List T × List T × Unit) ⊕ ((Bool × Unit) ⊕ ((Unit) ⊕ Empty))) :=
  (bif (ltI s14.2.2.1 s14.2.1) then (ob (idxL s14.2.2.2.2.2.1 s14.2.2.1) fun x15 => (ob (T.anyInt? (T.cell x15 1)) fun x16 => (ob (idxL s14.2.2.2.2.2.1 x16) fun x17 => (ob (T.int? Go.IntKind.i64 (T.cell x17 2)) fun x18 => (bif (Bool.not (eqI x18 s14.2.2.1)) then (some (Sum.inr (Sum.inl (Bool.false, ())))) else (ob (T.anyInt? (T.cell x15 2)) fun x19 => (ob (idxL s14.2.2.2.2.2.1 x19) fun x20 => (ob (T.int? Go.IntKind.i64 (T.cell x20 1)) fun x21 => (bif (Bool.not (eqI x21 s14.2.2.1)) then (some (Sum.inr (Sum.inl (Bool.false, ())))) else (ob (T.anyInt? (T.cell x15 1)) fun x22 => (ob (idxL s14.2.2.2.2.2.1 x22) fun x23 => (ob (T.int? Go.IntKind.i64 (T.cell x23 3)) fun x24 => (ob (T.int? Go.IntKind.i64 (T.cell x15 3)) fun x25 => (bif (Bool.not (eqI x24 x25)) then (some (Sum.inr (Sum.inl (Bool.false, ())))) else (ob (T.anyInt? (T.cell x15 1)) fun x26 => (ob (idxL s14.2.2.2.2.2.1 x26) fun x27 => (ob (v_ref27_Mate n (s14.2.2.1, ())) fun x28 => (ob (idxL s14.2.2.2.2.2.1 x28.1) fun x29 => (ob (T.int? Go.IntKind.i64 (T.cell x27 0)) fun x30 => (ob (T.int? Go.IntKind.i64 (T.cell x29 0)) fun x31 => (bif (Bool.not (eqI x30 x31)) then (some (Sum.inr (Sum.inl (Bool.false, ())))) else (some (Sum.inl ((), (s14.2.1, ((wr Go.IntKind.i64 (addI s14.2.2.1 (1 : Int))), (s14.2.2.2.1, (s14.2.2.2.2.1, (s14.2.2.2.2.2.1, (s14.2.2.2.2.2.2.1, ())))))))))))))))))))))))))))))) else (some (Sum.inr (Sum.inr (Sum.inl ())))))
theorem le_ref27_halves_l1 (n : Nat) (s14 : (Unit × Int × Int × Int × Int × List T × List T × Unit)) : Le (v_ref27_halves_l1 n s14) (u_ref27_halves_l1 s14) := by
  unfold v_ref27_halves_l1 u_ref27_halves_l1
  repeat' first
    | with_reducible refine le_cond ?_ ?_
    | with_reducible refine le_onS (fun _ => ?_) fun _ => ?_
    | with_reducible refine le_ob ?_ fun _ => ?_
    | with_reducible refine le_both ?_ ?_
    | with_reducible exact le_rfl
    | with_reducible exact le_ref27_Mate n _
noncomputable def v_ref27_halves (n : Nat) (t : (Int × (Int × ((List T) × ((List T) × Unit))))) : Option (Bool × Unit) :=
  (ob (iter (v_ref27_halves_l0 n) n ((), ((lenL t.2.2.1), ((0 : Int), (t.1, (t.2.1, (t.2.2.1, (t.2.2.2.1, ())))))))) fun q10 => onS q10 (fun t11 => (some (t11.1, ()))) fun q12 => onS q12 (fun t13 => (ob (iter (v_ref27_halves_l1 n) n ((), (t13.2.1, ((0 : Int), (t13.2.2.1, (t13.2.2.2.1, (t13.2.2.2.2.1, (t13.2.2.2.2.2.1, ())))))))) fun q32 => onS q32 (fun t33 => (some (t33.1, ()))) fun q34 => onS q34 (fun t35 => (some (Bool.true, ()))) fun q36 => noS q36)) fun q37 => noS q37)
theorem le_ref27_halves (n : Nat) (t : (Int × (Int × ((List T) × ((List T) × Unit))))) : Le (v_ref27_halves n t) (u_ref27_halves t) := by
  unfold v_ref27_halves u_ref27_halves
  repeat' first
    | with_reducible refine le_cond ?_ ?_
    | with_reducible refine le_onS (fun _ => ?_) fun _ => ?_
    | with_reducible refine le_ob ?_ fun _ => ?_
    | with_reducible refine le_both ?_ ?_
    | with_reducible exact le_rfl
    | with_reducible exact le_loop (fun s => le_ref27_halves_l0 n s) _ _
    | with_reducible exact le_loop (fun s => le_ref27_halves_l1 n s) _ _
noncomputable def v_ref27_members_l0 (n : Nat) (s0 : (Int × Unit × Int × Int × Int × Int × List T × List T × Unit)) : Option ((Int × Unit × Int × Int × Int × Int × List T × List T × Unit) ⊕ ((Int × Unit) ⊕ Empty)) :=
  (bif (ltI s0.2.2.2.1 (lenL s0.2.2.2.2.2.2.1)) then (ob (α := ((Int × Unit × Int × Int × Int × Int × List T × List T × Unit) ⊕ Empty)) (ob (idxL s0.2.2.2.2.2.2.1 s0.2.2.2.1) fun x1 => (ob (T.int? Go.IntKind.i64 (T.cell x1 3)) fun x2 => (bif (eqI x2 s0.1) then (some (Sum.inl (s0.1, ((), ((wr Go.IntKind.i64 (addI s0.2.2.1 (1 : Int))), (s0.2.2.2.1, (s0.2.2.2.2.1, (s0.2.2.2.2.2.1, (s0.2.2.2.2.2.2.1, (s0.2.2.2.2.2.2.2.1, ())))))))))) else (some (Sum.inl (s0.1, ((), (s0.2.2.1, (s0.2.2.2.1, (s0.2.2.2.2.1, (s0.2.2.2.2.2.1, (s0.2.2.2.2.2.2.1, (s0.2.2.2.2.2.2.2.1, ()))))))))))))) fun q3 => onS q3 (fun t4 => (some (Sum.inl (t4.1, ((), (t4.2.2.1, ((wr Go.IntKind.i64 (addI t4.2.2.2.1 (1 : Int))), (t4.2.2.2.2.1, (t4.2.2.2.2.2.1, (t4.2.2.2.2.2.2.1, (t4.2.2.2.2.2.2.2.1, ()))))))))))) fun q5 => noS q5) else (some (Sum.inr (Sum.inl (s0.2.2.1, ())))))
theorem le_ref27_members_l0 (n : Nat) (s0 : (Int × Unit × Int × Int × Int × Int × List T × List T × Unit)) : Le (v_ref27_members_l0 n s0) (u_ref27_members_l0 s0) := by
  unfold v_ref27_members_l0 u_ref27_members_l0
  repeat' first
    | with_reducible refine le_cond ?_ ?_
    | with_reducible refine le_onS (fun _ => ?_) fun _ => ?_
    | with_reducible refine le_ob ?_ fun _ => ?_
    | with_reducible refine le_both ?_ ?_
    | with_reducible exact le_rfl
noncomputable def v_ref27_members (n : Nat) (t : (Int × (Int × ((List T) × ((List T) × (Int × Unit)))))) : Option (Int × Unit) :=
  (ob (iter (v_ref27_members_l0 n) n (t.2.2.2.2.1, ((), ((0 : Int), ((0 : Int), (t.1, (t.2.1, (t.2.2.1, (t.2.2.2.1, ()))))))))) fun q6 => onS q6 (fun t7 => (some (t7.1, ()))) fun q8 => noS q8)
theorem le_ref27_members (n : Nat) (t : (Int × (Int × ((List T) × ((List T) × (Int × Unit)))))) : Le (v_ref27_members n t) (u_ref27_members t) := by
  unfold v_ref27_members u_ref27_members
  repeat' first
    | with_reducible refine le_cond ?_ ?_
    | with_reducible refine le_onS (fun _ => ?_) fun _ => ?_
    | with_reducible refine le_ob ?_ fun _ => ?_
    | with_reducible refine le_both ?_ ?_
    | with_reducible exact le_rfl
    | with_reducible exact le_loop (fun s => le_ref27_members_l0 n s) _ _
noncomputable def v_ref27_rings_l0 (n : Nat) (s1 : (Unit × List T × Int × Int × Int × List T × List T × Unit)) : Option ((Unit × List T × Int × Int × Int × List T × List T × Unit) ⊕ ((Bool × Unit) ⊕ ((List T × Unit) ⊕ Empty))) :=
  (bif (ltI s1.2.2.1 (lenL s1.2.2.2.2.2.2.1)) then (ob (α := ((Bool × Unit) ⊕ ((Unit × List T × Int × Int × Int × List T × List T × Unit) ⊕ Empty))) (ob (idxL s1.2.2.2.2.2.2.1 s1.2.2.1) fun x2 => (ob (T.int? Go.IntKind.i64 (T.cell x2 2)) fun x3 => (ob (v_ref27_in n (x3, (s1.2.2.2.2.1, ()))) fun x4 => (bif (Bool.not x4.1) then (some (Sum.inl (Bool.false, ()))) else (ob (T.anyInt? (T.cell x2 2)) fun x5 => (ob (chkI (lenL s1.2.1) x5) fun x6 => (ob (idxN s1.2.1 x6) fun x7 => (ob (T.int? Go.IntKind.i64 (T.cell x2 0)) fun x8 => (bif (eqI x8 (-1 : Int)) then (ob (T.int? Go.IntKind.i64 (T.cell x2 1)) fun x9 => (ob (v_ref27_in n (x9, (s1.2.2.2.1, ()))) fun x10 => (bif (Bool.not x10.1) then (some (Sum.inl (Bool.false, ()))) else (ob (v_ref27_members n (s1.2.2.2.1, (s1.2.2.2.2.1, (s1.2.2.2.2.2.1, (s1.2.2.2.2.2.2.1, (s1.2.2.1, ())))))) fun x11 => (bif (ltI (0 : Int) x11.1) then (some (Sum.inl (Bool.false, ()))) else (some (Sum.inr (Sum.inl ((), ((List.set s1.2.1 x6 (T.upd 1 x7 0 [(T.v (Go.Value.bool Bool.true))])), (s1.2.2.1, (s1.2.2.2.1, (s1.2.2.2.2.1, (s1.2.2.2.2.2.1, (s1.2.2.2.2.2.2.1, ()))))))))))))))) else (ob (T.int? Go.IntKind.i64 (T.cell x2 0)) fun x12 => (ob (v_ref27_in n (x12, ((lenL s1.2.2.2.2.2.1), ()))) fun x13 => (bif (Bool.not x13.1) then (some (Sum.inl (Bool.false, ()))) else (ob (T.anyInt? (T.cell x2 0)) fun x14 => (ob (idxL s1.2.2.2.2.2.1 x14) fun x15 => (ob (T.int? Go.IntKind.i64 (T.cell x15 3)) fun x16 => (bif (Bool.not (eqI x16 s1.2.2.1)) then (some (Sum.inl (Bool.false, ()))) else (ob (T.int? Go.IntKind.i64 (T.cell x2 1)) fun x17 => (bif (Bool.not (eqI x17 (-1 : Int))) then (some (Sum.inl (Bool.false, ()))) else (ob (T.int? Go.IntKind.i64 (T.cell x2 0)) fun x18 => (ob (v_ref27_Cycle n (s1.2.2.2.1, (s1.2.2.2.2.1, (s1.2.2.2.2.2.1, (s1.2.2.2.2.2.2.1, (x18, ())))))) fun x19 => (ob (v_ref27_members n (s1.2.2.2.1, (s1.2.2.2.2.1, (s1.2.2.2.2.2.1, (s1.2.2.2.2.2.2.1, (s1.2.2.1, ())))))) fun x20 => (bif (Bool.not (eqI (lenL x19.1) x20.1)) then (some (Sum.inl (Bool.false, ()))) else (some (Sum.inr (Sum.inl ((), ((List.set s1.2.1 x6 (T.upd 1 x7 0 [(T.v (Go.Value.bool Bool.true))])), (s1.2.2.1, (s1.2.2.2.1, (s1.2.2.2.2.1, (s1.2.2.2.2.2.1, (s1.2.2.2.2.2.2.1, ())))))))))))))))))))))))))))))))) fun q21 => onS q21 (fun t22 => (some (Sum.inr (Sum.inl (t22.1, ()))))) fun q23 => onS q23 (fun t24 => (some (Sum.inl ((), (t24.2.1, ((wr Go.IntKind.i64 (addI t24.2.2.1 (1 : Int))), (t24.2.2.2.1, (t24.2.2.2.2.1, (t24.2.2.2.2.2.1, (t24.2.2.2.2.2.2.1, ())))))))))) fun q25 => noS q25) else (some (Sum.inr (Sum.inr (Sum.inl (s1.2.1, ()))))))
theorem le_ref27_rings_l0 (n : Nat) (s1 : (Unit × List T × Int × Int × Int × List T × List T × Unit)) : Le (v_ref27_rings_l0 n s1) (u_ref27_rings_l0 s1) := by
  unfold v_ref27_rings_l0 u_ref27_rings_l0
  repeat' first
    | with_reducible refine le_cond ?_ ?_
    | with_reducible refine le_onS (fun _ => ?_) fun _ => ?_
    | with_reducible refine le_ob ?_ fun _ => ?_
    | with_reducible refine le_both ?_ ?_
    | with_reducible exact le_rfl
    | with_reducible exact le_ref27_in n _
    | with_reducible exact le_ref27_members n _
    | with_reducible exact le_ref27_Cycle n _
noncomputable def v_ref27_rings_l2 (n : Nat) (s30 : (List T × Int × Unit)) : Option ((List T × Int × Unit) ⊕ ((Bool × Unit) ⊕ ((Unit) ⊕ Empty))) :=
  (bif (ltI s30.2.1 (lenL s30.1)) then (ob (chkI (lenL s30.1) s30.2.1) fun x31 => (ob (idxN s30.1 x31) fun x32 => (ob (T.bool? (T.cell x32 0)) fun x33 => (bif (Bool.not x33) then (some (Sum.inr (Sum.inl (Bool.false, ())))) else (some (Sum.inl (s30.1, ((wr Go.IntKind.i64 (addI s30.2.1 (1 : Int))), ())))))))) else (some (Sum.inr (Sum.inr (Sum.inl ())))))
theorem le_ref27_rings_l2 (n : Nat) (s30 : (List T × Int × Unit)) : Le (v_ref27_rings_l2 n s30) (u_ref27_rings_l2 s30) := by
  unfold v_ref27_rings_l2 u_ref27_rings_l2
  repeat' first
    | with_reducible refine le_cond ?_ ?_
    | with_reducible refine le_onS (fun _ => ?_) fun _ => ?_
    | with_reducible refine le_ob ?_ fun _ => ?_
    | with_reducible refine le_both ?_ ?_
    | with_reducible exact le_rfl
noncomputable def v_ref27_rings (n : Nat) (t : (Int × (Int × ((List T) × ((List T) × Unit))))) : Option (Bool × Unit) :=
  (ob (mkLen t.2.1 t.2.1 1) fun x0 => (ob (iter (v_ref27_rings_l0 n) n ((), ((repL x0.1 (T.v (Go.Value.bool Bool.false))), ((0 : Int), (t.1, (t.2.1, (t.2.2.1, (t.2.2.2.1, ())))))))) fun q26 => onS q26 (fun t27 => (some (t27.1, ()))) fun q28 => onS q28 (fun t29 => (ob (iter (v_ref27_rings_l2 n) n (t29.1, ((0 : Int), ()))) fun q34 => onS q34 (fun t35 => (some (t35.1, ()))) fun q36 => onS q36 (fun t37 => (some (Bool.true, ()))) fun q38 => noS q38)) fun q39 => noS q39))
theorem le_ref27_rings (n : Nat) (t : (Int × (Int × ((List T) × ((List T) × Unit))))) : Le (v_ref27_rings n t) (u_ref27_rings t) := by
  unfold v_ref27_rings u_ref27_rings
  repeat' first
    | with_reducible refine le_cond ?_ ?_
    | with_reducible refine le_onS (fun _ => ?_) fun _ => ?_
    | with_reducible refine le_ob ?_ fun _ => ?_
    | with_reducible refine le_both ?_ ?_
    | with_reducible exact le_rfl
    | with_reducible exact le_loop (fun s => le_ref27_rings_l0 n s) _ _
    | with_reducible exact le_loop (fun s => le_ref27_rings_l2 n s) _ _
noncomputable def v_ref27_vertices_l1 (n : Nat) (s1 : (Unit × Int × Int × Int × Int × Int × Int × Int × List T × List T × Unit)) : Option ((Unit × Int × Int × Int × Int × Int × Int × Int × List T × List T × Unit) ⊕ ((Unit × Int × Int × Int × Int × Int × Int × List T × List T × Unit) ⊕ Empty)) :=
  (bif (ltI s1.2.2.2.2.2.1 (lenL s1.2.2.2.2.2.2.2.2.2.1)) then (ob (α := ((Unit × Int × Int × Int × Int × Int × Int × Int × List T × List T × Unit) ⊕ Empty)) (ob (idxL s1.2.2.2.2.2.2.2.2.2.1 s1.2.2.2.2.2.1) fun x2 => (ob (T.int? Go.IntKind.i64 (T.cell x2 0)) fun x3 => (bif (eqI x3 (-1 : Int)) then (ob (idxL s1.2.2.2.2.2.2.2.2.2.1 s1.2.2.2.2.2.1) fun x4 => (ob (T.int? Go.IntKind.i64 (T.cell x4 1)) fun x5 => (bif (eqI x5 s1.2.1) then (some (Sum.inl ((), (s1.2.1, ((wr Go.IntKind.i64 (addI s1.2.2.1 (1 : Int))), (s1.2.2.2.1, (s1.2.2.2.2.1, (s1.2.2.2.2.2.1, (s1.2.2.2.2.2.2.1, (s1.2.2.2.2.2.2.2.1, (s1.2.2.2.2.2.2.2.2.1, (s1.2.2.2.2.2.2.2.2.2.1, ())))))))))))) else (some (Sum.inl ((), (s1.2.1, (s1.2.2.1, (s1.2.2.2.1, (s1.2.2.2.2.1, (s1.2.2.2.2.2.1, (s1.2.2.2.2.2.2.1, (s1.2.2.2.2.2.2.2.1, (s1.2.2.2.2.2.2.2.2.1, (s1.2.2.2.2.2.2.2.2.2.1, ()))))))))))))))) else (some (Sum.inl ((), (s1.2.1, (s1.2.2.1, (s1.2.2.2.1, (s1.2.2.2.2.1, (s1.2.2.2.2.2.1, (s1.2.2.2.2.2.2.1, (s1.2.2.2.2.2.2.2.1, (s1.2.2.2.2.2.2.2.2.1, (s1.2.2.2.2.2.2.2.2.2.1, ()))))))))))))))) fun q6 => onS q6 (fun t7 => (some (Sum.inl ((), (t7.2.1, (t7.2.2.1, (t7.2.2.2.1, (t7.2.2.2.2.1, ((wr Go.IntKind.i64 (addI t7.2.2.2.2.2.1 (1 : Int))), (t7.2.2.2.2.2.2.1, (t7.2.2.2.2.2.2.2.1, (t7.2.2.2.2.2.2.2.2.1, (t7.2.2.2.2.2.2.2.2.2.1, ()))))))))))))) fun q8 => noS q8) else (some (Sum.inr (Sum.inl ((), (s1.2.1, (s1.2.2.1, (s1.2.2.2.1, (s1.2.2.2.2.1, (s1.2.2.2.2.2.2.1, (s1.2.2.2.2.2.2.2.1, (s1.2.2.2.2.2.2.2.2.1, (s1.2.2.2.2.2.2.2.2.2.1, ())))))))))))))
theorem le_ref27_vertices_l1 (n : Nat) (s1 : (Unit × Int × Int × Int × Int × Int × Int × Int × List T × List T × Unit)) : Le (v_ref27_vertices_l1 n s1) (u_ref27_vertices_l1 s1) := by
  unfold v_ref27_vertices_l1 u_ref27_vertices_l1
  repeat' first
    | with_reducible refine le_cond ?_ ?_
    | with_reducible refine le_onS (fun _ => ?_) fun _ => ?_
    | with_reducible refine le_ob ?_ fun _ => ?_
    | with_reducible refine le_both ?_ ?_
    | with_reducible exact le_rfl
noncomputable def v_ref27_vertices_l3 (n : Nat) (s11 : (Unit × Int × Int × Int × Int × Int × Int × Int × List T × List T × Unit)) : Option ((Unit × Int × Int × Int × Int × Int × Int × Int × List T × List T × Unit) ⊕ ((Unit × Int × Int × Int × Int × Int × Int × List T × List T × Unit) ⊕ Empty)) :=
  (bif (ltI s11.2.2.2.2.2.1 (lenL s11.2.2.2.2.2.2.2.2.1)) then (ob (α := ((Unit × Int × Int × Int × Int × Int × Int × Int × List T × List T × Unit) ⊕ Empty)) (ob (idxL s11.2.2.2.2.2.2.2.2.1 s11.2.2.2.2.2.1) fun x12 => (ob (T.int? Go.IntKind.i64 (T.cell x12 0)) fun x13 => (bif (eqI x13 s11.2.1) then (bif (ltI s11.2.2.2.1 (0 : Int)) then (some (Sum.inl ((), (s11.2.1, (s11.2.2.1, (s11.2.2.2.2.2.1, ((wr Go.IntKind.i64 (addI s11.2.2.2.2.1 (1 : Int))), (s11.2.2.2.2.2.1, (s11.2.2.2.2.2.2.1, (s11.2.2.2.2.2.2.2.1, (s11.2.2.2.2.2.2.2.2.1, (s11.2.2.2.2.2.2.2.2.2.1, ())))))))))))) else (some (Sum.inl ((), (s11.2.1, (s11.2.2.1, (s11.2.2.2.1, ((wr Go.IntKind.i64 (addI s11.2.2.2.2.1 (1 : Int))), (s11.2.2.2.2.2.1, (s11.2.2.2.2.2.2.1, (s11.2.2.2.2.2.2.2.1, (s11.2.2.2.2.2.2.2.2.1, (s11.2.2.2.2.2.2.2.2.2.1, ()))))))))))))) else (some (Sum.inl ((), (s11.2.1, (s11.2.2.1, (s11.2.2.2.1, (s11.2.2.2.2.1, (s11.2.2.2.2.2.1, (s11.2.2.2.2.2.2.1, (s11.2.2.2.2.2.2.2.1, (s11.2.2.2.2.2.2.2.2.1, (s11.2.2.2.2.2.2.2.2.2.1, ()))))))))))))))) fun q14 => onS q14 (fun t15 => (some (Sum.inl ((), (t15.2.1, (t15.2.2.1, (t15.2.2.2.1, (t15.2.2.2.2.1, ((wr Go.IntKind.i64 (addI t15.2.2.2.2.2.1 (1 : Int))), (t15.2.2.2.2.2.2.1, (t15.2.2.2.2.2.2.2.1, (t15.2.2.2.2.2.2.2.2.1, (t15.2.2.2.2.2.2.2.2.2.1, ()))))))))))))) fun q16 => noS q16) else (some (Sum.inr (Sum.inl ((), (s11.2.1, (s11.2.2.1, (s11.2.2.2.1, (s11.2.2.2.2.1, (s11.2.2.2.2.2.2.1, (s11.2.2.2.2.2.2.2.1, (s11.2.2.2.2.2.2.2.2.1, (s11.2.2.2.2.2.2.2.2.2.1, ())))))))))))))
theorem le_ref27_vertices_l3 (n : Nat) (s11 : (Unit × Int × Int × Int × Int × Int × Int × Int × List T × List T × Unit)) : Le (v_ref27_vertices_l3 n s11) (u_ref27_vertices_l3 s11) := by
  unfold v_ref27_vertices_l3 u_ref27_vertices_l3
  repeat' first
    | with_reducible refine le_cond ?_ ?_
    | with_reducible refine le_onS (fun _ => ?_) fun _ => ?_
    | with_reducible refine le_ob ?_ fun _ => ?_
    | with_reducible refine le_both ?_ ?_
    | with_reducible exact le_rfl
noncomputable def v_ref27_vertices_l5 (n : Nat) (s22 : (Unit × Int × Int × Int × Int × Int × Int × Int × List T × List T × Unit)) : Option ((Unit × Int × Int × Int × Int × Int × Int × Int × List T × List T × Unit) ⊕ ((Unit × Int × Int × Int × Int × Int × List T × List T × Unit) ⊕ Empty)) :=
  (bif (Bool.not (eqI s22.2.2.2.2.2.1 s22.2.2.1)) then (ob (idxL s22.2.2.2.2.2.2.2.2.1 s22.2.2.2.2.2.1) fun x23 => (ob (T.int? Go.IntKind.i64 (T.cell x23 2)) fun x24 => (ob (v_ref27_Mate n (x24, ())) fun x25 => (some (Sum.inl ((), (s22.2.1, (s22.2.2.1, (s22.2.2.2.1, ((wr Go.IntKind.i64 (addI s22.2.2.2.2.1 (1 : Int))), (x25.1, (s22.2.2.2.2.2.2.1, (s22.2.2.2.2.2.2.2.1, (s22.2.2.2.2.2.2.2.2.1, (s22.2.2.2.2.2.2.2.2.2.1, ()))))))))))))))) else (some (Sum.inr (Sum.inl ((), (s22.2.1, (s22.2.2.2.1, (s22.2.2.2.2.1, (s22.2.2.2.2.2.2.1, (s22.2.2.2.2.2.2.2.1, (s22.2.2.2.2.2.2.2.2.1, (s22.2.2.2.2.2.2.2.2.2.1, ()))))))))))))
theorem le_ref27_vertices_l5 (n : Nat) (s22 : (Unit × Int × Int × Int × Int × Int × Int × Int × List T × List T × Unit)) : Le (v_ref27_vertices_l5 n s22) (u_ref27_vertices_l5 s22) := by
  unfold v_ref27_vertices_l5 u_ref27_vertices_l5
  repeat' first
    | with_reducible refine le_cond ?_ ?_
    | with_reducible refine le_onS (fun _ => ?_) fun _ => ?_
    | with_reducible refine le_ob ?_ fun _ => ?_
    | with_reducible refine le_both ?_ ?_
    | with_reducible exact le_rfl
    | with_reducible exact le_ref27_Mate n _
noncomputable def v_ref27_vertices_l0 (n : Nat) (s0 : (Unit × Int × Int × Int × List T × List T × Unit)) : Option ((Unit × Int × Int × Int × List T × List T × Unit) ⊕ ((Bool × Unit) ⊕ ((Unit) ⊕ Empty))) :=
  (bif (ltI s0.2.1 s0.2.2.1) then (ob (α := ((Bool × Unit) ⊕ ((Unit × Int × Int × Int × List T × List T × Unit) ⊕ Empty))) (ob (iter (v_ref27_vertices_l1 n) n ((), (s0.2.1, ((0 : Int), ((-1 : Int), ((0 : Int), ((0 : Int), (s0.2.2.1, (s0.2.2.2.1, (s0.2.2.2.2.1, (s0.2.2.2.2.2.1, ()))))))))))) fun q9 => onS q9 (fun t10 => (ob (iter (v_ref27_vertices_l3 n) n ((), (t10.2.1, (t10.2.2.1, (t10.2.2.2.1, (t10.2.2.2.2.1, ((0 : Int), (t10.2.2.2.2.2.1, (t10.2.2.2.2.2.2.1, (t10.2.2.2.2.2.2.2.1, (t10.2.2.2.2.2.2.2.2.1, ()))))))))))) fun q17 => onS q17 (fun t18 => (bif (ltI (1 : Int) t18.2.2.1) then (some (Sum.inl (Bool.false, ()))) else (bif (eqI t18.2.2.1 (1 : Int)) then (bif (ltI (0 : Int) t18.2.2.2.2.1) then (some (Sum.inl (Bool.false, ()))) else (bif (eqI (wr Go.IntKind.i64 (addI t18.2.2.1 t18.2.2.2.2.1)) (0 : Int)) then (some (Sum.inl (Bool.false, ()))) else (bif (eqI t18.2.2.2.2.1 (0 : Int)) then (some (Sum.inr (Sum.inl ((), (t18.2.1, (t18.2.2.2.2.2.1, (t18.2.2.2.2.2.2.1, (t18.2.2.2.2.2.2.2.1, (t18.2.2.2.2.2.2.2.2.1, ()))))))))) else (ob (idxL t18.2.2.2.2.2.2.2.1 t18.2.2.2.1) fun x19 => (ob (T.int? Go.IntKind.i64 (T.cell x19 2)) fun x20 => (ob (v_ref27_Mate n (x20, ())) fun x21 => (ob (iter (v_ref27_vertices_l5 n) n ((), (t18.2.1, (t18.2.2.2.1, (t18.2.2.2.2.1, ((1 : Int), (x21.1, (t18.2.2.2.2.2.1, (t18.2.2.2.2.2.2.1, (t18.2.2.2.2.2.2.2.1, (t18.2.2.2.2.2.2.2.2.1, ()))))))))))) fun q26 => onS q26 (fun t27 => (bif (Bool.not (eqI t27.2.2.2.1 t27.2.2.1)) then (some (Sum.inl (Bool.false, ()))) else (some (Sum.inr (Sum.inl ((), (t27.2.1, (t27.2.2.2.2.1, (t27.2.2.2.2.2.1, (t27.2.2.2.2.2.2.1, (t27.2.2.2.2.2.2.2.1, ()))))))))))) fun q28 => noS q28))))))) else (bif (eqI (wr Go.IntKind.i64 (addI t18.2.2.1 t18.2.2.2.2.1)) (0 : Int)) then (some (Sum.inl (Bool.false, ()))) else (bif (eqI t18.2.2.2.2.1 (0 : Int)) then (some (Sum.inr (Sum.inl ((), (t18.2.1, (t18.2.2.2.2.2.1, (t18.2.2.2.2.2.2.1, (t18.2.2.2.2.2.2.2.1, (t18.2.2.2.2.2.2.2.2.1, ()))))))))) else (ob (idxL t18.2.2.2.2.2.2.2.1 t18.2.2.2.1) fun x29 => (ob (T.int? Go.IntKind.i64 (T.cell x29 2)) fun x30 => (ob (v_ref27_Mate n (x30, ())) fun x31 => (ob (iter (v_ref27_vertices_l5 n) n ((), (t18.2.1, (t18.2.2.2.1, (t18.2.2.2.2.1, ((1 : Int), (x31.1, (t18.2.2.2.2.2.1, (t18.2.2.2.2.2.2.1, (t18.2.2.2.2.2.2.2.1, (t18.2.2.2.2.2.2.2.2.1, ()))))))))))) fun q36 => onS q36 (fun t37 => (bif (Bool.not (eqI t37.2.2.2.1 t37.2.2.1)) then (some (Sum.inl (Bool.false, ()))) else (some (Sum.inr (Sum.inl ((), (t37.2.1, (t37.2.2.2.2.1, (t37.2.2.2.2.2.1, (t37.2.2.2.2.2.2.1, (t37.2.2.2.2.2.2.2.1, ()))))))))))) fun q38 => noS q38))))))))) fun q39 => noS q39)) fun q40 => noS q40) fun q41 => onS q41 (fun t42 => (some (Sum.inr (Sum.inl (t42.1, ()))))) fun q43 => onS q43 (fun t44 => (some (Sum.inl ((), ((wr Go.IntKind.i64 (addI t44.2.1 (1 : Int))), (t44.2.2.1, (t44.2.2.2.1, (t44.2.2.2.2.1, (t44.2.2.2.2.2.1, ()))))))))) fun q45 => noS q45) else (some (Sum.inr (Sum.inr (Sum.inl ())))))
theorem le_ref27_vertices_l0 (n : Nat) (s0 : (Unit × Int × Int × Int × List T × List T × Unit)) : Le (v_ref27_vertices_l0 n s0) (u_ref27_vertices_l0 s0) := by
  unfold v_ref27_vertices_l0 u_ref27_vertices_l0
  repeat' first
    | with_reducible refine le_cond ?_ ?_
    | with_reducible refine le_onS (fun _ => ?_) fun _ => ?_
    | with_reducible refine le_ob ?_ fun _ => ?_
    | with_reducible refine le_both ?_ ?_
    | with_reducible exact le_rfl
    | with_reducible exact le_ref27_Mate n _
    | with_reducible exact le_loop (fun s => le_ref27_vertices_l1 n s) _ _
    | with_reducible exact le_loop (fun s => le_ref27_vertices_l3 n s) _ _
    | with_reducible exact le_loop (fun s => le_ref27_vertices_l5 n s) _ _
noncomputable def v_ref27_vertices (n : Nat) (t : (Int × (Int × ((List T) × ((List T) × Unit))))) : Option (Bool × Unit) :=
  (ob (iter (v_ref27_vertices_l0 n) n ((), ((0 : Int), (t.1, (t.2.1, (t.2.2.1, (t.2.2.2.1, ()))))))) fun q46 => onS q46 (fun t47 => (some (t47.1, ()))) fun q48 => onS q48 (fun t49 => (some (Bool.true, ()))) fun q50 => noS q50)
theorem le_ref27_vertices (n : Nat) (t : (Int × (Int × ((List T) × ((List T) × Unit))))) : Le (v_ref27_vertices n t) (u_ref27_vertices t) := by
  unfold v_ref27_vertices u_ref27_vertices
  repeat' first
    | with_reducible refine le_cond ?_ ?_
    | with_reducible refine le_onS (fun _ => ?_) fun _ => ?_
    | with_reducible refine le_ob ?_ fun _ => ?_
    | with_reducible refine le_both ?_ ?_
    | with_reducible exact le_rfl
    | with_reducible exact le_loop (fun s => le_ref27_vertices_l0 n s) _ _
noncomputable def v_ref27_Check (n : Nat) (t : (Int × (Int × ((List T) × ((List T) × Unit))))) : Option (Bool × Unit) :=
  (bif (ltI (256 : Int) (lenL t.2.2.1)) then (some (Bool.false, ())) else (bif (Bool.not (eqI (modI (lenL t.2.2.1) (2 : Int)) (0 : Int))) then (some (Bool.false, ())) else (bif (ltI t.1 (1 : Int)) then (some (Bool.false, ())) else (bif (ltI (257 : Int) t.1) then (some (Bool.false, ())) else (bif (ltI t.2.1 (1 : Int)) then (some (Bool.false, ())) else (bif (ltI (257 : Int) t.2.1) then (some (Bool.false, ())) else (bif (ltI (257 : Int) (lenL t.2.2.2.1)) then (some (Bool.false, ())) else (ob (v_ref27_halves n (t.1, (t.2.1, (t.2.2.1, (t.2.2.2.1, ()))))) fun x0 => (bif x0.1 then (ob (v_ref27_rings n (t.1, (t.2.1, (t.2.2.1, (t.2.2.2.1, ()))))) fun x1 => (bif x1.1 then (ob (v_ref27_vertices n (t.1, (t.2.1, (t.2.2.1, (t.2.2.2.1, ()))))) fun x2 => (some (x2.1, ()))) else (some (Bool.false, ())))) else (some (Bool.false, ())))))))))))
theorem le_ref27_Check (n : Nat) (t : (Int × (Int × ((List T) × ((List T) × Unit))))) : Le (v_ref27_Check n t) (u_ref27_Check t) := by
  unfold v_ref27_Check u_ref27_Check
  repeat' first
    | with_reducible refine le_cond ?_ ?_
    | with_reducible refine le_onS (fun _ => ?_) fun _ => ?_
    | with_reducible refine le_ob ?_ fun _ => ?_
    | with_reducible refine le_both ?_ ?_
    | with_reducible exact le_rfl
    | with_reducible exact le_ref27_halves n _
    | with_reducible exact le_ref27_rings n _
    | with_reducible exact le_ref27_vertices n _
noncomputable def v_ref27_Copy (n : Nat) (t : (Int × (Int × ((List T) × ((List T) × Unit))))) : Option (Int × (Int × ((List T) × ((List T) × Unit)))) :=
  (ob (room [] t.2.2.1 32) fun x0 => (ob (room [] t.2.2.2.1 24) fun x1 => (some (t.1, (t.2.1, (x0, (x1, ())))))))
theorem le_ref27_Copy (n : Nat) (t : (Int × (Int × ((List T) × ((List T) × Unit))))) : Le (v_ref27_Copy n t) (u_ref27_Copy t) := by
  unfold v_ref27_Copy u_ref27_Copy
  repeat' first
    | with_reducible refine le_cond ?_ ?_
    | with_reducible refine le_onS (fun _ => ?_) fun _ => ?_
    | with_reducible refine le_ob ?_ fun _ => ?_
    | with_reducible refine le_both ?_ ?_
    | with_reducible exact le_rfl
noncomputable def v_ref27_link (n : Nat) (t : (Int × (Int × ((List T) × ((List T) × (Int × (Int × Unit))))))) : Option ((List T) × ((List T) × Unit)) :=
  (ob (chkI (lenL t.2.2.1) t.2.2.2.2.1) fun x0 => (ob (idxN t.2.2.1 x0) fun x1 => (ob (chkI (lenL (List.set t.2.2.1 x0 (T.upd 4 x1 1 [(T.v (Go.Value.int Go.IntKind.i64 t.2.2.2.2.2.1))]))) t.2.2.2.2.2.1) fun x2 => (ob (idxN (List.set t.2.2.1 x0 (T.upd 4 x1 1 [(T.v (Go.Value.int Go.IntKind.i64 t.2.2.2.2.2.1))])) x2) fun x3 => (some ((List.set (List.set t.2.2.1 x0 (T.upd 4 x1 1 [(T.v (Go.Value.int Go.IntKind.i64 t.2.2.2.2.2.1))])) x2 (T.upd 4 x3 2 [(T.v (Go.Value.int Go.IntKind.i64 t.2.2.2.2.1))])), (t.2.2.2.1, ())))))))
theorem le_ref27_link (n : Nat) (t : (Int × (Int × ((List T) × ((List T) × (Int × (Int × Unit))))))) : Le (v_ref27_link n t) (u_ref27_link t) := by
  unfold v_ref27_link u_ref27_link
  repeat' first
    | with_reducible refine le_cond ?_ ?_
    | with_reducible refine le_onS (fun _ => ?_) fun _ => ?_
    | with_reducible refine le_ob ?_ fun _ => ?_
    | with_reducible refine le_both ?_ ?_
    | with_reducible exact le_rfl
noncomputable def v_ref27_settle_l0 (n : Nat) (s1 : (Int × Int × Unit × List T × Int × Int × Int × List T × List T × Unit)) : Option ((Int × Int × Unit × List T × Int × Int × Int × List T × List T × Unit) ⊕ ((Int × Int × Unit × Int × Int × List T × List T × Unit) ⊕ Empty)) :=
  (bif (ltI s1.2.2.2.2.1 (lenL s1.2.2.2.1)) then (ob (idxL s1.2.2.2.1 s1.2.2.2.2.1) fun x2 => (ob (T.anyInt? (T.cell x2 0)) fun x3 => (ob (chkI (lenL s1.2.2.2.2.2.2.2.1) x3) fun x4 => (ob (idxN s1.2.2.2.2.2.2.2.1 x4) fun x5 => (some (Sum.inl (s1.1, (s1.2.1, ((), (s1.2.2.2.1, ((wr Go.IntKind.i64 (addI s1.2.2.2.2.1 (1 : Int))), (s1.2.2.2.2.2.1, (s1.2.2.2.2.2.2.1, ((List.set s1.2.2.2.2.2.2.2.1 x4 (T.upd 4 x5 3 [(T.v (Go.Value.int Go.IntKind.i64 s1.2.1))])), (s1.2.2.2.2.2.2.2.2.1, ()))))))))))))))) else (some (Sum.inr (Sum.inl (s1.1, (s1.2.1, ((), (s1.2.2.2.2.2.1, (s1.2.2.2.2.2.2.1, (s1.2.2.2.2.2.2.2.1, (s1.2.2.2.2.2.2.2.2.1, ())))))))))))
theorem le_ref27_settle_l0 (n : Nat) (s1 : (Int × Int × Unit × List T × Int × Int × Int × List T × List T × Unit)) : Le (v_ref27_settle_l0 n s1) (u_ref27_settle_l0 s1) := by
  unfold v_ref27_settle_l0 u_ref27_settle_l0
  repeat' first
    | with_reducible refine le_cond ?_ ?_
    | with_reducible refine le_onS (fun _ => ?_) fun _ => ?_
    | with_reducible refine le_ob ?_ fun _ => ?_
    | with_reducible refine le_both ?_ ?_
    | with_reducible exact le_rfl
noncomputable def v_ref27_settle (n : Nat) (t : (Int × (Int × ((List T) × ((List T) × (Int × (Int × Unit))))))) : Option ((List T) × ((List T) × Unit)) :=
  (ob (v_ref27_Cycle_r n (t.1, (t.2.1, (t.2.2.1, (t.2.2.2.1, (t.2.2.2.2.1, ())))))) fun x0 => (ob (iter (v_ref27_settle_l0 n) n (t.2.2.2.2.1, (t.2.2.2.2.2.1, ((), (x0.1, ((0 : Int), (t.1, (t.2.1, (x0.2.1, (x0.2.2.1, ())))))))))) fun q6 => onS q6 (fun t7 => (ob (chkI (lenL t7.2.2.2.2.2.2.1) t7.2.1) fun x8 => (ob (idxN t7.2.2.2.2.2.2.1 x8) fun x9 => (ob (chkI (lenL (List.set t7.2.2.2.2.2.2.1 x8 (T.upd 3 x9 0 [(T.v (Go.Value.int Go.IntKind.i64 t7.1))]))) t7.2.1) fun x10 => (ob (idxN (List.set t7.2.2.2.2.2.2.1 x8 (T.upd 3 x9 0 [(T.v (Go.Value.int Go.IntKind.i64 t7.1))])) x10) fun x11 => (some (t7.2.2.2.2.2.1, ((List.set (List.set t7.2.2.2.2.2.2.1 x8 (T.upd 3 x9 0 [(T.v (Go.Value.int Go.IntKind.i64 t7.1))])) x10 (T.upd 3 x11 1 [(T.v (Go.Value.int Go.IntKind.i64 (-1 : Int)))])), ())))))))) fun q12 => noS q12))
theorem le_ref27_settle (n : Nat) (t : (Int × (Int × ((List T) × ((List T) × (Int × (Int × Unit))))))) : Le (v_ref27_settle n t) (u_ref27_settle t) := by
  unfold v_ref27_settle u_ref27_settle
  repeat' first
    | with_reducible refine le_cond ?_ ?_
    | with_reducible refine le_onS (fun _ => ?_) fun _ => ?_
    | with_reducible refine le_ob ?_ fun _ => ?_
    | with_reducible refine le_both ?_ ?_
    | with_reducible exact le_rfl
    | with_reducible exact le_ref27_Cycle_r n _
    | with_reducible exact le_loop (fun s => le_ref27_settle_l0 n s) _ _
noncomputable def v_ref27_edge (n : Nat) (t : (Unit × (Int × (Int × (Int × (Int × ((List T) × ((List T) × Unit)))))))) : Option (Int × (Int × (Int × (Int × ((List T) × ((List T) × Unit)))))) :=
  (ob (room t.2.2.2.2.2.1 [(T.agg [(T.v (Go.Value.int Go.IntKind.i64 t.2.1)), (T.v (Go.Value.int Go.IntKind.i64 (0 : Int))), (T.v (Go.Value.int Go.IntKind.i64 (0 : Int))), (T.v (Go.Value.int Go.IntKind.i64 (0 : Int)))]), (T.agg [(T.v (Go.Value.int Go.IntKind.i64 t.2.2.1)), (T.v (Go.Value.int Go.IntKind.i64 (0 : Int))), (T.v (Go.Value.int Go.IntKind.i64 (0 : Int))), (T.v (Go.Value.int Go.IntKind.i64 (0 : Int)))])] 32) fun x0 => (some ((lenL t.2.2.2.2.2.1), ((wr Go.IntKind.i64 (addI (lenL t.2.2.2.2.2.1) (1 : Int))), (t.2.2.2.1, (t.2.2.2.2.1, (x0, (t.2.2.2.2.2.2.1, ()))))))))
theorem le_ref27_edge (n : Nat) (t : (Unit × (Int × (Int × (Int × (Int × ((List T) × ((List T) × Unit)))))))) : Le (v_ref27_edge n t) (u_ref27_edge t) := by
  unfold v_ref27_edge u_ref27_edge
  repeat' first
    | with_reducible refine le_cond ?_ ?_
    | with_reducible refine le_onS (fun _ => ?_) fun _ => ?_
    | with_reducible refine le_ob ?_ fun _ => ?_
    | with_reducible refine le_both ?_ ?_
    | with_reducible exact le_rfl
noncomputable def v_ref27_room (n : Nat) (t : (Int × (Int × ((List T) × ((List T) × (Int × (Int × (Int × (Int × Unit))))))))) : Option (Bool × Unit) :=
  (bif (leI (wr Go.IntKind.i64 (addI (lenL t.2.2.1) t.2.2.2.2.1)) (256 : Int)) then (bif (leI (wr Go.IntKind.i64 (addI t.1 t.2.2.2.2.2.1)) (257 : Int)) then (bif (leI (wr Go.IntKind.i64 (addI t.2.1 t.2.2.2.2.2.2.1)) (257 : Int)) then (some ((leI (wr Go.IntKind.i64 (addI (lenL t.2.2.2.1) t.2.2.2.2.2.2.2.1)) (257 : Int)), ())) else (some (Bool.false, ()))) else (some (Bool.false, ()))) else (some (Bool.false, ())))
theorem le_ref27_room (n : Nat) (t : (Int × (Int × ((List T) × ((List T) × (Int × (Int × (Int × (Int × Unit))))))))) : Le (v_ref27_room n t) (u_ref27_room t) := by
  unfold v_ref27_room u_ref27_room
  repeat' first
    | with_reducible refine le_cond ?_ ?_
    | with_reducible refine le_onS (fun _ => ?_) fun _ => ?_
    | with_reducible refine le_ob ?_ fun _ => ?_
    | with_reducible refine le_both ?_ ?_
    | with_reducible exact le_rfl
noncomputable def v_ref27_least_l1 (n : Nat) (s4 : (Unit × Unit × Int × Int × Int × Int × List T × List T × Int × Int × T × T × Unit)) : Option ((Unit × Unit × Int × Int × Int × Int × List T × List T × Int × Int × T × T × Unit) ⊕ ((Unit × Unit × Int × Int × Int × List T × List T × Int × Int × T × T × Unit) ⊕ Empty)) :=
  (bif (leI (0 : Int) s4.2.2.2.1) then (ob (α := ((Unit × Unit × Int × Int × Int × Int × List T × List T × Int × Int × T × T × Unit) ⊕ Empty)) (ob (idxL s4.2.2.2.2.2.2.1 s4.2.2.2.1) fun x5 => (ob (T.int? Go.IntKind.i64 (T.cell x5 3)) fun x6 => (bif (eqI x6 s4.2.2.1) then (ob (chkI (lenL s4.2.2.2.2.2.2.2.1) s4.2.2.1) fun x7 => (ob (idxN s4.2.2.2.2.2.2.2.1 x7) fun x8 => (some (Sum.inl ((), ((), (s4.2.2.1, (s4.2.2.2.1, (s4.2.2.2.2.1, (s4.2.2.2.2.2.1, (s4.2.2.2.2.2.2.1, ((List.set s4.2.2.2.2.2.2.2.1 x7 (T.upd 3 x8 0 [(T.v (Go.Value.int Go.IntKind.i64 s4.2.2.2.1))])), (s4.2.2.2.2.2.2.2.2.1, (s4.2.2.2.2.2.2.2.2.2.1, (s4.2.2.2.2.2.2.2.2.2.2.1, (s4.2.2.2.2.2.2.2.2.2.2.2.1, ())))))))))))))))) else (some (Sum.inl ((), ((), (s4.2.2.1, (s4.2.2.2.1, (s4.2.2.2.2.1, (s4.2.2.2.2.2.1, (s4.2.2.2.2.2.2.1, (s4.2.2.2.2.2.2.2.1, (s4.2.2.2.2.2.2.2.2.1, (s4.2.2.2.2.2.2.2.2.2.1, (s4.2.2.2.2.2.2.2.2.2.2.1, (s4.2.2.2.2.2.2.2.2.2.2.2.1, ()))))))))))))))))) fun q9 => onS q9 (fun t10 => (some (Sum.inl ((), ((), (t10.2.2.1, ((wr Go.IntKind.i64 (subI t10.2.2.2.1 (1 : Int))), (t10.2.2.2.2.1, (t10.2.2.2.2.2.1, (t10.2.2.2.2.2.2.1, (t10.2.2.2.2.2.2.2.1, (t10.2.2.2.2.2.2.2.2.1, (t10.2.2.2.2.2.2.2.2.2.1, (t10.2.2.2.2.2.2.2.2.2.2.1, (t10.2.2.2.2.2.2.2.2.2.2.2.1, ()))))))))))))))) fun q11 => noS q11) else (some (Sum.inr (Sum.inl ((), ((), (s4.2.2.1, (s4.2.2.2.2.1, (s4.2.2.2.2.2.1, (s4.2.2.2.2.2.2.1, (s4.2.2.2.2.2.2.2.1, (s4.2.2.2.2.2.2.2.2.1, (s4.2.2.2.2.2.2.2.2.2.1, (s4.2.2.2.2.2.2.2.2.2.2.1, (s4.2.2.2.2.2.2.2.2.2.2.2.1, ())))))))))))))))
theorem le_ref27_least_l1 (n : Nat) (s4 : (Unit × Unit × Int × Int × Int × Int × List T × List T × Int × Int × T × T × Unit)) : Le (v_ref27_least_l1 n s4) (u_ref27_least_l1 s4) := by
  unfold v_ref27_least_l1 u_ref27_least_l1
  repeat' first
    | with_reducible refine le_cond ?_ ?_
    | with_reducible refine le_onS (fun _ => ?_) fun _ => ?_
    | with_reducible refine le_ob ?_ fun _ => ?_
    | with_reducible refine le_both ?_ ?_
    | with_reducible exact le_rfl
noncomputable def v_ref27_least_l0 (n : Nat) (s0 : (Unit × Unit × Int × Int × Int × List T × List T × Int × Int × T × T × Unit)) : Option ((Unit × Unit × Int × Int × Int × List T × List T × Int × Int × T × T × Unit) ⊕ ((Unit × Unit × Int × Int × List T × List T × Int × Int × T × T × Unit) ⊕ Empty)) :=
  (bif (ltI s0.2.2.1 (lenL s0.2.2.2.2.2.2.1)) then (ob (α := ((Unit × Unit × Int × Int × Int × List T × List T × Int × Int × T × T × Unit) ⊕ Empty)) (ob (chkI (lenL s0.2.2.2.2.2.2.1) s0.2.2.1) fun x1 => (ob (idxN s0.2.2.2.2.2.2.1 x1) fun x2 => (ob (T.int? Go.IntKind.i64 (T.cell x2 0)) fun x3 => (bif (eqI x3 (-1 : Int)) then (some (Sum.inl ((), ((), (s0.2.2.1, (s0.2.2.2.1, (s0.2.2.2.2.1, (s0.2.2.2.2.2.1, (s0.2.2.2.2.2.2.1, (s0.2.2.2.2.2.2.2.1, (s0.2.2.2.2.2.2.2.2.1, (s0.2.2.2.2.2.2.2.2.2.1, (s0.2.2.2.2.2.2.2.2.2.2.1, ()))))))))))))) else (ob (iter (v_ref27_least_l1 n) n ((), ((), (s0.2.2.1, ((wr Go.IntKind.i64 (subI (lenL s0.2.2.2.2.2.1) (1 : Int))), (s0.2.2.2.1, (s0.2.2.2.2.1, (s0.2.2.2.2.2.1, (s0.2.2.2.2.2.2.1, (s0.2.2.2.2.2.2.2.1, (s0.2.2.2.2.2.2.2.2.1, (s0.2.2.2.2.2.2.2.2.2.1, (s0.2.2.2.2.2.2.2.2.2.2.1, ()))))))))))))) fun q12 => onS q12 (fun t13 => (some (Sum.inl ((), ((), (t13.2.2.1, (t13.2.2.2.1, (t13.2.2.2.2.1, (t13.2.2.2.2.2.1, (t13.2.2.2.2.2.2.1, (t13.2.2.2.2.2.2.2.1, (t13.2.2.2.2.2.2.2.2.1, (t13.2.2.2.2.2.2.2.2.2.1, (t13.2.2.2.2.2.2.2.2.2.2.1, ())))))))))))))) fun q14 => noS q14))))) fun q15 => onS q15 (fun t16 => (some (Sum.inl ((), ((), ((wr Go.IntKind.i64 (addI t16.2.2.1 (1 : Int))), (t16.2.2.2.1, (t16.2.2.2.2.1, (t16.2.2.2.2.2.1, (t16.2.2.2.2.2.2.1, (t16.2.2.2.2.2.2.2.1, (t16.2.2.2.2.2.2.2.2.1, (t16.2.2.2.2.2.2.2.2.2.1, (t16.2.2.2.2.2.2.2.2.2.2.1, ())))))))))))))) fun q17 => noS q17) else (some (Sum.inr (Sum.inl ((), ((), (s0.2.2.2.1, (s0.2.2.2.2.1, (s0.2.2.2.2.2.1, (s0.2.2.2.2.2.2.1, (s0.2.2.2.2.2.2.2.1, (s0.2.2.2.2.2.2.2.2.1, (s0.2.2.2.2.2.2.2.2.2.1, (s0.2.2.2.2.2.2.2.2.2.2.1, ()))))))))))))))
theorem le_ref27_least_l0 (n : Nat) (s0 : (Unit × Unit × Int × Int × Int × List T × List T × Int × Int × T × T × Unit)) : Le (v_ref27_least_l0 n s0) (u_ref27_least_l0 s0) := by
  unfold v_ref27_least_l0 u_ref27_least_l0
  repeat' first
    | with_reducible refine le_cond ?_ ?_
    | with_reducible refine le_onS (fun _ => ?_) fun _ => ?_
    | with_reducible refine le_ob ?_ fun _ => ?_
    | with_reducible refine le_both ?_ ?_
    | with_reducible exact le_rfl
    | with_reducible exact le_loop (fun s => le_ref27_least_l1 n s) _ _
noncomputable def v_ref27_least (n : Nat) (t : (Int × (Int × ((List T) × ((List T) × Unit))))) : Option (Int × (Int × ((List T) × ((List T) × Unit)))) :=
  (ob (iter (v_ref27_least_l0 n) n ((), ((), ((0 : Int), (t.1, (t.2.1, (t.2.2.1, (t.2.2.2.1, ((0 : Int), ((0 : Int), ((T.v (Go.Value.slice (Option.none) 0 0)), ((T.v (Go.Value.slice (Option.none) 0 0)), ())))))))))))) fun q18 => onS q18 (fun t19 => (some (t19.2.2.1, (t19.2.2.2.1, (t19.2.2.2.2.1, (t19.2.2.2.2.2.1, ())))))) fun q20 => noS q20)
theorem le_ref27_least (n : Nat) (t : (Int × (Int × ((List T) × ((List T) × Unit))))) : Le (v_ref27_least n t) (u_ref27_least t) := by
  unfold v_ref27_least u_ref27_least
  repeat' first
    | with_reducible refine le_cond ?_ ?_
    | with_reducible refine le_onS (fun _ => ?_) fun _ => ?_
    | with_reducible refine le_ob ?_ fun _ => ?_
    | with_reducible refine le_both ?_ ?_
    | with_reducible exact le_rfl
    | with_reducible exact le_loop (fun s => le_ref27_least_l0 n s) _ _
noncomputable def v_topology_mate (n : Nat) (t : (Int × Unit)) : Option (Int × Unit) :=
  (some ((bitI Go.BinOp.xor Go.IntKind.i64 t.1 (1 : Int)), ()))
theorem le_topology_mate (n : Nat) (t : (Int × Unit)) : Le (v_topology_mate n t) (u_topology_mate t) := by
  unfold v_topology_mate u_topology_mate
  repeat' first
    | with_reducible refine le_cond ?_ ?_
    | with_reducible refine le_onS (fun _ => ?_) fun _ => ?_
    | with_reducible refine le_ob ?_ fun _ => ?_
    | with_reducible refine le_both ?_ ?_
    | with_reducible exact le_rfl
noncomputable def v_topology_index (n : Nat) (t : (Int × (Int × Unit))) : Option (Bool × Unit) :=
  (bif (leI (0 : Int) t.1) then (some ((ltI t.1 t.2.1), ())) else (some (Bool.false, ())))
theorem le_topology_index (n : Nat) (t : (Int × (Int × Unit))) : Le (v_topology_index n t) (u_topology_index t) := by
  unfold v_topology_index u_topology_index
  repeat' first
    | with_reducible refine le_cond ?_ ?_
    | with_reducible refine le_onS (fun _ => ?_) fun _ => ?_
    | with_reducible refine le_ob ?_ fun _ => ?_
    | with_reducible refine le_both ?_ ?_
    | with_reducible exact le_rfl
noncomputable def v_topology_halves_l0 (n : Nat) (s0 : (Unit × Int × List T × Int × Int × Int × Int × List T × List T × Unit)) : Option ((Unit × Int × List T × Int × Int × Int × Int × List T × List T × Unit) ⊕ ((Bool × Unit) ⊕ ((Unit) ⊕ Empty))) :=
  (bif (ltI s0.2.2.2.2.1 s0.2.2.2.1) then (ob (idxL s0.2.2.1 s0.2.2.2.2.1) fun x1 => (ob (T.int? Go.IntKind.i64 (T.cell x1 0)) fun x2 => (ob (v_topology_index n (x2, (s0.2.2.2.2.2.1, ()))) fun x3 => (bif (Bool.not x3.1) then (some (Sum.inr (Sum.inl (Bool.false, ())))) else (ob (T.int? Go.IntKind.i64 (T.cell x1 1)) fun x4 => (ob (v_topology_index n (x4, (s0.2.1, ()))) fun x5 => (bif (Bool.not x5.1) then (some (Sum.inr (Sum.inl (Bool.false, ())))) else (ob (T.int? Go.IntKind.i64 (T.cell x1 2)) fun x6 => (ob (v_topology_index n (x6, (s0.2.1, ()))) fun x7 => (bif (Bool.not x7.1) then (some (Sum.inr (Sum.inl (Bool.false, ())))) else (ob (T.int? Go.IntKind.i64 (T.cell x1 3)) fun x8 => (ob (v_topology_index n (x8, ((lenL s0.2.2.2.2.2.2.2.2.1), ()))) fun x9 => (bif (Bool.not x9.1) then (some (Sum.inr (Sum.inl (Bool.false, ())))) else (ob (T.anyInt? (T.cell x1 1)) fun x10 => (ob (idxL s0.2.2.2.2.2.2.2.1 x10) fun x11 => (ob (T.int? Go.IntKind.i64 (T.cell x11 2)) fun x12 => (bif (Bool.not (eqI x12 s0.2.2.2.2.1)) then (some (Sum.inr (Sum.inl (Bool.false, ())))) else (ob (T.anyInt? (T.cell x1 2)) fun x13 => (ob (idxL s0.2.2.2.2.2.2.2.1 x13) fun x14 => (ob (T.int? Go.IntKind.i64 (T.cell x14 1)) fun x15 => (bif (Bool.not (eqI x15 s0.2.2.2.2.1)) then (some (Sum.inr (Sum.inl (Bool.false, ())))) else (ob (T.int? Go.IntKind.i64 (T.cell x11 3)) fun x16 => (ob (T.int? Go.IntKind.i64 (T.cell x1 3)) fun x17 => (bif (Bool.not (eqI x16 x17)) then (some (Sum.inr (Sum.inl (Bool.false, ())))) else (ob (v_topology_mate n (s0.2.2.2.2.1, ())) fun x18 => (ob (idxL s0.2.2.2.2.2.2.2.1 x18.1) fun x19 => (ob (T.int? Go.IntKind.i64 (T.cell x11 0)) fun x20 => (ob (T.int? Go.IntKind.i64 (T.cell x19 0)) fun x21 => (bif (Bool.not (eqI x20 x21)) then (some (Sum.inr (Sum.inl (Bool.false, ())))) else (some (Sum.inl ((), (s0.2.1, (s0.2.2.1, (s0.2.2.2.1, ((wr Go.IntKind.i64 (addI s0.2.2.2.2.1 (1 : Int))), (s0.2.2.2.2.2.1, (s0.2.2.2.2.2.2.1, (s0.2.2.2.2.2.2.2.1, (s0.2.2.2.2.2.2.2.2.1, ())))))))))))))))))))))))))))))))))))))))) else (some (Sum.inr (Sum.inr (Sum.inl ())))))
theorem le_topology_halves_l0 (n : Nat) (s0 : (Unit × Int × List T × Int × Int × Int × Int × List T × List T × Unit)) : Le (v_topology_halves_l0 n s0) (u_topology_halves_l0 s0) := by
  unfold v_topology_halves_l0 u_topology_halves_l0
  repeat' first
    | with_reducible refine le_cond ?_ ?_
    | with_reducible refine le_onS (fun _ => ?_) fun _ => ?_
    | with_reducible refine le_ob ?_ fun _ => ?_
    | with_reducible refine le_both ?_ ?_
    | with_reducible exact le_rfl
    | with_reducible exact le_topology_index n _
    | with_reducible exact le_topology_mate n _
noncomputable def v_topology_halves (n : Nat) (t : (Int × (Int × ((List T) × ((List T) × Unit))))) : Option (Bool × Unit) :=
  (ob (iter (v_topology_halves_l0 n) n ((), ((lenL t.2.2.1), (t.2.2.1, ((lenL t.2.2.1), ((0 : Int), (t.1, (t.2.1, (t.2.2.1, (t.2.2.2.1, ())))))))))) fun q22 => onS q22 (fun t23 => (some (t23.1, ()))) fun q24 => onS q24 (fun t25 => (some (Bool.true, ()))) fun q26 => noS q26)
theorem le_topology_halves (n : Nat) (t : (Int × (Int × ((List T) × ((List T) × Unit))))) : Le (v_topology_halves n t) (u_topology_halves t) := by
  unfold v_topology_halves u_topology_halves
  repeat' first
    | with_reducible refine le_cond ?_ ?_
    | with_reducible refine le_onS (fun _ => ?_) fun _ => ?_
    | with_reducible refine le_ob ?_ fun _ => ?_
    | with_reducible refine le_both ?_ ?_
    | with_reducible exact le_rfl
    | with_reducible exact le_loop (fun s => le_topology_halves_l0 n s) _ _
noncomputable def v_topology_rings_l0 (n : Nat) (s1 : (Unit × List T × List T × Int × Int × Int × Int × List T × List T × Unit)) : Option ((Unit × List T × List T × Int × Int × Int × Int × List T × List T × Unit) ⊕ ((Unit × List T × Int × Int × List T × List T × Unit) ⊕ Empty)) :=
  (bif (ltI s1.2.2.2.2.1 s1.2.2.2.1) then (ob (idxL s1.2.2.1 s1.2.2.2.2.1) fun x2 => (ob (T.anyInt? (T.cell x2 3)) fun x3 => (ob (chkI (lenL s1.2.1) x3) fun x4 => (ob (idxN s1.2.1 x4) fun x5 => (ob (T.int? Go.IntKind.i64 (T.cell x5 0)) fun x6 => (ob (T.anyInt? (T.cell x2 3)) fun x7 => (ob (chkI (lenL s1.2.1) x7) fun x8 => (ob (idxN s1.2.1 x8) fun x9 => (some (Sum.inl ((), ((List.set s1.2.1 x8 (T.upd 1 x9 0 [(T.v (Go.Value.int Go.IntKind.i64 (wr Go.IntKind.i64 (addI x6 (1 : Int)))))])), (s1.2.2.1, (s1.2.2.2.1, ((wr Go.IntKind.i64 (addI s1.2.2.2.2.1 (1 : Int))), (s1.2.2.2.2.2.1, (s1.2.2.2.2.2.2.1, (s1.2.2.2.2.2.2.2.1, (s1.2.2.2.2.2.2.2.2.1, ()))))))))))))))))))) else (some (Sum.inr (Sum.inl ((), (s1.2.1, (s1.2.2.2.2.2.1, (s1.2.2.2.2.2.2.1, (s1.2.2.2.2.2.2.2.1, (s1.2.2.2.2.2.2.2.2.1, ()))))))))))
theorem le_topology_rings_l0 (n : Nat) (s1 : (Unit × List T × List T × Int × Int × Int × Int × List T × List T × Unit)) : Le (v_topology_rings_l0 n s1) (u_topology_rings_l0 s1) := by
  unfold v_topology_rings_l0 u_topology_rings_l0
  repeat' first
    | with_reducible refine le_cond ?_ ?_
    | with_reducible refine le_onS (fun _ => ?_) fun _ => ?_
    | with_reducible refine le_ob ?_ fun _ => ?_
    | with_reducible refine le_both ?_ ?_
    | with_reducible exact le_rfl
noncomputable def v_topology_rings_l2 (n : Nat) (s31 : (Unit × List T × List T × Int × Unit × Int × T × List T × Int × Int × Int × Int × List T × List T × T × T × T × Unit)) : Option ((Unit × List T × List T × Int × Unit × Int × T × List T × Int × Int × Int × Int × List T × List T × T × T × T × Unit) ⊕ ((Unit × List T × List T × Int × Int × List T × Int × Int × Int × Int × List T × List T × Unit) ⊕ Empty)) :=
  (ob (T.int? Go.IntKind.i64 s31.2.2.2.2.2.2.1) fun x32 => (ob (T.int? Go.IntKind.i64 s31.2.2.2.2.2.2.2.2.2.2.2.2.2.2.1) fun x33 => (bif (Bool.not (eqI x32 x33)) then (ob (T.anyInt? s31.2.2.2.2.2.2.1) fun x34 => (ob (idxL s31.2.2.2.2.2.2.2.2.2.2.2.2.1 x34) fun x35 => (some (Sum.inl ((), (s31.2.1, (s31.2.2.1, (s31.2.2.2.1, ((), ((wr Go.IntKind.i64 (addI s31.2.2.2.2.2.1 (1 : Int))), ((T.cell x35 1), (s31.2.2.2.2.2.2.2.1, (s31.2.2.2.2.2.2.2.2.1, (s31.2.2.2.2.2.2.2.2.2.1, (s31.2.2.2.2.2.2.2.2.2.2.1, (s31.2.2.2.2.2.2.2.2.2.2.2.1, (s31.2.2.2.2.2.2.2.2.2.2.2.2.1, (s31.2.2.2.2.2.2.2.2.2.2.2.2.2.1, (s31.2.2.2.2.2.2.2.2.2.2.2.2.2.2.1, (s31.2.2.2.2.2.2.2.2.2.2.2.2.2.2.2.1, (s31.2.2.2.2.2.2.2.2.2.2.2.2.2.2.2.2.1, ()))))))))))))))))))))) else (some (Sum.inr (Sum.inl ((), (s31.2.1, (s31.2.2.1, (s31.2.2.2.1, (s31.2.2.2.2.2.1, (s31.2.2.2.2.2.2.2.1, (s31.2.2.2.2.2.2.2.2.1, (s31.2.2.2.2.2.2.2.2.2.1, (s31.2.2.2.2.2.2.2.2.2.2.1, (s31.2.2.2.2.2.2.2.2.2.2.2.1, (s31.2.2.2.2.2.2.2.2.2.2.2.2.1, (s31.2.2.2.2.2.2.2.2.2.2.2.2.2.1, ()))))))))))))))))))
theorem le_topology_rings_l2 (n : Nat) (s31 : (Unit × List T × List T × Int × Unit × Int × T × List T × Int × Int × Int × Int × List T × List T × T × T × T × Unit)) : Le (v_topology_rings_l2 n s31) (u_topology_rings_l2 s31) := by
  unfold v_topology_rings_l2 u_topology_rings_l2
  repeat' first
    | with_reducible refine le_cond ?_ ?_
    | with_reducible refine le_onS (fun _ => ?_) fun _ => ?_
    | with_reducible refine le_ob ?_ fun _ => ?_
    | with_reducible refine le_both ?_ ?_
    | with_reducible exact le_rfl
noncomputable def v_topology_rings_l1 (n : Nat) (s12 : (Unit × List T × List T × List T × Int × Int × Int × Int × List T × List T × Unit)) : Option ((Unit × List T × List T × List T × Int × Int × Int × Int × List T × List T × Unit) ⊕ ((Bool × Unit) ⊕ ((Unit × List T × Int × Int × List T × List T × Unit) ⊕ Empty))) :=
  (bif (ltI s12.2.2.2.2.2.1 s12.2.2.2.2.1) then (ob (α := ((Bool × Unit) ⊕ ((Unit × List T × List T × List T × Int × Int × Int × Int × List T × List T × Unit) ⊕ Empty))) (ob (idxL s12.2.2.2.1 s12.2.2.2.2.2.1) fun x13 => (ob (T.int? Go.IntKind.i64 (T.cell x13 2)) fun x14 => (ob (v_topology_index n (x14, (s12.2.2.2.2.2.2.2.1, ()))) fun x15 => (bif (Bool.not x15.1) then (some (Sum.inl (Bool.false, ()))) else (ob (T.int? Go.IntKind.i64 (T.cell x13 2)) fun x16 => (ob (T.int? Go.IntKind.i64 (T.cell x13 0)) fun x17 => (bif (eqI x17 (-1 : Int)) then (ob (T.int? Go.IntKind.i64 (T.cell x13 1)) fun x18 => (ob (v_topology_index n (x18, (s12.2.2.2.2.2.2.1, ()))) fun x19 => (bif (Bool.not x19.1) then (some (Sum.inl (Bool.false, ()))) else (ob (chkI (lenL s12.2.1) s12.2.2.2.2.2.1) fun x20 => (ob (idxN s12.2.1 x20) fun x21 => (ob (T.int? Go.IntKind.i64 (T.cell x21 0)) fun x22 => (bif (ltI (0 : Int) x22) then (some (Sum.inl (Bool.false, ()))) else (some (Sum.inr (Sum.inl ((), (s12.2.1, ((mapPut (T.v (Go.Value.int Go.IntKind.i64 x16)) (T.v (Go.Value.bool Bool.true)) s12.2.2.1), (s12.2.2.2.1, (s12.2.2.2.2.1, (s12.2.2.2.2.2.1, (s12.2.2.2.2.2.2.1, (s12.2.2.2.2.2.2.2.1, (s12.2.2.2.2.2.2.2.2.1, (s12.2.2.2.2.2.2.2.2.2.1, ())))))))))))))))))))) else (ob (T.int? Go.IntKind.i64 (T.cell x13 0)) fun x23 => (ob (v_topology_index n (x23, ((lenL s12.2.2.2.2.2.2.2.2.1), ()))) fun x24 => (bif (Bool.not x24.1) then (some (Sum.inl (Bool.false, ()))) else (ob (T.int? Go.IntKind.i64 (T.cell x13 1)) fun x25 => (bif (Bool.not (eqI x25 (-1 : Int))) then (some (Sum.inl (Bool.false, ()))) else (ob (T.anyInt? (T.cell x13 0)) fun x26 => (ob (idxL s12.2.2.2.2.2.2.2.2.1 x26) fun x27 => (ob (T.int? Go.IntKind.i64 (T.cell x27 3)) fun x28 => (bif (Bool.not (eqI x28 s12.2.2.2.2.2.1)) then (some (Sum.inl (Bool.false, ()))) else (ob (T.anyInt? (T.cell x13 0)) fun x29 => (ob (idxL s12.2.2.2.2.2.2.2.2.1 x29) fun x30 => (ob (iter (v_topology_rings_l2 n) n ((), (s12.2.1, ((mapPut (T.v (Go.Value.int Go.IntKind.i64 x16)) (T.v (Go.Value.bool Bool.true)) s12.2.2.1), (s12.2.2.2.2.2.1, ((), ((1 : Int), ((T.cell x30 1), (s12.2.2.2.1, (s12.2.2.2.2.1, (s12.2.2.2.2.2.1, (s12.2.2.2.2.2.2.1, (s12.2.2.2.2.2.2.2.1, (s12.2.2.2.2.2.2.2.2.1, (s12.2.2.2.2.2.2.2.2.2.1, ((T.cell x13 0), ((T.cell x13 1), ((T.cell x13 2), ())))))))))))))))))) fun q36 => onS q36 (fun t37 => (ob (chkI (lenL t37.2.1) t37.2.2.2.1) fun x38 => (ob (idxN t37.2.1 x38) fun x39 => (ob (T.int? Go.IntKind.i64 (T.cell x39 0)) fun x40 => (bif (Bool.not (eqI t37.2.2.2.2.1 x40)) then (some (Sum.inl (Bool.false, ()))) else (some (Sum.inr (Sum.inl ((), (t37.2.1, (t37.2.2.1, (t37.2.2.2.2.2.1, (t37.2.2.2.2.2.2.1, (t37.2.2.2.2.2.2.2.1, (t37.2.2.2.2.2.2.2.2.1, (t37.2.2.2.2.2.2.2.2.2.1, (t37.2.2.2.2.2.2.2.2.2.2.1, (t37.2.2.2.2.2.2.2.2.2.2.2.1, ())))))))))))))))))) fun q41 => noS q41))))))))))))))))))) fun q42 => onS q42 (fun t43 => (some (Sum.inr (Sum.inl (t43.1, ()))))) fun q44 => onS q44 (fun t45 => (some (Sum.inl ((), (t45.2.1, (t45.2.2.1, (t45.2.2.2.1, (t45.2.2.2.2.1, ((wr Go.IntKind.i64 (addI t45.2.2.2.2.2.1 (1 : Int))), (t45.2.2.2.2.2.2.1, (t45.2.2.2.2.2.2.2.1, (t45.2.2.2.2.2.2.2.2.1, (t45.2.2.2.2.2.2.2.2.2.1, ()))))))))))))) fun q46 => noS q46) else (some (Sum.inr (Sum.inr (Sum.inl ((), (s12.2.2.1, (s12.2.2.2.2.2.2.1, (s12.2.2.2.2.2.2.2.1, (s12.2.2.2.2.2.2.2.2.1, (s12.2.2.2.2.2.2.2.2.2.1, ())))))))))))
theorem le_topology_rings_l1 (n : Nat) (s12 : (Unit × List T × List T × List T × Int × Int × Int × Int × List T × List T × Unit)) : Le (v_topology_rings_l1 n s12) (u_topology_rings_l1 s12) := by
  unfold v_topology_rings_l1 u_topology_rings_l1
  repeat' first
    | with_reducible refine le_cond ?_ ?_
    | with_reducible refine le_onS (fun _ => ?_) fun _ => ?_
    | with_reducible refine le_ob ?_ fun _ => ?_
    | with_reducible refine le_both ?_ ?_
    | with_reducible exact le_rfl
    | with_reducible exact le_topology_index n _
    | with_reducible exact le_loop (fun s => le_topology_rings_l2 n s) _ _
noncomputable def v_topology_rings (n : Nat) (t : (Int × (Int × ((List T) × ((List T) × Unit))))) : Option (Bool × Unit) :=
  (ob (mkLen (lenL t.2.2.2.1) (lenL t.2.2.2.1) 8) fun x0 => (ob (iter (v_topology_rings_l0 n) n ((), ((repL x0.1 (T.v (Go.Value.int Go.IntKind.i64 (0 : Int)))), (t.2.2.1, ((lenL t.2.2.1), ((0 : Int), (t.1, (t.2.1, (t.2.2.1, (t.2.2.2.1, ())))))))))) fun q10 => onS q10 (fun t11 => (ob (iter (v_topology_rings_l1 n) n ((), (t11.2.1, ([], (t11.2.2.2.2.2.1, ((lenL t11.2.2.2.2.2.1), ((0 : Int), (t11.2.2.1, (t11.2.2.2.1, (t11.2.2.2.2.1, (t11.2.2.2.2.2.1, ()))))))))))) fun q47 => onS q47 (fun t48 => (some (t48.1, ()))) fun q49 => onS q49 (fun t50 => (some ((eqI (lenL t50.2.1) t50.2.2.2.1), ()))) fun q51 => noS q51)) fun q52 => noS q52))
theorem le_topology_rings (n : Nat) (t : (Int × (Int × ((List T) × ((List T) × Unit))))) : Le (v_topology_rings n t) (u_topology_rings t) := by
  unfold v_topology_rings u_topology_rings
  repeat' first
    | with_reducible refine le_cond ?_ ?_
    | with_reducible refine le_onS (fun _ => ?_) fun _ => ?_
    | with_reducible refine le_ob ?_ fun _ => ?_
    | with_reducible refine le_both ?_ ?_
    | with_reducible exact le_rfl
    | with_reducible exact le_loop (fun s => le_topology_rings_l0 n s) _ _
    | with_reducible exact le_loop (fun s => le_topology_rings_l1 n s) _ _
noncomputable def v_topology_vertices_l0 (n : Nat) (s3 : (Unit × List T × List T × List T × List T × Int × Int × Int × Int × List T × List T × Unit)) : Option ((Unit × List T × List T × List T × List T × Int × Int × Int × Int × List T × List T × Unit) ⊕ ((Unit × List T × List T × List T × Int × Int × List T × List T × Unit) ⊕ Empty)) :=
  (bif (ltI s3.2.2.2.2.2.2.1 s3.2.2.2.2.2.1) then (ob (α := ((Unit × List T × List T × List T × List T × Int × Int × Int × Int × List T × List T × Unit) ⊕ Empty)) (ob (idxL s3.2.2.2.2.1 s3.2.2.2.2.2.2.1) fun x4 => (ob (T.int? Go.IntKind.i64 (T.cell x4 0)) fun x5 => (bif (eqI x5 (-1 : Int)) then (ob (T.anyInt? (T.cell x4 1)) fun x6 => (ob (chkI (lenL s3.2.1) x6) fun x7 => (ob (idxN s3.2.1 x7) fun x8 => (ob (T.int? Go.IntKind.i64 (T.cell x8 0)) fun x9 => (ob (T.anyInt? (T.cell x4 1)) fun x10 => (ob (chkI (lenL s3.2.1) x10) fun x11 => (ob (idxN s3.2.1 x11) fun x12 => (some (Sum.inl ((), ((List.set s3.2.1 x11 (T.upd 1 x12 0 [(T.v (Go.Value.int Go.IntKind.i64 (wr Go.IntKind.i64 (addI x9 (1 : Int)))))])), (s3.2.2.1, (s3.2.2.2.1, (s3.2.2.2.2.1, (s3.2.2.2.2.2.1, (s3.2.2.2.2.2.2.1, (s3.2.2.2.2.2.2.2.1, (s3.2.2.2.2.2.2.2.2.1, (s3.2.2.2.2.2.2.2.2.2.1, (s3.2.2.2.2.2.2.2.2.2.2.1, ())))))))))))))))))))) else (some (Sum.inl ((), (s3.2.1, (s3.2.2.1, (s3.2.2.2.1, (s3.2.2.2.2.1, (s3.2.2.2.2.2.1, (s3.2.2.2.2.2.2.1, (s3.2.2.2.2.2.2.2.1, (s3.2.2.2.2.2.2.2.2.1, (s3.2.2.2.2.2.2.2.2.2.1, (s3.2.2.2.2.2.2.2.2.2.2.1, ())))))))))))))))) fun q13 => onS q13 (fun t14 => (some (Sum.inl ((), (t14.2.1, (t14.2.2.1, (t14.2.2.2.1, (t14.2.2.2.2.1, (t14.2.2.2.2.2.1, ((wr Go.IntKind.i64 (addI t14.2.2.2.2.2.2.1 (1 : Int))), (t14.2.2.2.2.2.2.2.1, (t14.2.2.2.2.2.2.2.2.1, (t14.2.2.2.2.2.2.2.2.2.1, (t14.2.2.2.2.2.2.2.2.2.2.1, ())))))))))))))) fun q15 => noS q15) else (some (Sum.inr (Sum.inl ((), (s3.2.1, (s3.2.2.1, (s3.2.2.2.1, (s3.2.2.2.2.2.2.2.1, (s3.2.2.2.2.2.2.2.2.1, (s3.2.2.2.2.2.2.2.2.2.1, (s3.2.2.2.2.2.2.2.2.2.2.1, ()))))))))))))
theorem le_topology_vertices_l0 (n : Nat) (s3 : (Unit × List T × List T × List T × List T × Int × Int × Int × Int × List T × List T × Unit)) : Le (v_topology_vertices_l0 n s3) (u_topology_vertices_l0 s3) := by
  unfold v_topology_vertices_l0 u_topology_vertices_l0
  repeat' first
    | with_reducible refine le_cond ?_ ?_
    | with_reducible refine le_onS (fun _ => ?_) fun _ => ?_
    | with_reducible refine le_ob ?_ fun _ => ?_
    | with_reducible refine le_both ?_ ?_
    | with_reducible exact le_rfl
noncomputable def v_topology_vertices_l2 (n : Nat) (s18 : (Unit × List T × List T × List T × List T × Int × Int × Int × Int × List T × List T × Unit)) : Option ((Unit × List T × List T × List T × List T × Int × Int × Int × Int × List T × List T × Unit) ⊕ ((Unit × List T × List T × List T × Int × Int × List T × List T × Unit) ⊕ Empty)) :=
  (bif (ltI s18.2.2.2.2.2.2.1 s18.2.2.2.2.2.1) then (ob (idxL s18.2.2.2.2.1 s18.2.2.2.2.2.2.1) fun x19 => (ob (T.anyInt? (T.cell x19 0)) fun x20 => (ob (chkI (lenL s18.2.2.1) x20) fun x21 => (ob (idxN s18.2.2.1 x21) fun x22 => (ob (T.int? Go.IntKind.i64 (T.cell x22 0)) fun x23 => (ob (T.anyInt? (T.cell x19 0)) fun x24 => (ob (chkI (lenL s18.2.2.1) x24) fun x25 => (ob (idxN s18.2.2.1 x25) fun x26 => (ob (T.anyInt? (T.cell x19 0)) fun x27 => (ob (chkI (lenL s18.2.2.2.1) x27) fun x28 => (ob (idxN s18.2.2.2.1 x28) fun x29 => (some (Sum.inl ((), (s18.2.1, ((List.set s18.2.2.1 x25 (T.upd 1 x26 0 [(T.v (Go.Value.int Go.IntKind.i64 (wr Go.IntKind.i64 (addI x23 (1 : Int)))))])), ((List.set s18.2.2.2.1 x28 (T.upd 1 x29 0 [(T.v (Go.Value.int Go.IntKind.i64 s18.2.2.2.2.2.2.1))])), (s18.2.2.2.2.1, (s18.2.2.2.2.2.1, ((wr Go.IntKind.i64 (addI s18.2.2.2.2.2.2.1 (1 : Int))), (s18.2.2.2.2.2.2.2.1, (s18.2.2.2.2.2.2.2.2.1, (s18.2.2.2.2.2.2.2.2.2.1, (s18.2.2.2.2.2.2.2.2.2.2.1, ())))))))))))))))))))))))) else (some (Sum.inr (Sum.inl ((), (s18.2.1, (s18.2.2.1, (s18.2.2.2.1, (s18.2.2.2.2.2.2.2.1, (s18.2.2.2.2.2.2.2.2.1, (s18.2.2.2.2.2.2.2.2.2.1, (s18.2.2.2.2.2.2.2.2.2.2.1, ()))))))))))))
theorem le_topology_vertices_l2 (n : Nat) (s18 : (Unit × List T × List T × List T × List T × Int × Int × Int × Int × List T × List T × Unit)) : Le (v_topology_vertices_l2 n s18) (u_topology_vertices_l2 s18) := by
  unfold v_topology_vertices_l2 u_topology_vertices_l2
  repeat' first
    | with_reducible refine le_cond ?_ ?_
    | with_reducible refine le_onS (fun _ => ?_) fun _ => ?_
    | with_reducible refine le_ob ?_ fun _ => ?_
    | with_reducible refine le_both ?_ ?_
    | with_reducible exact le_rfl
noncomputable def v_topology_vertices_l4 (n : Nat) (s45 : (Unit × List T × List T × List T × Int × Int × Int × Int × Int × Int × Int × List T × List T × Unit)) : Option ((Unit × List T × List T × List T × Int × Int × Int × Int × Int × Int × Int × List T × List T × Unit) ⊕ ((Unit × List T × List T × List T × Int × Int × Int × Int × Int × Int × List T × List T × Unit) ⊕ Empty)) :=
  (ob (chkI (lenL s45.2.2.2.1) s45.2.2.2.2.1) fun x46 => (ob (idxN s45.2.2.2.1 x46) fun x47 => (ob (T.int? Go.IntKind.i64 (T.cell x47 0)) fun x48 => (bif (Bool.not (eqI s45.2.2.2.2.2.2.1 x48)) then (ob (idxL s45.2.2.2.2.2.2.2.2.2.2.2.1 s45.2.2.2.2.2.2.1) fun x49 => (ob (T.int? Go.IntKind.i64 (T.cell x49 2)) fun x50 => (ob (v_topology_mate n (x50, ())) fun x51 => (some (Sum.inl ((), (s45.2.1, (s45.2.2.1, (s45.2.2.2.1, (s45.2.2.2.2.1, ((wr Go.IntKind.i64 (addI s45.2.2.2.2.2.1 (1 : Int))), (x51.1, (s45.2.2.2.2.2.2.2.1, (s45.2.2.2.2.2.2.2.2.1, (s45.2.2.2.2.2.2.2.2.2.1, (s45.2.2.2.2.2.2.2.2.2.2.1, (s45.2.2.2.2.2.2.2.2.2.2.2.1, (s45.2.2.2.2.2.2.2.2.2.2.2.2.1, ())))))))))))))))))) else (some (Sum.inr (Sum.inl ((), (s45.2.1, (s45.2.2.1, (s45.2.2.2.1, (s45.2.2.2.2.1, (s45.2.2.2.2.2.1, (s45.2.2.2.2.2.2.2.1, (s45.2.2.2.2.2.2.2.2.1, (s45.2.2.2.2.2.2.2.2.2.1, (s45.2.2.2.2.2.2.2.2.2.2.1, (s45.2.2.2.2.2.2.2.2.2.2.2.1, (s45.2.2.2.2.2.2.2.2.2.2.2.2.1, ())))))))))))))))))))
theorem le_topology_vertices_l4 (n : Nat) (s45 : (Unit × List T × List T × List T × Int × Int × Int × Int × Int × Int × Int × List T × List T × Unit)) : Le (v_topology_vertices_l4 n s45) (u_topology_vertices_l4 s45) := by
  unfold v_topology_vertices_l4 u_topology_vertices_l4
  repeat' first
    | with_reducible refine le_cond ?_ ?_
    | with_reducible refine le_onS (fun _ => ?_) fun _ => ?_
    | with_reducible refine le_ob ?_ fun _ => ?_
    | with_reducible refine le_both ?_ ?_
    | with_reducible exact le_rfl
    | with_reducible exact le_topology_mate n _
noncomputable def v_topology_vertices_l3 (n : Nat) (s32 : (Unit × List T × List T × List T × Int × Int × Int × Int × List T × List T × Unit)) : Option ((Unit × List T × List T × List T × Int × Int × Int × Int × List T × List T × Unit) ⊕ ((Bool × Unit) ⊕ ((Unit) ⊕ Empty))) :=
  (bif (ltI s32.2.2.2.2.2.1 s32.2.2.2.2.1) then (ob (α := ((Bool × Unit) ⊕ ((Unit × List T × List T × List T × Int × Int × Int × Int × List T × List T × Unit) ⊕ Empty))) (ob (chkI (lenL s32.2.2.1) s32.2.2.2.2.2.1) fun x33 => (ob (idxN s32.2.2.1 x33) fun x34 => (ob (T.int? Go.IntKind.i64 (T.cell x34 0)) fun x35 => (bif (eqI x35 (0 : Int)) then (ob (chkI (lenL s32.2.1) s32.2.2.2.2.2.1) fun x36 => (ob (idxN s32.2.1 x36) fun x37 => (ob (T.int? Go.IntKind.i64 (T.cell x37 0)) fun x38 => (bif (Bool.not (eqI x38 (1 : Int))) then (some (Sum.inl (Bool.false, ()))) else (some (Sum.inr (Sum.inl ((), (s32.2.1, (s32.2.2.1, (s32.2.2.2.1, (s32.2.2.2.2.1, (s32.2.2.2.2.2.1, (s32.2.2.2.2.2.2.1, (s32.2.2.2.2.2.2.2.1, (s32.2.2.2.2.2.2.2.2.1, (s32.2.2.2.2.2.2.2.2.2.1, ()))))))))))))))))) else (ob (chkI (lenL s32.2.2.2.1) s32.2.2.2.2.2.1) fun x39 => (ob (idxN s32.2.2.2.1 x39) fun x40 => (ob (T.anyInt? (T.cell x40 0)) fun x41 => (ob (idxL s32.2.2.2.2.2.2.2.2.1 x41) fun x42 => (ob (T.int? Go.IntKind.i64 (T.cell x42 2)) fun x43 => (ob (v_topology_mate n (x43, ())) fun x44 => (ob (iter (v_topology_vertices_l4 n) n ((), (s32.2.1, (s32.2.2.1, (s32.2.2.2.1, (s32.2.2.2.2.2.1, ((1 : Int), (x44.1, (s32.2.2.2.2.1, (s32.2.2.2.2.2.1, (s32.2.2.2.2.2.2.1, (s32.2.2.2.2.2.2.2.1, (s32.2.2.2.2.2.2.2.2.1, (s32.2.2.2.2.2.2.2.2.2.1, ())))))))))))))) fun q52 => onS q52 (fun t53 => (ob (chkI (lenL t53.2.1) t53.2.2.2.2.1) fun x54 => (ob (idxN t53.2.1 x54) fun x55 => (ob (T.int? Go.IntKind.i64 (T.cell x55 0)) fun x56 => (bif (ltI (0 : Int) x56) then (some (Sum.inl (Bool.false, ()))) else (ob (chkI (lenL t53.2.2.1) t53.2.2.2.2.1) fun x57 => (ob (idxN t53.2.2.1 x57) fun x58 => (ob (T.int? Go.IntKind.i64 (T.cell x58 0)) fun x59 => (bif (Bool.not (eqI t53.2.2.2.2.2.1 x59)) then (some (Sum.inl (Bool.false, ()))) else (some (Sum.inr (Sum.inl ((), (t53.2.1, (t53.2.2.1, (t53.2.2.2.1, (t53.2.2.2.2.2.2.1, (t53.2.2.2.2.2.2.2.1, (t53.2.2.2.2.2.2.2.2.1, (t53.2.2.2.2.2.2.2.2.2.1, (t53.2.2.2.2.2.2.2.2.2.2.1, (t53.2.2.2.2.2.2.2.2.2.2.2.1, ())))))))))))))))))))))) fun q60 => noS q60))))))))))) fun q61 => onS q61 (fun t62 => (some (Sum.inr (Sum.inl (t62.1, ()))))) fun q63 => onS q63 (fun t64 => (some (Sum.inl ((), (t64.2.1, (t64.2.2.1, (t64.2.2.2.1, (t64.2.2.2.2.1, ((wr Go.IntKind.i64 (addI t64.2.2.2.2.2.1 (1 : Int))), (t64.2.2.2.2.2.2.1, (t64.2.2.2.2.2.2.2.1, (t64.2.2.2.2.2.2.2.2.1, (t64.2.2.2.2.2.2.2.2.2.1, ()))))))))))))) fun q65 => noS q65) else (some (Sum.inr (Sum.inr (Sum.inl ())))))
theorem le_topology_vertices_l3 (n : Nat) (s32 : (Unit × List T × List T × List T × Int × Int × Int × Int × List T × List T × Unit)) : Le (v_topology_vertices_l3 n s32) (u_topology_vertices_l3 s32) := by
  unfold v_topology_vertices_l3 u_topology_vertices_l3
  repeat' first
    | with_reducible refine le_cond ?_ ?_
    | with_reducible refine le_onS (fun _ => ?_) fun _ => ?_
    | with_reducible refine le_ob ?_ fun _ => ?_
    | with_reducible refine le_both ?_ ?_
    | with_reducible exact le_rfl
    | with_reducible exact le_topology_mate n _
    | with_reducible exact le_loop (fun s => le_topology_vertices_l4 n s) _ _
noncomputable def v_topology_vertices (n : Nat) (t : (Int × (Int × ((List T) × ((List T) × Unit))))) : Option (Bool × Unit) :=
  (ob (mkLen t.1 t.1 8) fun x0 => (ob (mkLen t.1 t.1 8) fun x1 => (ob (mkLen t.1 t.1 8) fun x2 => (ob (iter (v_topology_vertices_l0 n) n ((), ((repL x0.1 (T.v (Go.Value.int Go.IntKind.i64 (0 : Int)))), ((repL x1.1 (T.v (Go.Value.int Go.IntKind.i64 (0 : Int)))), ((repL x2.1 (T.v (Go.Value.int Go.IntKind.i64 (0 : Int)))), (t.2.2.2.1, ((lenL t.2.2.2.1), ((0 : Int), (t.1, (t.2.1, (t.2.2.1, (t.2.2.2.1, ())))))))))))) fun q16 => onS q16 (fun t17 => (ob (iter (v_topology_vertices_l2 n) n ((), (t17.2.1, (t17.2.2.1, (t17.2.2.2.1, (t17.2.2.2.2.2.2.1, ((lenL t17.2.2.2.2.2.2.1), ((0 : Int), (t17.2.2.2.2.1, (t17.2.2.2.2.2.1, (t17.2.2.2.2.2.2.1, (t17.2.2.2.2.2.2.2.1, ())))))))))))) fun q30 => onS q30 (fun t31 => (ob (iter (v_topology_vertices_l3 n) n ((), (t31.2.1, (t31.2.2.1, (t31.2.2.2.1, (t31.2.2.2.2.1, ((0 : Int), (t31.2.2.2.2.1, (t31.2.2.2.2.2.1, (t31.2.2.2.2.2.2.1, (t31.2.2.2.2.2.2.2.1, ()))))))))))) fun q66 => onS q66 (fun t67 => (some (t67.1, ()))) fun q68 => onS q68 (fun t69 => (some (Bool.true, ()))) fun q70 => noS q70)) fun q71 => noS q71)) fun q72 => noS q72))))
theorem le_topology_vertices (n : Nat) (t : (Int × (Int × ((List T) × ((List T) × Unit))))) : Le (v_topology_vertices n t) (u_topology_vertices t) := by
  unfold v_topology_vertices u_topology_vertices
  repeat' first
    | with_reducible refine le_cond ?_ ?_
    | with_reducible refine le_onS (fun _ => ?_) fun _ => ?_
    | with_reducible refine le_ob ?_ fun _ => ?_
    | with_reducible refine le_both ?_ ?_
    | with_reducible exact le_rfl
    | with_reducible exact le_loop (fun s => le_topology_vertices_l0 n s) _ _
    | with_reducible exact le_loop (fun s => le_topology_vertices_l2 n s) _ _
    | with_reducible exact le_loop (fun s => le_topology_vertices_l3 n s) _ _
noncomputable def v_topology_Check (n : Nat) (t : (Int × (Int × ((List T) × ((List T) × Unit))))) : Option (Bool × Unit) :=
  (bif (ltI (256 : Int) (lenL t.2.2.1)) then (some (Bool.false, ())) else (bif (eqI (modI (lenL t.2.2.1) (2 : Int)) (1 : Int)) then (some (Bool.false, ())) else (bif (ltI t.1 (1 : Int)) then (some (Bool.false, ())) else (bif (ltI (257 : Int) t.1) then (some (Bool.false, ())) else (bif (ltI t.2.1 (1 : Int)) then (some (Bool.false, ())) else (bif (ltI (257 : Int) t.2.1) then (some (Bool.false, ())) else (bif (ltI (257 : Int) (lenL t.2.2.2.1)) then (some (Bool.false, ())) else (ob (v_topology_halves n (t.1, (t.2.1, (t.2.2.1, (t.2.2.2.1, ()))))) fun x0 => (bif x0.1 then (ob (v_topology_rings n (t.1, (t.2.1, (t.2.2.1, (t.2.2.2.1, ()))))) fun x1 => (bif x1.1 then (ob (v_topology_vertices n (t.1, (t.2.1, (t.2.2.1, (t.2.2.2.1, ()))))) fun x2 => (some (x2.1, ()))) else (some (Bool.false, ())))) else (some (Bool.false, ())))))))))))
theorem le_topology_Check (n : Nat) (t : (Int × (Int × ((List T) × ((List T) × Unit))))) : Le (v_topology_Check n t) (u_topology_Check t) := by
  unfold v_topology_Check u_topology_Check
  repeat' first
    | with_reducible refine le_cond ?_ ?_
    | with_reducible refine le_onS (fun _ => ?_) fun _ => ?_
    | with_reducible refine le_ob ?_ fun _ => ?_
    | with_reducible refine le_both ?_ ?_
    | with_reducible exact le_rfl
    | with_reducible exact le_topology_halves n _
    | with_reducible exact le_topology_rings n _
    | with_reducible exact le_topology_vertices n _
noncomputable def v_topology_Shells_l0 (n : Nat) (s2 : (Unit × List (List T) × List T × Int × Int × Int × Int × List T × List T × Unit)) : Option ((Unit × List (List T) × List T × Int × Int × Int × Int × List T × List T × Unit) ⊕ ((Unit × List T × Int × Int × List T × List T × Unit) ⊕ Empty)) :=
  (bif (ltI s2.2.2.2.2.1 s2.2.2.2.1) then (ob (idxL s2.2.2.1 s2.2.2.2.2.1) fun x3 => (ob (T.anyInt? (T.cell x3 3)) fun x4 => (ob (idxL s2.2.2.2.2.2.2.2.2.1 x4) fun x5 => (ob (v_topology_mate n (s2.2.2.2.2.1, ())) fun x6 => (ob (idxL s2.2.2.2.2.2.2.2.1 x6.1) fun x7 => (ob (T.anyInt? (T.cell x7 3)) fun x8 => (ob (idxL s2.2.2.2.2.2.2.2.2.1 x8) fun x9 => (ob (T.anyInt? (T.cell x5 2)) fun x10 => (ob (chkI (lenL s2.2.1) x10) fun x11 => (ob (idxN s2.2.1 x11) fun x12 => (ob (T.int? Go.IntKind.i64 (T.cell x9 2)) fun x13 => (ob (idxN s2.2.1 x11) fun x14 => (ob (room x14 [(T.v (Go.Value.int Go.IntKind.i64 x13))] 8) fun x15 => (ob (T.anyInt? (T.cell x5 2)) fun x16 => (ob (chkI (lenL (List.set s2.2.1 x11 x15)) x16) fun x17 => (ob (eqN x17 x11) fun x18 => (ob (eqN x11 x17) fun x19 => (ob (idxN (List.set s2.2.1 x11 x15) x17) fun x20 => (some (Sum.inl ((), ((List.set s2.2.1 x11 x15), (s2.2.2.1, (s2.2.2.2.1, ((wr Go.IntKind.i64 (addI s2.2.2.2.2.1 (1 : Int))), (s2.2.2.2.2.2.1, (s2.2.2.2.2.2.2.1, (s2.2.2.2.2.2.2.2.1, (s2.2.2.2.2.2.2.2.2.1, ()))))))))))))))))))))))))))))) else (some (Sum.inr (Sum.inl ((), ((rowsT 1 s2.2.1), (s2.2.2.2.2.2.1, (s2.2.2.2.2.2.2.1, (s2.2.2.2.2.2.2.2.1, (s2.2.2.2.2.2.2.2.2.1, ()))))))))))
theorem le_topology_Shells_l0 (n : Nat) (s2 : (Unit × List (List T) × List T × Int × Int × Int × Int × List T × List T × Unit)) : Le (v_topology_Shells_l0 n s2) (u_topology_Shells_l0 s2) := by
  unfold v_topology_Shells_l0 u_topology_Shells_l0
  repeat' first
    | with_reducible refine le_cond ?_ ?_
    | with_reducible refine le_onS (fun _ => ?_) fun _ => ?_
    | with_reducible refine le_ob ?_ fun _ => ?_
    | with_reducible refine le_both ?_ ?_
    | with_reducible exact le_rfl
    | with_reducible exact le_topology_mate n _
noncomputable def v_topology_Shells_l1 (n : Nat) (s24 : (List T × List T × Int × Int × Unit)) : Option ((List T × List T × Int × Int × Unit) ⊕ ((List T × List T × Unit) ⊕ Empty)) :=
  (bif (ltI s24.2.2.2.1 s24.2.2.1) then (ob (chkI (lenL s24.2.1) s24.2.2.2.1) fun x25 => (ob (idxN s24.2.1 x25) fun x26 => (some (Sum.inl (s24.1, ((List.set s24.2.1 x25 (T.upd 1 x26 0 [(T.v (Go.Value.int Go.IntKind.i64 (-1 : Int)))])), (s24.2.2.1, ((wr Go.IntKind.i64 (addI s24.2.2.2.1 (1 : Int))), ())))))))) else (some (Sum.inr (Sum.inl (s24.1, (s24.2.1, ()))))))
theorem le_topology_Shells_l1 (n : Nat) (s24 : (List T × List T × Int × Int × Unit)) : Le (v_topology_Shells_l1 n s24) (u_topology_Shells_l1 s24) := by
  unfold v_topology_Shells_l1 u_topology_Shells_l1
  repeat' first
    | with_reducible refine le_cond ?_ ?_
    | with_reducible refine le_onS (fun _ => ?_) fun _ => ?_
    | with_reducible refine le_ob ?_ fun _ => ?_
    | with_reducible refine le_both ?_ ?_
    | with_reducible exact le_rfl
noncomputable def v_topology_Shells_l3 (n : Nat) (s33 : (List T × List T × Int × List T × Int × Int × Unit)) : Option ((List T × List T × Int × List T × Int × Int × Unit) ⊕ ((List T × List T × Int × Int × Int × Unit) ⊕ Empty)) :=
  (bif (ltI (0 : Int) (lenL s33.2.2.2.1)) then (ob (chkI (lenL s33.2.2.2.1) (0 : Int)) fun x34 => (ob (idxN s33.2.2.2.1 x34) fun x35 => (ob (cutI (lenL s33.2.2.2.1) (1 : Int) (lenL s33.2.2.2.1)) fun x36 => (ob (T.anyInt? (T.cell x35 0)) fun x37 => (ob (chkI (lenL s33.2.1) x37) fun x38 => (ob (idxN s33.2.1 x38) fun x39 => (ob (T.int? Go.IntKind.i64 (T.cell x39 0)) fun x40 => (bif (ltI x40 (0 : Int)) then (ob (T.anyInt? (T.cell x35 0)) fun x41 => (ob (chkI (lenL s33.2.1) x41) fun x42 => (ob (idxN s33.2.1 x42) fun x43 => (ob (T.anyInt? (T.cell x35 0)) fun x44 => (ob (idxL s33.1 x44) fun x45 => (ob (T.rw? 1 (T.cell x45 0)) fun x46 => (ob (room (cutN s33.2.2.2.1 x36.1 x36.2) x46 8) fun x47 => (some (Sum.inl (s33.1, ((List.set s33.2.1 x42 (T.upd 1 x43 0 [(T.v (Go.Value.int Go.IntKind.i64 s33.2.2.1))])), (s33.2.2.1, (x47, (s33.2.2.2.2.1, (s33.2.2.2.2.2.1, ()))))))))))))))) else (some (Sum.inl (s33.1, (s33.2.1, (s33.2.2.1, ((cutN s33.2.2.2.1 x36.1 x36.2), (s33.2.2.2.2.1, (s33.2.2.2.2.2.1, ())))))))))))))))) else (some (Sum.inr (Sum.inl (s33.1, (s33.2.1, (s33.2.2.1, (s33.2.2.2.2.1, (s33.2.2.2.2.2.1, ())))))))))
theorem le_topology_Shells_l3 (n : Nat) (s33 : (List T × List T × Int × List T × Int × Int × Unit)) : Le (v_topology_Shells_l3 n s33) (u_topology_Shells_l3 s33) := by
  unfold v_topology_Shells_l3 u_topology_Shells_l3
  repeat' first
    | with_reducible refine le_cond ?_ ?_
    | with_reducible refine le_onS (fun _ => ?_) fun _ => ?_
    | with_reducible refine le_ob ?_ fun _ => ?_
    | with_reducible refine le_both ?_ ?_
    | with_reducible exact le_rfl
noncomputable def v_topology_Shells_l2 (n : Nat) (s29 : (List T × List T × Int × Int × Int × Unit)) : Option ((List T × List T × Int × Int × Int × Unit) ⊕ ((List T × Unit) ⊕ Empty)) :=
  (bif (ltI s29.2.2.2.2.1 s29.2.2.2.1) then (ob (α := ((List T × List T × Int × Int × Int × Unit) ⊕ Empty)) (ob (chkI (lenL s29.2.1) s29.2.2.2.2.1) fun x30 => (ob (idxN s29.2.1 x30) fun x31 => (ob (T.int? Go.IntKind.i64 (T.cell x31 0)) fun x32 => (bif (leI (0 : Int) x32) then (some (Sum.inl (s29.1, (s29.2.1, (s29.2.2.1, (s29.2.2.2.1, (s29.2.2.2.2.1, ()))))))) else (ob (iter (v_topology_Shells_l3 n) n (s29.1, (s29.2.1, (s29.2.2.1, ([(T.v (Go.Value.int Go.IntKind.i64 s29.2.2.2.2.1))], (s29.2.2.2.1, (s29.2.2.2.2.1, ()))))))) fun q48 => onS q48 (fun t49 => (some (Sum.inl (t49.1, (t49.2.1, ((wr Go.IntKind.i64 (addI t49.2.2.1 (1 : Int))), (t49.2.2.2.1, (t49.2.2.2.2.1, ())))))))) fun q50 => noS q50))))) fun q51 => onS q51 (fun t52 => (some (Sum.inl (t52.1, (t52.2.1, (t52.2.2.1, (t52.2.2.2.1, ((wr Go.IntKind.i64 (addI t52.2.2.2.2.1 (1 : Int))), ())))))))) fun q53 => noS q53) else (some (Sum.inr (Sum.inl (s29.2.1, ())))))
theorem le_topology_Shells_l2 (n : Nat) (s29 : (List T × List T × Int × Int × Int × Unit)) : Le (v_topology_Shells_l2 n s29) (u_topology_Shells_l2 s29) := by
  unfold v_topology_Shells_l2 u_topology_Shells_l2
  repeat' first
    | with_reducible refine le_cond ?_ ?_
    | with_reducible refine le_onS (fun _ => ?_) fun _ => ?_
    | with_reducible refine le_ob ?_ fun _ => ?_
    | with_reducible refine le_both ?_ ?_
    | with_reducible exact le_rfl
    | with_reducible exact le_loop (fun s => le_topology_Shells_l3 n s) _ _
noncomputable def v_topology_Shells (n : Nat) (t : (Int × (Int × ((List T) × ((List T) × Unit))))) : Option ((List T) × Unit) :=
  (ob (v_topology_Check n (t.1, (t.2.1, (t.2.2.1, (t.2.2.2.1, ()))))) fun x0 => (bif (Bool.not x0.1) then (some ([], ())) else (ob (mkLen t.2.1 t.2.1 24) fun x1 => (ob (iter (v_topology_Shells_l0 n) n ((), ((repL x1.1 []), (t.2.2.1, ((lenL t.2.2.1), ((0 : Int), (t.1, (t.2.1, (t.2.2.1, (t.2.2.2.1, ())))))))))) fun q21 => onS q21 (fun t22 => (ob (mkLen t22.2.2.2.1 t22.2.2.2.1 8) fun x23 => (ob (iter (v_topology_Shells_l1 n) n (t22.2.1, ((repL x23.1 (T.v (Go.Value.int Go.IntKind.i64 (0 : Int)))), ((lenL (repL x23.1 (T.v (Go.Value.int Go.IntKind.i64 (0 : Int))))), ((0 : Int), ()))))) fun q27 => onS q27 (fun t28 => (ob (iter (v_topology_Shells_l2 n) n (t28.1, (t28.2.1, ((0 : Int), ((lenL t28.2.1), ((0 : Int), ())))))) fun q54 => onS q54 (fun t55 => (some (t55.1, ()))) fun q56 => noS q56)) fun q57 => noS q57))) fun q58 => noS q58))))
theorem le_topology_Shells (n : Nat) (t : (Int × (Int × ((List T) × ((List T) × Unit))))) : Le (v_topology_Shells n t) (u_topology_Shells t) := by
  unfold v_topology_Shells u_topology_Shells
  repeat' first
    | with_reducible refine le_cond ?_ ?_
    | with_reducible refine le_onS (fun _ => ?_) fun _ => ?_
    | with_reducible refine le_ob ?_ fun _ => ?_
    | with_reducible refine le_both ?_ ?_
    | with_reducible exact le_rfl
    | with_reducible exact le_topology_Check n _
    | with_reducible exact le_loop (fun s => le_topology_Shells_l0 n s) _ _
    | with_reducible exact le_loop (fun s => le_topology_Shells_l1 n s) _ _
    | with_reducible exact le_loop (fun s => le_topology_Shells_l2 n s) _ _
noncomputable def v_topology_Count_l0 (n : Nat) (s2 : (Unit × Unit × List T × Int × Int × Int × Int × Int × Int × Int × Int × Int × Int × Int × Int × Int × Int × Unit)) : Option ((Unit × Unit × List T × Int × Int × Int × Int × Int × Int × Int × Int × Int × Int × Int × Int × Int × Int × Unit) ⊕ ((Unit × Unit × Int × Int × Int × Int × Int × Int × Int × Int × Int × Int × Int × Int × Unit) ⊕ Empty)) :=
  (bif (ltI s2.2.2.2.2.1 s2.2.2.2.1) then (ob (idxL s2.2.2.1 s2.2.2.2.2.1) fun x3 => (ob (T.int? Go.IntKind.i64 (T.cell x3 0)) fun x4 => (some (Sum.inl ((), ((), (s2.2.2.1, (s2.2.2.2.1, ((wr Go.IntKind.i64 (addI s2.2.2.2.2.1 (1 : Int))), (s2.2.2.2.2.2.1, (s2.2.2.2.2.2.2.1, (s2.2.2.2.2.2.2.2.1, (s2.2.2.2.2.2.2.2.2.1, (s2.2.2.2.2.2.2.2.2.2.1, (s2.2.2.2.2.2.2.2.2.2.2.1, (s2.2.2.2.2.2.2.2.2.2.2.2.1, (s2.2.2.2.2.2.2.2.2.2.2.2.2.1, (s2.2.2.2.2.2.2.2.2.2.2.2.2.2.1, (s2.2.2.2.2.2.2.2.2.2.2.2.2.2.2.1, ((mmI Bool.true s2.2.2.2.2.2.2.2.2.2.2.2.2.2.2.2.1 (wr Go.IntKind.i64 (addI x4 (1 : Int)))), (s2.2.2.2.2.2.2.2.2.2.2.2.2.2.2.2.2.1, ()))))))))))))))))))))) else (some (Sum.inr (Sum.inl ((), ((), (s2.2.2.2.2.2.1, (s2.2.2.2.2.2.2.1, (s2.2.2.2.2.2.2.2.1, (s2.2.2.2.2.2.2.2.2.1, (s2.2.2.2.2.2.2.2.2.2.1, (s2.2.2.2.2.2.2.2.2.2.2.1, (s2.2.2.2.2.2.2.2.2.2.2.2.1, (s2.2.2.2.2.2.2.2.2.2.2.2.2.1, (s2.2.2.2.2.2.2.2.2.2.2.2.2.2.1, (s2.2.2.2.2.2.2.2.2.2.2.2.2.2.2.1, (s2.2.2.2.2.2.2.2.2.2.2.2.2.2.2.2.1, (s2.2.2.2.2.2.2.2.2.2.2.2.2.2.2.2.2.1, ()))))))))))))))))))
theorem le_topology_Count_l0 (n : Nat) (s2 : (Unit × Unit × List T × Int × Int × Int × Int × Int × Int × Int × Int × Int × Int × Int × Int × Int × Int × Unit)) : Le (v_topology_Count_l0 n s2) (u_topology_Count_l0 s2) := by
  unfold v_topology_Count_l0 u_topology_Count_l0
  repeat' first
    | with_reducible refine le_cond ?_ ?_
    | with_reducible refine le_onS (fun _ => ?_) fun _ => ?_
    | with_reducible refine le_ob ?_ fun _ => ?_
    | with_reducible refine le_both ?_ ?_
    | with_reducible exact le_rfl
noncomputable def v_topology_Count (n : Nat) (t : (Int × (Int × ((List T) × ((List T) × Unit))))) : Option (Int × (Int × (Int × (Int × (Int × (Int × (Bool × Unit))))))) :=
  (ob (v_topology_Check n (t.1, (t.2.1, (t.2.2.1, (t.2.2.2.1, ()))))) fun x0 => (bif (Bool.not x0.1) then (some ((0 : Int), ((0 : Int), ((0 : Int), ((0 : Int), ((0 : Int), ((0 : Int), (Bool.false, ())))))))) else (ob (v_topology_Shells n (t.1, (t.2.1, (t.2.2.1, (t.2.2.2.1, ()))))) fun x1 => (ob (iter (v_topology_Count_l0 n) n ((), ((), (x1.1, ((lenL x1.1), ((0 : Int), ((0 : Int), ((0 : Int), ((0 : Int), ((0 : Int), ((0 : Int), ((0 : Int), (t.1, ((wr Go.IntKind.i64 (divI (lenL t.2.2.1) (2 : Int))), (t.2.1, ((wr Go.IntKind.i64 (subI (lenL t.2.2.2.1) t.2.1)), ((0 : Int), ((0 : Int), ())))))))))))))))))) fun q5 => onS q5 (fun t6 => (some (t6.2.2.2.2.2.2.2.2.1, (t6.2.2.2.2.2.2.2.2.2.1, (t6.2.2.2.2.2.2.2.2.2.2.1, (t6.2.2.2.2.2.2.2.2.2.2.2.1, (t6.2.2.2.2.2.2.2.2.2.2.2.2.1, ((wr Go.IntKind.i64 (subI t6.2.2.2.2.2.2.2.2.2.2.2.2.1 (wr Go.IntKind.i64 (divI (wr Go.IntKind.i64 (subI (wr Go.IntKind.i64 (addI (wr Go.IntKind.i64 (subI t6.2.2.2.2.2.2.2.2.1 t6.2.2.2.2.2.2.2.2.2.1)) t6.2.2.2.2.2.2.2.2.2.2.1)) t6.2.2.2.2.2.2.2.2.2.2.2.1)) (2 : Int))))), (Bool.true, ()))))))))) fun q7 => noS q7))))
theorem le_topology_Count (n : Nat) (t : (Int × (Int × ((List T) × ((List T) × Unit))))) : Le (v_topology_Count n t) (u_topology_Count t) := by
  unfold v_topology_Count u_topology_Count
  repeat' first
    | with_reducible refine le_cond ?_ ?_
    | with_reducible refine le_onS (fun _ => ?_) fun _ => ?_
    | with_reducible refine le_ob ?_ fun _ => ?_
    | with_reducible refine le_both ?_ ?_
    | with_reducible exact le_rfl
    | with_reducible exact le_topology_Check n _
    | with_reducible exact le_topology_Shells n _
    | with_reducible exact le_loop (fun s => le_topology_Count_l0 n s) _ _
noncomputable def v_topology_half (n : Nat) (t : (Int × (Int × ((List T) × ((List T) × (Int × Unit)))))) : Option (Bool × Unit) :=
  (ob (v_topology_index n (t.2.2.2.2.1, ((lenL t.2.2.1), ()))) fun x0 => (some (x0.1, ())))
theorem le_topology_half (n : Nat) (t : (Int × (Int × ((List T) × ((List T) × (Int × Unit)))))) : Le (v_topology_half n t) (u_topology_half t) := by
  unfold v_topology_half u_topology_half
  repeat' first
    | with_reducible refine le_cond ?_ ?_
    | with_reducible refine le_onS (fun _ => ?_) fun _ => ?_
    | with_reducible refine le_ob ?_ fun _ => ?_
    | with_reducible refine le_both ?_ ?_
    | with_reducible exact le_rfl
    | with_reducible exact le_topology_index n _
noncomputable def v_topology_refuse (n : Nat) (t : (Int × Unit)) : Option (Int × (Int × ((List T) × ((List T) × (Int × Unit))))) :=
  (some ((0 : Int), ((0 : Int), ([], ([], (t.1, ()))))))
theorem le_topology_refuse (n : Nat) (t : (Int × Unit)) : Le (v_topology_refuse n t) (u_topology_refuse t) := by
  unfold v_topology_refuse u_topology_refuse
  repeat' first
    | with_reducible refine le_cond ?_ ?_
    | with_reducible refine le_onS (fun _ => ?_) fun _ => ?_
    | with_reducible refine le_ob ?_ fun _ => ?_
    | with_reducible refine le_both ?_ ?_
    | with_reducible exact le_rfl
noncomputable def v_topology_room (n : Nat) (t : (Int × (Int × ((List T) × ((List T) × (Int × (Int × (Int × (Int × Unit))))))))) : Option (Bool × Unit) :=
  (bif (leI (wr Go.IntKind.i64 (addI (lenL t.2.2.1) t.2.2.2.2.1)) (256 : Int)) then (bif (leI (wr Go.IntKind.i64 (addI t.1 t.2.2.2.2.2.1)) (257 : Int)) then (bif (leI (wr Go.IntKind.i64 (addI (lenL t.2.2.2.1) t.2.2.2.2.2.2.1)) (257 : Int)) then (some ((leI (wr Go.IntKind.i64 (addI t.2.1 t.2.2.2.2.2.2.2.1)) (257 : Int)), ())) else (some (Bool.false, ()))) else (some (Bool.false, ()))) else (some (Bool.false, ())))
theorem le_topology_room (n : Nat) (t : (Int × (Int × ((List T) × ((List T) × (Int × (Int × (Int × (Int × Unit))))))))) : Le (v_topology_room n t) (u_topology_room t) := by
  unfold v_topology_room u_topology_room
  repeat' first
    | with_reducible refine le_cond ?_ ?_
    | with_reducible refine le_onS (fun _ => ?_) fun _ => ?_
    | with_reducible refine le_ob ?_ fun _ => ?_
    | with_reducible refine le_both ?_ ?_
    | with_reducible exact le_rfl
noncomputable def v_topology_place (n : Nat) (t : (Int × (Int × ((List T) × ((List T) × (Int × (Int × Unit))))))) : Option (Bool × Unit) :=
  (ob (idxL t.2.2.2.1 t.2.2.2.2.1) fun x0 => (ob (T.int? Go.IntKind.i64 (T.cell x0 0)) fun x1 => (bif (ltI x1 (0 : Int)) then (some ((eqI t.2.2.2.2.2.1 (-1 : Int)), ())) else (bif (leI (0 : Int) t.2.2.2.2.2.1) then (ob (idxL t.2.2.1 t.2.2.2.2.2.1) fun x2 => (ob (T.int? Go.IntKind.i64 (T.cell x2 3)) fun x3 => (some ((eqI x3 t.2.2.2.2.1), ())))) else (some (Bool.false, ()))))))
theorem le_topology_place (n : Nat) (t : (Int × (Int × ((List T) × ((List T) × (Int × (Int × Unit))))))) : Le (v_topology_place n t) (u_topology_place t) := by
  unfold v_topology_place u_topology_place
  repeat' first
    | with_reducible refine le_cond ?_ ?_
    | with_reducible refine le_onS (fun _ => ?_) fun _ => ?_
    | with_reducible refine le_ob ?_ fun _ => ?_
    | with_reducible refine le_both ?_ ?_
    | with_reducible exact le_rfl
noncomputable def v_topology_MVFS (n : Nat) (t : Unit) : Option (Int × (Int × ((List T) × ((List T) × Unit)))) :=
  (some ((1 : Int), ((1 : Int), ([], ([(T.agg [(T.v (Go.Value.int Go.IntKind.i64 (-1 : Int))), (T.v (Go.Value.int Go.IntKind.i64 (0 : Int))), (T.v (Go.Value.int Go.IntKind.i64 (0 : Int)))])], ())))))
theorem le_topology_MVFS (n : Nat) (t : Unit) : Le (v_topology_MVFS n t) (u_topology_MVFS t) := by
  unfold v_topology_MVFS u_topology_MVFS
  repeat' first
    | with_reducible refine le_cond ?_ ?_
    | with_reducible refine le_onS (fun _ => ?_) fun _ => ?_
    | with_reducible refine le_ob ?_ fun _ => ?_
    | with_reducible refine le_both ?_ ?_
    | with_reducible exact le_rfl
noncomputable def v_ref27_MEV (n : Nat) (t : (Int × (Int × ((List T) × ((List T) × (Int × (Int × Unit))))))) : Option (Int × (Int × ((List T) × ((List T) × (Int × Unit))))) :=
  (ob (v_ref27_Check n (t.1, (t.2.1, (t.2.2.1, (t.2.2.2.1, ()))))) fun x0 => (bif (Bool.not x0.1) then (some ((0 : Int), ((0 : Int), ([], ([], ((1 : Int), ())))))) else (ob (v_ref27_in n (t.2.2.2.2.1, ((lenL t.2.2.2.1), ()))) fun x1 => (bif (Bool.not x1.1) then (some ((0 : Int), ((0 : Int), ([], ([], ((1 : Int), ())))))) else (bif (Bool.not (eqI t.2.2.2.2.2.1 (-1 : Int))) then (ob (v_ref27_in n (t.2.2.2.2.2.1, ((lenL t.2.2.1), ()))) fun x2 => (bif (Bool.not x2.1) then (some ((0 : Int), ((0 : Int), ([], ([], ((1 : Int), ())))))) else (ob (v_ref27_room n (t.1, (t.2.1, (t.2.2.1, (t.2.2.2.1, ((2 : Int), ((1 : Int), ((0 : Int), ((0 : Int), ()))))))))) fun x3 => (bif (Bool.not x3.1) then (some ((0 : Int), ((0 : Int), ([], ([], ((2 : Int), ())))))) else (ob (idxL t.2.2.2.1 t.2.2.2.2.1) fun x4 => (ob (T.int? Go.IntKind.i64 (T.cell x4 0)) fun x5 => (bif (Bool.not (eqB (eqI x5 (-1 : Int)) (eqI t.2.2.2.2.2.1 (-1 : Int)))) then (some ((0 : Int), ((0 : Int), ([], ([], ((42 : Int), ())))))) else (bif (Bool.not (eqI x5 (-1 : Int))) then (ob (idxL t.2.2.1 t.2.2.2.2.2.1) fun x6 => (ob (T.int? Go.IntKind.i64 (T.cell x6 3)) fun x7 => (bif (Bool.not (eqI x7 t.2.2.2.2.1)) then (some ((0 : Int), ((0 : Int), ([], ([], ((42 : Int), ())))))) else (ob (v_ref27_Copy n (t.1, (t.2.1, (t.2.2.1, (t.2.2.2.1, ()))))) fun x8 => (ob (chkI (lenL x8.2.2.2.1) t.2.2.2.2.1) fun x9 => (ob (idxN x8.2.2.2.1 x9) fun x10 => (ob (α := ((Int × Int × Unit × Bool × Unit × Int × T × Int × Int × T × T × Int × Int × List T × List T × Unit) ⊕ Empty)) (bif (Bool.not (eqI x5 (-1 : Int))) then (ob (chkI (lenL x8.2.2.1) t.2.2.2.2.2.1) fun x11 => (ob (idxN x8.2.2.1 x11) fun x12 => (some (Sum.inl (t.2.2.2.2.1, (t.2.2.2.2.2.1, ((), ((eqI x5 (-1 : Int)), ((), (x8.1, ((T.cell x12 0), ((0 : Int), ((0 : Int), ((T.v (Go.Value.slice (Option.none) 0 0)), ((T.v (Go.Value.slice (Option.none) 0 0)), ((wr Go.IntKind.i64 (addI x8.1 (1 : Int))), (x8.2.1, (x8.2.2.1, (x8.2.2.2.1, ()))))))))))))))))))) else (some (Sum.inl (t.2.2.2.2.1, (t.2.2.2.2.2.1, ((), ((eqI x5 (-1 : Int)), ((), (x8.1, ((T.cell x10 1), ((0 : Int), ((0 : Int), ((T.v (Go.Value.slice (Option.none) 0 0)), ((T.v (Go.Value.slice (Option.none) 0 0)), ((wr Go.IntKind.i64 (addI x8.1 (1 : Int))), (x8.2.1, (x8.2.2.1, (x8.2.2.2.1, ())))))))))))))))))) fun q13 => onS q13 (fun t14 => (ob (T.int? Go.IntKind.i64 t14.2.2.2.2.2.2.1) fun x15 => (ob (v_ref27_edge n ((), (x15, (t14.2.2.2.2.2.1, (t14.2.2.2.2.2.2.2.2.2.2.2.1, (t14.2.2.2.2.2.2.2.2.2.2.2.2.1, (t14.2.2.2.2.2.2.2.2.2.2.2.2.2.1, (t14.2.2.2.2.2.2.2.2.2.2.2.2.2.2.1, ())))))))) fun x16 => (ob (v_ref27_link n (x16.2.2.1, (x16.2.2.2.1, (x16.2.2.2.2.1, (x16.2.2.2.2.2.1, (x16.1, (x16.2.1, ()))))))) fun x17 => (ob (α := ((Int × Unit × Unit × Int × Int × Int × T × T × Int × Int × List T × List T × Unit) ⊕ Empty)) (bif t14.2.2.2.1 then (ob (v_ref27_link n (x16.2.2.1, (x16.2.2.2.1, (x17.1, (x17.2.1, (x16.2.1, (x16.1, ()))))))) fun x18 => (some (Sum.inl (t14.1, ((), ((), (x16.1, (t14.2.2.2.2.2.2.2.1, (t14.2.2.2.2.2.2.2.2.1, (t14.2.2.2.2.2.2.2.2.2.1, (t14.2.2.2.2.2.2.2.2.2.2.1, (x16.2.2.1, (x16.2.2.2.1, (x18.1, (x18.2.1, ()))))))))))))))) else (ob (chkI (lenL x17.1) t14.2.1) fun x19 => (ob (idxN x17.1 x19) fun x20 => (ob (T.int? Go.IntKind.i64 (T.cell x20 2)) fun x21 => (ob (v_ref27_link n (x16.2.2.1, (x16.2.2.2.1, (x17.1, (x17.2.1, (x21, (x16.1, ()))))))) fun x22 => (ob (v_ref27_link n (x16.2.2.1, (x16.2.2.2.1, (x22.1, (x22.2.1, (x16.2.1, (t14.2.1, ()))))))) fun x23 => (some (Sum.inl (t14.1, ((), ((), (x16.1, (t14.2.2.2.2.2.2.2.1, (t14.2.2.2.2.2.2.2.2.1, (t14.2.2.2.2.2.2.2.2.2.1, (t14.2.2.2.2.2.2.2.2.2.2.1, (x16.2.2.1, (x16.2.2.2.1, (x23.1, (x23.2.1, ())))))))))))))))))))) fun q24 => onS q24 (fun t25 => (ob (v_ref27_settle n (t25.2.2.2.2.2.2.2.2.1, (t25.2.2.2.2.2.2.2.2.2.1, (t25.2.2.2.2.2.2.2.2.2.2.1, (t25.2.2.2.2.2.2.2.2.2.2.2.1, (t25.2.2.2.1, (t25.1, ()))))))) fun x26 => (ob (v_ref27_least n (t25.2.2.2.2.2.2.2.2.1, (t25.2.2.2.2.2.2.2.2.2.1, (x26.1, (x26.2.1, ()))))) fun x27 => (some (x27.1, (x27.2.1, (x27.2.2.1, (x27.2.2.2.1, ((0 : Int), ()))))))))) fun q28 => noS q28))))) fun q29 => noS q29))))))) else (ob (v_ref27_Copy n (t.1, (t.2.1, (t.2.2.1, (t.2.2.2.1, ()))))) fun x30 => (ob (chkI (lenL x30.2.2.2.1) t.2.2.2.2.1) fun x31 => (ob (idxN x30.2.2.2.1 x31) fun x32 => (ob (α := ((Int × Int × Unit × Bool × Unit × Int × T × Int × Int × T × T × Int × Int × List T × List T × Unit) ⊕ Empty)) (bif (Bool.not (eqI x5 (-1 : Int))) then (ob (chkI (lenL x30.2.2.1) t.2.2.2.2.2.1) fun x33 => (ob (idxN x30.2.2.1 x33) fun x34 => (some (Sum.inl (t.2.2.2.2.1, (t.2.2.2.2.2.1, ((), ((eqI x5 (-1 : Int)), ((), (x30.1, ((T.cell x34 0), ((0 : Int), ((0 : Int), ((T.v (Go.Value.slice (Option.none) 0 0)), ((T.v (Go.Value.slice (Option.none) 0 0)), ((wr Go.IntKind.i64 (addI x30.1 (1 : Int))), (x30.2.1, (x30.2.2.1, (x30.2.2.2.1, ()))))))))))))))))))) else (some (Sum.inl (t.2.2.2.2.1, (t.2.2.2.2.2.1, ((), ((eqI x5 (-1 : Int)), ((), (x30.1, ((T.cell x32 1), ((0 : Int), ((0 : Int), ((T.v (Go.Value.slice (Option.none) 0 0)), ((T.v (Go.Value.slice (Option.none) 0 0)), ((wr Go.IntKind.i64 (addI x30.1 (1 : Int))), (x30.2.1, (x30.2.2.1, (x30.2.2.2.1, ())))))))))))))))))) fun q35 => onS q35 (fun t36 => (ob (T.int? Go.IntKind.i64 t36.2.2.2.2.2.2.1) fun x37 => (ob (v_ref27_edge n ((), (x37, (t36.2.2.2.2.2.1, (t36.2.2.2.2.2.2.2.2.2.2.2.1, (t36.2.2.2.2.2.2.2.2.2.2.2.2.1, (t36.2.2.2.2.2.2.2.2.2.2.2.2.2.1, (t36.2.2.2.2.2.2.2.2.2.2.2.2.2.2.1, ())))))))) fun x38 => (ob (v_ref27_link n (x38.2.2.1, (x38.2.2.2.1, (x38.2.2.2.2.1, (x38.2.2.2.2.2.1, (x38.1, (x38.2.1, ()))))))) fun x39 => (ob (α := ((Int × Unit × Unit × Int × Int × Int × T × T × Int × Int × List T × List T × Unit) ⊕ Empty)) (bif t36.2.2.2.1 then (ob (v_ref27_link n (x38.2.2.1, (x38.2.2.2.1, (x39.1, (x39.2.1, (x38.2.1, (x38.1, ()))))))) fun x40 => (some (Sum.inl (t36.1, ((), ((), (x38.1, (t36.2.2.2.2.2.2.2.1, (t36.2.2.2.2.2.2.2.2.1, (t36.2.2.2.2.2.2.2.2.2.1, (t36.2.2.2.2.2.2.2.2.2.2.1, (x38.2.2.1, (x38.2.2.2.1, (x40.1, (x40.2.1, ()))))))))))))))) else (ob (chkI (lenL x39.1) t36.2.1) fun x41 => (ob (idxN x39.1 x41) fun x42 => (ob (T.int? Go.IntKind.i64 (T.cell x42 2)) fun x43 => (ob (v_ref27_link n (x38.2.2.1, (x38.2.2.2.1, (x39.1, (x39.2.1, (x43, (x38.1, ()))))))) fun x44 => (ob (v_ref27_link n (x38.2.2.1, (x38.2.2.2.1, (x44.1, (x44.2.1, (x38.2.1, (t36.2.1, ()))))))) fun x45 => (some (Sum.inl (t36.1, ((), ((), (x38.1, (t36.2.2.2.2.2.2.2.1, (t36.2.2.2.2.2.2.2.2.1, (t36.2.2.2.2.2.2.2.2.2.1, (t36.2.2.2.2.2.2.2.2.2.2.1, (x38.2.2.1, (x38.2.2.2.1, (x45.1, (x45.2.1, ())))))))))))))))))))) fun q46 => onS q46 (fun t47 => (ob (v_ref27_settle n (t47.2.2.2.2.2.2.2.2.1, (t47.2.2.2.2.2.2.2.2.2.1, (t47.2.2.2.2.2.2.2.2.2.2.1, (t47.2.2.2.2.2.2.2.2.2.2.2.1, (t47.2.2.2.1, (t47.1, ()))))))) fun x48 => (ob (v_ref27_least n (t47.2.2.2.2.2.2.2.2.1, (t47.2.2.2.2.2.2.2.2.2.1, (x48.1, (x48.2.1, ()))))) fun x49 => (some (x49.1, (x49.2.1, (x49.2.2.1, (x49.2.2.2.1, ((0 : Int), ()))))))))) fun q50 => noS q50))))) fun q51 => noS q51)))))))))))) else (ob (v_ref27_room n (t.1, (t.2.1, (t.2.2.1, (t.2.2.2.1, ((2 : Int), ((1 : Int), ((0 : Int), ((0 : Int), ()))))))))) fun x52 => (bif (Bool.not x52.1) then (some ((0 : Int), ((0 : Int), ([], ([], ((2 : Int), ())))))) else (ob (idxL t.2.2.2.1 t.2.2.2.2.1) fun x53 => (ob (T.int? Go.IntKind.i64 (T.cell x53 0)) fun x54 => (bif (Bool.not (eqB (eqI x54 (-1 : Int)) (eqI t.2.2.2.2.2.1 (-1 : Int)))) then (some ((0 : Int), ((0 : Int), ([], ([], ((42 : Int), ())))))) else (bif (Bool.not (eqI x54 (-1 : Int))) then (ob (idxL t.2.2.1 t.2.2.2.2.2.1) fun x55 => (ob (T.int? Go.IntKind.i64 (T.cell x55 3)) fun x56 => (bif (Bool.not (eqI x56 t.2.2.2.2.1)) then (some ((0 : Int), ((0 : Int), ([], ([], ((42 : Int), ())))))) else (ob (v_ref27_Copy n (t.1, (t.2.1, (t.2.2.1, (t.2.2.2.1, ()))))) fun x57 => (ob (chkI (lenL x57.2.2.2.1) t.2.2.2.2.1) fun x58 => (ob (idxN x57.2.2.2.1 x58) fun x59 => (ob (α := ((Int × Int × Unit × Bool × Unit × Int × T × Int × Int × T × T × Int × Int × List T × List T × Unit) ⊕ Empty)) (bif (Bool.not (eqI x54 (-1 : Int))) then (ob (chkI (lenL x57.2.2.1) t.2.2.2.2.2.1) fun x60 => (ob (idxN x57.2.2.1 x60) fun x61 => (some (Sum.inl (t.2.2.2.2.1, (t.2.2.2.2.2.1, ((), ((eqI x54 (-1 : Int)), ((), (x57.1, ((T.cell x61 0), ((0 : Int), ((0 : Int), ((T.v (Go.Value.slice (Option.none) 0 0)), ((T.v (Go.Value.slice (Option.none) 0 0)), ((wr Go.IntKind.i64 (addI x57.1 (1 : Int))), (x57.2.1, (x57.2.2.1, (x57.2.2.2.1, ()))))))))))))))))))) else (some (Sum.inl (t.2.2.2.2.1, (t.2.2.2.2.2.1, ((), ((eqI x54 (-1 : Int)), ((), (x57.1, ((T.cell x59 1), ((0 : Int), ((0 : Int), ((T.v (Go.Value.slice (Option.none) 0 0)), ((T.v (Go.Value.slice (Option.none) 0 0)), ((wr Go.IntKind.i64 (addI x57.1 (1 : Int))), (x57.2.1, (x57.2.2.1, (x57.2.2.2.1, ())))))))))))))))))) fun q62 => onS q62 (fun t63 => (ob (T.int? Go.IntKind.i64 t63.2.2.2.2.2.2.1) fun x64 => (ob (v_ref27_edge n ((), (x64, (t63.2.2.2.2.2.1, (t63.2.2.2.2.2.2.2.2.2.2.2.1, (t63.2.2.2.2.2.2.2.2.2.2.2.2.1, (t63.2.2.2.2.2.2.2.2.2.2.2.2.2.1, (t63.2.2.2.2.2.2.2.2.2.2.2.2.2.2.1, ())))))))) fun x65 => (ob (v_ref27_link n (x65.2.2.1, (x65.2.2.2.1, (x65.2.2.2.2.1, (x65.2.2.2.2.2.1, (x65.1, (x65.2.1, ()))))))) fun x66 => (ob (α := ((Int × Unit × Unit × Int × Int × Int × T × T × Int × Int × List T × List T × Unit) ⊕ Empty)) (bif t63.2.2.2.1 then (ob (v_ref27_link n (x65.2.2.1, (x65.2.2.2.1, (x66.1, (x66.2.1, (x65.2.1, (x65.1, ()))))))) fun x67 => (some (Sum.inl (t63.1, ((), ((), (x65.1, (t63.2.2.2.2.2.2.2.1, (t63.2.2.2.2.2.2.2.2.1, (t63.2.2.2.2.2.2.2.2.2.1, (t63.2.2.2.2.2.2.2.2.2.2.1, (x65.2.2.1, (x65.2.2.2.1, (x67.1, (x67.2.1, ()))))))))))))))) else (ob (chkI (lenL x66.1) t63.2.1) fun x68 => (ob (idxN x66.1 x68) fun x69 => (ob (T.int? Go.IntKind.i64 (T.cell x69 2)) fun x70 => (ob (v_ref27_link n (x65.2.2.1, (x65.2.2.2.1, (x66.1, (x66.2.1, (x70, (x65.1, ()))))))) fun x71 => (ob (v_ref27_link n (x65.2.2.1, (x65.2.2.2.1, (x71.1, (x71.2.1, (x65.2.1, (t63.2.1, ()))))))) fun x72 => (some (Sum.inl (t63.1, ((), ((), (x65.1, (t63.2.2.2.2.2.2.2.1, (t63.2.2.2.2.2.2.2.2.1, (t63.2.2.2.2.2.2.2.2.2.1, (t63.2.2.2.2.2.2.2.2.2.2.1, (x65.2.2.1, (x65.2.2.2.1, (x72.1, (x72.2.1, ())))))))))))))))))))) fun q73 => onS q73 (fun t74 => (ob (v_ref27_settle n (t74.2.2.2.2.2.2.2.2.1, (t74.2.2.2.2.2.2.2.2.2.1, (t74.2.2.2.2.2.2.2.2.2.2.1, (t74.2.2.2.2.2.2.2.2.2.2.2.1, (t74.2.2.2.1, (t74.1, ()))))))) fun x75 => (ob (v_ref27_least n (t74.2.2.2.2.2.2.2.2.1, (t74.2.2.2.2.2.2.2.2.2.1, (x75.1, (x75.2.1, ()))))) fun x76 => (some (x76.1, (x76.2.1, (x76.2.2.1, (x76.2.2.2.1, ((0 : Int), ()))))))))) fun q77 => noS q77))))) fun q78 => noS q78))))))) else (ob (v_ref27_Copy n (t.1, (t.2.1, (t.2.2.1, (t.2.2.2.1, ()))))) fun x79 => (ob (chkI (lenL x79.2.2.2.1) t.2.2.2.2.1) fun x80 => (ob (idxN x79.2.2.2.1 x80) fun x81 => (ob (α := ((Int × Int × Unit × Bool × Unit × Int × T × Int × Int × T × T × Int × Int × List T × List T × Unit) ⊕ Empty)) (bif (Bool.not (eqI x54 (-1 : Int))) then (ob (chkI (lenL x79.2.2.1) t.2.2.2.2.2.1) fun x82 => (ob (idxN x79.2.2.1 x82) fun x83 => (some (Sum.inl (t.2.2.2.2.1, (t.2.2.2.2.2.1, ((), ((eqI x54 (-1 : Int)), ((), (x79.1, ((T.cell x83 0), ((0 : Int), ((0 : Int), ((T.v (Go.Value.slice (Option.none) 0 0)), ((T.v (Go.Value.slice (Option.none) 0 0)), ((wr Go.IntKind.i64 (addI x79.1 (1 : Int))), (x79.2.1, (x79.2.2.1, (x79.2.2.2.1, ()))))))))))))))))))) else (some (Sum.inl (t.2.2.2.2.1, (t.2.2.2.2.2.1, ((), ((eqI x54 (-1 : Int)), ((), (x79.1, ((T.cell x81 1), ((0 : Int), ((0 : Int), ((T.v (Go.Value.slice (Option.none) 0 0)), ((T.v (Go.Value.slice (Option.none) 0 0)), ((wr Go.IntKind.i64 (addI x79.1 (1 : Int))), (x79.2.1, (x79.2.2.1, (x79.2.2.2.1, ())))))))))))))))))) fun q84 => onS q84 (fun t85 => (ob (T.int? Go.IntKind.i64 t85.2.2.2.2.2.2.1) fun x86 => (ob (v_ref27_edge n ((), (x86, (t85.2.2.2.2.2.1, (t85.2.2.2.2.2.2.2.2.2.2.2.1, (t85.2.2.2.2.2.2.2.2.2.2.2.2.1, (t85.2.2.2.2.2.2.2.2.2.2.2.2.2.1, (t85.2.2.2.2.2.2.2.2.2.2.2.2.2.2.1, ())))))))) fun x87 => (ob (v_ref27_link n (x87.2.2.1, (x87.2.2.2.1, (x87.2.2.2.2.1, (x87.2.2.2.2.2.1, (x87.1, (x87.2.1, ()))))))) fun x88 => (ob (α := ((Int × Unit × Unit × Int × Int × Int × T × T × Int × Int × List T × List T × Unit) ⊕ Empty)) (bif t85.2.2.2.1 then (ob (v_ref27_link n (x87.2.2.1, (x87.2.2.2.1, (x88.1, (x88.2.1, (x87.2.1, (x87.1, ()))))))) fun x89 => (some (Sum.inl (t85.1, ((), ((), (x87.1, (t85.2.2.2.2.2.2.2.1, (t85.2.2.2.2.2.2.2.2.1, (t85.2.2.2.2.2.2.2.2.2.1, (t85.2.2.2.2.2.2.2.2.2.2.1, (x87.2.2.1, (x87.2.2.2.1, (x89.1, (x89.2.1, ()))))))))))))))) else (ob (chkI (lenL x88.1) t85.2.1) fun x90 => (ob (idxN x88.1 x90) fun x91 => (ob (T.int? Go.IntKind.i64 (T.cell x91 2)) fun x92 => (ob (v_ref27_link n (x87.2.2.1, (x87.2.2.2.1, (x88.1, (x88.2.1, (x92, (x87.1, ()))))))) fun x93 => (ob (v_ref27_link n (x87.2.2.1, (x87.2.2.2.1, (x93.1, (x93.2.1, (x87.2.1, (t85.2.1, ()))))))) fun x94 => (some (Sum.inl (t85.1, ((), ((), (x87.1, (t85.2.2.2.2.2.2.2.1, (t85.2.2.2.2.2.2.2.2.1, (t85.2.2.2.2.2.2.2.2.2.1, (t85.2.2.2.2.2.2.2.2.2.2.1, (x87.2.2.1, (x87.2.2.2.1, (x94.1, (x94.2.1, ())))))))))))))))))))) fun q95 => onS q95 (fun t96 => (ob (v_ref27_settle n (t96.2.2.2.2.2.2.2.2.1, (t96.2.2.2.2.2.2.2.2.2.1, (t96.2.2.2.2.2.2.2.2.2.2.1, (t96.2.2.2.2.2.2.2.2.2.2.2.1, (t96.2.2.2.1, (t96.1, ()))))))) fun x97 => (ob (v_ref27_least n (t96.2.2.2.2.2.2.2.2.1, (t96.2.2.2.2.2.2.2.2.2.1, (x97.1, (x97.2.1, ()))))) fun x98 => (some (x98.1, (x98.2.1, (x98.2.2.1, (x98.2.2.2.1, ((0 : Int), ()))))))))) fun q99 => noS q99))))) fun q100 => noS q100)))))))))))))))
theorem le_ref27_MEV (n : Nat) (t : (Int × (Int × ((List T) × ((List T) × (Int × (Int × Unit))))))) : Le (v_ref27_MEV n t) (u_ref27_MEV t) := by
  unfold v_ref27_MEV u_ref27_MEV
  repeat' first
    | with_reducible refine le_cond ?_ ?_
    | with_reducible refine le_onS (fun _ => ?_) fun _ => ?_
    | with_reducible refine le_ob ?_ fun _ => ?_
    | with_reducible refine le_both ?_ ?_
    | with_reducible exact le_rfl
    | with_reducible exact le_ref27_Check n _
    | with_reducible exact le_ref27_in n _
    | with_reducible exact le_ref27_room n _
    | with_reducible exact le_ref27_Copy n _
    | with_reducible exact le_ref27_edge n _
    | with_reducible exact le_ref27_link n _
    | with_reducible exact le_ref27_settle n _
    | with_reducible exact le_ref27_least n _
noncomputable def v_slices_Clone___api_Half_api_Half_ (n : Nat) (t : ((List T) × Unit)) : Option ((List T) × Unit) :=
  (bif (nilL t.1) then (bothV (some ([], ())) (ob (room [] t.1 32) fun x0 => (some (x0, ())))) else (ob (room [] t.1 32) fun x1 => (some (x1, ()))))
theorem le_slices_Clone___api_Half_api_Half_ (n : Nat) (t : ((List T) × Unit)) : Le (v_slices_Clone___api_Half_api_Half_ n t) (u_slices_Clone___api_Half_api_Half_ t) := by
  unfold v_slices_Clone___api_Half_api_Half_ u_slices_Clone___api_Half_api_Half_
  repeat' first
    | with_reducible refine le_cond ?_ ?_
    | with_reducible refine le_onS (fun _ => ?_) fun _ => ?_
    | with_reducible refine le_ob ?_ fun _ => ?_
    | with_reducible refine le_both ?_ ?_
    | with_reducible exact le_rfl
noncomputable def v_slices_Clone___api_Ring_api_Ring_ (n : Nat) (t : ((List T) × Unit)) : Option ((List T) × Unit) :=
  (bif (nilL t.1) then (bothV (some ([], ())) (ob (room [] t.1 24) fun x0 => (some (x0, ())))) else (ob (room [] t.1 24) fun x1 => (some (x1, ()))))
theorem le_slices_Clone___api_Ring_api_Ring_ (n : Nat) (t : ((List T) × Unit)) : Le (v_slices_Clone___api_Ring_api_Ring_ n t) (u_slices_Clone___api_Ring_api_Ring_ t) := by
  unfold v_slices_Clone___api_Ring_api_Ring_ u_slices_Clone___api_Ring_api_Ring_
  repeat' first
    | with_reducible refine le_cond ?_ ?_
    | with_reducible refine le_onS (fun _ => ?_) fun _ => ?_
    | with_reducible refine le_ob ?_ fun _ => ?_
    | with_reducible refine le_both ?_ ?_
    | with_reducible exact le_rfl
noncomputable def v_own_Topology (n : Nat) (t : (Int × (Int × ((List T) × ((List T) × Unit))))) : Option (Int × (Int × ((List T) × ((List T) × Unit)))) :=
  (ob (v_slices_Clone___api_Half_api_Half_ n (t.2.2.1, ())) fun x0 => (ob (v_slices_Clone___api_Ring_api_Ring_ n (t.2.2.2.1, ())) fun x1 => (some (t.1, (t.2.1, (x0.1, (x1.1, ())))))))
theorem le_own_Topology (n : Nat) (t : (Int × (Int × ((List T) × ((List T) × Unit))))) : Le (v_own_Topology n t) (u_own_Topology t) := by
  unfold v_own_Topology u_own_Topology
  repeat' first
    | with_reducible refine le_cond ?_ ?_
    | with_reducible refine le_onS (fun _ => ?_) fun _ => ?_
    | with_reducible refine le_ob ?_ fun _ => ?_
    | with_reducible refine le_both ?_ ?_
    | with_reducible exact le_rfl
    | with_reducible exact le_slices_Clone___api_Half_api_Half_ n _
    | with_reducible exact le_slices_Clone___api_Ring_api_Ring_ n _
noncomputable def v_topology_edit (n : Nat) (t : (Int × (Int × ((List T) × ((List T) × Unit))))) : Option (Int × (Int × ((List T) × ((List T) × Unit)))) :=
  (ob (v_own_Topology n (t.1, (t.2.1, (t.2.2.1, (t.2.2.2.1, ()))))) fun x0 => (some (x0.1, (x0.2.1, (x0.2.2.1, (x0.2.2.2.1, ()))))))
theorem le_topology_edit (n : Nat) (t : (Int × (Int × ((List T) × ((List T) × Unit))))) : Le (v_topology_edit n t) (u_topology_edit t) := by
  unfold v_topology_edit u_topology_edit
  repeat' first
    | with_reducible refine le_cond ?_ ?_
    | with_reducible refine le_onS (fun _ => ?_) fun _ => ?_
    | with_reducible refine le_ob ?_ fun _ => ?_
    | with_reducible refine le_both ?_ ?_
    | with_reducible exact le_rfl
    | with_reducible exact le_own_Topology n _
noncomputable def v___topology_editor__edge (n : Nat) (t : (Unit × (Int × (Int × (Int × (Int × (Int × (Int × ((List T) × ((List T) × Unit)))))))))) : Option (Int × (Int × (Int × (Int × ((List T) × ((List T) × Unit)))))) :=
  (ob (room t.2.2.2.2.2.2.2.1 [(T.agg [(T.v (Go.Value.int Go.IntKind.i64 t.2.1)), (T.v (Go.Value.int Go.IntKind.i64 (0 : Int))), (T.v (Go.Value.int Go.IntKind.i64 (0 : Int))), (T.v (Go.Value.int Go.IntKind.i64 t.2.2.2.1))]), (T.agg [(T.v (Go.Value.int Go.IntKind.i64 t.2.2.1)), (T.v (Go.Value.int Go.IntKind.i64 (0 : Int))), (T.v (Go.Value.int Go.IntKind.i64 (0 : Int))), (T.v (Go.Value.int Go.IntKind.i64 t.2.2.2.2.1))])] 32) fun x0 => (some ((lenL t.2.2.2.2.2.2.2.1), ((wr Go.IntKind.i64 (addI (lenL t.2.2.2.2.2.2.2.1) (1 : Int))), (t.2.2.2.2.2.1, (t.2.2.2.2.2.2.1, (x0, (t.2.2.2.2.2.2.2.2.1, ()))))))))
theorem le___topology_editor__edge (n : Nat) (t : (Unit × (Int × (Int × (Int × (Int × (Int × (Int × ((List T) × ((List T) × Unit)))))))))) : Le (v___topology_editor__edge n t) (u___topology_editor__edge t) := by
  unfold v___topology_editor__edge u___topology_editor__edge
  repeat' first
    | with_reducible refine le_cond ?_ ?_
    | with_reducible refine le_onS (fun _ => ?_) fun _ => ?_
    | with_reducible refine le_ob ?_ fun _ => ?_
    | with_reducible refine le_both ?_ ?_
    | with_reducible exact le_rfl
noncomputable def v___topology_editor__link (n : Nat) (t : (Unit × (Int × (Int × (Int × (Int × ((List T) × ((List T) × Unit)))))))) : Option (Int × (Int × ((List T) × ((List T) × Unit)))) :=
  (ob (chkI (lenL t.2.2.2.2.2.1) t.2.1) fun x0 => (ob (idxN t.2.2.2.2.2.1 x0) fun x1 => (ob (chkI (lenL (List.set t.2.2.2.2.2.1 x0 (T.upd 4 x1 1 [(T.v (Go.Value.int Go.IntKind.i64 t.2.2.1))]))) t.2.2.1) fun x2 => (ob (idxN (List.set t.2.2.2.2.2.1 x0 (T.upd 4 x1 1 [(T.v (Go.Value.int Go.IntKind.i64 t.2.2.1))])) x2) fun x3 => (some (t.2.2.2.1, (t.2.2.2.2.1, ((List.set (List.set t.2.2.2.2.2.1 x0 (T.upd 4 x1 1 [(T.v (Go.Value.int Go.IntKind.i64 t.2.2.1))])) x2 (T.upd 4 x3 2 [(T.v (Go.Value.int Go.IntKind.i64 t.2.1))])), (t.2.2.2.2.2.2.1, ())))))))))
theorem le___topology_editor__link (n : Nat) (t : (Unit × (Int × (Int × (Int × (Int × ((List T) × ((List T) × Unit)))))))) : Le (v___topology_editor__link n t) (u___topology_editor__link t) := by
  unfold v___topology_editor__link u___topology_editor__link
  repeat' first
    | with_reducible refine le_cond ?_ ?_
    | with_reducible refine le_onS (fun _ => ?_) fun _ => ?_
    | with_reducible refine le_ob ?_ fun _ => ?_
    | with_reducible refine le_both ?_ ?_
    | with_reducible exact le_rfl
noncomputable def v___topology_editor__done_l0 (n : Nat) (s0 : (Unit × Unit × Int × Int × Int × Int × List T × List T × Int × Int × T × T × Unit)) : Option ((Unit × Unit × Int × Int × Int × Int × List T × List T × Int × Int × T × T × Unit) ⊕ ((Unit × Unit × Int × Int × List T × List T × Int × Int × T × T × Unit) ⊕ Empty)) :=
  (bif (ltI s0.2.2.2.1 s0.2.2.1) then (ob (α := ((Unit × Unit × Int × Int × Int × Int × List T × List T × Int × Int × T × T × Unit) ⊕ Empty)) (ob (chkI (lenL s0.2.2.2.2.2.2.2.1) s0.2.2.2.1) fun x1 => (ob (idxN s0.2.2.2.2.2.2.2.1 x1) fun x2 => (ob (T.int? Go.IntKind.i64 (T.cell x2 1)) fun x3 => (bif (ltI x3 (0 : Int)) then (ob (chkI (lenL s0.2.2.2.2.2.2.2.1) s0.2.2.2.1) fun x4 => (ob (idxN s0.2.2.2.2.2.2.2.1 x4) fun x5 => (some (Sum.inl ((), ((), (s0.2.2.1, (s0.2.2.2.1, (s0.2.2.2.2.1, (s0.2.2.2.2.2.1, (s0.2.2.2.2.2.2.1, ((List.set s0.2.2.2.2.2.2.2.1 x4 (T.upd 3 x5 0 [(T.v (Go.Value.int Go.IntKind.i64 (-1 : Int)))])), (s0.2.2.2.2.2.2.2.2.1, (s0.2.2.2.2.2.2.2.2.2.1, (s0.2.2.2.2.2.2.2.2.2.2.1, (s0.2.2.2.2.2.2.2.2.2.2.2.1, ())))))))))))))))) else (some (Sum.inl ((), ((), (s0.2.2.1, (s0.2.2.2.1, (s0.2.2.2.2.1, (s0.2.2.2.2.2.1, (s0.2.2.2.2.2.2.1, (s0.2.2.2.2.2.2.2.1, (s0.2.2.2.2.2.2.2.2.1, (s0.2.2.2.2.2.2.2.2.2.1, (s0.2.2.2.2.2.2.2.2.2.2.1, (s0.2.2.2.2.2.2.2.2.2.2.2.1, ())))))))))))))))))) fun q6 => onS q6 (fun t7 => (some (Sum.inl ((), ((), (t7.2.2.1, ((wr Go.IntKind.i64 (addI t7.2.2.2.1 (1 : Int))), (t7.2.2.2.2.1, (t7.2.2.2.2.2.1, (t7.2.2.2.2.2.2.1, (t7.2.2.2.2.2.2.2.1, (t7.2.2.2.2.2.2.2.2.1, (t7.2.2.2.2.2.2.2.2.2.1, (t7.2.2.2.2.2.2.2.2.2.2.1, (t7.2.2.2.2.2.2.2.2.2.2.2.1, ()))))))))))))))) fun q8 => noS q8) else (some (Sum.inr (Sum.inl ((), ((), (s0.2.2.2.2.1, (s0.2.2.2.2.2.1, (s0.2.2.2.2.2.2.1, (s0.2.2.2.2.2.2.2.1, (s0.2.2.2.2.2.2.2.2.1, (s0.2.2.2.2.2.2.2.2.2.1, (s0.2.2.2.2.2.2.2.2.2.2.1, (s0.2.2.2.2.2.2.2.2.2.2.2.1, ()))))))))))))))
theorem le___topology_editor__done_l0 (n : Nat) (s0 : (Unit × Unit × Int × Int × Int × Int × List T × List T × Int × Int × T × T × Unit)) : Le (v___topology_editor__done_l0 n s0) (u___topology_editor__done_l0 s0) := by
  unfold v___topology_editor__done_l0 u___topology_editor__done_l0
  repeat' first
    | with_reducible refine le_cond ?_ ?_
    | with_reducible refine le_onS (fun _ => ?_) fun _ => ?_
    | with_reducible refine le_ob ?_ fun _ => ?_
    | with_reducible refine le_both ?_ ?_
    | with_reducible exact le_rfl
noncomputable def v___topology_editor__done_l2 (n : Nat) (s11 : (Unit × Unit × List T × Int × Int × Int × Int × List T × List T × Int × Int × T × T × Unit)) : Option ((Unit × Unit × List T × Int × Int × Int × Int × List T × List T × Int × Int × T × T × Unit) ⊕ ((Unit × Unit × Int × Int × List T × List T × Int × Int × T × T × Unit) ⊕ Empty)) :=
  (bif (ltI s11.2.2.2.2.1 s11.2.2.2.1) then (ob (α := ((Unit × Unit × List T × Int × Int × Int × Int × List T × List T × Int × Int × T × T × Unit) ⊕ Empty)) (ob (idxL s11.2.2.1 s11.2.2.2.2.1) fun x12 => (ob (T.anyInt? (T.cell x12 3)) fun x13 => (ob (chkI (lenL s11.2.2.2.2.2.2.2.2.1) x13) fun x14 => (ob (idxN s11.2.2.2.2.2.2.2.2.1 x14) fun x15 => (ob (T.int? Go.IntKind.i64 (T.cell x15 0)) fun x16 => (bif (ltI x16 (0 : Int)) then (ob (T.anyInt? (T.cell x12 3)) fun x17 => (ob (chkI (lenL s11.2.2.2.2.2.2.2.2.1) x17) fun x18 => (ob (idxN s11.2.2.2.2.2.2.2.2.1 x18) fun x19 => (some (Sum.inl ((), ((), (s11.2.2.1, (s11.2.2.2.1, (s11.2.2.2.2.1, (s11.2.2.2.2.2.1, (s11.2.2.2.2.2.2.1, (s11.2.2.2.2.2.2.2.1, ((List.set s11.2.2.2.2.2.2.2.2.1 x18 (T.upd 3 x19 0 [(T.v (Go.Value.int Go.IntKind.i64 s11.2.2.2.2.1))])), (s11.2.2.2.2.2.2.2.2.2.1, (s11.2.2.2.2.2.2.2.2.2.2.1, (s11.2.2.2.2.2.2.2.2.2.2.2.1, (s11.2.2.2.2.2.2.2.2.2.2.2.2.1, ())))))))))))))))))) else (some (Sum.inl ((), ((), (s11.2.2.1, (s11.2.2.2.1, (s11.2.2.2.2.1, (s11.2.2.2.2.2.1, (s11.2.2.2.2.2.2.1, (s11.2.2.2.2.2.2.2.1, (s11.2.2.2.2.2.2.2.2.1, (s11.2.2.2.2.2.2.2.2.2.1, (s11.2.2.2.2.2.2.2.2.2.2.1, (s11.2.2.2.2.2.2.2.2.2.2.2.1, (s11.2.2.2.2.2.2.2.2.2.2.2.2.1, ()))))))))))))))))))))) fun q20 => onS q20 (fun t21 => (some (Sum.inl ((), ((), (t21.2.2.1, (t21.2.2.2.1, ((wr Go.IntKind.i64 (addI t21.2.2.2.2.1 (1 : Int))), (t21.2.2.2.2.2.1, (t21.2.2.2.2.2.2.1, (t21.2.2.2.2.2.2.2.1, (t21.2.2.2.2.2.2.2.2.1, (t21.2.2.2.2.2.2.2.2.2.1, (t21.2.2.2.2.2.2.2.2.2.2.1, (t21.2.2.2.2.2.2.2.2.2.2.2.1, (t21.2.2.2.2.2.2.2.2.2.2.2.2.1, ())))))))))))))))) fun q22 => noS q22) else (some (Sum.inr (Sum.inl ((), ((), (s11.2.2.2.2.2.1, (s11.2.2.2.2.2.2.1, (s11.2.2.2.2.2.2.2.1, (s11.2.2.2.2.2.2.2.2.1, (s11.2.2.2.2.2.2.2.2.2.1, (s11.2.2.2.2.2.2.2.2.2.2.1, (s11.2.2.2.2.2.2.2.2.2.2.2.1, (s11.2.2.2.2.2.2.2.2.2.2.2.2.1, ()))))))))))))))
theorem le___topology_editor__done_l2 (n : Nat) (s11 : (Unit × Unit × List T × Int × Int × Int × Int × List T × List T × Int × Int × T × T × Unit)) : Le (v___topology_editor__done_l2 n s11) (u___topology_editor__done_l2 s11) := by
  unfold v___topology_editor__done_l2 u___topology_editor__done_l2
  repeat' first
    | with_reducible refine le_cond ?_ ?_
    | with_reducible refine le_onS (fun _ => ?_) fun _ => ?_
    | with_reducible refine le_ob ?_ fun _ => ?_
    | with_reducible refine le_both ?_ ?_
    | with_reducible exact le_rfl
noncomputable def v___topology_editor__done (n : Nat) (t : (Unit × (Int × (Int × ((List T) × ((List T) × Unit)))))) : Option (Int × (Int × ((List T) × ((List T) × (Int × (Int × (Int × ((List T) × ((List T) × Unit))))))))) :=
  (ob (iter (v___topology_editor__done_l0 n) n ((), ((), ((lenL t.2.2.2.2.1), ((0 : Int), (t.2.1, (t.2.2.1, (t.2.2.2.1, (t.2.2.2.2.1, ((0 : Int), ((0 : Int), ((T.v (Go.Value.slice (Option.none) 0 0)), ((T.v (Go.Value.slice (Option.none) 0 0)), ()))))))))))))) fun q9 => onS q9 (fun t10 => (ob (iter (v___topology_editor__done_l2 n) n ((), ((), (t10.2.2.2.2.1, ((lenL t10.2.2.2.2.1), ((0 : Int), (t10.2.2.1, (t10.2.2.2.1, (t10.2.2.2.2.1, (t10.2.2.2.2.2.1, (t10.2.2.2.2.2.2.1, (t10.2.2.2.2.2.2.2.1, (t10.2.2.2.2.2.2.2.2.1, (t10.2.2.2.2.2.2.2.2.2.1, ())))))))))))))) fun q23 => onS q23 (fun t24 => (some (t24.2.2.1, (t24.2.2.2.1, (t24.2.2.2.2.1, (t24.2.2.2.2.2.1, ((0 : Int), (t24.2.2.1, (t24.2.2.2.1, (t24.2.2.2.2.1, (t24.2.2.2.2.2.1, ()))))))))))) fun q25 => noS q25)) fun q26 => noS q26)
theorem le___topology_editor__done (n : Nat) (t : (Unit × (Int × (Int × ((List T) × ((List T) × Unit)))))) : Le (v___topology_editor__done n t) (u___topology_editor__done t) := by
  unfold v___topology_editor__done u___topology_editor__done
  repeat' first
    | with_reducible refine le_cond ?_ ?_
    | with_reducible refine le_onS (fun _ => ?_) fun _ => ?_
    | with_reducible refine le_ob ?_ fun _ => ?_
    | with_reducible refine le_both ?_ ?_
    | with_reducible exact le_rfl
    | with_reducible exact le_loop (fun s => le___topology_editor__done_l0 n s) _ _
    | with_reducible exact le_loop (fun s => le___topology_editor__done_l2 n s) _ _
noncomputable def v___topology_editor__assign_l0 (n : Nat) (s0 : (Unit × Int × Int × Int × Int × Int × List T × List T × Unit)) : Option ((Unit × Int × Int × Int × Int × Int × List T × List T × Unit) ⊕ ((Int × Int × List T × List T × Unit) ⊕ Empty)) :=
  (ob (chkI (lenL s0.2.2.2.2.2.2.1) s0.2.2.2.1) fun x1 => (ob (idxN s0.2.2.2.2.2.2.1 x1) fun x2 => (bif (eqI s0.2.2.2.1 s0.2.1) then (some (Sum.inr (Sum.inl (s0.2.2.2.2.1, (s0.2.2.2.2.2.1, ((List.set s0.2.2.2.2.2.2.1 x1 (T.upd 4 x2 3 [(T.v (Go.Value.int Go.IntKind.i64 s0.2.2.1))])), (s0.2.2.2.2.2.2.2.1, ()))))))) else (ob (chkI (lenL (List.set s0.2.2.2.2.2.2.1 x1 (T.upd 4 x2 3 [(T.v (Go.Value.int Go.IntKind.i64 s0.2.2.1))]))) s0.2.2.2.1) fun x3 => (ob (idxN (List.set s0.2.2.2.2.2.2.1 x1 (T.upd 4 x2 3 [(T.v (Go.Value.int Go.IntKind.i64 s0.2.2.1))])) x3) fun x4 => (ob (T.int? Go.IntKind.i64 (T.cell x4 1)) fun x5 => (some (Sum.inl ((), (s0.2.1, (s0.2.2.1, (x5, (s0.2.2.2.2.1, (s0.2.2.2.2.2.1, ((List.set s0.2.2.2.2.2.2.1 x1 (T.upd 4 x2 3 [(T.v (Go.Value.int Go.IntKind.i64 s0.2.2.1))])), (s0.2.2.2.2.2.2.2.1, ()))))))))))))))))
theorem le___topology_editor__assign_l0 (n : Nat) (s0 : (Unit × Int × Int × Int × Int × Int × List T × List T × Unit)) : Le (v___topology_editor__assign_l0 n s0) (u___topology_editor__assign_l0 s0) := by
  unfold v___topology_editor__assign_l0 u___topology_editor__assign_l0
  repeat' first
    | with_reducible refine le_cond ?_ ?_
    | with_reducible refine le_onS (fun _ => ?_) fun _ => ?_
    | with_reducible refine le_ob ?_ fun _ => ?_
    | with_reducible refine le_both ?_ ?_
    | with_reducible exact le_rfl
noncomputable def v___topology_editor__assign (n : Nat) (t : (Unit × (Int × (Int × (Int × (Int × (Int × ((List T) × ((List T) × Unit))))))))) : Option (Int × (Int × ((List T) × ((List T) × Unit)))) :=
  (ob (iter (v___topology_editor__assign_l0 n) n ((), (t.2.2.1, (t.2.2.2.1, (t.2.1, (t.2.2.2.2.1, (t.2.2.2.2.2.1, (t.2.2.2.2.2.2.1, (t.2.2.2.2.2.2.2.1, ()))))))))) fun q6 => onS q6 (fun t7 => (some (t7.1, (t7.2.1, (t7.2.2.1, (t7.2.2.2.1, ())))))) fun q8 => noS q8)
theorem le___topology_editor__assign (n : Nat) (t : (Unit × (Int × (Int × (Int × (Int × (Int × ((List T) × ((List T) × Unit))))))))) : Le (v___topology_editor__assign n t) (u___topology_editor__assign t) := by
  unfold v___topology_editor__assign u___topology_editor__assign
  repeat' first
    | with_reducible refine le_cond ?_ ?_
    | with_reducible refine le_onS (fun _ => ?_) fun _ => ?_
    | with_reducible refine le_ob ?_ fun _ => ?_
    | with_reducible refine le_both ?_ ?_
    | with_reducible exact le_rfl
    | with_reducible exact le_loop (fun s => le___topology_editor__assign_l0 n s) _ _
noncomputable def v_topology_MEF (n : Nat) (t : (Int × (Int × ((List T) × ((List T) × (Int × (Int × Unit))))))) : Option (Int × (Int × ((List T) × ((List T) × (Int × Unit))))) :=
  (ob (v_topology_Check n (t.1, (t.2.1, (t.2.2.1, (t.2.2.2.1, ()))))) fun x0 => (bif (Bool.not x0.1) then (ob (v_topology_refuse n ((1 : Int), ())) fun x1 => (some (x1.1, (x1.2.1, (x1.2.2.1, (x1.2.2.2.1, (x1.2.2.2.2.1, ()))))))) else (ob (v_topology_half n (t.1, (t.2.1, (t.2.2.1, (t.2.2.2.1, (t.2.2.2.2.1, ())))))) fun x2 => (bif (Bool.not x2.1) then (ob (v_topology_refuse n ((1 : Int), ())) fun x3 => (some (x3.1, (x3.2.1, (x3.2.2.1, (x3.2.2.2.1, (x3.2.2.2.2.1, ()))))))) else (ob (v_topology_half n (t.1, (t.2.1, (t.2.2.1, (t.2.2.2.1, (t.2.2.2.2.2.1, ())))))) fun x4 => (bif (Bool.not x4.1) then (ob (v_topology_refuse n ((1 : Int), ())) fun x5 => (some (x5.1, (x5.2.1, (x5.2.2.1, (x5.2.2.2.1, (x5.2.2.2.2.1, ()))))))) else (ob (v_topology_room n (t.1, (t.2.1, (t.2.2.1, (t.2.2.2.1, ((2 : Int), ((0 : Int), ((1 : Int), ((1 : Int), ()))))))))) fun x6 => (bif (Bool.not x6.1) then (ob (v_topology_refuse n ((2 : Int), ())) fun x7 => (some (x7.1, (x7.2.1, (x7.2.2.1, (x7.2.2.2.1, (x7.2.2.2.2.1, ()))))))) else (ob (idxL t.2.2.1 t.2.2.2.2.1) fun x8 => (ob (idxL t.2.2.1 t.2.2.2.2.2.1) fun x9 => (ob (T.int? Go.IntKind.i64 (T.cell x8 3)) fun x10 => (ob (T.int? Go.IntKind.i64 (T.cell x9 3)) fun x11 => (bif (Bool.not (eqI x10 x11)) then (ob (v_topology_refuse n ((42 : Int), ())) fun x12 => (some (x12.1, (x12.2.1, (x12.2.2.1, (x12.2.2.2.1, (x12.2.2.2.2.1, ()))))))) else (ob (v_topology_edit n (t.1, (t.2.1, (t.2.2.1, (t.2.2.2.1, ()))))) fun x13 => (ob (chkI (lenL x13.2.2.1) t.2.2.2.2.1) fun x14 => (ob (idxN x13.2.2.1 x14) fun x15 => (ob (room x13.2.2.2.1 [(T.agg [(T.v (Go.Value.int Go.IntKind.i64 (-1 : Int))), (T.v (Go.Value.int Go.IntKind.i64 (-1 : Int))), (T.v (Go.Value.int Go.IntKind.i64 x13.2.1))])] 24) fun x16 => (ob (chkI (lenL x13.2.2.1) t.2.2.2.2.1) fun x17 => (ob (idxN x13.2.2.1 x17) fun x18 => (ob (chkI (lenL x13.2.2.1) t.2.2.2.2.2.1) fun x19 => (ob (idxN x13.2.2.1 x19) fun x20 => (ob (chkI (lenL x13.2.2.1) t.2.2.2.2.1) fun x21 => (ob (idxN x13.2.2.1 x21) fun x22 => (ob (chkI (lenL x13.2.2.1) t.2.2.2.2.2.1) fun x23 => (ob (idxN x13.2.2.1 x23) fun x24 => (ob (T.int? Go.IntKind.i64 (T.cell x22 0)) fun x25 => (ob (T.int? Go.IntKind.i64 (T.cell x24 0)) fun x26 => (ob (T.int? Go.IntKind.i64 (T.cell x15 3)) fun x27 => (ob (v___topology_editor__edge n ((), (x25, (x26, (x27, ((lenL x13.2.2.2.1), (x13.1, ((wr Go.IntKind.i64 (addI x13.2.1 (1 : Int))), (x13.2.2.1, (x16, ())))))))))) fun x28 => (ob (T.int? Go.IntKind.i64 (T.cell x18 2)) fun x29 => (ob (v___topology_editor__link n ((), (x29, (x28.1, (x28.2.2.1, (x28.2.2.2.1, (x28.2.2.2.2.1, (x28.2.2.2.2.2.1, ())))))))) fun x30 => (ob (v___topology_editor__link n ((), (x28.1, (t.2.2.2.2.2.1, (x30.1, (x30.2.1, (x30.2.2.1, (x30.2.2.2.1, ())))))))) fun x31 => (bif (eqI t.2.2.2.2.1 t.2.2.2.2.2.1) then (ob (v___topology_editor__link n ((), (x28.2.1, (x28.2.1, (x31.1, (x31.2.1, (x31.2.2.1, (x31.2.2.2.1, ())))))))) fun x32 => (ob (v___topology_editor__done n ((), (x32.1, (x32.2.1, (x32.2.2.1, (x32.2.2.2.1, ())))))) fun x33 => (some (x33.1, (x33.2.1, (x33.2.2.1, (x33.2.2.2.1, (x33.2.2.2.2.1, ())))))))) else (ob (T.int? Go.IntKind.i64 (T.cell x20 2)) fun x34 => (ob (v___topology_editor__link n ((), (x34, (x28.2.1, (x31.1, (x31.2.1, (x31.2.2.1, (x31.2.2.2.1, ())))))))) fun x35 => (ob (v___topology_editor__link n ((), (x28.2.1, (t.2.2.2.2.1, (x35.1, (x35.2.1, (x35.2.2.1, (x35.2.2.2.1, ())))))))) fun x36 => (ob (T.int? Go.IntKind.i64 (T.cell x20 2)) fun x37 => (ob (v___topology_editor__assign n ((), (x28.2.1, (x37, ((lenL x13.2.2.2.1), (x36.1, (x36.2.1, (x36.2.2.1, (x36.2.2.2.1, ()))))))))) fun x38 => (ob (v___topology_editor__done n ((), (x38.1, (x38.2.1, (x38.2.2.1, (x38.2.2.2.1, ())))))) fun x39 => (some (x39.1, (x39.2.1, (x39.2.2.1, (x39.2.2.2.1, (x39.2.2.2.2.1, ())))))))))))))))))))))))))))))))))))))))))))))
theorem le_topology_MEF (n : Nat) (t : (Int × (Int × ((List T) × ((List T) × (Int × (Int × Unit))))))) : Le (v_topology_MEF n t) (u_topology_MEF t) := by
  unfold v_topology_MEF u_topology_MEF
  repeat' first
    | with_reducible refine le_cond ?_ ?_
    | with_reducible refine le_onS (fun _ => ?_) fun _ => ?_
    | with_reducible refine le_ob ?_ fun _ => ?_
    | with_reducible refine le_both ?_ ?_
    | with_reducible exact le_rfl
    | with_reducible exact le_topology_Check n _
    | with_reducible exact le_topology_refuse n _
    | with_reducible exact le_topology_half n _
    | with_reducible exact le_topology_room n _
    | with_reducible exact le_topology_edit n _
    | with_reducible exact le___topology_editor__edge n _
    | with_reducible exact le___topology_editor__link n _
    | with_reducible exact le___topology_editor__done n _
    | with_reducible exact le___topology_editor__assign n _
noncomputable def v_topology_MEV (n : Nat) (t : (Int × (Int × ((List T) × ((List T) × (Int × (Int × Unit))))))) : Option (Int × (Int × ((List T) × ((List T) × (Int × Unit))))) :=
  (ob (v_topology_Check n (t.1, (t.2.1, (t.2.2.1, (t.2.2.2.1, ()))))) fun x0 => (bif (Bool.not x0.1) then (ob (v_topology_refuse n ((1 : Int), ())) fun x1 => (some (x1.1, (x1.2.1, (x1.2.2.1, (x1.2.2.2.1, (x1.2.2.2.2.1, ()))))))) else (ob (v_topology_index n (t.2.2.2.2.1, ((lenL t.2.2.2.1), ()))) fun x2 => (bif (Bool.not x2.1) then (ob (v_topology_refuse n ((1 : Int), ())) fun x3 => (some (x3.1, (x3.2.1, (x3.2.2.1, (x3.2.2.2.1, (x3.2.2.2.2.1, ()))))))) else (bif (Bool.not (eqI t.2.2.2.2.2.1 (-1 : Int))) then (ob (v_topology_half n (t.1, (t.2.1, (t.2.2.1, (t.2.2.2.1, (t.2.2.2.2.2.1, ())))))) fun x4 => (bif (Bool.not x4.1) then (ob (v_topology_refuse n ((1 : Int), ())) fun x5 => (some (x5.1, (x5.2.1, (x5.2.2.1, (x5.2.2.2.1, (x5.2.2.2.2.1, ()))))))) else (ob (v_topology_room n (t.1, (t.2.1, (t.2.2.1, (t.2.2.2.1, ((2 : Int), ((1 : Int), ((0 : Int), ((0 : Int), ()))))))))) fun x6 => (bif (Bool.not x6.1) then (ob (v_topology_refuse n ((2 : Int), ())) fun x7 => (some (x7.1, (x7.2.1, (x7.2.2.1, (x7.2.2.2.1, (x7.2.2.2.2.1, ()))))))) else (ob (v_topology_place n (t.1, (t.2.1, (t.2.2.1, (t.2.2.2.1, (t.2.2.2.2.1, (t.2.2.2.2.2.1, ()))))))) fun x8 => (bif (Bool.not x8.1) then (ob (v_topology_refuse n ((42 : Int), ())) fun x9 => (some (x9.1, (x9.2.1, (x9.2.2.1, (x9.2.2.2.1, (x9.2.2.2.2.1, ()))))))) else (ob (v_topology_edit n (t.1, (t.2.1, (t.2.2.1, (t.2.2.2.1, ()))))) fun x10 => (bif (ltI t.2.2.2.2.2.1 (0 : Int)) then (ob (chkI (lenL x10.2.2.2.1) t.2.2.2.2.1) fun x11 => (ob (idxN x10.2.2.2.1 x11) fun x12 => (ob (T.int? Go.IntKind.i64 (T.cell x12 1)) fun x13 => (ob (v___topology_editor__edge n ((), (x13, (x10.1, (t.2.2.2.2.1, (t.2.2.2.2.1, ((wr Go.IntKind.i64 (addI x10.1 (1 : Int))), (x10.2.1, (x10.2.2.1, (x10.2.2.2.1, ())))))))))) fun x14 => (ob (v___topology_editor__link n ((), (x14.1, (x14.2.1, (x14.2.2.1, (x14.2.2.2.1, (x14.2.2.2.2.1, (x14.2.2.2.2.2.1, ())))))))) fun x15 => (ob (v___topology_editor__link n ((), (x14.2.1, (x14.1, (x15.1, (x15.2.1, (x15.2.2.1, (x15.2.2.2.1, ())))))))) fun x16 => (ob (chkI (lenL x16.2.2.2.1) t.2.2.2.2.1) fun x17 => (ob (idxN x16.2.2.2.1 x17) fun x18 => (ob (v___topology_editor__done n ((), (x16.1, (x16.2.1, (x16.2.2.1, ((List.set x16.2.2.2.1 x17 (T.upd 3 x18 1 [(T.v (Go.Value.int Go.IntKind.i64 (-1 : Int)))])), ())))))) fun x19 => (some (x19.1, (x19.2.1, (x19.2.2.1, (x19.2.2.2.1, (x19.2.2.2.2.1, ()))))))))))))))) else (ob (chkI (lenL x10.2.2.1) t.2.2.2.2.2.1) fun x20 => (ob (idxN x10.2.2.1 x20) fun x21 => (ob (chkI (lenL x10.2.2.1) t.2.2.2.2.2.1) fun x22 => (ob (idxN x10.2.2.1 x22) fun x23 => (ob (T.int? Go.IntKind.i64 (T.cell x23 0)) fun x24 => (ob (v___topology_editor__edge n ((), (x24, (x10.1, (t.2.2.2.2.1, (t.2.2.2.2.1, ((wr Go.IntKind.i64 (addI x10.1 (1 : Int))), (x10.2.1, (x10.2.2.1, (x10.2.2.2.1, ())))))))))) fun x25 => (ob (T.int? Go.IntKind.i64 (T.cell x21 2)) fun x26 => (ob (v___topology_editor__link n ((), (x26, (x25.1, (x25.2.2.1, (x25.2.2.2.1, (x25.2.2.2.2.1, (x25.2.2.2.2.2.1, ())))))))) fun x27 => (ob (v___topology_editor__link n ((), (x25.1, (x25.2.1, (x27.1, (x27.2.1, (x27.2.2.1, (x27.2.2.2.1, ())))))))) fun x28 => (ob (v___topology_editor__link n ((), (x25.2.1, (t.2.2.2.2.2.1, (x28.1, (x28.2.1, (x28.2.2.1, (x28.2.2.2.1, ())))))))) fun x29 => (ob (v___topology_editor__done n ((), (x29.1, (x29.2.1, (x29.2.2.1, (x29.2.2.2.1, ())))))) fun x30 => (some (x30.1, (x30.2.1, (x30.2.2.1, (x30.2.2.2.1, (x30.2.2.2.2.1, ()))))))))))))))))))))))))) else (ob (v_topology_room n (t.1, (t.2.1, (t.2.2.1, (t.2.2.2.1, ((2 : Int), ((1 : Int), ((0 : Int), ((0 : Int), ()))))))))) fun x31 => (bif (Bool.not x31.1) then (ob (v_topology_refuse n ((2 : Int), ())) fun x32 => (some (x32.1, (x32.2.1, (x32.2.2.1, (x32.2.2.2.1, (x32.2.2.2.2.1, ()))))))) else (ob (v_topology_place n (t.1, (t.2.1, (t.2.2.1, (t.2.2.2.1, (t.2.2.2.2.1, (t.2.2.2.2.2.1, ()))))))) fun x33 => (bif (Bool.not x33.1) then (ob (v_topology_refuse n ((42 : Int), ())) fun x34 => (some (x34.1, (x34.2.1, (x34.2.2.1, (x34.2.2.2.1, (x34.2.2.2.2.1, ()))))))) else (ob (v_topology_edit n (t.1, (t.2.1, (t.2.2.1, (t.2.2.2.1, ()))))) fun x35 => (bif (ltI t.2.2.2.2.2.1 (0 : Int)) then (ob (chkI (lenL x35.2.2.2.1) t.2.2.2.2.1) fun x36 => (ob (idxN x35.2.2.2.1 x36) fun x37 => (ob (T.int? Go.IntKind.i64 (T.cell x37 1)) fun x38 => (ob (v___topology_editor__edge n ((), (x38, (x35.1, (t.2.2.2.2.1, (t.2.2.2.2.1, ((wr Go.IntKind.i64 (addI x35.1 (1 : Int))), (x35.2.1, (x35.2.2.1, (x35.2.2.2.1, ())))))))))) fun x39 => (ob (v___topology_editor__link n ((), (x39.1, (x39.2.1, (x39.2.2.1, (x39.2.2.2.1, (x39.2.2.2.2.1, (x39.2.2.2.2.2.1, ())))))))) fun x40 => (ob (v___topology_editor__link n ((), (x39.2.1, (x39.1, (x40.1, (x40.2.1, (x40.2.2.1, (x40.2.2.2.1, ())))))))) fun x41 => (ob (chkI (lenL x41.2.2.2.1) t.2.2.2.2.1) fun x42 => (ob (idxN x41.2.2.2.1 x42) fun x43 => (ob (v___topology_editor__done n ((), (x41.1, (x41.2.1, (x41.2.2.1, ((List.set x41.2.2.2.1 x42 (T.upd 3 x43 1 [(T.v (Go.Value.int Go.IntKind.i64 (-1 : Int)))])), ())))))) fun x44 => (some (x44.1, (x44.2.1, (x44.2.2.1, (x44.2.2.2.1, (x44.2.2.2.2.1, ()))))))))))))))) else (ob (chkI (lenL x35.2.2.1) t.2.2.2.2.2.1) fun x45 => (ob (idxN x35.2.2.1 x45) fun x46 => (ob (chkI (lenL x35.2.2.1) t.2.2.2.2.2.1) fun x47 => (ob (idxN x35.2.2.1 x47) fun x48 => (ob (T.int? Go.IntKind.i64 (T.cell x48 0)) fun x49 => (ob (v___topology_editor__edge n ((), (x49, (x35.1, (t.2.2.2.2.1, (t.2.2.2.2.1, ((wr Go.IntKind.i64 (addI x35.1 (1 : Int))), (x35.2.1, (x35.2.2.1, (x35.2.2.2.1, ())))))))))) fun x50 => (ob (T.int? Go.IntKind.i64 (T.cell x46 2)) fun x51 => (ob (v___topology_editor__link n ((), (x51, (x50.1, (x50.2.2.1, (x50.2.2.2.1, (x50.2.2.2.2.1, (x50.2.2.2.2.2.1, ())))))))) fun x52 => (ob (v___topology_editor__link n ((), (x50.1, (x50.2.1, (x52.1, (x52.2.1, (x52.2.2.1, (x52.2.2.2.1, ())))))))) fun x53 => (ob (v___topology_editor__link n ((), (x50.2.1, (t.2.2.2.2.2.1, (x53.1, (x53.2.1, (x53.2.2.1, (x53.2.2.2.1, ())))))))) fun x54 => (ob (v___topology_editor__done n ((), (x54.1, (x54.2.1, (x54.2.2.1, (x54.2.2.2.1, ())))))) fun x55 => (some (x55.1, (x55.2.1, (x55.2.2.1, (x55.2.2.2.1, (x55.2.2.2.2.1, ()))))))))))))))))))))))))))))
theorem le_topology_MEV (n : Nat) (t : (Int × (Int × ((List T) × ((List T) × (Int × (Int × Unit))))))) : Le (v_topology_MEV n t) (u_topology_MEV t) := by
  unfold v_topology_MEV u_topology_MEV
  repeat' first
    | with_reducible refine le_cond ?_ ?_
    | with_reducible refine le_onS (fun _ => ?_) fun _ => ?_
    | with_reducible refine le_ob ?_ fun _ => ?_
    | with_reducible refine le_both ?_ ?_
    | with_reducible exact le_rfl
    | with_reducible exact le_topology_Check n _
    | with_reducible exact le_topology_refuse n _
    | with_reducible exact le_topology_index n _
    | with_reducible exact le_topology_half n _
    | with_reducible exact le_topology_room n _
    | with_reducible exact le_topology_place n _
    | with_reducible exact le_topology_edit n _
    | with_reducible exact le___topology_editor__edge n _
    | with_reducible exact le___topology_editor__link n _
    | with_reducible exact le___topology_editor__done n _
noncomputable def v_brepkernellaw27_sane (n : Nat) (t : Unit) : Option (Bool × Unit) :=
  (ob (v_topology_MVFS n ()) fun x0 => (ob (v_topology_MEV n (x0.1, (x0.2.1, (x0.2.2.1, (x0.2.2.2.1, ((0 : Int), ((-1 : Int), ()))))))) fun x1 => (bif (Bool.not (eqI x1.2.2.2.2.1 (0 : Int))) then (some (Bool.false, ())) else (bif (Bool.not (eqI (lenL x1.2.2.1) (2 : Int))) then (some (Bool.false, ())) else (ob (v_topology_MEV n (x1.1, (x1.2.1, (x1.2.2.1, (x1.2.2.2.1, ((0 : Int), ((1 : Int), ()))))))) fun x2 => (bif (Bool.not (eqI x2.2.2.2.2.1 (0 : Int))) then (some (Bool.false, ())) else (bif (Bool.not (eqI (lenL x2.2.2.1) (4 : Int))) then (some (Bool.false, ())) else (ob (v_topology_MEF n (x2.1, (x2.2.1, (x2.2.2.1, (x2.2.2.2.1, ((0 : Int), ((3 : Int), ()))))))) fun x3 => (ob (v_topology_Count n (x3.1, (x3.2.1, (x3.2.2.1, (x3.2.2.2.1, ()))))) fun x4 => (bif (eqI x3.2.2.2.2.1 (0 : Int)) then (bif x4.2.2.2.2.2.2.1 then (bif (eqI x4.1 (3 : Int)) then (bif (eqI x4.2.1 (3 : Int)) then (bif (eqI x4.2.2.1 (2 : Int)) then (bif (eqI x4.2.2.2.2.2.1 (0 : Int)) then (some ((eqI x4.2.2.2.2.1 (1 : Int)), ())) else (some (Bool.false, ()))) else (some (Bool.false, ()))) else (some (Bool.false, ()))) else (some (Bool.false, ()))) else (some (Bool.false, ()))) else (some (Bool.false, ()))))))))))))
theorem le_brepkernellaw27_sane (n : Nat) (t : Unit) : Le (v_brepkernellaw27_sane n t) (u_brepkernellaw27_sane t) := by
  unfold v_brepkernellaw27_sane u_brepkernellaw27_sane
  repeat' first
    | with_reducible refine le_cond ?_ ?_
    | with_reducible refine le_onS (fun _ => ?_) fun _ => ?_
    | with_reducible refine le_ob ?_ fun _ => ?_
    | with_reducible refine le_both ?_ ?_
    | with_reducible exact le_rfl
    | with_reducible exact le_topology_MVFS n _
    | with_reducible exact le_topology_MEV n _
    | with_reducible exact le_topology_MEF n _
    | with_reducible exact le_topology_Count n _
end Go.Eng
