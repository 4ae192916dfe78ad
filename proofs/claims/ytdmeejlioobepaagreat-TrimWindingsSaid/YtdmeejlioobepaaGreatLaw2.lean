/- The functions and the laws of this seat in plain words; each statement names its conditions. -/
import Derived.Test.YtdmeejlioobepaaGreatGen3
import Derived.Test.YtdmeejlioobepaaGreatEng3
import Derived.Test.YtdmeejlioobepaaGreatLaw
set_option linter.unusedSimpArgs false
set_option linter.unusedVariables false
namespace Go.Eng
noncomputable def v_ref01_small(n:Nat)(t:((List T)×Unit)):Option (Int×Bool×Unit):=
 (bif (Go.Eng.eqI (Go.Eng.lenL t.1) (0:Int)) then (some ((0:Int),Bool.true,())) else (bif (Go.Eng.eqI (Go.Eng.lenL t.1) (1:Int)) then (ob (Go.Eng.idxL t.1 (0:Int)) fun x0=>(ob (Go.Eng.T.anyInt? (Go.Eng.T.cell x0 0)) fun x1=>(some ((Go.Eng.wr Go.IntKind.u64 x1),Bool.true,())))) else (bif (Go.Eng.eqI (Go.Eng.lenL t.1) (2:Int)) then (ob (Go.Eng.idxL t.1 (0:Int)) fun x2=>(ob (Go.Eng.T.anyInt? (Go.Eng.T.cell x2 0)) fun x3=>(ob (Go.Eng.idxL t.1 (1:Int)) fun x4=>(ob (Go.Eng.T.anyInt? (Go.Eng.T.cell x4 0)) fun x5=>(ob (Go.Eng.nn (32:Int)) fun x6=>(some ((Go.Eng.bitI Go.BinOp.or Go.IntKind.u64 (Go.Eng.wr Go.IntKind.u64 x3) (Go.Eng.wr Go.IntKind.u64 (Go.Eng.shlI Go.IntKind.u64 (Go.Eng.wr Go.IntKind.u64 x5) x6))),Bool.true,()))))))) else (some ((0:Int),Bool.false,())))))
theorem le_ref01_small(n:Nat)(t:((List T)×Unit)):Le (v_ref01_small n t) (u_ref01_small t):=by
 unfold v_ref01_small u_ref01_small
 repeat' first
  | with_reducible refine le_cond ?_ ?_
  | with_reducible refine le_onS (fun _=>?_) fun _=>?_
  | with_reducible refine le_ob ?_ fun _=>?_
  | with_reducible refine le_both ?_ ?_
  | with_reducible exact le_rfl
noncomputable def v_ref01_Trim_l0(n:Nat)(s0:(List T×Int×Unit)):Option ((List T×Int×Unit)⊕((List T×Int×Unit)⊕Empty)):=
 (bif (Go.Eng.ltI (0:Int) s0.2.1) then (ob (Go.Eng.idxL s0.1 (Go.Eng.wr Go.IntKind.i64 (Go.Eng.subI s0.2.1 (1:Int)))) fun x1=>(ob (Go.Eng.T.int? Go.IntKind.u32 (Go.Eng.T.cell x1 0)) fun x2=>(bif (Go.Eng.eqI x2 (0:Int)) then (some (Sum.inl (s0.1,(Go.Eng.wr Go.IntKind.i64 (Go.Eng.subI s0.2.1 (1:Int))),()))) else (some (Sum.inr (Sum.inl (s0.1,s0.2.1,()))))))) else (some (Sum.inr (Sum.inl (s0.1,s0.2.1,())))))
theorem le_ref01_Trim_l0(n:Nat)(s0:(List T×Int×Unit)):Le (v_ref01_Trim_l0 n s0) (u_ref01_Trim_l0 s0):=by
 unfold v_ref01_Trim_l0 u_ref01_Trim_l0
 repeat' first
  | with_reducible refine le_cond ?_ ?_
  | with_reducible refine le_onS (fun _=>?_) fun _=>?_
  | with_reducible refine le_ob ?_ fun _=>?_
  | with_reducible refine le_both ?_ ?_
  | with_reducible exact le_rfl
noncomputable def v_ref01_Trim(n:Nat)(t:((List T)×Unit)):Option ((List T)×Unit):=
 (ob (iter (v_ref01_Trim_l0 n) n (t.1,(Go.Eng.lenL t.1),())) fun q3=>onS q3 (fun t4=>(ob (Go.Eng.cutL t4.1 (0:Int) t4.2.1) fun x5=>(ob (Go.Eng.room [] x5 4) fun x6=>(some (x6,()))))) fun q7=>noS q7)
theorem le_ref01_Trim(n:Nat)(t:((List T)×Unit)):Le (v_ref01_Trim n t) (u_ref01_Trim t):=by
 unfold v_ref01_Trim u_ref01_Trim
 repeat' first
  | with_reducible refine le_cond ?_ ?_
  | with_reducible refine le_onS (fun _=>?_) fun _=>?_
  | with_reducible refine le_ob ?_ fun _=>?_
  | with_reducible refine le_both ?_ ?_
  | with_reducible exact le_rfl
  | with_reducible exact le_loop (fun s=>le_ref01_Trim_l0 n s) _ _
noncomputable def v_ref01_Of(n:Nat)(t:(Int×Unit)):Option ((List T)×Unit):=
 (ob (Go.Eng.nn (32:Int)) fun x0=>(ob (Go.Eng.v_ref01_Trim n ([(Go.Eng.T.v (Go.Value.int Go.IntKind.u32 (Go.Eng.wr Go.IntKind.u32 t.1))),(Go.Eng.T.v (Go.Value.int Go.IntKind.u32 (Go.Eng.wr Go.IntKind.u32 (Go.Eng.shrI Go.IntKind.u64 t.1 x0))))],())) fun x1=>(some (x1.1,()))))
theorem le_ref01_Of(n:Nat)(t:(Int×Unit)):Le (v_ref01_Of n t) (u_ref01_Of t):=by
 unfold v_ref01_Of u_ref01_Of
 repeat' first
  | with_reducible refine le_cond ?_ ?_
  | with_reducible refine le_onS (fun _=>?_) fun _=>?_
  | with_reducible refine le_ob ?_ fun _=>?_
  | with_reducible refine le_both ?_ ?_
  | with_reducible exact le_rfl
  | with_reducible exact le_ref01_Trim n _
noncomputable def v_ref01_Cmp_l0(n:Nat)(s0:(List T×List T×Int×Unit)):Option ((List T×List T×Int×Unit)⊕((Int×Unit)⊕((Unit)⊕Empty))):=
 (bif (Go.Eng.leI (0:Int) s0.2.2.1) then (ob (Go.Eng.idxL s0.1 s0.2.2.1) fun x1=>(ob (Go.Eng.idxL s0.2.1 s0.2.2.1) fun x2=>(ob (Go.Eng.T.int? Go.IntKind.u32 (Go.Eng.T.cell x1 0)) fun x3=>(ob (Go.Eng.T.int? Go.IntKind.u32 (Go.Eng.T.cell x2 0)) fun x4=>(bif (Go.Eng.ltI x3 x4) then (some (Sum.inr (Sum.inl ((-1:Int),())))) else (ob (Go.Eng.idxL s0.1 s0.2.2.1) fun x5=>(ob (Go.Eng.idxL s0.2.1 s0.2.2.1) fun x6=>(ob (Go.Eng.T.int? Go.IntKind.u32 (Go.Eng.T.cell x5 0)) fun x7=>(ob (Go.Eng.T.int? Go.IntKind.u32 (Go.Eng.T.cell x6 0)) fun x8=>(bif (Go.Eng.ltI x8 x7) then (some (Sum.inr (Sum.inl ((1:Int),())))) else (some (Sum.inl (s0.1,s0.2.1,(Go.Eng.wr Go.IntKind.i64 (Go.Eng.subI s0.2.2.1 (1:Int))),()))))))))))))) else (some (Sum.inr (Sum.inr (Sum.inl ())))))
theorem le_ref01_Cmp_l0(n:Nat)(s0:(List T×List T×Int×Unit)):Le (v_ref01_Cmp_l0 n s0) (u_ref01_Cmp_l0 s0):=by
 unfold v_ref01_Cmp_l0 u_ref01_Cmp_l0
 repeat' first
  | with_reducible refine le_cond ?_ ?_
  | with_reducible refine le_onS (fun _=>?_) fun _=>?_
  | with_reducible refine le_ob ?_ fun _=>?_
  | with_reducible refine le_both ?_ ?_
  | with_reducible exact le_rfl
noncomputable def v_ref01_Cmp(n:Nat)(t:((List T)×(List T)×Unit)):Option (Int×Unit):=
 (bif (Bool.not (Go.Eng.eqI (Go.Eng.lenL t.1) (Go.Eng.lenL t.2.1))) then (bif (Go.Eng.ltI (Go.Eng.lenL t.1) (Go.Eng.lenL t.2.1)) then (some ((-1:Int),())) else (some ((1:Int),()))) else (ob (iter (v_ref01_Cmp_l0 n) n (t.1,t.2.1,(Go.Eng.wr Go.IntKind.i64 (Go.Eng.subI (Go.Eng.lenL t.1) (1:Int))),())) fun q9=>onS q9 (fun t10=>(some (t10.1,()))) fun q11=>onS q11 (fun t12=>(some ((0:Int),()))) fun q13=>noS q13))
theorem le_ref01_Cmp(n:Nat)(t:((List T)×(List T)×Unit)):Le (v_ref01_Cmp n t) (u_ref01_Cmp t):=by
 unfold v_ref01_Cmp u_ref01_Cmp
 repeat' first
  | with_reducible refine le_cond ?_ ?_
  | with_reducible refine le_onS (fun _=>?_) fun _=>?_
  | with_reducible refine le_ob ?_ fun _=>?_
  | with_reducible refine le_both ?_ ?_
  | with_reducible exact le_rfl
  | with_reducible exact le_loop (fun s=>le_ref01_Cmp_l0 n s) _ _
noncomputable def v_ref01_Mul_l1(n:Nat)(s2:(List T×List T×List T×Int×Int×Int×Unit)):Option ((List T×List T×List T×Int×Int×Int×Unit)⊕((List T×List T×List T×Int×Int×Unit)⊕Empty)):=
 (bif (Go.Eng.ltI s2.2.2.2.2.2.1 (Go.Eng.lenL s2.2.1)) then (ob (Go.Eng.idxL s2.1 s2.2.2.2.1) fun x3=>(ob (Go.Eng.T.anyInt? (Go.Eng.T.cell x3 0)) fun x4=>(ob (Go.Eng.idxL s2.2.1 s2.2.2.2.2.2.1) fun x5=>(ob (Go.Eng.T.anyInt? (Go.Eng.T.cell x5 0)) fun x6=>(ob (Go.Eng.chkI (Go.Eng.lenL s2.2.2.1) (Go.Eng.wr Go.IntKind.i64 (Go.Eng.addI s2.2.2.2.1 s2.2.2.2.2.2.1))) fun x7=>(ob (Go.Eng.idxN s2.2.2.1 x7) fun x8=>(ob (Go.Eng.T.anyInt? (Go.Eng.T.cell x8 0)) fun x9=>(ob (Go.Eng.chkI (Go.Eng.lenL s2.2.2.1) (Go.Eng.wr Go.IntKind.i64 (Go.Eng.addI s2.2.2.2.1 s2.2.2.2.2.2.1))) fun x10=>(ob (Go.Eng.idxN s2.2.2.1 x10) fun x11=>(ob (Go.Eng.nn (32:Int)) fun x12=>(some (Sum.inl (s2.1,s2.2.1,(List.set s2.2.2.1 x10 (Go.Eng.T.upd 1 x11 0 [(Go.Eng.T.v (Go.Value.int Go.IntKind.u32 (Go.Eng.wr Go.IntKind.u32 (Go.Eng.wr Go.IntKind.u64 (Go.Eng.addI s2.2.2.2.2.1 (Go.Eng.wr Go.IntKind.u64 (Go.Eng.addI (Go.Eng.wr Go.IntKind.u64 (Go.Eng.mulI (Go.Eng.wr Go.IntKind.u64 x4) (Go.Eng.wr Go.IntKind.u64 x6))) (Go.Eng.wr Go.IntKind.u64 x9))))))))])),s2.2.2.2.1,(Go.Eng.shrI Go.IntKind.u64 (Go.Eng.wr Go.IntKind.u64 (Go.Eng.addI s2.2.2.2.2.1 (Go.Eng.wr Go.IntKind.u64 (Go.Eng.addI (Go.Eng.wr Go.IntKind.u64 (Go.Eng.mulI (Go.Eng.wr Go.IntKind.u64 x4) (Go.Eng.wr Go.IntKind.u64 x6))) (Go.Eng.wr Go.IntKind.u64 x9))))) x12),(Go.Eng.wr Go.IntKind.i64 (Go.Eng.addI s2.2.2.2.2.2.1 (1:Int))),()))))))))))))) else (some (Sum.inr (Sum.inl (s2.1,s2.2.1,s2.2.2.1,s2.2.2.2.1,s2.2.2.2.2.1,())))))
theorem le_ref01_Mul_l1(n:Nat)(s2:(List T×List T×List T×Int×Int×Int×Unit)):Le (v_ref01_Mul_l1 n s2) (u_ref01_Mul_l1 s2):=by
 unfold v_ref01_Mul_l1 u_ref01_Mul_l1
 repeat' first
  | with_reducible refine le_cond ?_ ?_
  | with_reducible refine le_onS (fun _=>?_) fun _=>?_
  | with_reducible refine le_ob ?_ fun _=>?_
  | with_reducible refine le_both ?_ ?_
  | with_reducible exact le_rfl
noncomputable def v_ref01_Mul_l0(n:Nat)(s1:(List T×List T×List T×Int×Unit)):Option ((List T×List T×List T×Int×Unit)⊕((List T×Unit)⊕Empty)):=
 (bif (Go.Eng.ltI s1.2.2.2.1 (Go.Eng.lenL s1.1)) then (ob (iter (v_ref01_Mul_l1 n) n (s1.1,s1.2.1,s1.2.2.1,s1.2.2.2.1,(0:Int),(0:Int),())) fun q13=>onS q13 (fun t14=>(ob (Go.Eng.chkI (Go.Eng.lenL t14.2.2.1) (Go.Eng.wr Go.IntKind.i64 (Go.Eng.addI t14.2.2.2.1 (Go.Eng.lenL t14.2.1)))) fun x15=>(ob (Go.Eng.idxN t14.2.2.1 x15) fun x16=>(some (Sum.inl (t14.1,t14.2.1,(List.set t14.2.2.1 x15 (Go.Eng.T.upd 1 x16 0 [(Go.Eng.T.v (Go.Value.int Go.IntKind.u32 (Go.Eng.wr Go.IntKind.u32 t14.2.2.2.2.1)))])),(Go.Eng.wr Go.IntKind.i64 (Go.Eng.addI t14.2.2.2.1 (1:Int))),())))))) fun q17=>noS q17) else (some (Sum.inr (Sum.inl (s1.2.2.1,())))))
theorem le_ref01_Mul_l0(n:Nat)(s1:(List T×List T×List T×Int×Unit)):Le (v_ref01_Mul_l0 n s1) (u_ref01_Mul_l0 s1):=by
 unfold v_ref01_Mul_l0 u_ref01_Mul_l0
 repeat' first
  | with_reducible refine le_cond ?_ ?_
  | with_reducible refine le_onS (fun _=>?_) fun _=>?_
  | with_reducible refine le_ob ?_ fun _=>?_
  | with_reducible refine le_both ?_ ?_
  | with_reducible exact le_rfl
  | with_reducible exact le_loop (fun s=>le_ref01_Mul_l1 n s) _ _
noncomputable def v_ref01_Mul(n:Nat)(t:((List T)×(List T)×Unit)):Option ((List T)×Unit):=
 (ob (Go.Eng.mkLen (Go.Eng.wr Go.IntKind.i64 (Go.Eng.addI (Go.Eng.lenL t.1) (Go.Eng.lenL t.2.1))) (Go.Eng.wr Go.IntKind.i64 (Go.Eng.addI (Go.Eng.lenL t.1) (Go.Eng.lenL t.2.1))) 4) fun x0=>(ob (iter (v_ref01_Mul_l0 n) n (t.1,t.2.1,(Go.Eng.repL x0.1 (Go.Eng.T.v (Go.Value.int Go.IntKind.u32 (0:Int)))),(0:Int),())) fun q18=>onS q18 (fun t19=>(ob (Go.Eng.v_ref01_Trim n (t19.1,())) fun x20=>(some (x20.1,())))) fun q21=>noS q21))
theorem le_ref01_Mul(n:Nat)(t:((List T)×(List T)×Unit)):Le (v_ref01_Mul n t) (u_ref01_Mul t):=by
 unfold v_ref01_Mul u_ref01_Mul
 repeat' first
  | with_reducible refine le_cond ?_ ?_
  | with_reducible refine le_onS (fun _=>?_) fun _=>?_
  | with_reducible refine le_ob ?_ fun _=>?_
  | with_reducible refine le_both ?_ ?_
  | with_reducible exact le_rfl
  | with_reducible exact le_ref01_Trim n _
  | with_reducible exact le_loop (fun s=>le_ref01_Mul_l0 n s) _ _
noncomputable def v_ref01_minus_l0(n:Nat)(s1:(List T×List T×List T×Int×Int×Unit)):Option ((List T×List T×List T×Int×Int×Unit)⊕((List T×Unit)⊕Empty)):=
 (bif (Go.Eng.ltI s1.2.2.2.2.1 (Go.Eng.lenL s1.1)) then (ob (α:=((List T×List T×List T×Int×Int×Unit)⊕Empty)) (bif (Go.Eng.ltI s1.2.2.2.2.1 (Go.Eng.lenL s1.2.1)) then (ob (Go.Eng.idxL s1.2.1 s1.2.2.2.2.1) fun x2=>(ob (Go.Eng.T.anyInt? (Go.Eng.T.cell x2 0)) fun x3=>(some (Sum.inl (s1.1,s1.2.1,s1.2.2.1,s1.2.2.2.2.1,(Go.Eng.wr Go.IntKind.u64 (Go.Eng.addI s1.2.2.2.1 (Go.Eng.wr Go.IntKind.u64 x3))),()))))) else (some (Sum.inl (s1.1,s1.2.1,s1.2.2.1,s1.2.2.2.2.1,s1.2.2.2.1,())))) fun q4=>onS q4 (fun t5=>(ob (Go.Eng.idxL t5.1 t5.2.2.2.1) fun x6=>(ob (Go.Eng.T.anyInt? (Go.Eng.T.cell x6 0)) fun x7=>(ob (α:=((List T×List T×List T×Int×Int×Int×Int×Unit)⊕Empty)) (bif (Go.Eng.ltI (Go.Eng.wr Go.IntKind.u64 x7) t5.2.2.2.2.1) then (some (Sum.inl (t5.1,t5.2.1,t5.2.2.1,(1:Int),t5.2.2.2.1,t5.2.2.2.2.1,(Go.Eng.wr Go.IntKind.u64 (Go.Eng.addI (Go.Eng.wr Go.IntKind.u64 x7) (4294967296:Int))),()))) else (some (Sum.inl (t5.1,t5.2.1,t5.2.2.1,(0:Int),t5.2.2.2.1,t5.2.2.2.2.1,(Go.Eng.wr Go.IntKind.u64 x7),())))) fun q8=>onS q8 (fun t9=>(ob (Go.Eng.chkI (Go.Eng.lenL t9.2.2.1) t9.2.2.2.2.1) fun x10=>(ob (Go.Eng.idxN t9.2.2.1 x10) fun x11=>(some (Sum.inl (t9.1,t9.2.1,(List.set t9.2.2.1 x10 (Go.Eng.T.upd 1 x11 0 [(Go.Eng.T.v (Go.Value.int Go.IntKind.u32 (Go.Eng.wr Go.IntKind.u32 (Go.Eng.wr Go.IntKind.u64 (Go.Eng.subI t9.2.2.2.2.2.2.1 t9.2.2.2.2.2.1)))))])),t9.2.2.2.1,(Go.Eng.wr Go.IntKind.i64 (Go.Eng.addI t9.2.2.2.2.1 (1:Int))),())))))) fun q12=>noS q12)))) fun q13=>noS q13) else (some (Sum.inr (Sum.inl (s1.2.2.1,())))))
theorem le_ref01_minus_l0(n:Nat)(s1:(List T×List T×List T×Int×Int×Unit)):Le (v_ref01_minus_l0 n s1) (u_ref01_minus_l0 s1):=by
 unfold v_ref01_minus_l0 u_ref01_minus_l0
 repeat' first
  | with_reducible refine le_cond ?_ ?_
  | with_reducible refine le_onS (fun _=>?_) fun _=>?_
  | with_reducible refine le_ob ?_ fun _=>?_
  | with_reducible refine le_both ?_ ?_
  | with_reducible exact le_rfl
noncomputable def v_ref01_minus(n:Nat)(t:((List T)×(List T)×Unit)):Option ((List T)×Unit):=
 (ob (Go.Eng.mkLen (Go.Eng.lenL t.1) (Go.Eng.lenL t.1) 4) fun x0=>(ob (iter (v_ref01_minus_l0 n) n (t.1,t.2.1,(Go.Eng.repL x0.1 (Go.Eng.T.v (Go.Value.int Go.IntKind.u32 (0:Int)))),(0:Int),(0:Int),())) fun q14=>onS q14 (fun t15=>(ob (Go.Eng.v_ref01_Trim n (t15.1,())) fun x16=>(some (x16.1,())))) fun q17=>noS q17))
theorem le_ref01_minus(n:Nat)(t:((List T)×(List T)×Unit)):Le (v_ref01_minus n t) (u_ref01_minus t):=by
 unfold v_ref01_minus u_ref01_minus
 repeat' first
  | with_reducible refine le_cond ?_ ?_
  | with_reducible refine le_onS (fun _=>?_) fun _=>?_
  | with_reducible refine le_ob ?_ fun _=>?_
  | with_reducible refine le_both ?_ ?_
  | with_reducible exact le_rfl
  | with_reducible exact le_ref01_Trim n _
  | with_reducible exact le_loop (fun s=>le_ref01_minus_l0 n s) _ _
noncomputable def v_ref01_Bits_l0(n:Nat)(s1:(Int×Int×Unit)):Option ((Int×Int×Unit)⊕((Int×Unit)⊕Empty)):=
 (bif (Bool.not (Go.Eng.eqI s1.2.1 (0:Int))) then (ob (Go.Eng.nn (1:Int)) fun x2=>(some (Sum.inl ((Go.Eng.wr Go.IntKind.i64 (Go.Eng.addI s1.1 (1:Int))),(Go.Eng.shrI Go.IntKind.u32 s1.2.1 x2),())))) else (some (Sum.inr (Sum.inl (s1.1,())))))
theorem le_ref01_Bits_l0(n:Nat)(s1:(Int×Int×Unit)):Le (v_ref01_Bits_l0 n s1) (u_ref01_Bits_l0 s1):=by
 unfold v_ref01_Bits_l0 u_ref01_Bits_l0
 repeat' first
  | with_reducible refine le_cond ?_ ?_
  | with_reducible refine le_onS (fun _=>?_) fun _=>?_
  | with_reducible refine le_ob ?_ fun _=>?_
  | with_reducible refine le_both ?_ ?_
  | with_reducible exact le_rfl
noncomputable def v_ref01_Bits(n:Nat)(t:((List T)×Unit)):Option (Int×Unit):=
 (bif (Go.Eng.eqI (Go.Eng.lenL t.1) (0:Int)) then (some ((0:Int),())) else (ob (Go.Eng.idxL t.1 (Go.Eng.wr Go.IntKind.i64 (Go.Eng.subI (Go.Eng.lenL t.1) (1:Int)))) fun x0=>(ob (Go.Eng.T.int? Go.IntKind.u32 (Go.Eng.T.cell x0 0)) fun x3=>(ob (iter (v_ref01_Bits_l0 n) n ((Go.Eng.wr Go.IntKind.i64 (Go.Eng.mulI (32:Int) (Go.Eng.wr Go.IntKind.i64 (Go.Eng.subI (Go.Eng.lenL t.1) (1:Int))))),x3,())) fun q4=>onS q4 (fun t5=>(some (t5.1,()))) fun q6=>noS q6))))
theorem le_ref01_Bits(n:Nat)(t:((List T)×Unit)):Le (v_ref01_Bits n t) (u_ref01_Bits t):=by
 unfold v_ref01_Bits u_ref01_Bits
 repeat' first
  | with_reducible refine le_cond ?_ ?_
  | with_reducible refine le_onS (fun _=>?_) fun _=>?_
  | with_reducible refine le_ob ?_ fun _=>?_
  | with_reducible refine le_both ?_ ?_
  | with_reducible exact le_rfl
  | with_reducible exact le_loop (fun s=>le_ref01_Bits_l0 n s) _ _
noncomputable def v_ref01_up_l0(n:Nat)(s1:(List T×Int×List T×Int×Int×Unit)):Option ((List T×Int×List T×Int×Int×Unit)⊕((List T×Int×Unit)⊕Empty)):=
 (bif (Go.Eng.ltI s1.2.2.2.2.1 (Go.Eng.lenL s1.1)) then (ob (Go.Eng.idxL s1.1 s1.2.2.2.2.1) fun x2=>(ob (Go.Eng.T.anyInt? (Go.Eng.T.cell x2 0)) fun x3=>(ob (Go.Eng.nn (Go.Eng.modI s1.2.1 (32:Int))) fun x4=>(ob (Go.Eng.room s1.2.2.1 [(Go.Eng.T.v (Go.Value.int Go.IntKind.u32 (Go.Eng.wr Go.IntKind.u32 (Go.Eng.bitI Go.BinOp.or Go.IntKind.u64 s1.2.2.2.1 (Go.Eng.wr Go.IntKind.u64 (Go.Eng.shlI Go.IntKind.u64 (Go.Eng.wr Go.IntKind.u64 x3) x4))))))] 4) fun x5=>(ob (Go.Eng.nn (32:Int)) fun x6=>(some (Sum.inl (s1.1,s1.2.1,x5,(Go.Eng.shrI Go.IntKind.u64 (Go.Eng.bitI Go.BinOp.or Go.IntKind.u64 s1.2.2.2.1 (Go.Eng.wr Go.IntKind.u64 (Go.Eng.shlI Go.IntKind.u64 (Go.Eng.wr Go.IntKind.u64 x3) x4))) x6),(Go.Eng.wr Go.IntKind.i64 (Go.Eng.addI s1.2.2.2.2.1 (1:Int))),())))))))) else (some (Sum.inr (Sum.inl (s1.2.2.1,s1.2.2.2.1,())))))
theorem le_ref01_up_l0(n:Nat)(s1:(List T×Int×List T×Int×Int×Unit)):Le (v_ref01_up_l0 n s1) (u_ref01_up_l0 s1):=by
 unfold v_ref01_up_l0 u_ref01_up_l0
 repeat' first
  | with_reducible refine le_cond ?_ ?_
  | with_reducible refine le_onS (fun _=>?_) fun _=>?_
  | with_reducible refine le_ob ?_ fun _=>?_
  | with_reducible refine le_both ?_ ?_
  | with_reducible exact le_rfl
noncomputable def v_ref01_up(n:Nat)(t:((List T)×Int×Unit)):Option ((List T)×Unit):=
 (ob (Go.Eng.mkLen (Go.Eng.wr Go.IntKind.i64 (Go.Eng.divI t.2.1 (32:Int))) (Go.Eng.wr Go.IntKind.i64 (Go.Eng.divI t.2.1 (32:Int))) 4) fun x0=>(ob (iter (v_ref01_up_l0 n) n (t.1,t.2.1,(Go.Eng.repL x0.1 (Go.Eng.T.v (Go.Value.int Go.IntKind.u32 (0:Int)))),(0:Int),(0:Int),())) fun q7=>onS q7 (fun t8=>(ob (Go.Eng.room t8.1 [(Go.Eng.T.v (Go.Value.int Go.IntKind.u32 (Go.Eng.wr Go.IntKind.u32 t8.2.1)))] 4) fun x9=>(ob (Go.Eng.v_ref01_Trim n (x9,())) fun x10=>(some (x10.1,()))))) fun q11=>noS q11))
theorem le_ref01_up(n:Nat)(t:((List T)×Int×Unit)):Le (v_ref01_up n t) (u_ref01_up t):=by
 unfold v_ref01_up u_ref01_up
 repeat' first
  | with_reducible refine le_cond ?_ ?_
  | with_reducible refine le_onS (fun _=>?_) fun _=>?_
  | with_reducible refine le_ob ?_ fun _=>?_
  | with_reducible refine le_both ?_ ?_
  | with_reducible exact le_rfl
  | with_reducible exact le_ref01_Trim n _
  | with_reducible exact le_loop (fun s=>le_ref01_up_l0 n s) _ _
noncomputable def v_ref01_shifted(n:Nat)(t:((List T)×Int×Unit)):Option ((List T)×Unit):=
 (bif (Go.Eng.eqI (Go.Eng.lenL t.1) (0:Int)) then (some ([],())) else (ob (Go.Eng.mkLen t.2.1 t.2.1 4) fun x0=>(ob (Go.Eng.room (Go.Eng.repL x0.1 (Go.Eng.T.v (Go.Value.int Go.IntKind.u32 (0:Int)))) t.1 4) fun x1=>(some (x1,())))))
theorem le_ref01_shifted(n:Nat)(t:((List T)×Int×Unit)):Le (v_ref01_shifted n t) (u_ref01_shifted t):=by
 unfold v_ref01_shifted u_ref01_shifted
 repeat' first
  | with_reducible refine le_cond ?_ ?_
  | with_reducible refine le_onS (fun _=>?_) fun _=>?_
  | with_reducible refine le_ob ?_ fun _=>?_
  | with_reducible refine le_both ?_ ?_
  | with_reducible exact le_rfl
noncomputable def v_ref01_times(n:Nat)(t:((List T)×Int×Unit)):Option ((List T)×Unit):=
 (ob (Go.Eng.v_ref01_Of n ((Go.Eng.wr Go.IntKind.u64 t.2.1),())) fun x0=>(ob (Go.Eng.v_ref01_Mul n (t.1,x0.1,())) fun x1=>(some (x1.1,()))))
theorem le_ref01_times(n:Nat)(t:((List T)×Int×Unit)):Le (v_ref01_times n t) (u_ref01_times t):=by
 unfold v_ref01_times u_ref01_times
 repeat' first
  | with_reducible refine le_cond ?_ ?_
  | with_reducible refine le_onS (fun _=>?_) fun _=>?_
  | with_reducible refine le_ob ?_ fun _=>?_
  | with_reducible refine le_both ?_ ?_
  | with_reducible exact le_rfl
  | with_reducible exact le_ref01_Of n _
  | with_reducible exact le_ref01_Mul n _
noncomputable def v_ref01_byLimb_l0(n:Nat)(s1:(List T×Int×List T×Int×Int×Unit)):Option ((List T×Int×List T×Int×Int×Unit)⊕((List T×Int×Unit)⊕Empty)):=
 (bif (Go.Eng.leI (0:Int) s1.2.2.2.2.1) then (ob (Go.Eng.nn (32:Int)) fun x2=>(ob (Go.Eng.idxL s1.1 s1.2.2.2.2.1) fun x3=>(ob (Go.Eng.T.anyInt? (Go.Eng.T.cell x3 0)) fun x4=>(ob (Go.Eng.nz (Go.Eng.wr Go.IntKind.u64 s1.2.1)) fun x5=>(ob (Go.Eng.chkI (Go.Eng.lenL s1.2.2.1) s1.2.2.2.2.1) fun x6=>(ob (Go.Eng.idxN s1.2.2.1 x6) fun x7=>(ob (Go.Eng.nz (Go.Eng.wr Go.IntKind.u64 s1.2.1)) fun x8=>(some (Sum.inl (s1.1,s1.2.1,(List.set s1.2.2.1 x6 (Go.Eng.T.upd 1 x7 0 [(Go.Eng.T.v (Go.Value.int Go.IntKind.u32 (Go.Eng.wr Go.IntKind.u32 (Go.Eng.wr Go.IntKind.u64 (Go.Eng.divI (Go.Eng.bitI Go.BinOp.or Go.IntKind.u64 (Go.Eng.wr Go.IntKind.u64 (Go.Eng.shlI Go.IntKind.u64 s1.2.2.2.1 x2)) (Go.Eng.wr Go.IntKind.u64 x4)) x5)))))])),(Go.Eng.modI (Go.Eng.bitI Go.BinOp.or Go.IntKind.u64 (Go.Eng.wr Go.IntKind.u64 (Go.Eng.shlI Go.IntKind.u64 s1.2.2.2.1 x2)) (Go.Eng.wr Go.IntKind.u64 x4)) x8),(Go.Eng.wr Go.IntKind.i64 (Go.Eng.subI s1.2.2.2.2.1 (1:Int))),())))))))))) else (some (Sum.inr (Sum.inl (s1.2.2.1,s1.2.2.2.1,())))))
theorem le_ref01_byLimb_l0(n:Nat)(s1:(List T×Int×List T×Int×Int×Unit)):Le (v_ref01_byLimb_l0 n s1) (u_ref01_byLimb_l0 s1):=by
 unfold v_ref01_byLimb_l0 u_ref01_byLimb_l0
 repeat' first
  | with_reducible refine le_cond ?_ ?_
  | with_reducible refine le_onS (fun _=>?_) fun _=>?_
  | with_reducible refine le_ob ?_ fun _=>?_
  | with_reducible refine le_both ?_ ?_
  | with_reducible exact le_rfl
noncomputable def v_ref01_byLimb(n:Nat)(t:((List T)×Int×Unit)):Option ((List T)×Int×Unit):=
 (ob (Go.Eng.mkLen (Go.Eng.lenL t.1) (Go.Eng.lenL t.1) 4) fun x0=>(ob (iter (v_ref01_byLimb_l0 n) n (t.1,t.2.1,(Go.Eng.repL x0.1 (Go.Eng.T.v (Go.Value.int Go.IntKind.u32 (0:Int)))),(0:Int),(Go.Eng.wr Go.IntKind.i64 (Go.Eng.subI (Go.Eng.lenL t.1) (1:Int))),())) fun q9=>onS q9 (fun t10=>(ob (Go.Eng.v_ref01_Trim n (t10.1,())) fun x11=>(some (x11.1,(Go.Eng.wr Go.IntKind.u32 t10.2.1),())))) fun q12=>noS q12))
theorem le_ref01_byLimb(n:Nat)(t:((List T)×Int×Unit)):Le (v_ref01_byLimb n t) (u_ref01_byLimb t):=by
 unfold v_ref01_byLimb u_ref01_byLimb
 repeat' first
  | with_reducible refine le_cond ?_ ?_
  | with_reducible refine le_onS (fun _=>?_) fun _=>?_
  | with_reducible refine le_ob ?_ fun _=>?_
  | with_reducible refine le_both ?_ ?_
  | with_reducible exact le_rfl
  | with_reducible exact le_ref01_Trim n _
  | with_reducible exact le_loop (fun s=>le_ref01_byLimb_l0 n s) _ _
noncomputable def v_ref01_down_l0(n:Nat)(s2:(List T×Int×List T×Int×Unit)):Option ((List T×Int×List T×Int×Unit)⊕((List T×Unit)⊕Empty)):=
 (bif (Go.Eng.ltI s2.2.2.2.1 (Go.Eng.lenL s2.1)) then (ob (Go.Eng.idxL s2.1 s2.2.2.2.1) fun x3=>(ob (Go.Eng.T.anyInt? (Go.Eng.T.cell x3 0)) fun x4=>(ob (α:=((List T×Int×List T×Int×Int×Unit)⊕Empty)) (bif (Go.Eng.ltI (Go.Eng.wr Go.IntKind.i64 (Go.Eng.addI s2.2.2.2.1 (1:Int))) (Go.Eng.lenL s2.1)) then (ob (Go.Eng.idxL s2.1 (Go.Eng.wr Go.IntKind.i64 (Go.Eng.addI s2.2.2.2.1 (1:Int)))) fun x5=>(ob (Go.Eng.T.anyInt? (Go.Eng.T.cell x5 0)) fun x6=>(ob (Go.Eng.nn (32:Int)) fun x7=>(some (Sum.inl (s2.1,s2.2.1,s2.2.2.1,s2.2.2.2.1,(Go.Eng.bitI Go.BinOp.or Go.IntKind.u64 (Go.Eng.wr Go.IntKind.u64 x4) (Go.Eng.wr Go.IntKind.u64 (Go.Eng.shlI Go.IntKind.u64 (Go.Eng.wr Go.IntKind.u64 x6) x7))),())))))) else (some (Sum.inl (s2.1,s2.2.1,s2.2.2.1,s2.2.2.2.1,(Go.Eng.wr Go.IntKind.u64 x4),())))) fun q8=>onS q8 (fun t9=>(ob (Go.Eng.nn (Go.Eng.modI t9.2.1 (32:Int))) fun x10=>(ob (Go.Eng.chkI (Go.Eng.lenL t9.2.2.1) t9.2.2.2.1) fun x11=>(ob (Go.Eng.idxN t9.2.2.1 x11) fun x12=>(some (Sum.inl (t9.1,t9.2.1,(List.set t9.2.2.1 x11 (Go.Eng.T.upd 1 x12 0 [(Go.Eng.T.v (Go.Value.int Go.IntKind.u32 (Go.Eng.wr Go.IntKind.u32 (Go.Eng.shrI Go.IntKind.u64 t9.2.2.2.2.1 x10))))])),(Go.Eng.wr Go.IntKind.i64 (Go.Eng.addI t9.2.2.2.1 (1:Int))),()))))))) fun q13=>noS q13))) else (some (Sum.inr (Sum.inl (s2.2.2.1,())))))
theorem le_ref01_down_l0(n:Nat)(s2:(List T×Int×List T×Int×Unit)):Le (v_ref01_down_l0 n s2) (u_ref01_down_l0 s2):=by
 unfold v_ref01_down_l0 u_ref01_down_l0
 repeat' first
  | with_reducible refine le_cond ?_ ?_
  | with_reducible refine le_onS (fun _=>?_) fun _=>?_
  | with_reducible refine le_ob ?_ fun _=>?_
  | with_reducible refine le_both ?_ ?_
  | with_reducible exact le_rfl
noncomputable def v_ref01_down(n:Nat)(t:((List T)×Int×Unit)):Option ((List T)×Unit):=
 (bif (Go.Eng.leI (Go.Eng.lenL t.1) (Go.Eng.wr Go.IntKind.i64 (Go.Eng.divI t.2.1 (32:Int)))) then (some ([],())) else (ob (Go.Eng.cutL t.1 (Go.Eng.wr Go.IntKind.i64 (Go.Eng.divI t.2.1 (32:Int))) (Go.Eng.lenL t.1)) fun x0=>(ob (Go.Eng.mkLen (Go.Eng.lenL x0) (Go.Eng.lenL x0) 4) fun x1=>(ob (iter (v_ref01_down_l0 n) n (x0,t.2.1,(Go.Eng.repL x1.1 (Go.Eng.T.v (Go.Value.int Go.IntKind.u32 (0:Int)))),(0:Int),())) fun q14=>onS q14 (fun t15=>(ob (Go.Eng.v_ref01_Trim n (t15.1,())) fun x16=>(some (x16.1,())))) fun q17=>noS q17))))
theorem le_ref01_down(n:Nat)(t:((List T)×Int×Unit)):Le (v_ref01_down n t) (u_ref01_down t):=by
 unfold v_ref01_down u_ref01_down
 repeat' first
  | with_reducible refine le_cond ?_ ?_
  | with_reducible refine le_onS (fun _=>?_) fun _=>?_
  | with_reducible refine le_ob ?_ fun _=>?_
  | with_reducible refine le_both ?_ ?_
  | with_reducible exact le_rfl
  | with_reducible exact le_ref01_Trim n _
  | with_reducible exact le_loop (fun s=>le_ref01_down_l0 n s) _ _
noncomputable def v_ref01_Div_l1(n:Nat)(s33:(List T×List T×List T×Int×Int×Int×Int×List T×Unit)):Option ((List T×List T×List T×Int×Int×Int×Int×List T×Unit)⊕((List T×List T×List T×Int×Int×Int×Int×List T×Unit)⊕Empty)):=
 (ob (Go.Eng.v_ref01_Cmp n (s33.2.2.2.2.2.2.2.1,s33.2.2.1,())) fun x34=>(bif (Go.Eng.ltI (0:Int) x34.1) then (ob (Go.Eng.v_ref01_shifted n (s33.1,s33.2.2.2.2.2.1,())) fun x35=>(ob (Go.Eng.v_ref01_minus n (s33.2.2.2.2.2.2.2.1,x35.1,())) fun x36=>(some (Sum.inl (s33.1,s33.2.1,s33.2.2.1,s33.2.2.2.1,s33.2.2.2.2.1,s33.2.2.2.2.2.1,(Go.Eng.wr Go.IntKind.u64 (Go.Eng.subI s33.2.2.2.2.2.2.1 (1:Int))),x36.1,()))))) else (some (Sum.inr (Sum.inl (s33.1,s33.2.1,s33.2.2.1,s33.2.2.2.1,s33.2.2.2.2.1,s33.2.2.2.2.2.1,s33.2.2.2.2.2.2.1,s33.2.2.2.2.2.2.2.1,()))))))
theorem le_ref01_Div_l1(n:Nat)(s33:(List T×List T×List T×Int×Int×Int×Int×List T×Unit)):Le (v_ref01_Div_l1 n s33) (u_ref01_Div_l1 s33):=by
 unfold v_ref01_Div_l1 u_ref01_Div_l1
 repeat' first
  | with_reducible refine le_cond ?_ ?_
  | with_reducible refine le_onS (fun _=>?_) fun _=>?_
  | with_reducible refine le_ob ?_ fun _=>?_
  | with_reducible refine le_both ?_ ?_
  | with_reducible exact le_rfl
  | with_reducible exact le_ref01_Cmp n _
  | with_reducible exact le_ref01_shifted n _
  | with_reducible exact le_ref01_minus n _
noncomputable def v_ref01_Div_l0(n:Nat)(s17:(List T×List T×List T×Int×Int×Int×Unit)):Option ((List T×List T×List T×Int×Int×Int×Unit)⊕((List T×List T×Int×Unit)⊕Empty)):=
 (bif (Go.Eng.leI (0:Int) s17.2.2.2.2.2.1) then (ob (α:=((List T×List T×List T×Int×Int×Int×Int×Unit)⊕Empty)) (bif (Go.Eng.ltI (Go.Eng.wr Go.IntKind.i64 (Go.Eng.addI s17.2.2.2.2.2.1 s17.2.2.2.2.1)) (Go.Eng.lenL s17.2.2.1)) then (ob (Go.Eng.idxL s17.2.2.1 (Go.Eng.wr Go.IntKind.i64 (Go.Eng.addI s17.2.2.2.2.2.1 s17.2.2.2.2.1))) fun x18=>(ob (Go.Eng.T.anyInt? (Go.Eng.T.cell x18 0)) fun x19=>(some (Sum.inl (s17.1,s17.2.1,s17.2.2.1,s17.2.2.2.1,s17.2.2.2.2.1,s17.2.2.2.2.2.1,(Go.Eng.wr Go.IntKind.u64 x19),()))))) else (some (Sum.inl (s17.1,s17.2.1,s17.2.2.1,s17.2.2.2.1,s17.2.2.2.2.1,s17.2.2.2.2.2.1,(0:Int),())))) fun q20=>onS q20 (fun t21=>(ob (α:=((List T×List T×List T×Int×Int×Int×Int×Unit)⊕Empty)) (bif (Go.Eng.ltI (Go.Eng.wr Go.IntKind.i64 (Go.Eng.subI (Go.Eng.wr Go.IntKind.i64 (Go.Eng.addI t21.2.2.2.2.2.1 t21.2.2.2.2.1)) (1:Int))) (Go.Eng.lenL t21.2.2.1)) then (ob (Go.Eng.nn (32:Int)) fun x22=>(ob (Go.Eng.idxL t21.2.2.1 (Go.Eng.wr Go.IntKind.i64 (Go.Eng.subI (Go.Eng.wr Go.IntKind.i64 (Go.Eng.addI t21.2.2.2.2.2.1 t21.2.2.2.2.1)) (1:Int)))) fun x23=>(ob (Go.Eng.T.anyInt? (Go.Eng.T.cell x23 0)) fun x24=>(some (Sum.inl (t21.1,t21.2.1,t21.2.2.1,t21.2.2.2.1,t21.2.2.2.2.1,t21.2.2.2.2.2.1,(Go.Eng.bitI Go.BinOp.or Go.IntKind.u64 (Go.Eng.wr Go.IntKind.u64 (Go.Eng.shlI Go.IntKind.u64 t21.2.2.2.2.2.2.1 x22)) (Go.Eng.wr Go.IntKind.u64 x24)),())))))) else (ob (Go.Eng.nn (32:Int)) fun x25=>(some (Sum.inl (t21.1,t21.2.1,t21.2.2.1,t21.2.2.2.1,t21.2.2.2.2.1,t21.2.2.2.2.2.1,(Go.Eng.wr Go.IntKind.u64 (Go.Eng.shlI Go.IntKind.u64 t21.2.2.2.2.2.2.1 x25)),()))))) fun q26=>onS q26 (fun t27=>(ob (Go.Eng.idxL t27.1 (Go.Eng.wr Go.IntKind.i64 (Go.Eng.subI t27.2.2.2.2.1 (1:Int)))) fun x28=>(ob (Go.Eng.T.anyInt? (Go.Eng.T.cell x28 0)) fun x29=>(ob (Go.Eng.nz (Go.Eng.wr Go.IntKind.u64 x29)) fun x30=>(ob (Go.Eng.v_ref01_times n (t27.1,(Go.Eng.wr Go.IntKind.u32 (Go.Eng.mmI Bool.false (Go.Eng.wr Go.IntKind.u64 (Go.Eng.divI t27.2.2.2.2.2.2.1 x30)) (4294967295:Int))),())) fun x31=>(ob (Go.Eng.v_ref01_shifted n (x31.1,t27.2.2.2.2.2.1,())) fun x32=>(ob (iter (v_ref01_Div_l1 n) n (t27.1,t27.2.1,t27.2.2.1,t27.2.2.2.1,t27.2.2.2.2.1,t27.2.2.2.2.2.1,(Go.Eng.mmI Bool.false (Go.Eng.wr Go.IntKind.u64 (Go.Eng.divI t27.2.2.2.2.2.2.1 x30)) (4294967295:Int)),x32.1,())) fun q37=>onS q37 (fun t38=>(ob (Go.Eng.chkI (Go.Eng.lenL t38.2.1) t38.2.2.2.2.2.1) fun x39=>(ob (Go.Eng.idxN t38.2.1 x39) fun x40=>(ob (Go.Eng.v_ref01_minus n (t38.2.2.1,t38.2.2.2.2.2.2.2.1,())) fun x41=>(some (Sum.inl (t38.1,(List.set t38.2.1 x39 (Go.Eng.T.upd 1 x40 0 [(Go.Eng.T.v (Go.Value.int Go.IntKind.u32 (Go.Eng.wr Go.IntKind.u32 t38.2.2.2.2.2.2.1)))])),x41.1,t38.2.2.2.1,t38.2.2.2.2.1,(Go.Eng.wr Go.IntKind.i64 (Go.Eng.subI t38.2.2.2.2.2.1 (1:Int))),()))))))) fun q42=>noS q42))))))) fun q43=>noS q43)) fun q44=>noS q44) else (some (Sum.inr (Sum.inl (s17.2.1,s17.2.2.1,s17.2.2.2.1,())))))
theorem le_ref01_Div_l0(n:Nat)(s17:(List T×List T×List T×Int×Int×Int×Unit)):Le (v_ref01_Div_l0 n s17) (u_ref01_Div_l0 s17):=by
 unfold v_ref01_Div_l0 u_ref01_Div_l0
 repeat' first
  | with_reducible refine le_cond ?_ ?_
  | with_reducible refine le_onS (fun _=>?_) fun _=>?_
  | with_reducible refine le_ob ?_ fun _=>?_
  | with_reducible refine le_both ?_ ?_
  | with_reducible exact le_rfl
  | with_reducible exact le_ref01_times n _
  | with_reducible exact le_ref01_shifted n _
  | with_reducible exact le_ref01_minus n _
  | with_reducible exact le_loop (fun s=>le_ref01_Div_l1 n s) _ _
noncomputable def v_ref01_Div(n:Nat)(t:((List T)×(List T)×Unit)):Option ((List T)×(List T)×Int×Unit):=
 (bif (Go.Eng.eqI (Go.Eng.lenL t.2.1) (0:Int)) then (some ([],[],(3:Int),())) else (ob (Go.Eng.v_ref01_Cmp n (t.1,t.2.1,())) fun x0=>(bif (Go.Eng.ltI x0.1 (0:Int)) then (ob (Go.Eng.v_ref01_Trim n (t.1,())) fun x1=>(some ([],x1.1,(0:Int),()))) else (ob (Go.Eng.v_ref01_small n (t.1,())) fun x2=>(bif x2.2.1 then (ob (Go.Eng.v_ref01_small n (t.2.1,())) fun x3=>(ob (Go.Eng.nz x3.1) fun x4=>(ob (Go.Eng.v_ref01_Of n ((Go.Eng.wr Go.IntKind.u64 (Go.Eng.divI x2.1 x4)),())) fun x5=>(ob (Go.Eng.nz x3.1) fun x6=>(ob (Go.Eng.v_ref01_Of n ((Go.Eng.modI x2.1 x6),())) fun x7=>(some (x5.1,x7.1,(0:Int),()))))))) else (bif (Go.Eng.eqI (Go.Eng.lenL t.2.1) (1:Int)) then (ob (Go.Eng.idxL t.2.1 (0:Int)) fun x8=>(ob (Go.Eng.T.int? Go.IntKind.u32 (Go.Eng.T.cell x8 0)) fun x9=>(ob (Go.Eng.v_ref01_byLimb n (t.1,x9,())) fun x10=>(ob (Go.Eng.v_ref01_Of n ((Go.Eng.wr Go.IntKind.u64 x10.2.1),())) fun x11=>(some (x10.1,x11.1,(0:Int),())))))) else (ob (Go.Eng.cutL t.2.1 (Go.Eng.wr Go.IntKind.i64 (Go.Eng.subI (Go.Eng.lenL t.2.1) (1:Int))) (Go.Eng.lenL t.2.1)) fun x12=>(ob (Go.Eng.v_ref01_Bits n (x12,())) fun x13=>(ob (Go.Eng.v_ref01_up n (t.2.1,(Go.Eng.wr Go.IntKind.i64 (Go.Eng.subI (32:Int) x13.1)),())) fun x14=>(ob (Go.Eng.v_ref01_up n (t.1,(Go.Eng.wr Go.IntKind.i64 (Go.Eng.subI (32:Int) x13.1)),())) fun x15=>(ob (Go.Eng.mkLen (Go.Eng.wr Go.IntKind.i64 (Go.Eng.addI (Go.Eng.wr Go.IntKind.i64 (Go.Eng.subI (Go.Eng.lenL x15.1) (Go.Eng.lenL x14.1))) (1:Int))) (Go.Eng.wr Go.IntKind.i64 (Go.Eng.addI (Go.Eng.wr Go.IntKind.i64 (Go.Eng.subI (Go.Eng.lenL x15.1) (Go.Eng.lenL x14.1))) (1:Int))) 4) fun x16=>(ob (iter (v_ref01_Div_l0 n) n (x14.1,(Go.Eng.repL x16.1 (Go.Eng.T.v (Go.Value.int Go.IntKind.u32 (0:Int)))),x15.1,(Go.Eng.wr Go.IntKind.i64 (Go.Eng.subI (32:Int) x13.1)),(Go.Eng.lenL x14.1),(Go.Eng.wr Go.IntKind.i64 (Go.Eng.subI (Go.Eng.lenL x15.1) (Go.Eng.lenL x14.1))),())) fun q45=>onS q45 (fun t46=>(ob (Go.Eng.v_ref01_Trim n (t46.1,())) fun x47=>(ob (Go.Eng.v_ref01_down n (t46.2.1,t46.2.2.1,())) fun x48=>(some (x47.1,x48.1,(0:Int),()))))) fun q49=>noS q49))))))))))))
theorem le_ref01_Div(n:Nat)(t:((List T)×(List T)×Unit)):Le (v_ref01_Div n t) (u_ref01_Div t):=by
 unfold v_ref01_Div u_ref01_Div
 repeat' first
  | with_reducible refine le_cond ?_ ?_
  | with_reducible refine le_onS (fun _=>?_) fun _=>?_
  | with_reducible refine le_ob ?_ fun _=>?_
  | with_reducible refine le_both ?_ ?_
  | with_reducible exact le_rfl
  | with_reducible exact le_ref01_Cmp n _
  | with_reducible exact le_ref01_Trim n _
  | with_reducible exact le_ref01_small n _
  | with_reducible exact le_ref01_Of n _
  | with_reducible exact le_ref01_byLimb n _
  | with_reducible exact le_ref01_Bits n _
  | with_reducible exact le_ref01_up n _
  | with_reducible exact le_ref01_down n _
  | with_reducible exact le_loop (fun s=>le_ref01_Div_l0 n s) _ _
noncomputable def v_ref01_Gcd_l1(n:Nat)(s5:(Int×Int×Unit)):Option ((Int×Int×Unit)⊕((Int×Unit)⊕Empty)):=
 (bif (Bool.not (Go.Eng.eqI s5.2.1 (0:Int))) then (ob (Go.Eng.nz s5.2.1) fun x6=>(some (Sum.inl (s5.2.1,(Go.Eng.modI s5.1 x6),())))) else (some (Sum.inr (Sum.inl (s5.1,())))))
theorem le_ref01_Gcd_l1(n:Nat)(s5:(Int×Int×Unit)):Le (v_ref01_Gcd_l1 n s5) (u_ref01_Gcd_l1 s5):=by
 unfold v_ref01_Gcd_l1 u_ref01_Gcd_l1
 repeat' first
  | with_reducible refine le_cond ?_ ?_
  | with_reducible refine le_onS (fun _=>?_) fun _=>?_
  | with_reducible refine le_ob ?_ fun _=>?_
  | with_reducible refine le_both ?_ ?_
  | with_reducible exact le_rfl
noncomputable def v_ref01_Gcd_l0(n:Nat)(s2:(List T×List T×Unit)):Option ((List T×List T×Unit)⊕((List T×Unit)⊕((List T×Unit)⊕Empty))):=
 (bif (Go.Eng.ltI (0:Int) (Go.Eng.lenL s2.2.1)) then (ob (Go.Eng.v_ref01_small n (s2.1,())) fun x3=>(ob (Go.Eng.v_ref01_small n (s2.2.1,())) fun x4=>(bif x3.2.1 then (bif x4.2.1 then (ob (iter (v_ref01_Gcd_l1 n) n (x3.1,x4.1,())) fun q7=>onS q7 (fun t8=>(ob (Go.Eng.v_ref01_Of n (t8.1,())) fun x9=>(some (Sum.inr (Sum.inl (x9.1,())))))) fun q10=>noS q10) else (ob (Go.Eng.v_ref01_Div n (s2.1,s2.2.1,())) fun x11=>(some (Sum.inl (s2.2.1,x11.2.1,()))))) else (ob (Go.Eng.v_ref01_Div n (s2.1,s2.2.1,())) fun x12=>(some (Sum.inl (s2.2.1,x12.2.1,()))))))) else (some (Sum.inr (Sum.inr (Sum.inl (s2.1,()))))))
theorem le_ref01_Gcd_l0(n:Nat)(s2:(List T×List T×Unit)):Le (v_ref01_Gcd_l0 n s2) (u_ref01_Gcd_l0 s2):=by
 unfold v_ref01_Gcd_l0 u_ref01_Gcd_l0
 repeat' first
  | with_reducible refine le_cond ?_ ?_
  | with_reducible refine le_onS (fun _=>?_) fun _=>?_
  | with_reducible refine le_ob ?_ fun _=>?_
  | with_reducible refine le_both ?_ ?_
  | with_reducible exact le_rfl
  | with_reducible exact le_ref01_small n _
  | with_reducible exact le_ref01_Of n _
  | with_reducible exact le_ref01_Div n _
  | with_reducible exact le_loop (fun s=>le_ref01_Gcd_l1 n s) _ _
noncomputable def v_ref01_Gcd(n:Nat)(t:((List T)×(List T)×Unit)):Option ((List T)×Unit):=
 (ob (Go.Eng.v_ref01_Trim n (t.1,())) fun x0=>(ob (Go.Eng.v_ref01_Trim n (t.2.1,())) fun x1=>(ob (iter (v_ref01_Gcd_l0 n) n (x0.1,x1.1,())) fun q13=>onS q13 (fun t14=>(some (t14.1,()))) fun q15=>onS q15 (fun t16=>(some (t16.1,()))) fun q17=>noS q17)))
theorem le_ref01_Gcd(n:Nat)(t:((List T)×(List T)×Unit)):Le (v_ref01_Gcd n t) (u_ref01_Gcd t):=by
 unfold v_ref01_Gcd u_ref01_Gcd
 repeat' first
  | with_reducible refine le_cond ?_ ?_
  | with_reducible refine le_onS (fun _=>?_) fun _=>?_
  | with_reducible refine le_ob ?_ fun _=>?_
  | with_reducible refine le_both ?_ ?_
  | with_reducible exact le_rfl
  | with_reducible exact le_ref01_Trim n _
  | with_reducible exact le_loop (fun s=>le_ref01_Gcd_l0 n s) _ _
noncomputable def v_ref02_size(n:Nat)(t:(Int×Unit)):Option ((List T)×Bool×Unit):=
 (bif (Go.Eng.ltI t.1 (0:Int)) then (ob (Go.Eng.v_ref01_Of n ((Go.Eng.wr Go.IntKind.u64 (Go.Eng.addI (Go.Eng.wr Go.IntKind.u64 (Go.Eng.wr Go.IntKind.i64 (Go.Eng.subI (0:Int) (Go.Eng.wr Go.IntKind.i64 (Go.Eng.addI t.1 (1:Int)))))) (1:Int))),())) fun x0=>(some (x0.1,Bool.true,()))) else (ob (Go.Eng.v_ref01_Of n ((Go.Eng.wr Go.IntKind.u64 t.1),())) fun x1=>(some (x1.1,Bool.false,()))))
theorem le_ref02_size(n:Nat)(t:(Int×Unit)):Le (v_ref02_size n t) (u_ref02_size t):=by
 unfold v_ref02_size u_ref02_size
 repeat' first
  | with_reducible refine le_cond ?_ ?_
  | with_reducible refine le_onS (fun _=>?_) fun _=>?_
  | with_reducible refine le_ob ?_ fun _=>?_
  | with_reducible refine le_both ?_ ?_
  | with_reducible exact le_rfl
  | with_reducible exact le_ref01_Of n _
noncomputable def v_ref02_reduce(n:Nat)(t:(Bool×(List T)×(List T)×Unit)):Option (Bool×(List T)×(List T)×Unit):=
 (ob (Go.Eng.v_ref01_Trim n (t.2.1,())) fun x0=>(ob (Go.Eng.v_ref01_Trim n (t.2.2.1,())) fun x1=>(bif (Go.Eng.eqI (Go.Eng.lenL x0.1) (0:Int)) then (some (Bool.false,[],[],())) else (ob (Go.Eng.v_ref01_Gcd n (x0.1,x1.1,())) fun x2=>(ob (α:=((Bool×List T×List T×Unit×Bool×T×T×Unit)⊕Empty)) (bif (Bool.not (Go.Eng.eqI (Go.Eng.lenL x2.1) (1:Int))) then (ob (Go.Eng.v_ref01_Div n (x0.1,x2.1,())) fun x3=>(ob (Go.Eng.v_ref01_Div n (x1.1,x2.1,())) fun x4=>(some (Sum.inl (t.1,x3.1,x4.1,(),Bool.false,(Go.Eng.T.v (Go.Value.slice (Option.none) 0 0)),(Go.Eng.T.v (Go.Value.slice (Option.none) 0 0)),()))))) else (ob (Go.Eng.idxL x2.1 (0:Int)) fun x5=>(ob (Go.Eng.T.int? Go.IntKind.u32 (Go.Eng.T.cell x5 0)) fun x6=>(bif (Bool.not (Go.Eng.eqI x6 (1:Int))) then (ob (Go.Eng.v_ref01_Div n (x0.1,x2.1,())) fun x7=>(ob (Go.Eng.v_ref01_Div n (x1.1,x2.1,())) fun x8=>(some (Sum.inl (t.1,x7.1,x8.1,(),Bool.false,(Go.Eng.T.v (Go.Value.slice (Option.none) 0 0)),(Go.Eng.T.v (Go.Value.slice (Option.none) 0 0)),()))))) else (some (Sum.inl (t.1,x0.1,x1.1,(),Bool.false,(Go.Eng.T.v (Go.Value.slice (Option.none) 0 0)),(Go.Eng.T.v (Go.Value.slice (Option.none) 0 0)),()))))))) fun q9=>onS q9 (fun t10=>(ob (α:=((Bool×List T×List T×Unit×Bool×T×T×Unit)⊕Empty)) (bif (Go.Eng.eqI (Go.Eng.lenL t10.2.2.1) (1:Int)) then (ob (Go.Eng.idxL t10.2.2.1 (0:Int)) fun x11=>(ob (Go.Eng.T.int? Go.IntKind.u32 (Go.Eng.T.cell x11 0)) fun x12=>(bif (Go.Eng.eqI x12 (1:Int)) then (some (Sum.inl (t10.1,t10.2.1,[],(),t10.2.2.2.2.1,t10.2.2.2.2.2.1,t10.2.2.2.2.2.2.1,()))) else (some (Sum.inl (t10.1,t10.2.1,t10.2.2.1,(),t10.2.2.2.2.1,t10.2.2.2.2.2.1,t10.2.2.2.2.2.2.1,())))))) else (some (Sum.inl (t10.1,t10.2.1,t10.2.2.1,(),t10.2.2.2.2.1,t10.2.2.2.2.2.1,t10.2.2.2.2.2.2.1,())))) fun q13=>onS q13 (fun t14=>(some (t14.1,t14.2.1,t14.2.2.1,()))) fun q15=>noS q15)) fun q16=>noS q16)))))
theorem le_ref02_reduce(n:Nat)(t:(Bool×(List T)×(List T)×Unit)):Le (v_ref02_reduce n t) (u_ref02_reduce t):=by
 unfold v_ref02_reduce u_ref02_reduce
 repeat' first
  | with_reducible refine le_cond ?_ ?_
  | with_reducible refine le_onS (fun _=>?_) fun _=>?_
  | with_reducible refine le_ob ?_ fun _=>?_
  | with_reducible refine le_both ?_ ?_
  | with_reducible exact le_rfl
  | with_reducible exact le_ref01_Trim n _
  | with_reducible exact le_ref01_Gcd n _
  | with_reducible exact le_ref01_Div n _
noncomputable def v_ref02_Make(n:Nat)(t:(Int×Int×Unit)):Option (Bool×(List T)×(List T)×Int×Unit):=
 (bif (Go.Eng.eqI t.2.1 (0:Int)) then (some (Bool.false,[],[],(3:Int),())) else (ob (Go.Eng.v_ref02_size n (t.1,())) fun x0=>(ob (Go.Eng.v_ref02_size n (t.2.1,())) fun x1=>(ob (Go.Eng.v_ref02_reduce n ((Bool.not (Go.Eng.eqB x0.2.1 x1.2.1)),x0.1,x1.1,())) fun x2=>(some (x2.1,x2.2.1,x2.2.2.1,(0:Int),()))))))
theorem le_ref02_Make(n:Nat)(t:(Int×Int×Unit)):Le (v_ref02_Make n t) (u_ref02_Make t):=by
 unfold v_ref02_Make u_ref02_Make
 repeat' first
  | with_reducible refine le_cond ?_ ?_
  | with_reducible refine le_onS (fun _=>?_) fun _=>?_
  | with_reducible refine le_ob ?_ fun _=>?_
  | with_reducible refine le_both ?_ ?_
  | with_reducible exact le_rfl
  | with_reducible exact le_ref02_size n _
  | with_reducible exact le_ref02_reduce n _
noncomputable def v_ref02_Frac(n:Nat)(t:(Int×Int×Unit)):Option (Bool×(List T)×(List T)×Unit):=
 (ob (Go.Eng.v_ref02_Make n (t.1,t.2.1,())) fun x0=>(some (x0.1,x0.2.1,x0.2.2.1,())))
theorem le_ref02_Frac(n:Nat)(t:(Int×Int×Unit)):Le (v_ref02_Frac n t) (u_ref02_Frac t):=by
 unfold v_ref02_Frac u_ref02_Frac
 repeat' first
  | with_reducible refine le_cond ?_ ?_
  | with_reducible refine le_onS (fun _=>?_) fun _=>?_
  | with_reducible refine le_ob ?_ fun _=>?_
  | with_reducible refine le_both ?_ ?_
  | with_reducible exact le_rfl
  | with_reducible exact le_ref02_Make n _
noncomputable def v_ref02_Int(n:Nat)(t:(Int×Unit)):Option (Bool×(List T)×(List T)×Unit):=
 (ob (Go.Eng.v_ref02_size n (t.1,())) fun x0=>(some (x0.2.1,x0.1,[],())))
theorem le_ref02_Int(n:Nat)(t:(Int×Unit)):Le (v_ref02_Int n t) (u_ref02_Int t):=by
 unfold v_ref02_Int u_ref02_Int
 repeat' first
  | with_reducible refine le_cond ?_ ?_
  | with_reducible refine le_onS (fun _=>?_) fun _=>?_
  | with_reducible refine le_ob ?_ fun _=>?_
  | with_reducible refine le_both ?_ ?_
  | with_reducible exact le_rfl
  | with_reducible exact le_ref02_size n _
noncomputable def v_ref01_Text_l1(n:Nat)(s2:(List T×List T×Int×Int×Unit)):Option ((List T×List T×Int×Int×Unit)⊕((List T×List T×Unit)⊕Empty)):=
 (bif (Go.Eng.ltI s2.2.2.2.1 (9:Int)) then (bif (Go.Eng.ltI (0:Int) s2.2.2.1) then (ob (Go.Eng.room s2.1 [(Go.Eng.T.v (Go.Value.int Go.IntKind.u8 (Go.Eng.wr Go.IntKind.u8 (Go.Eng.wr Go.IntKind.u32 (Go.Eng.addI (48:Int) (Go.Eng.modI s2.2.2.1 (10:Int)))))))] 1) fun x3=>(some (Sum.inl (x3,s2.2.1,(Go.Eng.wr Go.IntKind.u32 (Go.Eng.divI s2.2.2.1 (10:Int))),(Go.Eng.wr Go.IntKind.i64 (Go.Eng.addI s2.2.2.2.1 (1:Int))),())))) else (bif (Go.Eng.ltI (0:Int) (Go.Eng.lenL s2.2.1)) then (ob (Go.Eng.room s2.1 [(Go.Eng.T.v (Go.Value.int Go.IntKind.u8 (Go.Eng.wr Go.IntKind.u8 (Go.Eng.wr Go.IntKind.u32 (Go.Eng.addI (48:Int) (Go.Eng.modI s2.2.2.1 (10:Int)))))))] 1) fun x4=>(some (Sum.inl (x4,s2.2.1,(Go.Eng.wr Go.IntKind.u32 (Go.Eng.divI s2.2.2.1 (10:Int))),(Go.Eng.wr Go.IntKind.i64 (Go.Eng.addI s2.2.2.2.1 (1:Int))),())))) else (some (Sum.inr (Sum.inl (s2.1,s2.2.1,())))))) else (some (Sum.inr (Sum.inl (s2.1,s2.2.1,())))))
theorem le_ref01_Text_l1(n:Nat)(s2:(List T×List T×Int×Int×Unit)):Le (v_ref01_Text_l1 n s2) (u_ref01_Text_l1 s2):=by
 unfold v_ref01_Text_l1 u_ref01_Text_l1
 repeat' first
  | with_reducible refine le_cond ?_ ?_
  | with_reducible refine le_onS (fun _=>?_) fun _=>?_
  | with_reducible refine le_ob ?_ fun _=>?_
  | with_reducible refine le_both ?_ ?_
  | with_reducible exact le_rfl
noncomputable def v_ref01_Text_l0(n:Nat)(s0:(List T×List T×Unit)):Option ((List T×List T×Unit)⊕((List T×Unit)⊕Empty)):=
 (bif (Go.Eng.ltI (0:Int) (Go.Eng.lenL s0.1)) then (ob (Go.Eng.v_ref01_byLimb n (s0.1,(1000000000:Int),())) fun x1=>(ob (iter (v_ref01_Text_l1 n) n (s0.2.1,x1.1,x1.2.1,(0:Int),())) fun q5=>onS q5 (fun t6=>(some (Sum.inl (t6.2.1,t6.1,())))) fun q7=>noS q7)) else (some (Sum.inr (Sum.inl (s0.2.1,())))))
theorem le_ref01_Text_l0(n:Nat)(s0:(List T×List T×Unit)):Le (v_ref01_Text_l0 n s0) (u_ref01_Text_l0 s0):=by
 unfold v_ref01_Text_l0 u_ref01_Text_l0
 repeat' first
  | with_reducible refine le_cond ?_ ?_
  | with_reducible refine le_onS (fun _=>?_) fun _=>?_
  | with_reducible refine le_ob ?_ fun _=>?_
  | with_reducible refine le_both ?_ ?_
  | with_reducible exact le_rfl
  | with_reducible exact le_ref01_byLimb n _
  | with_reducible exact le_loop (fun s=>le_ref01_Text_l1 n s) _ _
noncomputable def v_ref01_Text_l2(n:Nat)(s11:(List T×List T×Int×Unit)):Option ((List T×List T×Int×Unit)⊕((List T×Unit)⊕Empty)):=
 (bif (Go.Eng.ltI s11.2.2.1 (Go.Eng.lenL s11.1)) then (ob (Go.Eng.chkI (Go.Eng.lenL s11.1) s11.2.2.1) fun x12=>(ob (Go.Eng.idxN s11.1 x12) fun x13=>(ob (Go.Eng.chkI (Go.Eng.lenL s11.2.1) (Go.Eng.wr Go.IntKind.i64 (Go.Eng.subI (Go.Eng.wr Go.IntKind.i64 (Go.Eng.subI (Go.Eng.lenL s11.1) (1:Int))) s11.2.2.1))) fun x14=>(ob (Go.Eng.T.int? Go.IntKind.u8 (Go.Eng.T.cell x13 0)) fun x15=>(ob (Go.Eng.idxN s11.2.1 x14) fun x16=>(some (Sum.inl (s11.1,(List.set s11.2.1 x14 (Go.Eng.T.upd 1 x16 0 [(Go.Eng.T.v (Go.Value.int Go.IntKind.u8 x15))])),(Go.Eng.wr Go.IntKind.i64 (Go.Eng.addI s11.2.2.1 (1:Int))),())))))))) else (some (Sum.inr (Sum.inl (s11.2.1,())))))
theorem le_ref01_Text_l2(n:Nat)(s11:(List T×List T×Int×Unit)):Le (v_ref01_Text_l2 n s11) (u_ref01_Text_l2 s11):=by
 unfold v_ref01_Text_l2 u_ref01_Text_l2
 repeat' first
  | with_reducible refine le_cond ?_ ?_
  | with_reducible refine le_onS (fun _=>?_) fun _=>?_
  | with_reducible refine le_ob ?_ fun _=>?_
  | with_reducible refine le_both ?_ ?_
  | with_reducible exact le_rfl
noncomputable def v_ref01_Text(n:Nat)(t:((List T)×Unit)):Option (ByteArray×Unit):=
 (bif (Go.Eng.eqI (Go.Eng.lenL t.1) (0:Int)) then (some ((ByteArray.mk #[48]),())) else (ob (iter (v_ref01_Text_l0 n) n (t.1,[],())) fun q8=>onS q8 (fun t9=>(ob (Go.Eng.mkLen (Go.Eng.lenL t9.1) (Go.Eng.lenL t9.1) 1) fun x10=>(ob (iter (v_ref01_Text_l2 n) n (t9.1,(Go.Eng.repL x10.1 (Go.Eng.T.v (Go.Value.int Go.IntKind.u8 (0:Int)))),(0:Int),())) fun q17=>onS q17 (fun t18=>(ob (Go.Eng.strOf t18.1) fun x19=>(some (x19,())))) fun q20=>noS q20))) fun q21=>noS q21))
theorem le_ref01_Text(n:Nat)(t:((List T)×Unit)):Le (v_ref01_Text n t) (u_ref01_Text t):=by
 unfold v_ref01_Text u_ref01_Text
 repeat' first
  | with_reducible refine le_cond ?_ ?_
  | with_reducible refine le_onS (fun _=>?_) fun _=>?_
  | with_reducible refine le_ob ?_ fun _=>?_
  | with_reducible refine le_both ?_ ?_
  | with_reducible exact le_rfl
  | with_reducible exact le_loop (fun s=>le_ref01_Text_l0 n s) _ _
  | with_reducible exact le_loop (fun s=>le_ref01_Text_l2 n s) _ _
noncomputable def v_ref02_Text(n:Nat)(t:(Bool×(List T)×(List T)×Unit)):Option (ByteArray×Unit):=
 (ob (Go.Eng.v_ref01_Text n (t.2.1,())) fun x0=>(ob (α:=((Unit×ByteArray×Bool×List T×List T×Unit)⊕Empty)) (bif t.1 then (ob (Go.Eng.catS (ByteArray.mk #[45]) x0.1) fun x1=>(some (Sum.inl ((),x1,t.1,t.2.1,t.2.2.1,())))) else (some (Sum.inl ((),x0.1,t.1,t.2.1,t.2.2.1,())))) fun q2=>onS q2 (fun t3=>(ob (α:=((ByteArray×Unit)⊕Empty)) (bif (Go.Eng.ltI (0:Int) (Go.Eng.lenL t3.2.2.2.2.1)) then (ob (Go.Eng.v_ref01_Text n (t3.2.2.2.2.1,())) fun x4=>(ob (Go.Eng.catS (ByteArray.mk #[47]) x4.1) fun x5=>(ob (Go.Eng.catS t3.2.1 x5) fun x6=>(some (Sum.inl (x6,())))))) else (some (Sum.inl (t3.2.1,())))) fun q7=>onS q7 (fun t8=>(some (t8.1,()))) fun q9=>noS q9)) fun q10=>noS q10))
theorem le_ref02_Text(n:Nat)(t:(Bool×(List T)×(List T)×Unit)):Le (v_ref02_Text n t) (u_ref02_Text t):=by
 unfold v_ref02_Text u_ref02_Text
 repeat' first
  | with_reducible refine le_cond ?_ ?_
  | with_reducible refine le_onS (fun _=>?_) fun _=>?_
  | with_reducible refine le_ob ?_ fun _=>?_
  | with_reducible refine le_both ?_ ?_
  | with_reducible exact le_rfl
  | with_reducible exact le_ref01_Text n _
noncomputable def v_math_bits_Len32(n:Nat)(t:(Int×Unit)):Option (Int×Unit):=
 (ob (α:=((Int×Int×Unit)⊕Empty)) (bif (Go.Eng.leI (65536:Int) t.1) then (ob (Go.Eng.nn (16:Int)) fun x0=>(some (Sum.inl ((Go.Eng.shrI Go.IntKind.u32 t.1 x0),(16:Int),())))) else (some (Sum.inl (t.1,(0:Int),())))) fun q1=>onS q1 (fun t2=>(ob (α:=((Int×Int×Unit)⊕Empty)) (bif (Go.Eng.leI (256:Int) t2.1) then (ob (Go.Eng.nn (8:Int)) fun x3=>(some (Sum.inl ((Go.Eng.shrI Go.IntKind.u32 t2.1 x3),(Go.Eng.wr Go.IntKind.i64 (Go.Eng.addI t2.2.1 (8:Int))),())))) else (some (Sum.inl (t2.1,t2.2.1,())))) fun q4=>onS q4 (fun t5=>(ob (Go.Eng.idxS (ByteArray.mk #[0,1,2,2,3,3,3,3,4,4,4,4,4,4,4,4,5,5,5,5,5,5,5,5,5,5,5,5,5,5,5,5,6,6,6,6,6,6,6,6,6,6,6,6,6,6,6,6,6,6,6,6,6,6,6,6,6,6,6,6,6,6,6,6,7,7,7,7,7,7,7,7,7,7,7,7,7,7,7,7,7,7,7,7,7,7,7,7,7,7,7,7,7,7,7,7,7,7,7,7,7,7,7,7,7,7,7,7,7,7,7,7,7,7,7,7,7,7,7,7,7,7,7,7,7,7,7,7,8,8,8,8,8,8,8,8,8,8,8,8,8,8,8,8,8,8,8,8,8,8,8,8,8,8,8,8,8,8,8,8,8,8,8,8,8,8,8,8,8,8,8,8,8,8,8,8,8,8,8,8,8,8,8,8,8,8,8,8,8,8,8,8,8,8,8,8,8,8,8,8,8,8,8,8,8,8,8,8,8,8,8,8,8,8,8,8,8,8,8,8,8,8,8,8,8,8,8,8,8,8,8,8,8,8,8,8,8,8,8,8,8,8,8,8,8,8,8,8,8,8,8,8,8,8,8,8]) (Go.Eng.wr Go.IntKind.u8 t5.1)) fun x6=>(some ((Go.Eng.wr Go.IntKind.i64 (Go.Eng.addI t5.2.1 (Go.Eng.wr Go.IntKind.i64 x6))),())))) fun q7=>noS q7)) fun q8=>noS q8)
theorem le_math_bits_Len32(n:Nat)(t:(Int×Unit)):Le (v_math_bits_Len32 n t) (u_math_bits_Len32 t):=by
 unfold v_math_bits_Len32 u_math_bits_Len32
 repeat' first
  | with_reducible refine le_cond ?_ ?_
  | with_reducible refine le_onS (fun _=>?_) fun _=>?_
  | with_reducible refine le_ob ?_ fun _=>?_
  | with_reducible refine le_both ?_ ?_
  | with_reducible exact le_rfl
noncomputable def v_natural_trim_l0(n:Nat)(s0:(List T×Int×Unit)):Option ((List T×Int×Unit)⊕((List T×Int×Unit)⊕Empty)):=
 (bif (Go.Eng.ltI (0:Int) s0.2.1) then (ob (Go.Eng.idxL s0.1 (Go.Eng.wr Go.IntKind.i64 (Go.Eng.subI s0.2.1 (1:Int)))) fun x1=>(ob (Go.Eng.T.int? Go.IntKind.u32 (Go.Eng.T.cell x1 0)) fun x2=>(bif (Go.Eng.eqI x2 (0:Int)) then (some (Sum.inl (s0.1,(Go.Eng.wr Go.IntKind.i64 (Go.Eng.subI s0.2.1 (1:Int))),()))) else (some (Sum.inr (Sum.inl (s0.1,s0.2.1,()))))))) else (some (Sum.inr (Sum.inl (s0.1,s0.2.1,())))))
theorem le_natural_trim_l0(n:Nat)(s0:(List T×Int×Unit)):Le (v_natural_trim_l0 n s0) (u_natural_trim_l0 s0):=by
 unfold v_natural_trim_l0 u_natural_trim_l0
 repeat' first
  | with_reducible refine le_cond ?_ ?_
  | with_reducible refine le_onS (fun _=>?_) fun _=>?_
  | with_reducible refine le_ob ?_ fun _=>?_
  | with_reducible refine le_both ?_ ?_
  | with_reducible exact le_rfl
noncomputable def v_natural_trim(n:Nat)(t:((List T)×Unit)):Option ((List T)×Unit):=
 (ob (iter (v_natural_trim_l0 n) n (t.1,(Go.Eng.lenL t.1),())) fun q3=>onS q3 (fun t4=>(ob (Go.Eng.cutL t4.1 (0:Int) t4.2.1) fun x5=>(some (x5,())))) fun q6=>noS q6)
theorem le_natural_trim(n:Nat)(t:((List T)×Unit)):Le (v_natural_trim n t) (u_natural_trim t):=by
 unfold v_natural_trim u_natural_trim
 repeat' first
  | with_reducible refine le_cond ?_ ?_
  | with_reducible refine le_onS (fun _=>?_) fun _=>?_
  | with_reducible refine le_ob ?_ fun _=>?_
  | with_reducible refine le_both ?_ ?_
  | with_reducible exact le_rfl
  | with_reducible exact le_loop (fun s=>le_natural_trim_l0 n s) _ _
noncomputable def v_natural_Bits(n:Nat)(t:((List T)×Unit)):Option (Int×Unit):=
 (ob (Go.Eng.v_natural_trim n (t.1,())) fun x0=>(bif (Go.Eng.eqI (Go.Eng.lenL x0.1) (0:Int)) then (some ((0:Int),())) else (ob (Go.Eng.idxL x0.1 (Go.Eng.wr Go.IntKind.i64 (Go.Eng.subI (Go.Eng.lenL x0.1) (1:Int)))) fun x1=>(ob (Go.Eng.T.int? Go.IntKind.u32 (Go.Eng.T.cell x1 0)) fun x2=>(ob (Go.Eng.v_math_bits_Len32 n (x2,())) fun x3=>(some ((Go.Eng.wr Go.IntKind.i64 (Go.Eng.addI (Go.Eng.wr Go.IntKind.i64 (Go.Eng.mulI (32:Int) (Go.Eng.wr Go.IntKind.i64 (Go.Eng.subI (Go.Eng.lenL x0.1) (1:Int))))) x3.1)),())))))))
theorem le_natural_Bits(n:Nat)(t:((List T)×Unit)):Le (v_natural_Bits n t) (u_natural_Bits t):=by
 unfold v_natural_Bits u_natural_Bits
 repeat' first
  | with_reducible refine le_cond ?_ ?_
  | with_reducible refine le_onS (fun _=>?_) fun _=>?_
  | with_reducible refine le_ob ?_ fun _=>?_
  | with_reducible refine le_both ?_ ?_
  | with_reducible exact le_rfl
  | with_reducible exact le_natural_trim n _
  | with_reducible exact le_math_bits_Len32 n _
noncomputable def v_natural_Cmp_l0(n:Nat)(s2:(List T×List T×Int×Unit)):Option ((List T×List T×Int×Unit)⊕((Int×Unit)⊕((Unit)⊕Empty))):=
 (bif (Go.Eng.leI (0:Int) s2.2.2.1) then (ob (Go.Eng.idxL s2.1 s2.2.2.1) fun x3=>(ob (Go.Eng.idxL s2.2.1 s2.2.2.1) fun x4=>(ob (Go.Eng.T.int? Go.IntKind.u32 (Go.Eng.T.cell x3 0)) fun x5=>(ob (Go.Eng.T.int? Go.IntKind.u32 (Go.Eng.T.cell x4 0)) fun x6=>(bif (Bool.not (Go.Eng.eqI x5 x6)) then (ob (Go.Eng.idxL s2.1 s2.2.2.1) fun x7=>(ob (Go.Eng.idxL s2.2.1 s2.2.2.1) fun x8=>(ob (Go.Eng.T.int? Go.IntKind.u32 (Go.Eng.T.cell x7 0)) fun x9=>(ob (Go.Eng.T.int? Go.IntKind.u32 (Go.Eng.T.cell x8 0)) fun x10=>(bif (Go.Eng.ltI x9 x10) then (some (Sum.inr (Sum.inl ((-1:Int),())))) else (some (Sum.inr (Sum.inl ((1:Int),()))))))))) else (some (Sum.inl (s2.1,s2.2.1,(Go.Eng.wr Go.IntKind.i64 (Go.Eng.subI s2.2.2.1 (1:Int))),())))))))) else (some (Sum.inr (Sum.inr (Sum.inl ())))))
theorem le_natural_Cmp_l0(n:Nat)(s2:(List T×List T×Int×Unit)):Le (v_natural_Cmp_l0 n s2) (u_natural_Cmp_l0 s2):=by
 unfold v_natural_Cmp_l0 u_natural_Cmp_l0
 repeat' first
  | with_reducible refine le_cond ?_ ?_
  | with_reducible refine le_onS (fun _=>?_) fun _=>?_
  | with_reducible refine le_ob ?_ fun _=>?_
  | with_reducible refine le_both ?_ ?_
  | with_reducible exact le_rfl
noncomputable def v_natural_Cmp(n:Nat)(t:((List T)×(List T)×Unit)):Option (Int×Unit):=
 (ob (Go.Eng.v_natural_trim n (t.1,())) fun x0=>(ob (Go.Eng.v_natural_trim n (t.2.1,())) fun x1=>(bif (Bool.not (Go.Eng.eqI (Go.Eng.lenL x0.1) (Go.Eng.lenL x1.1))) then (bif (Go.Eng.ltI (Go.Eng.lenL x0.1) (Go.Eng.lenL x1.1)) then (some ((-1:Int),())) else (some ((1:Int),()))) else (ob (iter (v_natural_Cmp_l0 n) n (x0.1,x1.1,(Go.Eng.wr Go.IntKind.i64 (Go.Eng.subI (Go.Eng.lenL x0.1) (1:Int))),())) fun q11=>onS q11 (fun t12=>(some (t12.1,()))) fun q13=>onS q13 (fun t14=>(some ((0:Int),()))) fun q15=>noS q15))))
theorem le_natural_Cmp(n:Nat)(t:((List T)×(List T)×Unit)):Le (v_natural_Cmp n t) (u_natural_Cmp t):=by
 unfold v_natural_Cmp u_natural_Cmp
 repeat' first
  | with_reducible refine le_cond ?_ ?_
  | with_reducible refine le_onS (fun _=>?_) fun _=>?_
  | with_reducible refine le_ob ?_ fun _=>?_
  | with_reducible refine le_both ?_ ?_
  | with_reducible exact le_rfl
  | with_reducible exact le_natural_trim n _
  | with_reducible exact le_loop (fun s=>le_natural_Cmp_l0 n s) _ _
noncomputable def v_natural_Valid(n:Nat)(t:((List T)×Unit)):Option (Bool×Unit):=
 (bif (Go.Eng.eqI (Go.Eng.lenL t.1) (0:Int)) then (some (Bool.true,())) else (ob (Go.Eng.idxL t.1 (Go.Eng.wr Go.IntKind.i64 (Go.Eng.subI (Go.Eng.lenL t.1) (1:Int)))) fun x0=>(ob (Go.Eng.T.int? Go.IntKind.u32 (Go.Eng.T.cell x0 0)) fun x1=>(some ((Bool.not (Go.Eng.eqI x1 (0:Int))),())))))
theorem le_natural_Valid(n:Nat)(t:((List T)×Unit)):Le (v_natural_Valid n t) (u_natural_Valid t):=by
 unfold v_natural_Valid u_natural_Valid
 repeat' first
  | with_reducible refine le_cond ?_ ?_
  | with_reducible refine le_onS (fun _=>?_) fun _=>?_
  | with_reducible refine le_ob ?_ fun _=>?_
  | with_reducible refine le_both ?_ ?_
  | with_reducible exact le_rfl
noncomputable def v_natural_Gcd(n:Nat)(t:((List T)×(List T)×Unit)):Option ((List T)×Unit):=
 (ob (Go.Eng.v_natural_trim n (t.1,())) fun x0=>none)
theorem le_natural_Gcd(n:Nat)(t:((List T)×(List T)×Unit)):Le (v_natural_Gcd n t) (u_natural_Gcd t):=by
 unfold v_natural_Gcd u_natural_Gcd
 repeat' first
  | with_reducible refine le_cond ?_ ?_
  | with_reducible refine le_onS (fun _=>?_) fun _=>?_
  | with_reducible refine le_ob ?_ fun _=>?_
  | with_reducible refine le_both ?_ ?_
  | with_reducible exact le_rfl
  | with_reducible exact le_natural_trim n _
noncomputable def v_rational_word_l0(n:Nat)(s0:(List T×Int×Int×Unit)):Option ((List T×Int×Int×Unit)⊕((Int×Unit)⊕Empty)):=
 (bif (Go.Eng.leI (0:Int) s0.2.2.1) then (ob (Go.Eng.nn (32:Int)) fun x1=>(ob (Go.Eng.idxL s0.1 s0.2.2.1) fun x2=>(ob (Go.Eng.T.anyInt? (Go.Eng.T.cell x2 0)) fun x3=>(some (Sum.inl (s0.1,(Go.Eng.bitI Go.BinOp.or Go.IntKind.u64 (Go.Eng.wr Go.IntKind.u64 (Go.Eng.shlI Go.IntKind.u64 s0.2.1 x1)) (Go.Eng.wr Go.IntKind.u64 x3)),(Go.Eng.wr Go.IntKind.i64 (Go.Eng.subI s0.2.2.1 (1:Int))),())))))) else (some (Sum.inr (Sum.inl (s0.2.1,())))))
theorem le_rational_word_l0(n:Nat)(s0:(List T×Int×Int×Unit)):Le (v_rational_word_l0 n s0) (u_rational_word_l0 s0):=by
 unfold v_rational_word_l0 u_rational_word_l0
 repeat' first
  | with_reducible refine le_cond ?_ ?_
  | with_reducible refine le_onS (fun _=>?_) fun _=>?_
  | with_reducible refine le_ob ?_ fun _=>?_
  | with_reducible refine le_both ?_ ?_
  | with_reducible exact le_rfl
noncomputable def v_rational_word(n:Nat)(t:((List T)×Unit)):Option (Int×Unit):=
 (ob (iter (v_rational_word_l0 n) n (t.1,(0:Int),(Go.Eng.wr Go.IntKind.i64 (Go.Eng.subI (Go.Eng.lenL t.1) (1:Int))),())) fun q4=>onS q4 (fun t5=>(some (t5.1,()))) fun q6=>noS q6)
theorem le_rational_word(n:Nat)(t:((List T)×Unit)):Le (v_rational_word n t) (u_rational_word t):=by
 unfold v_rational_word u_rational_word
 repeat' first
  | with_reducible refine le_cond ?_ ?_
  | with_reducible refine le_onS (fun _=>?_) fun _=>?_
  | with_reducible refine le_ob ?_ fun _=>?_
  | with_reducible refine le_both ?_ ?_
  | with_reducible exact le_rfl
  | with_reducible exact le_loop (fun s=>le_rational_word_l0 n s) _ _
noncomputable def v_rational_divisor_l0(n:Nat)(s0:(Int×Int×Unit)):Option ((Int×Int×Unit)⊕((Int×Unit)⊕Empty)):=
 (bif (Bool.not (Go.Eng.eqI s0.2.1 (0:Int))) then (ob (Go.Eng.nz s0.2.1) fun x1=>(some (Sum.inl (s0.2.1,(Go.Eng.modI s0.1 x1),())))) else (some (Sum.inr (Sum.inl (s0.1,())))))
theorem le_rational_divisor_l0(n:Nat)(s0:(Int×Int×Unit)):Le (v_rational_divisor_l0 n s0) (u_rational_divisor_l0 s0):=by
 unfold v_rational_divisor_l0 u_rational_divisor_l0
 repeat' first
  | with_reducible refine le_cond ?_ ?_
  | with_reducible refine le_onS (fun _=>?_) fun _=>?_
  | with_reducible refine le_ob ?_ fun _=>?_
  | with_reducible refine le_both ?_ ?_
  | with_reducible exact le_rfl
noncomputable def v_rational_divisor(n:Nat)(t:(Int×Int×Unit)):Option (Int×Unit):=
 (ob (iter (v_rational_divisor_l0 n) n (t.1,t.2.1,())) fun q2=>onS q2 (fun t3=>(some (t3.1,()))) fun q4=>noS q4)
theorem le_rational_divisor(n:Nat)(t:(Int×Int×Unit)):Le (v_rational_divisor n t) (u_rational_divisor t):=by
 unfold v_rational_divisor u_rational_divisor
 repeat' first
  | with_reducible refine le_cond ?_ ?_
  | with_reducible refine le_onS (fun _=>?_) fun _=>?_
  | with_reducible refine le_ob ?_ fun _=>?_
  | with_reducible refine le_both ?_ ?_
  | with_reducible exact le_rfl
  | with_reducible exact le_loop (fun s=>le_rational_divisor_l0 n s) _ _
noncomputable def v_rational_short(n:Nat)(t:(Bool×Int×Int×Unit)):Option (Bool×(List T)×(List T)×Unit):=
 (bif (Go.Eng.eqI t.2.1 (0:Int)) then (some (Bool.false,[],[],())) else (ob (Go.Eng.v_rational_divisor n (t.2.1,t.2.2.1,())) fun x0=>(ob (Go.Eng.nz x0.1) fun x1=>(ob (Go.Eng.nz x0.1) fun x2=>(ob (Go.Eng.mkLen (4:Int) (4:Int) 4) fun x3=>(ob (Go.Eng.chkI (Go.Eng.lenL (Go.Eng.repL x3.1 (Go.Eng.T.v (Go.Value.int Go.IntKind.u32 (0:Int))))) (0:Int)) fun x4=>(ob (Go.Eng.idxN (Go.Eng.repL x3.1 (Go.Eng.T.v (Go.Value.int Go.IntKind.u32 (0:Int)))) x4) fun x5=>(ob (Go.Eng.nn (32:Int)) fun x6=>(bif (Go.Eng.eqI (Go.Eng.shrI Go.IntKind.u64 (Go.Eng.wr Go.IntKind.u64 (Go.Eng.divI t.2.1 x1)) x6) (0:Int)) then (ob (Go.Eng.cut3 (Go.Eng.lenL (List.set (Go.Eng.repL x3.1 (Go.Eng.T.v (Go.Value.int Go.IntKind.u32 (0:Int)))) x4 (Go.Eng.T.upd 1 x5 0 [(Go.Eng.T.v (Go.Value.int Go.IntKind.u32 (Go.Eng.wr Go.IntKind.u32 (Go.Eng.wr Go.IntKind.u64 (Go.Eng.divI t.2.1 x1)))))]))) (0:Int) (1:Int) (1:Int)) fun x7=>(ob (α:=((Unit×Unit×Bool×T×T×Bool×List T×List T×Unit)⊕Empty)) (bif (Go.Eng.ltI (1:Int) (Go.Eng.wr Go.IntKind.u64 (Go.Eng.divI t.2.2.1 x2))) then (ob (Go.Eng.cutI (Go.Eng.lenL (List.set (Go.Eng.repL x3.1 (Go.Eng.T.v (Go.Value.int Go.IntKind.u32 (0:Int)))) x4 (Go.Eng.T.upd 1 x5 0 [(Go.Eng.T.v (Go.Value.int Go.IntKind.u32 (Go.Eng.wr Go.IntKind.u32 (Go.Eng.wr Go.IntKind.u64 (Go.Eng.divI t.2.1 x1)))))]))) (1:Int) (Go.Eng.lenL (List.set (Go.Eng.repL x3.1 (Go.Eng.T.v (Go.Value.int Go.IntKind.u32 (0:Int)))) x4 (Go.Eng.T.upd 1 x5 0 [(Go.Eng.T.v (Go.Value.int Go.IntKind.u32 (Go.Eng.wr Go.IntKind.u32 (Go.Eng.wr Go.IntKind.u64 (Go.Eng.divI t.2.1 x1)))))])))) fun x8=>(ob (Go.Eng.chkI (Go.Eng.natI x8.2) (0:Int)) fun x9=>(ob (Go.Eng.idxN (List.set (Go.Eng.repL x3.1 (Go.Eng.T.v (Go.Value.int Go.IntKind.u32 (0:Int)))) x4 (Go.Eng.T.upd 1 x5 0 [(Go.Eng.T.v (Go.Value.int Go.IntKind.u32 (Go.Eng.wr Go.IntKind.u32 (Go.Eng.wr Go.IntKind.u64 (Go.Eng.divI t.2.1 x1)))))])) (Go.Eng.addN x8.1 x9)) fun x10=>(ob (Go.Eng.nn (32:Int)) fun x11=>(bif (Go.Eng.eqI (Go.Eng.shrI Go.IntKind.u64 (Go.Eng.wr Go.IntKind.u64 (Go.Eng.divI t.2.2.1 x2)) x11) (0:Int)) then (ob (Go.Eng.cut3 (Go.Eng.lenL (List.set (List.set (Go.Eng.repL x3.1 (Go.Eng.T.v (Go.Value.int Go.IntKind.u32 (0:Int)))) x4 (Go.Eng.T.upd 1 x5 0 [(Go.Eng.T.v (Go.Value.int Go.IntKind.u32 (Go.Eng.wr Go.IntKind.u32 (Go.Eng.wr Go.IntKind.u64 (Go.Eng.divI t.2.1 x1)))))])) (Go.Eng.addN x8.1 x9) (Go.Eng.T.upd 1 x10 0 [(Go.Eng.T.v (Go.Value.int Go.IntKind.u32 (Go.Eng.wr Go.IntKind.u32 (Go.Eng.wr Go.IntKind.u64 (Go.Eng.divI t.2.2.1 x2)))))]))) (1:Int) (2:Int) (2:Int)) fun x12=>(some (Sum.inl ((),(),Bool.false,(Go.Eng.T.v (Go.Value.slice (Option.none) 0 0)),(Go.Eng.T.v (Go.Value.slice (Option.none) 0 0)),t.1,(cutN (List.set (List.set (Go.Eng.repL x3.1 (Go.Eng.T.v (Go.Value.int Go.IntKind.u32 (0:Int)))) x4 (Go.Eng.T.upd 1 x5 0 [(Go.Eng.T.v (Go.Value.int Go.IntKind.u32 (Go.Eng.wr Go.IntKind.u32 (Go.Eng.wr Go.IntKind.u64 (Go.Eng.divI t.2.1 x1)))))])) (Go.Eng.addN x8.1 x9) (Go.Eng.T.upd 1 x10 0 [(Go.Eng.T.v (Go.Value.int Go.IntKind.u32 (Go.Eng.wr Go.IntKind.u32 (Go.Eng.wr Go.IntKind.u64 (Go.Eng.divI t.2.2.1 x2)))))])) x7.1 x7.2),(cutN (List.set (List.set (Go.Eng.repL x3.1 (Go.Eng.T.v (Go.Value.int Go.IntKind.u32 (0:Int)))) x4 (Go.Eng.T.upd 1 x5 0 [(Go.Eng.T.v (Go.Value.int Go.IntKind.u32 (Go.Eng.wr Go.IntKind.u32 (Go.Eng.wr Go.IntKind.u64 (Go.Eng.divI t.2.1 x1)))))])) (Go.Eng.addN x8.1 x9) (Go.Eng.T.upd 1 x10 0 [(Go.Eng.T.v (Go.Value.int Go.IntKind.u32 (Go.Eng.wr Go.IntKind.u32 (Go.Eng.wr Go.IntKind.u64 (Go.Eng.divI t.2.2.1 x2)))))])) x12.1 x12.2),())))) else (ob (Go.Eng.nn (32:Int)) fun x13=>(ob (Go.Eng.chkI (Go.Eng.natI x8.2) (1:Int)) fun x14=>(ob (Go.Eng.idxN (List.set (List.set (Go.Eng.repL x3.1 (Go.Eng.T.v (Go.Value.int Go.IntKind.u32 (0:Int)))) x4 (Go.Eng.T.upd 1 x5 0 [(Go.Eng.T.v (Go.Value.int Go.IntKind.u32 (Go.Eng.wr Go.IntKind.u32 (Go.Eng.wr Go.IntKind.u64 (Go.Eng.divI t.2.1 x1)))))])) (Go.Eng.addN x8.1 x9) (Go.Eng.T.upd 1 x10 0 [(Go.Eng.T.v (Go.Value.int Go.IntKind.u32 (Go.Eng.wr Go.IntKind.u32 (Go.Eng.wr Go.IntKind.u64 (Go.Eng.divI t.2.2.1 x2)))))])) (Go.Eng.addN x8.1 x14)) fun x15=>(ob (Go.Eng.cut3 (Go.Eng.lenL (List.set (List.set (List.set (Go.Eng.repL x3.1 (Go.Eng.T.v (Go.Value.int Go.IntKind.u32 (0:Int)))) x4 (Go.Eng.T.upd 1 x5 0 [(Go.Eng.T.v (Go.Value.int Go.IntKind.u32 (Go.Eng.wr Go.IntKind.u32 (Go.Eng.wr Go.IntKind.u64 (Go.Eng.divI t.2.1 x1)))))])) (Go.Eng.addN x8.1 x9) (Go.Eng.T.upd 1 x10 0 [(Go.Eng.T.v (Go.Value.int Go.IntKind.u32 (Go.Eng.wr Go.IntKind.u32 (Go.Eng.wr Go.IntKind.u64 (Go.Eng.divI t.2.2.1 x2)))))])) (Go.Eng.addN x8.1 x14) (Go.Eng.T.upd 1 x15 0 [(Go.Eng.T.v (Go.Value.int Go.IntKind.u32 (Go.Eng.wr Go.IntKind.u32 (Go.Eng.shrI Go.IntKind.u64 (Go.Eng.wr Go.IntKind.u64 (Go.Eng.divI t.2.2.1 x2)) x13))))]))) (1:Int) (3:Int) (3:Int)) fun x16=>(some (Sum.inl ((),(),Bool.false,(Go.Eng.T.v (Go.Value.slice (Option.none) 0 0)),(Go.Eng.T.v (Go.Value.slice (Option.none) 0 0)),t.1,(cutN (List.set (List.set (List.set (Go.Eng.repL x3.1 (Go.Eng.T.v (Go.Value.int Go.IntKind.u32 (0:Int)))) x4 (Go.Eng.T.upd 1 x5 0 [(Go.Eng.T.v (Go.Value.int Go.IntKind.u32 (Go.Eng.wr Go.IntKind.u32 (Go.Eng.wr Go.IntKind.u64 (Go.Eng.divI t.2.1 x1)))))])) (Go.Eng.addN x8.1 x9) (Go.Eng.T.upd 1 x10 0 [(Go.Eng.T.v (Go.Value.int Go.IntKind.u32 (Go.Eng.wr Go.IntKind.u32 (Go.Eng.wr Go.IntKind.u64 (Go.Eng.divI t.2.2.1 x2)))))])) (Go.Eng.addN x8.1 x14) (Go.Eng.T.upd 1 x15 0 [(Go.Eng.T.v (Go.Value.int Go.IntKind.u32 (Go.Eng.wr Go.IntKind.u32 (Go.Eng.shrI Go.IntKind.u64 (Go.Eng.wr Go.IntKind.u64 (Go.Eng.divI t.2.2.1 x2)) x13))))])) x7.1 x7.2),(cutN (List.set (List.set (List.set (Go.Eng.repL x3.1 (Go.Eng.T.v (Go.Value.int Go.IntKind.u32 (0:Int)))) x4 (Go.Eng.T.upd 1 x5 0 [(Go.Eng.T.v (Go.Value.int Go.IntKind.u32 (Go.Eng.wr Go.IntKind.u32 (Go.Eng.wr Go.IntKind.u64 (Go.Eng.divI t.2.1 x1)))))])) (Go.Eng.addN x8.1 x9) (Go.Eng.T.upd 1 x10 0 [(Go.Eng.T.v (Go.Value.int Go.IntKind.u32 (Go.Eng.wr Go.IntKind.u32 (Go.Eng.wr Go.IntKind.u64 (Go.Eng.divI t.2.2.1 x2)))))])) (Go.Eng.addN x8.1 x14) (Go.Eng.T.upd 1 x15 0 [(Go.Eng.T.v (Go.Value.int Go.IntKind.u32 (Go.Eng.wr Go.IntKind.u32 (Go.Eng.shrI Go.IntKind.u64 (Go.Eng.wr Go.IntKind.u64 (Go.Eng.divI t.2.2.1 x2)) x13))))])) x16.1 x16.2),())))))))))))) else (some (Sum.inl ((),(),Bool.false,(Go.Eng.T.v (Go.Value.slice (Option.none) 0 0)),(Go.Eng.T.v (Go.Value.slice (Option.none) 0 0)),t.1,(cutN (List.set (Go.Eng.repL x3.1 (Go.Eng.T.v (Go.Value.int Go.IntKind.u32 (0:Int)))) x4 (Go.Eng.T.upd 1 x5 0 [(Go.Eng.T.v (Go.Value.int Go.IntKind.u32 (Go.Eng.wr Go.IntKind.u32 (Go.Eng.wr Go.IntKind.u64 (Go.Eng.divI t.2.1 x1)))))])) x7.1 x7.2),[],())))) fun q17=>onS q17 (fun t18=>(some (t18.2.2.2.2.2.1,t18.2.2.2.2.2.2.1,t18.2.2.2.2.2.2.2.1,()))) fun q19=>noS q19)) else (ob (Go.Eng.nn (32:Int)) fun x20=>(ob (Go.Eng.chkI (Go.Eng.lenL (List.set (Go.Eng.repL x3.1 (Go.Eng.T.v (Go.Value.int Go.IntKind.u32 (0:Int)))) x4 (Go.Eng.T.upd 1 x5 0 [(Go.Eng.T.v (Go.Value.int Go.IntKind.u32 (Go.Eng.wr Go.IntKind.u32 (Go.Eng.wr Go.IntKind.u64 (Go.Eng.divI t.2.1 x1)))))]))) (1:Int)) fun x21=>(ob (Go.Eng.idxN (List.set (Go.Eng.repL x3.1 (Go.Eng.T.v (Go.Value.int Go.IntKind.u32 (0:Int)))) x4 (Go.Eng.T.upd 1 x5 0 [(Go.Eng.T.v (Go.Value.int Go.IntKind.u32 (Go.Eng.wr Go.IntKind.u32 (Go.Eng.wr Go.IntKind.u64 (Go.Eng.divI t.2.1 x1)))))])) x21) fun x22=>(ob (Go.Eng.cut3 (Go.Eng.lenL (List.set (List.set (Go.Eng.repL x3.1 (Go.Eng.T.v (Go.Value.int Go.IntKind.u32 (0:Int)))) x4 (Go.Eng.T.upd 1 x5 0 [(Go.Eng.T.v (Go.Value.int Go.IntKind.u32 (Go.Eng.wr Go.IntKind.u32 (Go.Eng.wr Go.IntKind.u64 (Go.Eng.divI t.2.1 x1)))))])) x21 (Go.Eng.T.upd 1 x22 0 [(Go.Eng.T.v (Go.Value.int Go.IntKind.u32 (Go.Eng.wr Go.IntKind.u32 (Go.Eng.shrI Go.IntKind.u64 (Go.Eng.wr Go.IntKind.u64 (Go.Eng.divI t.2.1 x1)) x20))))]))) (0:Int) (2:Int) (2:Int)) fun x23=>(ob (α:=((Unit×Unit×Bool×T×T×Bool×List T×List T×Unit)⊕Empty)) (bif (Go.Eng.ltI (1:Int) (Go.Eng.wr Go.IntKind.u64 (Go.Eng.divI t.2.2.1 x2))) then (ob (Go.Eng.cutI (Go.Eng.lenL (List.set (List.set (Go.Eng.repL x3.1 (Go.Eng.T.v (Go.Value.int Go.IntKind.u32 (0:Int)))) x4 (Go.Eng.T.upd 1 x5 0 [(Go.Eng.T.v (Go.Value.int Go.IntKind.u32 (Go.Eng.wr Go.IntKind.u32 (Go.Eng.wr Go.IntKind.u64 (Go.Eng.divI t.2.1 x1)))))])) x21 (Go.Eng.T.upd 1 x22 0 [(Go.Eng.T.v (Go.Value.int Go.IntKind.u32 (Go.Eng.wr Go.IntKind.u32 (Go.Eng.shrI Go.IntKind.u64 (Go.Eng.wr Go.IntKind.u64 (Go.Eng.divI t.2.1 x1)) x20))))]))) (2:Int) (Go.Eng.lenL (List.set (List.set (Go.Eng.repL x3.1 (Go.Eng.T.v (Go.Value.int Go.IntKind.u32 (0:Int)))) x4 (Go.Eng.T.upd 1 x5 0 [(Go.Eng.T.v (Go.Value.int Go.IntKind.u32 (Go.Eng.wr Go.IntKind.u32 (Go.Eng.wr Go.IntKind.u64 (Go.Eng.divI t.2.1 x1)))))])) x21 (Go.Eng.T.upd 1 x22 0 [(Go.Eng.T.v (Go.Value.int Go.IntKind.u32 (Go.Eng.wr Go.IntKind.u32 (Go.Eng.shrI Go.IntKind.u64 (Go.Eng.wr Go.IntKind.u64 (Go.Eng.divI t.2.1 x1)) x20))))])))) fun x24=>(ob (Go.Eng.chkI (Go.Eng.natI x24.2) (0:Int)) fun x25=>(ob (Go.Eng.idxN (List.set (List.set (Go.Eng.repL x3.1 (Go.Eng.T.v (Go.Value.int Go.IntKind.u32 (0:Int)))) x4 (Go.Eng.T.upd 1 x5 0 [(Go.Eng.T.v (Go.Value.int Go.IntKind.u32 (Go.Eng.wr Go.IntKind.u32 (Go.Eng.wr Go.IntKind.u64 (Go.Eng.divI t.2.1 x1)))))])) x21 (Go.Eng.T.upd 1 x22 0 [(Go.Eng.T.v (Go.Value.int Go.IntKind.u32 (Go.Eng.wr Go.IntKind.u32 (Go.Eng.shrI Go.IntKind.u64 (Go.Eng.wr Go.IntKind.u64 (Go.Eng.divI t.2.1 x1)) x20))))])) (Go.Eng.addN x24.1 x25)) fun x26=>(ob (Go.Eng.nn (32:Int)) fun x27=>(bif (Go.Eng.eqI (Go.Eng.shrI Go.IntKind.u64 (Go.Eng.wr Go.IntKind.u64 (Go.Eng.divI t.2.2.1 x2)) x27) (0:Int)) then (ob (Go.Eng.cut3 (Go.Eng.lenL (List.set (List.set (List.set (Go.Eng.repL x3.1 (Go.Eng.T.v (Go.Value.int Go.IntKind.u32 (0:Int)))) x4 (Go.Eng.T.upd 1 x5 0 [(Go.Eng.T.v (Go.Value.int Go.IntKind.u32 (Go.Eng.wr Go.IntKind.u32 (Go.Eng.wr Go.IntKind.u64 (Go.Eng.divI t.2.1 x1)))))])) x21 (Go.Eng.T.upd 1 x22 0 [(Go.Eng.T.v (Go.Value.int Go.IntKind.u32 (Go.Eng.wr Go.IntKind.u32 (Go.Eng.shrI Go.IntKind.u64 (Go.Eng.wr Go.IntKind.u64 (Go.Eng.divI t.2.1 x1)) x20))))])) (Go.Eng.addN x24.1 x25) (Go.Eng.T.upd 1 x26 0 [(Go.Eng.T.v (Go.Value.int Go.IntKind.u32 (Go.Eng.wr Go.IntKind.u32 (Go.Eng.wr Go.IntKind.u64 (Go.Eng.divI t.2.2.1 x2)))))]))) (2:Int) (3:Int) (3:Int)) fun x28=>(some (Sum.inl ((),(),Bool.false,(Go.Eng.T.v (Go.Value.slice (Option.none) 0 0)),(Go.Eng.T.v (Go.Value.slice (Option.none) 0 0)),t.1,(cutN (List.set (List.set (List.set (Go.Eng.repL x3.1 (Go.Eng.T.v (Go.Value.int Go.IntKind.u32 (0:Int)))) x4 (Go.Eng.T.upd 1 x5 0 [(Go.Eng.T.v (Go.Value.int Go.IntKind.u32 (Go.Eng.wr Go.IntKind.u32 (Go.Eng.wr Go.IntKind.u64 (Go.Eng.divI t.2.1 x1)))))])) x21 (Go.Eng.T.upd 1 x22 0 [(Go.Eng.T.v (Go.Value.int Go.IntKind.u32 (Go.Eng.wr Go.IntKind.u32 (Go.Eng.shrI Go.IntKind.u64 (Go.Eng.wr Go.IntKind.u64 (Go.Eng.divI t.2.1 x1)) x20))))])) (Go.Eng.addN x24.1 x25) (Go.Eng.T.upd 1 x26 0 [(Go.Eng.T.v (Go.Value.int Go.IntKind.u32 (Go.Eng.wr Go.IntKind.u32 (Go.Eng.wr Go.IntKind.u64 (Go.Eng.divI t.2.2.1 x2)))))])) x23.1 x23.2),(cutN (List.set (List.set (List.set (Go.Eng.repL x3.1 (Go.Eng.T.v (Go.Value.int Go.IntKind.u32 (0:Int)))) x4 (Go.Eng.T.upd 1 x5 0 [(Go.Eng.T.v (Go.Value.int Go.IntKind.u32 (Go.Eng.wr Go.IntKind.u32 (Go.Eng.wr Go.IntKind.u64 (Go.Eng.divI t.2.1 x1)))))])) x21 (Go.Eng.T.upd 1 x22 0 [(Go.Eng.T.v (Go.Value.int Go.IntKind.u32 (Go.Eng.wr Go.IntKind.u32 (Go.Eng.shrI Go.IntKind.u64 (Go.Eng.wr Go.IntKind.u64 (Go.Eng.divI t.2.1 x1)) x20))))])) (Go.Eng.addN x24.1 x25) (Go.Eng.T.upd 1 x26 0 [(Go.Eng.T.v (Go.Value.int Go.IntKind.u32 (Go.Eng.wr Go.IntKind.u32 (Go.Eng.wr Go.IntKind.u64 (Go.Eng.divI t.2.2.1 x2)))))])) x28.1 x28.2),())))) else (ob (Go.Eng.nn (32:Int)) fun x29=>(ob (Go.Eng.chkI (Go.Eng.natI x24.2) (1:Int)) fun x30=>(ob (Go.Eng.idxN (List.set (List.set (List.set (Go.Eng.repL x3.1 (Go.Eng.T.v (Go.Value.int Go.IntKind.u32 (0:Int)))) x4 (Go.Eng.T.upd 1 x5 0 [(Go.Eng.T.v (Go.Value.int Go.IntKind.u32 (Go.Eng.wr Go.IntKind.u32 (Go.Eng.wr Go.IntKind.u64 (Go.Eng.divI t.2.1 x1)))))])) x21 (Go.Eng.T.upd 1 x22 0 [(Go.Eng.T.v (Go.Value.int Go.IntKind.u32 (Go.Eng.wr Go.IntKind.u32 (Go.Eng.shrI Go.IntKind.u64 (Go.Eng.wr Go.IntKind.u64 (Go.Eng.divI t.2.1 x1)) x20))))])) (Go.Eng.addN x24.1 x25) (Go.Eng.T.upd 1 x26 0 [(Go.Eng.T.v (Go.Value.int Go.IntKind.u32 (Go.Eng.wr Go.IntKind.u32 (Go.Eng.wr Go.IntKind.u64 (Go.Eng.divI t.2.2.1 x2)))))])) (Go.Eng.addN x24.1 x30)) fun x31=>(ob (Go.Eng.cut3 (Go.Eng.lenL (List.set (List.set (List.set (List.set (Go.Eng.repL x3.1 (Go.Eng.T.v (Go.Value.int Go.IntKind.u32 (0:Int)))) x4 (Go.Eng.T.upd 1 x5 0 [(Go.Eng.T.v (Go.Value.int Go.IntKind.u32 (Go.Eng.wr Go.IntKind.u32 (Go.Eng.wr Go.IntKind.u64 (Go.Eng.divI t.2.1 x1)))))])) x21 (Go.Eng.T.upd 1 x22 0 [(Go.Eng.T.v (Go.Value.int Go.IntKind.u32 (Go.Eng.wr Go.IntKind.u32 (Go.Eng.shrI Go.IntKind.u64 (Go.Eng.wr Go.IntKind.u64 (Go.Eng.divI t.2.1 x1)) x20))))])) (Go.Eng.addN x24.1 x25) (Go.Eng.T.upd 1 x26 0 [(Go.Eng.T.v (Go.Value.int Go.IntKind.u32 (Go.Eng.wr Go.IntKind.u32 (Go.Eng.wr Go.IntKind.u64 (Go.Eng.divI t.2.2.1 x2)))))])) (Go.Eng.addN x24.1 x30) (Go.Eng.T.upd 1 x31 0 [(Go.Eng.T.v (Go.Value.int Go.IntKind.u32 (Go.Eng.wr Go.IntKind.u32 (Go.Eng.shrI Go.IntKind.u64 (Go.Eng.wr Go.IntKind.u64 (Go.Eng.divI t.2.2.1 x2)) x29))))]))) (2:Int) (4:Int) (4:Int)) fun x32=>(some (Sum.inl ((),(),Bool.false,(Go.Eng.T.v (Go.Value.slice (Option.none) 0 0)),(Go.Eng.T.v (Go.Value.slice (Option.none) 0 0)),t.1,(cutN (List.set (List.set (List.set (List.set (Go.Eng.repL x3.1 (Go.Eng.T.v (Go.Value.int Go.IntKind.u32 (0:Int)))) x4 (Go.Eng.T.upd 1 x5 0 [(Go.Eng.T.v (Go.Value.int Go.IntKind.u32 (Go.Eng.wr Go.IntKind.u32 (Go.Eng.wr Go.IntKind.u64 (Go.Eng.divI t.2.1 x1)))))])) x21 (Go.Eng.T.upd 1 x22 0 [(Go.Eng.T.v (Go.Value.int Go.IntKind.u32 (Go.Eng.wr Go.IntKind.u32 (Go.Eng.shrI Go.IntKind.u64 (Go.Eng.wr Go.IntKind.u64 (Go.Eng.divI t.2.1 x1)) x20))))])) (Go.Eng.addN x24.1 x25) (Go.Eng.T.upd 1 x26 0 [(Go.Eng.T.v (Go.Value.int Go.IntKind.u32 (Go.Eng.wr Go.IntKind.u32 (Go.Eng.wr Go.IntKind.u64 (Go.Eng.divI t.2.2.1 x2)))))])) (Go.Eng.addN x24.1 x30) (Go.Eng.T.upd 1 x31 0 [(Go.Eng.T.v (Go.Value.int Go.IntKind.u32 (Go.Eng.wr Go.IntKind.u32 (Go.Eng.shrI Go.IntKind.u64 (Go.Eng.wr Go.IntKind.u64 (Go.Eng.divI t.2.2.1 x2)) x29))))])) x23.1 x23.2),(cutN (List.set (List.set (List.set (List.set (Go.Eng.repL x3.1 (Go.Eng.T.v (Go.Value.int Go.IntKind.u32 (0:Int)))) x4 (Go.Eng.T.upd 1 x5 0 [(Go.Eng.T.v (Go.Value.int Go.IntKind.u32 (Go.Eng.wr Go.IntKind.u32 (Go.Eng.wr Go.IntKind.u64 (Go.Eng.divI t.2.1 x1)))))])) x21 (Go.Eng.T.upd 1 x22 0 [(Go.Eng.T.v (Go.Value.int Go.IntKind.u32 (Go.Eng.wr Go.IntKind.u32 (Go.Eng.shrI Go.IntKind.u64 (Go.Eng.wr Go.IntKind.u64 (Go.Eng.divI t.2.1 x1)) x20))))])) (Go.Eng.addN x24.1 x25) (Go.Eng.T.upd 1 x26 0 [(Go.Eng.T.v (Go.Value.int Go.IntKind.u32 (Go.Eng.wr Go.IntKind.u32 (Go.Eng.wr Go.IntKind.u64 (Go.Eng.divI t.2.2.1 x2)))))])) (Go.Eng.addN x24.1 x30) (Go.Eng.T.upd 1 x31 0 [(Go.Eng.T.v (Go.Value.int Go.IntKind.u32 (Go.Eng.wr Go.IntKind.u32 (Go.Eng.shrI Go.IntKind.u64 (Go.Eng.wr Go.IntKind.u64 (Go.Eng.divI t.2.2.1 x2)) x29))))])) x32.1 x32.2),())))))))))))) else (some (Sum.inl ((),(),Bool.false,(Go.Eng.T.v (Go.Value.slice (Option.none) 0 0)),(Go.Eng.T.v (Go.Value.slice (Option.none) 0 0)),t.1,(cutN (List.set (List.set (Go.Eng.repL x3.1 (Go.Eng.T.v (Go.Value.int Go.IntKind.u32 (0:Int)))) x4 (Go.Eng.T.upd 1 x5 0 [(Go.Eng.T.v (Go.Value.int Go.IntKind.u32 (Go.Eng.wr Go.IntKind.u32 (Go.Eng.wr Go.IntKind.u64 (Go.Eng.divI t.2.1 x1)))))])) x21 (Go.Eng.T.upd 1 x22 0 [(Go.Eng.T.v (Go.Value.int Go.IntKind.u32 (Go.Eng.wr Go.IntKind.u32 (Go.Eng.shrI Go.IntKind.u64 (Go.Eng.wr Go.IntKind.u64 (Go.Eng.divI t.2.1 x1)) x20))))])) x23.1 x23.2),[],())))) fun q33=>onS q33 (fun t34=>(some (t34.2.2.2.2.2.1,t34.2.2.2.2.2.2.1,t34.2.2.2.2.2.2.2.1,()))) fun q35=>noS q35))))))))))))))
theorem le_rational_short(n:Nat)(t:(Bool×Int×Int×Unit)):Le (v_rational_short n t) (u_rational_short t):=by
 unfold v_rational_short u_rational_short
 repeat' first
  | with_reducible refine le_cond ?_ ?_
  | with_reducible refine le_onS (fun _=>?_) fun _=>?_
  | with_reducible refine le_ob ?_ fun _=>?_
  | with_reducible refine le_both ?_ ?_
  | with_reducible exact le_rfl
  | with_reducible exact le_rational_divisor n _
noncomputable def v_rational_parts(n:Nat)(t:(Bool×(List T)×(List T)×Unit)):Option (Int×Int×Bool×Unit):=
 (bif (Go.Eng.ltI (1:Int) (Go.Eng.lenL t.2.1)) then (some ((0:Int),(0:Int),Bool.false,())) else (bif (Go.Eng.ltI (1:Int) (Go.Eng.lenL t.2.2.1)) then (some ((0:Int),(0:Int),Bool.false,())) else (ob (α:=((Unit×Int×Bool×List T×List T×Unit)⊕Empty)) (bif (Go.Eng.eqI (Go.Eng.lenL t.2.2.1) (1:Int)) then (ob (Go.Eng.idxL t.2.2.1 (0:Int)) fun x0=>(ob (Go.Eng.T.anyInt? (Go.Eng.T.cell x0 0)) fun x1=>(some (Sum.inl ((),(Go.Eng.wr Go.IntKind.u64 x1),t.1,t.2.1,t.2.2.1,()))))) else (some (Sum.inl ((),(1:Int),t.1,t.2.1,t.2.2.1,())))) fun q2=>onS q2 (fun t3=>(ob (Go.Eng.v_rational_word n (t3.2.2.2.1,())) fun x4=>(some (x4.1,t3.2.1,(Bool.not (Go.Eng.eqI t3.2.1 (0:Int))),())))) fun q5=>noS q5)))
theorem le_rational_parts(n:Nat)(t:(Bool×(List T)×(List T)×Unit)):Le (v_rational_parts n t) (u_rational_parts t):=by
 unfold v_rational_parts u_rational_parts
 repeat' first
  | with_reducible refine le_cond ?_ ?_
  | with_reducible refine le_onS (fun _=>?_) fun _=>?_
  | with_reducible refine le_ob ?_ fun _=>?_
  | with_reducible refine le_both ?_ ?_
  | with_reducible exact le_rfl
  | with_reducible exact le_rational_word n _
noncomputable def v_rational_one(n:Nat)(t:Unit):Option ((List T)×Unit):=
 (some ([(Go.Eng.T.v (Go.Value.int Go.IntKind.u32 (1:Int)))],()))
theorem le_rational_one(n:Nat)(t:Unit):Le (v_rational_one n t) (u_rational_one t):=by
 unfold v_rational_one u_rational_one
 repeat' first
  | with_reducible refine le_cond ?_ ?_
  | with_reducible refine le_onS (fun _=>?_) fun _=>?_
  | with_reducible refine le_ob ?_ fun _=>?_
  | with_reducible refine le_both ?_ ?_
  | with_reducible exact le_rfl
noncomputable def v_rational_den(n:Nat)(t:(Bool×(List T)×(List T)×Unit)):Option ((List T)×Unit):=
 (bif (Go.Eng.eqI (Go.Eng.lenL t.2.2.1) (0:Int)) then (ob (Go.Eng.v_rational_one n ()) fun x0=>(some (x0.1,()))) else (some (t.2.2.1,())))
theorem le_rational_den(n:Nat)(t:(Bool×(List T)×(List T)×Unit)):Le (v_rational_den n t) (u_rational_den t):=by
 unfold v_rational_den u_rational_den
 repeat' first
  | with_reducible refine le_cond ?_ ?_
  | with_reducible refine le_onS (fun _=>?_) fun _=>?_
  | with_reducible refine le_ob ?_ fun _=>?_
  | with_reducible refine le_both ?_ ?_
  | with_reducible exact le_rfl
  | with_reducible exact le_rational_one n _
noncomputable def v_slices_Equal___uint32_uint32__l0(n:Nat)(s0:(List T×List T×Int×Int×Unit)):Option ((List T×List T×Int×Int×Unit)⊕((Bool×Unit)⊕((Unit)⊕Empty))):=
 (bif (Go.Eng.ltI s0.2.2.2.1 s0.2.2.1) then (ob (Go.Eng.idxL s0.1 s0.2.2.2.1) fun x1=>(ob (Go.Eng.idxL s0.2.1 s0.2.2.2.1) fun x2=>(ob (Go.Eng.T.int? Go.IntKind.u32 (Go.Eng.T.cell x1 0)) fun x3=>(ob (Go.Eng.T.int? Go.IntKind.u32 (Go.Eng.T.cell x2 0)) fun x4=>(bif (Bool.not (Go.Eng.eqI x3 x4)) then (some (Sum.inr (Sum.inl (Bool.false,())))) else (some (Sum.inl (s0.1,s0.2.1,s0.2.2.1,(Go.Eng.wr Go.IntKind.i64 (Go.Eng.addI s0.2.2.2.1 (1:Int))),())))))))) else (some (Sum.inr (Sum.inr (Sum.inl ())))))
theorem le_slices_Equal___uint32_uint32__l0(n:Nat)(s0:(List T×List T×Int×Int×Unit)):Le (v_slices_Equal___uint32_uint32__l0 n s0) (u_slices_Equal___uint32_uint32__l0 s0):=by
 unfold v_slices_Equal___uint32_uint32__l0 u_slices_Equal___uint32_uint32__l0
 repeat' first
  | with_reducible refine le_cond ?_ ?_
  | with_reducible refine le_onS (fun _=>?_) fun _=>?_
  | with_reducible refine le_ob ?_ fun _=>?_
  | with_reducible refine le_both ?_ ?_
  | with_reducible exact le_rfl
noncomputable def v_slices_Equal___uint32_uint32_(n:Nat)(t:((List T)×(List T)×Unit)):Option (Bool×Unit):=
 (bif (Bool.not (Go.Eng.eqI (Go.Eng.lenL t.1) (Go.Eng.lenL t.2.1))) then (some (Bool.false,())) else (ob (iter (v_slices_Equal___uint32_uint32__l0 n) n (t.1,t.2.1,(Go.Eng.lenL t.1),(0:Int),())) fun q5=>onS q5 (fun t6=>(some (t6.1,()))) fun q7=>onS q7 (fun t8=>(some (Bool.true,()))) fun q9=>noS q9))
theorem le_slices_Equal___uint32_uint32_(n:Nat)(t:((List T)×(List T)×Unit)):Le (v_slices_Equal___uint32_uint32_ n t) (u_slices_Equal___uint32_uint32_ t):=by
 unfold v_slices_Equal___uint32_uint32_ u_slices_Equal___uint32_uint32_
 repeat' first
  | with_reducible refine le_cond ?_ ?_
  | with_reducible refine le_onS (fun _=>?_) fun _=>?_
  | with_reducible refine le_ob ?_ fun _=>?_
  | with_reducible refine le_both ?_ ?_
  | with_reducible exact le_rfl
  | with_reducible exact le_loop (fun s=>le_slices_Equal___uint32_uint32__l0 n s) _ _
noncomputable def v_slices_Clone___uint32_uint32_(n:Nat)(t:((List T)×Unit)):Option ((List T)×Unit):=
 (bif (Go.Eng.nilL t.1) then (bothV (some ([],())) (ob (Go.Eng.room [] t.1 4) fun x0=>(some (x0,())))) else (ob (Go.Eng.room [] t.1 4) fun x1=>(some (x1,()))))
theorem le_slices_Clone___uint32_uint32_(n:Nat)(t:((List T)×Unit)):Le (v_slices_Clone___uint32_uint32_ n t) (u_slices_Clone___uint32_uint32_ t):=by
 unfold v_slices_Clone___uint32_uint32_ u_slices_Clone___uint32_uint32_
 repeat' first
  | with_reducible refine le_cond ?_ ?_
  | with_reducible refine le_onS (fun _=>?_) fun _=>?_
  | with_reducible refine le_ob ?_ fun _=>?_
  | with_reducible refine le_both ?_ ?_
  | with_reducible exact le_rfl
noncomputable def v_rational_Sign(n:Nat)(t:(Bool×(List T)×(List T)×Unit)):Option (Int×Unit):=
 (ob (Go.Eng.v_natural_Bits n (t.2.1,())) fun x0=>(bif (Go.Eng.eqI x0.1 (0:Int)) then (some ((0:Int),())) else (bif t.1 then (some ((-1:Int),())) else (some ((1:Int),())))))
theorem le_rational_Sign(n:Nat)(t:(Bool×(List T)×(List T)×Unit)):Le (v_rational_Sign n t) (u_rational_Sign t):=by
 unfold v_rational_Sign u_rational_Sign
 repeat' first
  | with_reducible refine le_cond ?_ ?_
  | with_reducible refine le_onS (fun _=>?_) fun _=>?_
  | with_reducible refine le_ob ?_ fun _=>?_
  | with_reducible refine le_both ?_ ?_
  | with_reducible exact le_rfl
  | with_reducible exact le_natural_Bits n _
noncomputable def v_rational_add(n:Nat)(t:(Bool×(List T)×(List T)×Bool×(List T)×(List T)×Bool×Unit)):Option (Bool×(List T)×(List T)×Unit):=
 (ob (α:=((Unit×Bool×List T×List T×Unit)⊕((Bool×Unit×Unit×Unit×Bool×List T×List T×Bool×List T×List T×Bool×T×T×Unit)⊕Empty))) (ob (Go.Eng.v_rational_parts n (t.1,t.2.1,t.2.2.1,())) fun x0=>(bif x0.2.2.1 then (ob (Go.Eng.v_rational_parts n (t.2.2.2.1,t.2.2.2.2.1,t.2.2.2.2.2.1,())) fun x1=>(bif x1.2.2.1 then (ob (Go.Eng.add64S (Go.Eng.wr Go.IntKind.u64 (Go.Eng.mulI x0.1 x1.2.1)) (Go.Eng.wr Go.IntKind.u64 (Go.Eng.mulI x1.1 x0.2.1)) (0:Int)) fun x2=>(bif (Go.Eng.eqB t.1 t.2.2.2.2.2.2.1) then (bif (Go.Eng.eqI (Go.Eng.add64C (Go.Eng.wr Go.IntKind.u64 (Go.Eng.mulI x0.1 x1.2.1)) (Go.Eng.wr Go.IntKind.u64 (Go.Eng.mulI x1.1 x0.2.1)) (0:Int)) (0:Int)) then (ob (Go.Eng.v_rational_short n (t.2.2.2.2.2.2.1,x2,(Go.Eng.wr Go.IntKind.u64 (Go.Eng.mulI x0.2.1 x1.2.1)),())) fun x3=>(some (Sum.inl ((),x3.1,x3.2.1,x3.2.2.1,())))) else (bif (Bool.not (Go.Eng.eqB t.1 t.2.2.2.2.2.2.1)) then (bif (Go.Eng.leI (Go.Eng.wr Go.IntKind.u64 (Go.Eng.mulI x1.1 x0.2.1)) (Go.Eng.wr Go.IntKind.u64 (Go.Eng.mulI x0.1 x1.2.1))) then (ob (Go.Eng.v_rational_short n (t.1,(Go.Eng.wr Go.IntKind.u64 (Go.Eng.subI (Go.Eng.wr Go.IntKind.u64 (Go.Eng.mulI x0.1 x1.2.1)) (Go.Eng.wr Go.IntKind.u64 (Go.Eng.mulI x1.1 x0.2.1)))),(Go.Eng.wr Go.IntKind.u64 (Go.Eng.mulI x0.2.1 x1.2.1)),())) fun x4=>(some (Sum.inl ((),x4.1,x4.2.1,x4.2.2.1,())))) else (bif (Bool.not (Go.Eng.eqB t.1 t.2.2.2.2.2.2.1)) then (ob (Go.Eng.v_rational_short n (t.2.2.2.2.2.2.1,(Go.Eng.wr Go.IntKind.u64 (Go.Eng.subI (Go.Eng.wr Go.IntKind.u64 (Go.Eng.mulI x1.1 x0.2.1)) (Go.Eng.wr Go.IntKind.u64 (Go.Eng.mulI x0.1 x1.2.1)))),(Go.Eng.wr Go.IntKind.u64 (Go.Eng.mulI x0.2.1 x1.2.1)),())) fun x5=>(some (Sum.inl ((),x5.1,x5.2.1,x5.2.2.1,())))) else (some (Sum.inr (Sum.inl (t.2.2.2.2.2.2.1,(),(),(),t.1,t.2.1,t.2.2.1,t.2.2.2.1,t.2.2.2.2.1,t.2.2.2.2.2.1,Bool.false,(Go.Eng.T.v (Go.Value.slice (Option.none) 0 0)),(Go.Eng.T.v (Go.Value.slice (Option.none) 0 0)),())))))) else (bif (Bool.not (Go.Eng.eqB t.1 t.2.2.2.2.2.2.1)) then (ob (Go.Eng.v_rational_short n (t.2.2.2.2.2.2.1,(Go.Eng.wr Go.IntKind.u64 (Go.Eng.subI (Go.Eng.wr Go.IntKind.u64 (Go.Eng.mulI x1.1 x0.2.1)) (Go.Eng.wr Go.IntKind.u64 (Go.Eng.mulI x0.1 x1.2.1)))),(Go.Eng.wr Go.IntKind.u64 (Go.Eng.mulI x0.2.1 x1.2.1)),())) fun x6=>(some (Sum.inl ((),x6.1,x6.2.1,x6.2.2.1,())))) else (some (Sum.inr (Sum.inl (t.2.2.2.2.2.2.1,(),(),(),t.1,t.2.1,t.2.2.1,t.2.2.2.1,t.2.2.2.2.1,t.2.2.2.2.2.1,Bool.false,(Go.Eng.T.v (Go.Value.slice (Option.none) 0 0)),(Go.Eng.T.v (Go.Value.slice (Option.none) 0 0)),()))))))) else (bif (Bool.not (Go.Eng.eqB t.1 t.2.2.2.2.2.2.1)) then (bif (Go.Eng.leI (Go.Eng.wr Go.IntKind.u64 (Go.Eng.mulI x1.1 x0.2.1)) (Go.Eng.wr Go.IntKind.u64 (Go.Eng.mulI x0.1 x1.2.1))) then (ob (Go.Eng.v_rational_short n (t.1,(Go.Eng.wr Go.IntKind.u64 (Go.Eng.subI (Go.Eng.wr Go.IntKind.u64 (Go.Eng.mulI x0.1 x1.2.1)) (Go.Eng.wr Go.IntKind.u64 (Go.Eng.mulI x1.1 x0.2.1)))),(Go.Eng.wr Go.IntKind.u64 (Go.Eng.mulI x0.2.1 x1.2.1)),())) fun x7=>(some (Sum.inl ((),x7.1,x7.2.1,x7.2.2.1,())))) else (bif (Bool.not (Go.Eng.eqB t.1 t.2.2.2.2.2.2.1)) then (ob (Go.Eng.v_rational_short n (t.2.2.2.2.2.2.1,(Go.Eng.wr Go.IntKind.u64 (Go.Eng.subI (Go.Eng.wr Go.IntKind.u64 (Go.Eng.mulI x1.1 x0.2.1)) (Go.Eng.wr Go.IntKind.u64 (Go.Eng.mulI x0.1 x1.2.1)))),(Go.Eng.wr Go.IntKind.u64 (Go.Eng.mulI x0.2.1 x1.2.1)),())) fun x8=>(some (Sum.inl ((),x8.1,x8.2.1,x8.2.2.1,())))) else (some (Sum.inr (Sum.inl (t.2.2.2.2.2.2.1,(),(),(),t.1,t.2.1,t.2.2.1,t.2.2.2.1,t.2.2.2.2.1,t.2.2.2.2.2.1,Bool.false,(Go.Eng.T.v (Go.Value.slice (Option.none) 0 0)),(Go.Eng.T.v (Go.Value.slice (Option.none) 0 0)),())))))) else (bif (Bool.not (Go.Eng.eqB t.1 t.2.2.2.2.2.2.1)) then (ob (Go.Eng.v_rational_short n (t.2.2.2.2.2.2.1,(Go.Eng.wr Go.IntKind.u64 (Go.Eng.subI (Go.Eng.wr Go.IntKind.u64 (Go.Eng.mulI x1.1 x0.2.1)) (Go.Eng.wr Go.IntKind.u64 (Go.Eng.mulI x0.1 x1.2.1)))),(Go.Eng.wr Go.IntKind.u64 (Go.Eng.mulI x0.2.1 x1.2.1)),())) fun x9=>(some (Sum.inl ((),x9.1,x9.2.1,x9.2.2.1,())))) else (some (Sum.inr (Sum.inl (t.2.2.2.2.2.2.1,(),(),(),t.1,t.2.1,t.2.2.1,t.2.2.2.1,t.2.2.2.2.1,t.2.2.2.2.2.1,Bool.false,(Go.Eng.T.v (Go.Value.slice (Option.none) 0 0)),(Go.Eng.T.v (Go.Value.slice (Option.none) 0 0)),())))))))) else (some (Sum.inr (Sum.inl (t.2.2.2.2.2.2.1,(),(),(),t.1,t.2.1,t.2.2.1,t.2.2.2.1,t.2.2.2.2.1,t.2.2.2.2.2.1,Bool.false,(Go.Eng.T.v (Go.Value.slice (Option.none) 0 0)),(Go.Eng.T.v (Go.Value.slice (Option.none) 0 0)),())))))) else (some (Sum.inr (Sum.inl (t.2.2.2.2.2.2.1,(),(),(),t.1,t.2.1,t.2.2.1,t.2.2.2.1,t.2.2.2.2.1,t.2.2.2.2.2.1,Bool.false,(Go.Eng.T.v (Go.Value.slice (Option.none) 0 0)),(Go.Eng.T.v (Go.Value.slice (Option.none) 0 0)),())))))) fun q10=>onS q10 (fun t11=>(some (t11.2.1,t11.2.2.1,t11.2.2.2.1,()))) fun q12=>onS q12 (fun t13=>(ob (Go.Eng.v_rational_den n (t13.2.2.2.2.1,t13.2.2.2.2.2.1,t13.2.2.2.2.2.2.1,())) fun x14=>(ob (α:=((Bool×Unit×Unit×List T×List T×List T×Bool×List T×List T×Bool×T×T×Unit)⊕Empty)) (ob (Go.Eng.v_slices_Equal___uint32_uint32_ n (t13.2.2.2.2.2.2.1,t13.2.2.2.2.2.2.2.2.2.1,())) fun x15=>(bif (Bool.not x15.1) then (ob (Go.Eng.v_rational_den n (t13.2.2.2.2.2.2.2.1,t13.2.2.2.2.2.2.2.2.1,t13.2.2.2.2.2.2.2.2.2.1,())) fun x16=>none) else (some (Sum.inl (t13.1,(),(),t13.2.2.2.2.2.1,t13.2.2.2.2.2.2.2.2.1,x14.1,t13.2.2.2.2.1,t13.2.2.2.2.2.1,t13.2.2.2.2.2.2.1,t13.2.2.2.2.2.2.2.2.2.2.1,t13.2.2.2.2.2.2.2.2.2.2.2.1,t13.2.2.2.2.2.2.2.2.2.2.2.2.1,()))))) fun q17=>onS q17 (fun t18=>(bif (Go.Eng.eqB t18.2.2.2.2.2.2.1 t18.1) then none else none)) fun q19=>noS q19))) fun q20=>noS q20)
theorem le_rational_add(n:Nat)(t:(Bool×(List T)×(List T)×Bool×(List T)×(List T)×Bool×Unit)):Le (v_rational_add n t) (u_rational_add t):=by
 unfold v_rational_add u_rational_add
 repeat' first
  | with_reducible refine le_cond ?_ ?_
  | with_reducible refine le_onS (fun _=>?_) fun _=>?_
  | with_reducible refine le_ob ?_ fun _=>?_
  | with_reducible refine le_both ?_ ?_
  | with_reducible exact le_rfl
  | with_reducible exact le_rational_parts n _
  | with_reducible exact le_rational_short n _
  | with_reducible exact le_rational_den n _
  | with_reducible exact le_slices_Equal___uint32_uint32_ n _
noncomputable def v_rational_Add(n:Nat)(t:(Bool×(List T)×(List T)×Bool×(List T)×(List T)×Unit)):Option (Bool×(List T)×(List T)×Unit):=
 (ob (Go.Eng.v_rational_add n (t.1,t.2.1,t.2.2.1,t.2.2.2.1,t.2.2.2.2.1,t.2.2.2.2.2.1,t.2.2.2.1,())) fun x0=>(some (x0.1,x0.2.1,x0.2.2.1,())))
theorem le_rational_Add(n:Nat)(t:(Bool×(List T)×(List T)×Bool×(List T)×(List T)×Unit)):Le (v_rational_Add n t) (u_rational_Add t):=by
 unfold v_rational_Add u_rational_Add
 repeat' first
  | with_reducible refine le_cond ?_ ?_
  | with_reducible refine le_onS (fun _=>?_) fun _=>?_
  | with_reducible refine le_ob ?_ fun _=>?_
  | with_reducible refine le_both ?_ ?_
  | with_reducible exact le_rfl
  | with_reducible exact le_rational_add n _
noncomputable def v_rational_Sub(n:Nat)(t:(Bool×(List T)×(List T)×Bool×(List T)×(List T)×Unit)):Option (Bool×(List T)×(List T)×Unit):=
 (ob (Go.Eng.v_rational_add n (t.1,t.2.1,t.2.2.1,t.2.2.2.1,t.2.2.2.2.1,t.2.2.2.2.2.1,(Bool.not t.2.2.2.1),())) fun x0=>(some (x0.1,x0.2.1,x0.2.2.1,())))
theorem le_rational_Sub(n:Nat)(t:(Bool×(List T)×(List T)×Bool×(List T)×(List T)×Unit)):Le (v_rational_Sub n t) (u_rational_Sub t):=by
 unfold v_rational_Sub u_rational_Sub
 repeat' first
  | with_reducible refine le_cond ?_ ?_
  | with_reducible refine le_onS (fun _=>?_) fun _=>?_
  | with_reducible refine le_ob ?_ fun _=>?_
  | with_reducible refine le_both ?_ ?_
  | with_reducible exact le_rfl
  | with_reducible exact le_rational_add n _
noncomputable def v_rational_Mul(n:Nat)(t:(Bool×(List T)×(List T)×Bool×(List T)×(List T)×Unit)):Option (Bool×(List T)×(List T)×Unit):=
 (bif (Go.Eng.eqI (Go.Eng.lenL t.2.1) (0:Int)) then (some (Bool.false,[],[],())) else (bif (Go.Eng.eqI (Go.Eng.lenL t.2.2.2.2.1) (0:Int)) then (some (Bool.false,[],[],())) else (ob (α:=((Unit×Bool×List T×List T×Unit)⊕((Unit×Unit×Unit×Bool×List T×List T×Bool×List T×List T×Bool×T×T×Unit)⊕Empty))) (ob (Go.Eng.v_rational_parts n (t.1,t.2.1,t.2.2.1,())) fun x0=>(bif x0.2.2.1 then (ob (Go.Eng.v_rational_parts n (t.2.2.2.1,t.2.2.2.2.1,t.2.2.2.2.2.1,())) fun x1=>(bif x1.2.2.1 then (ob (Go.Eng.v_rational_short n ((Bool.not (Go.Eng.eqB t.1 t.2.2.2.1)),(Go.Eng.wr Go.IntKind.u64 (Go.Eng.mulI x0.1 x1.1)),(Go.Eng.wr Go.IntKind.u64 (Go.Eng.mulI x0.2.1 x1.2.1)),())) fun x2=>(some (Sum.inl ((),x2.1,x2.2.1,x2.2.2.1,())))) else (some (Sum.inr (Sum.inl ((),(),(),t.1,t.2.1,t.2.2.1,t.2.2.2.1,t.2.2.2.2.1,t.2.2.2.2.2.1,Bool.false,(Go.Eng.T.v (Go.Value.slice (Option.none) 0 0)),(Go.Eng.T.v (Go.Value.slice (Option.none) 0 0)),())))))) else (some (Sum.inr (Sum.inl ((),(),(),t.1,t.2.1,t.2.2.1,t.2.2.2.1,t.2.2.2.2.1,t.2.2.2.2.2.1,Bool.false,(Go.Eng.T.v (Go.Value.slice (Option.none) 0 0)),(Go.Eng.T.v (Go.Value.slice (Option.none) 0 0)),())))))) fun q3=>onS q3 (fun t4=>(some (t4.2.1,t4.2.2.1,t4.2.2.2.1,()))) fun q5=>onS q5 (fun t6=>none) fun q7=>noS q7)))
theorem le_rational_Mul(n:Nat)(t:(Bool×(List T)×(List T)×Bool×(List T)×(List T)×Unit)):Le (v_rational_Mul n t) (u_rational_Mul t):=by
 unfold v_rational_Mul u_rational_Mul
 repeat' first
  | with_reducible refine le_cond ?_ ?_
  | with_reducible refine le_onS (fun _=>?_) fun _=>?_
  | with_reducible refine le_ob ?_ fun _=>?_
  | with_reducible refine le_both ?_ ?_
  | with_reducible exact le_rfl
  | with_reducible exact le_rational_parts n _
  | with_reducible exact le_rational_short n _
noncomputable def v_rational_Cmp(n:Nat)(t:(Bool×(List T)×(List T)×Bool×(List T)×(List T)×Unit)):Option (Int×Unit):=
 (ob (Go.Eng.v_rational_Sign n (t.1,t.2.1,t.2.2.1,())) fun x0=>(ob (Go.Eng.v_rational_Sign n (t.2.2.2.1,t.2.2.2.2.1,t.2.2.2.2.2.1,())) fun x1=>(bif (Bool.not (Go.Eng.eqI x0.1 x1.1)) then (bif (Go.Eng.ltI x0.1 x1.1) then (some ((-1:Int),())) else (some ((1:Int),()))) else (ob (α:=((Unit×Int×Bool×List T×List T×Unit)⊕Empty)) (ob (Go.Eng.v_rational_parts n (t.1,t.2.1,t.2.2.1,())) fun x2=>(ob (Go.Eng.v_slices_Equal___uint32_uint32_ n (t.2.2.1,t.2.2.2.2.2.1,())) fun x3=>(bif x3.1 then (ob (Go.Eng.v_natural_Cmp n (t.2.1,t.2.2.2.2.1,())) fun x4=>(some (Sum.inl ((),x4.1,t.1,t.2.1,t.2.2.1,())))) else (ob (Go.Eng.v_rational_parts n (t.2.2.2.1,t.2.2.2.2.1,t.2.2.2.2.2.1,())) fun x5=>(bif x2.2.2.1 then (bif x5.2.2.1 then (bif (Go.Eng.ltI (Go.Eng.wr Go.IntKind.u64 (Go.Eng.mulI x2.1 x5.2.1)) (Go.Eng.wr Go.IntKind.u64 (Go.Eng.mulI x5.1 x2.2.1))) then (some (Sum.inl ((),(-1:Int),t.1,t.2.1,t.2.2.1,()))) else (bif (Go.Eng.ltI (Go.Eng.wr Go.IntKind.u64 (Go.Eng.mulI x5.1 x2.2.1)) (Go.Eng.wr Go.IntKind.u64 (Go.Eng.mulI x2.1 x5.2.1))) then (some (Sum.inl ((),(1:Int),t.1,t.2.1,t.2.2.1,()))) else (some (Sum.inl ((),(0:Int),t.1,t.2.1,t.2.2.1,()))))) else (ob (Go.Eng.v_rational_den n (t.2.2.2.1,t.2.2.2.2.1,t.2.2.2.2.2.1,())) fun x6=>none)) else (ob (Go.Eng.v_rational_den n (t.2.2.2.1,t.2.2.2.2.1,t.2.2.2.2.2.1,())) fun x7=>none)))))) fun q8=>onS q8 (fun t9=>(bif t9.2.2.1 then (some ((Go.Eng.wr Go.IntKind.i64 (Go.Eng.subI (0:Int) t9.2.1)),())) else (some (t9.2.1,())))) fun q10=>noS q10))))
theorem le_rational_Cmp(n:Nat)(t:(Bool×(List T)×(List T)×Bool×(List T)×(List T)×Unit)):Le (v_rational_Cmp n t) (u_rational_Cmp t):=by
 unfold v_rational_Cmp u_rational_Cmp
 repeat' first
  | with_reducible refine le_cond ?_ ?_
  | with_reducible refine le_onS (fun _=>?_) fun _=>?_
  | with_reducible refine le_ob ?_ fun _=>?_
  | with_reducible refine le_both ?_ ?_
  | with_reducible exact le_rfl
  | with_reducible exact le_rational_Sign n _
  | with_reducible exact le_rational_parts n _
  | with_reducible exact le_slices_Equal___uint32_uint32_ n _
  | with_reducible exact le_natural_Cmp n _
  | with_reducible exact le_rational_den n _
noncomputable def v_rational_copied(n:Nat)(t:(Bool×(List T)×(List T)×Unit)):Option (Bool×(List T)×(List T)×Unit):=
 (ob (Go.Eng.v_slices_Clone___uint32_uint32_ n (t.2.1,())) fun x0=>(ob (Go.Eng.v_slices_Clone___uint32_uint32_ n (t.2.2.1,())) fun x1=>(some (t.1,x0.1,x1.1,()))))
theorem le_rational_copied(n:Nat)(t:(Bool×(List T)×(List T)×Unit)):Le (v_rational_copied n t) (u_rational_copied t):=by
 unfold v_rational_copied u_rational_copied
 repeat' first
  | with_reducible refine le_cond ?_ ?_
  | with_reducible refine le_onS (fun _=>?_) fun _=>?_
  | with_reducible refine le_ob ?_ fun _=>?_
  | with_reducible refine le_both ?_ ?_
  | with_reducible exact le_rfl
  | with_reducible exact le_slices_Clone___uint32_uint32_ n _
noncomputable def v_rational_Min(n:Nat)(t:(Bool×(List T)×(List T)×Bool×(List T)×(List T)×Unit)):Option (Bool×(List T)×(List T)×Unit):=
 (ob (α:=((Unit×Unit×Bool×List T×List T×Bool×T×T×Unit)⊕Empty)) (ob (Go.Eng.v_rational_Cmp n (t.2.2.2.1,t.2.2.2.2.1,t.2.2.2.2.2.1,t.1,t.2.1,t.2.2.1,())) fun x0=>(bif (Go.Eng.ltI x0.1 (0:Int)) then (some (Sum.inl ((),(),t.2.2.2.1,t.2.2.2.2.1,t.2.2.2.2.2.1,Bool.false,(Go.Eng.T.v (Go.Value.slice (Option.none) 0 0)),(Go.Eng.T.v (Go.Value.slice (Option.none) 0 0)),()))) else (some (Sum.inl ((),(),t.1,t.2.1,t.2.2.1,Bool.false,(Go.Eng.T.v (Go.Value.slice (Option.none) 0 0)),(Go.Eng.T.v (Go.Value.slice (Option.none) 0 0)),()))))) fun q1=>onS q1 (fun t2=>(ob (Go.Eng.v_rational_copied n (t2.2.2.1,t2.2.2.2.1,t2.2.2.2.2.1,())) fun x3=>(some (x3.1,x3.2.1,x3.2.2.1,())))) fun q4=>noS q4)
theorem le_rational_Min(n:Nat)(t:(Bool×(List T)×(List T)×Bool×(List T)×(List T)×Unit)):Le (v_rational_Min n t) (u_rational_Min t):=by
 unfold v_rational_Min u_rational_Min
 repeat' first
  | with_reducible refine le_cond ?_ ?_
  | with_reducible refine le_onS (fun _=>?_) fun _=>?_
  | with_reducible refine le_ob ?_ fun _=>?_
  | with_reducible refine le_both ?_ ?_
  | with_reducible exact le_rfl
  | with_reducible exact le_rational_Cmp n _
  | with_reducible exact le_rational_copied n _
noncomputable def v_rational_Max(n:Nat)(t:(Bool×(List T)×(List T)×Bool×(List T)×(List T)×Unit)):Option (Bool×(List T)×(List T)×Unit):=
 (ob (α:=((Unit×Unit×Bool×List T×List T×Bool×T×T×Unit)⊕Empty)) (ob (Go.Eng.v_rational_Cmp n (t.2.2.2.1,t.2.2.2.2.1,t.2.2.2.2.2.1,t.1,t.2.1,t.2.2.1,())) fun x0=>(bif (Go.Eng.ltI (0:Int) x0.1) then (some (Sum.inl ((),(),t.2.2.2.1,t.2.2.2.2.1,t.2.2.2.2.2.1,Bool.false,(Go.Eng.T.v (Go.Value.slice (Option.none) 0 0)),(Go.Eng.T.v (Go.Value.slice (Option.none) 0 0)),()))) else (some (Sum.inl ((),(),t.1,t.2.1,t.2.2.1,Bool.false,(Go.Eng.T.v (Go.Value.slice (Option.none) 0 0)),(Go.Eng.T.v (Go.Value.slice (Option.none) 0 0)),()))))) fun q1=>onS q1 (fun t2=>(ob (Go.Eng.v_rational_copied n (t2.2.2.1,t2.2.2.2.1,t2.2.2.2.2.1,())) fun x3=>(some (x3.1,x3.2.1,x3.2.2.1,())))) fun q4=>noS q4)
theorem le_rational_Max(n:Nat)(t:(Bool×(List T)×(List T)×Bool×(List T)×(List T)×Unit)):Le (v_rational_Max n t) (u_rational_Max t):=by
 unfold v_rational_Max u_rational_Max
 repeat' first
  | with_reducible refine le_cond ?_ ?_
  | with_reducible refine le_onS (fun _=>?_) fun _=>?_
  | with_reducible refine le_ob ?_ fun _=>?_
  | with_reducible refine le_both ?_ ?_
  | with_reducible exact le_rfl
  | with_reducible exact le_rational_Cmp n _
  | with_reducible exact le_rational_copied n _
noncomputable def v_rational_Same(n:Nat)(t:(Bool×(List T)×(List T)×Bool×(List T)×(List T)×Unit)):Option (Bool×Unit):=
 (bif (Go.Eng.eqB t.1 t.2.2.2.1) then (ob (Go.Eng.v_slices_Equal___uint32_uint32_ n (t.2.1,t.2.2.2.2.1,())) fun x0=>(bif x0.1 then (ob (Go.Eng.v_slices_Equal___uint32_uint32_ n (t.2.2.1,t.2.2.2.2.2.1,())) fun x1=>(some (x1.1,()))) else (some (Bool.false,())))) else (some (Bool.false,())))
theorem le_rational_Same(n:Nat)(t:(Bool×(List T)×(List T)×Bool×(List T)×(List T)×Unit)):Le (v_rational_Same n t) (u_rational_Same t):=by
 unfold v_rational_Same u_rational_Same
 repeat' first
  | with_reducible refine le_cond ?_ ?_
  | with_reducible refine le_onS (fun _=>?_) fun _=>?_
  | with_reducible refine le_ob ?_ fun _=>?_
  | with_reducible refine le_both ?_ ?_
  | with_reducible exact le_rfl
  | with_reducible exact le_slices_Equal___uint32_uint32_ n _
noncomputable def v_rational_Valid(n:Nat)(t:(Bool×(List T)×(List T)×Unit)):Option (Bool×Unit):=
 (ob (Go.Eng.v_natural_Valid n (t.2.1,())) fun x0=>(bif (Bool.not x0.1) then (some (Bool.false,())) else (ob (Go.Eng.v_natural_Valid n (t.2.2.1,())) fun x1=>(bif (Bool.not x1.1) then (some (Bool.false,())) else (bif (Go.Eng.eqI (Go.Eng.lenL t.2.2.1) (1:Int)) then (ob (Go.Eng.idxL t.2.2.1 (0:Int)) fun x2=>(ob (Go.Eng.T.int? Go.IntKind.u32 (Go.Eng.T.cell x2 0)) fun x3=>(bif (Go.Eng.eqI x3 (1:Int)) then (some (Bool.false,())) else (bif (Go.Eng.eqI (Go.Eng.lenL t.2.1) (0:Int)) then (bif (Bool.not t.1) then (some ((Go.Eng.eqI (Go.Eng.lenL t.2.2.1) (0:Int)),())) else (some (Bool.false,()))) else (bif (Go.Eng.eqI (Go.Eng.lenL t.2.2.1) (0:Int)) then (some (Bool.true,())) else (ob (Go.Eng.v_natural_Gcd n (t.2.1,t.2.2.1,())) fun x4=>(ob (Go.Eng.v_natural_Bits n (x4.1,())) fun x5=>(some ((Go.Eng.eqI x5.1 (1:Int)),()))))))))) else (bif (Go.Eng.eqI (Go.Eng.lenL t.2.1) (0:Int)) then (bif (Bool.not t.1) then (some ((Go.Eng.eqI (Go.Eng.lenL t.2.2.1) (0:Int)),())) else (some (Bool.false,()))) else (bif (Go.Eng.eqI (Go.Eng.lenL t.2.2.1) (0:Int)) then (some (Bool.true,())) else (ob (Go.Eng.v_natural_Gcd n (t.2.1,t.2.2.1,())) fun x6=>(ob (Go.Eng.v_natural_Bits n (x6.1,())) fun x7=>(some ((Go.Eng.eqI x7.1 (1:Int)),())))))))))))
theorem le_rational_Valid(n:Nat)(t:(Bool×(List T)×(List T)×Unit)):Le (v_rational_Valid n t) (u_rational_Valid t):=by
 unfold v_rational_Valid u_rational_Valid
 repeat' first
  | with_reducible refine le_cond ?_ ?_
  | with_reducible refine le_onS (fun _=>?_) fun _=>?_
  | with_reducible refine le_ob ?_ fun _=>?_
  | with_reducible refine le_both ?_ ?_
  | with_reducible exact le_rfl
  | with_reducible exact le_natural_Valid n _
  | with_reducible exact le_natural_Gcd n _
  | with_reducible exact le_natural_Bits n _
noncomputable def v_vector_each_Sub(n:Nat)(t:(Bool×(List T)×(List T)×Bool×(List T)×(List T)×Bool×(List T)×(List T)×Bool×(List T)×(List T)×Bool×(List T)×(List T)×Bool×(List T)×(List T)×Unit×Unit)):Option (Bool×(List T)×(List T)×Bool×(List T)×(List T)×Bool×(List T)×(List T)×Unit):=
 (ob (α:=((Unit×Unit×Bool×T×T×Bool×T×T×Bool×T×T×Bool×List T×List T×Bool×List T×List T×Bool×List T×List T×Unit)⊕Empty)) (ob (Go.Eng.v_rational_Sub n (t.1,t.2.1,t.2.2.1,t.2.2.2.2.2.2.2.2.2.1,t.2.2.2.2.2.2.2.2.2.2.1,t.2.2.2.2.2.2.2.2.2.2.2.1,())) fun x0=>(ob (Go.Eng.v_rational_Sub n (t.2.2.2.1,t.2.2.2.2.1,t.2.2.2.2.2.1,t.2.2.2.2.2.2.2.2.2.2.2.2.1,t.2.2.2.2.2.2.2.2.2.2.2.2.2.1,t.2.2.2.2.2.2.2.2.2.2.2.2.2.2.1,())) fun x1=>(ob (Go.Eng.v_rational_Sub n (t.2.2.2.2.2.2.1,t.2.2.2.2.2.2.2.1,t.2.2.2.2.2.2.2.2.1,t.2.2.2.2.2.2.2.2.2.2.2.2.2.2.2.1,t.2.2.2.2.2.2.2.2.2.2.2.2.2.2.2.2.1,t.2.2.2.2.2.2.2.2.2.2.2.2.2.2.2.2.2.1,())) fun x2=>(some (Sum.inl ((),(),Bool.false,(Go.Eng.T.v (Go.Value.slice (Option.none) 0 0)),(Go.Eng.T.v (Go.Value.slice (Option.none) 0 0)),Bool.false,(Go.Eng.T.v (Go.Value.slice (Option.none) 0 0)),(Go.Eng.T.v (Go.Value.slice (Option.none) 0 0)),Bool.false,(Go.Eng.T.v (Go.Value.slice (Option.none) 0 0)),(Go.Eng.T.v (Go.Value.slice (Option.none) 0 0)),x0.1,x0.2.1,x0.2.2.1,x1.1,x1.2.1,x1.2.2.1,x2.1,x2.2.1,x2.2.2.1,())))))) fun q3=>onS q3 (fun t4=>(some (t4.2.2.2.2.2.2.2.2.2.2.2.1,t4.2.2.2.2.2.2.2.2.2.2.2.2.1,t4.2.2.2.2.2.2.2.2.2.2.2.2.2.1,t4.2.2.2.2.2.2.2.2.2.2.2.2.2.2.1,t4.2.2.2.2.2.2.2.2.2.2.2.2.2.2.2.1,t4.2.2.2.2.2.2.2.2.2.2.2.2.2.2.2.2.1,t4.2.2.2.2.2.2.2.2.2.2.2.2.2.2.2.2.2.1,t4.2.2.2.2.2.2.2.2.2.2.2.2.2.2.2.2.2.2.1,t4.2.2.2.2.2.2.2.2.2.2.2.2.2.2.2.2.2.2.2.1,()))) fun q5=>noS q5)
theorem le_vector_each_Sub(n:Nat)(t:(Bool×(List T)×(List T)×Bool×(List T)×(List T)×Bool×(List T)×(List T)×Bool×(List T)×(List T)×Bool×(List T)×(List T)×Bool×(List T)×(List T)×Unit×Unit)):Le (v_vector_each_Sub n t) (u_vector_each_Sub t):=by
 unfold v_vector_each_Sub u_vector_each_Sub
 repeat' first
  | with_reducible refine le_cond ?_ ?_
  | with_reducible refine le_onS (fun _=>?_) fun _=>?_
  | with_reducible refine le_ob ?_ fun _=>?_
  | with_reducible refine le_both ?_ ?_
  | with_reducible exact le_rfl
  | with_reducible exact le_rational_Sub n _
noncomputable def v_vector_Sub(n:Nat)(t:(Bool×(List T)×(List T)×Bool×(List T)×(List T)×Bool×(List T)×(List T)×Bool×(List T)×(List T)×Bool×(List T)×(List T)×Bool×(List T)×(List T)×Unit)):Option (Bool×(List T)×(List T)×Bool×(List T)×(List T)×Bool×(List T)×(List T)×Unit):=
 (ob (Go.Eng.v_vector_each_Sub n (t.1,t.2.1,t.2.2.1,t.2.2.2.1,t.2.2.2.2.1,t.2.2.2.2.2.1,t.2.2.2.2.2.2.1,t.2.2.2.2.2.2.2.1,t.2.2.2.2.2.2.2.2.1,t.2.2.2.2.2.2.2.2.2.1,t.2.2.2.2.2.2.2.2.2.2.1,t.2.2.2.2.2.2.2.2.2.2.2.1,t.2.2.2.2.2.2.2.2.2.2.2.2.1,t.2.2.2.2.2.2.2.2.2.2.2.2.2.1,t.2.2.2.2.2.2.2.2.2.2.2.2.2.2.1,t.2.2.2.2.2.2.2.2.2.2.2.2.2.2.2.1,t.2.2.2.2.2.2.2.2.2.2.2.2.2.2.2.2.1,t.2.2.2.2.2.2.2.2.2.2.2.2.2.2.2.2.2.1,(),())) fun x0=>(some (x0.1,x0.2.1,x0.2.2.1,x0.2.2.2.1,x0.2.2.2.2.1,x0.2.2.2.2.2.1,x0.2.2.2.2.2.2.1,x0.2.2.2.2.2.2.2.1,x0.2.2.2.2.2.2.2.2.1,())))
theorem le_vector_Sub(n:Nat)(t:(Bool×(List T)×(List T)×Bool×(List T)×(List T)×Bool×(List T)×(List T)×Bool×(List T)×(List T)×Bool×(List T)×(List T)×Bool×(List T)×(List T)×Unit)):Le (v_vector_Sub n t) (u_vector_Sub t):=by
 unfold v_vector_Sub u_vector_Sub
 repeat' first
  | with_reducible refine le_cond ?_ ?_
  | with_reducible refine le_onS (fun _=>?_) fun _=>?_
  | with_reducible refine le_ob ?_ fun _=>?_
  | with_reducible refine le_both ?_ ?_
  | with_reducible exact le_rfl
  | with_reducible exact le_vector_each_Sub n _
noncomputable def v_vector_Cross(n:Nat)(t:(Bool×(List T)×(List T)×Bool×(List T)×(List T)×Bool×(List T)×(List T)×Bool×(List T)×(List T)×Bool×(List T)×(List T)×Bool×(List T)×(List T)×Unit)):Option (Bool×(List T)×(List T)×Bool×(List T)×(List T)×Bool×(List T)×(List T)×Unit):=
 (ob (α:=((Unit×Unit×Bool×T×T×Bool×T×T×Bool×T×T×Bool×List T×List T×Bool×List T×List T×Bool×List T×List T×Unit)⊕Empty)) (ob (Go.Eng.v_rational_Mul n (t.2.2.2.1,t.2.2.2.2.1,t.2.2.2.2.2.1,t.2.2.2.2.2.2.2.2.2.2.2.2.2.2.2.1,t.2.2.2.2.2.2.2.2.2.2.2.2.2.2.2.2.1,t.2.2.2.2.2.2.2.2.2.2.2.2.2.2.2.2.2.1,())) fun x0=>(ob (Go.Eng.v_rational_Mul n (t.2.2.2.2.2.2.1,t.2.2.2.2.2.2.2.1,t.2.2.2.2.2.2.2.2.1,t.2.2.2.2.2.2.2.2.2.2.2.2.1,t.2.2.2.2.2.2.2.2.2.2.2.2.2.1,t.2.2.2.2.2.2.2.2.2.2.2.2.2.2.1,())) fun x1=>(ob (Go.Eng.v_rational_Sub n (x0.1,x0.2.1,x0.2.2.1,x1.1,x1.2.1,x1.2.2.1,())) fun x2=>(ob (Go.Eng.v_rational_Mul n (t.2.2.2.2.2.2.1,t.2.2.2.2.2.2.2.1,t.2.2.2.2.2.2.2.2.1,t.2.2.2.2.2.2.2.2.2.1,t.2.2.2.2.2.2.2.2.2.2.1,t.2.2.2.2.2.2.2.2.2.2.2.1,())) fun x3=>(ob (Go.Eng.v_rational_Mul n (t.1,t.2.1,t.2.2.1,t.2.2.2.2.2.2.2.2.2.2.2.2.2.2.2.1,t.2.2.2.2.2.2.2.2.2.2.2.2.2.2.2.2.1,t.2.2.2.2.2.2.2.2.2.2.2.2.2.2.2.2.2.1,())) fun x4=>(ob (Go.Eng.v_rational_Sub n (x3.1,x3.2.1,x3.2.2.1,x4.1,x4.2.1,x4.2.2.1,())) fun x5=>(ob (Go.Eng.v_rational_Mul n (t.1,t.2.1,t.2.2.1,t.2.2.2.2.2.2.2.2.2.2.2.2.1,t.2.2.2.2.2.2.2.2.2.2.2.2.2.1,t.2.2.2.2.2.2.2.2.2.2.2.2.2.2.1,())) fun x6=>(ob (Go.Eng.v_rational_Mul n (t.2.2.2.1,t.2.2.2.2.1,t.2.2.2.2.2.1,t.2.2.2.2.2.2.2.2.2.1,t.2.2.2.2.2.2.2.2.2.2.1,t.2.2.2.2.2.2.2.2.2.2.2.1,())) fun x7=>(ob (Go.Eng.v_rational_Sub n (x6.1,x6.2.1,x6.2.2.1,x7.1,x7.2.1,x7.2.2.1,())) fun x8=>(some (Sum.inl ((),(),Bool.false,(Go.Eng.T.v (Go.Value.slice (Option.none) 0 0)),(Go.Eng.T.v (Go.Value.slice (Option.none) 0 0)),Bool.false,(Go.Eng.T.v (Go.Value.slice (Option.none) 0 0)),(Go.Eng.T.v (Go.Value.slice (Option.none) 0 0)),Bool.false,(Go.Eng.T.v (Go.Value.slice (Option.none) 0 0)),(Go.Eng.T.v (Go.Value.slice (Option.none) 0 0)),x2.1,x2.2.1,x2.2.2.1,x5.1,x5.2.1,x5.2.2.1,x8.1,x8.2.1,x8.2.2.1,())))))))))))) fun q9=>onS q9 (fun t10=>(some (t10.2.2.2.2.2.2.2.2.2.2.2.1,t10.2.2.2.2.2.2.2.2.2.2.2.2.1,t10.2.2.2.2.2.2.2.2.2.2.2.2.2.1,t10.2.2.2.2.2.2.2.2.2.2.2.2.2.2.1,t10.2.2.2.2.2.2.2.2.2.2.2.2.2.2.2.1,t10.2.2.2.2.2.2.2.2.2.2.2.2.2.2.2.2.1,t10.2.2.2.2.2.2.2.2.2.2.2.2.2.2.2.2.2.1,t10.2.2.2.2.2.2.2.2.2.2.2.2.2.2.2.2.2.2.1,t10.2.2.2.2.2.2.2.2.2.2.2.2.2.2.2.2.2.2.2.1,()))) fun q11=>noS q11)
theorem le_vector_Cross(n:Nat)(t:(Bool×(List T)×(List T)×Bool×(List T)×(List T)×Bool×(List T)×(List T)×Bool×(List T)×(List T)×Bool×(List T)×(List T)×Bool×(List T)×(List T)×Unit)):Le (v_vector_Cross n t) (u_vector_Cross t):=by
 unfold v_vector_Cross u_vector_Cross
 repeat' first
  | with_reducible refine le_cond ?_ ?_
  | with_reducible refine le_onS (fun _=>?_) fun _=>?_
  | with_reducible refine le_ob ?_ fun _=>?_
  | with_reducible refine le_both ?_ ?_
  | with_reducible exact le_rfl
  | with_reducible exact le_rational_Mul n _
  | with_reducible exact le_rational_Sub n _
noncomputable def v_vector_Orient2(n:Nat)(t:(Bool×(List T)×(List T)×Bool×(List T)×(List T)×Bool×(List T)×(List T)×Bool×(List T)×(List T)×Bool×(List T)×(List T)×Bool×(List T)×(List T)×Bool×(List T)×(List T)×Bool×(List T)×(List T)×Bool×(List T)×(List T)×Unit)):Option (Int×Unit):=
 (ob (Go.Eng.v_vector_Sub n (t.2.2.2.2.2.2.2.2.2.1,t.2.2.2.2.2.2.2.2.2.2.1,t.2.2.2.2.2.2.2.2.2.2.2.1,t.2.2.2.2.2.2.2.2.2.2.2.2.1,t.2.2.2.2.2.2.2.2.2.2.2.2.2.1,t.2.2.2.2.2.2.2.2.2.2.2.2.2.2.1,t.2.2.2.2.2.2.2.2.2.2.2.2.2.2.2.1,t.2.2.2.2.2.2.2.2.2.2.2.2.2.2.2.2.1,t.2.2.2.2.2.2.2.2.2.2.2.2.2.2.2.2.2.1,t.1,t.2.1,t.2.2.1,t.2.2.2.1,t.2.2.2.2.1,t.2.2.2.2.2.1,t.2.2.2.2.2.2.1,t.2.2.2.2.2.2.2.1,t.2.2.2.2.2.2.2.2.1,())) fun x0=>(ob (Go.Eng.v_vector_Sub n (t.2.2.2.2.2.2.2.2.2.2.2.2.2.2.2.2.2.2.1,t.2.2.2.2.2.2.2.2.2.2.2.2.2.2.2.2.2.2.2.1,t.2.2.2.2.2.2.2.2.2.2.2.2.2.2.2.2.2.2.2.2.1,t.2.2.2.2.2.2.2.2.2.2.2.2.2.2.2.2.2.2.2.2.2.1,t.2.2.2.2.2.2.2.2.2.2.2.2.2.2.2.2.2.2.2.2.2.2.1,t.2.2.2.2.2.2.2.2.2.2.2.2.2.2.2.2.2.2.2.2.2.2.2.1,t.2.2.2.2.2.2.2.2.2.2.2.2.2.2.2.2.2.2.2.2.2.2.2.2.1,t.2.2.2.2.2.2.2.2.2.2.2.2.2.2.2.2.2.2.2.2.2.2.2.2.2.1,t.2.2.2.2.2.2.2.2.2.2.2.2.2.2.2.2.2.2.2.2.2.2.2.2.2.2.1,t.1,t.2.1,t.2.2.1,t.2.2.2.1,t.2.2.2.2.1,t.2.2.2.2.2.1,t.2.2.2.2.2.2.1,t.2.2.2.2.2.2.2.1,t.2.2.2.2.2.2.2.2.1,())) fun x1=>(ob (Go.Eng.v_vector_Cross n (x0.1,x0.2.1,x0.2.2.1,x0.2.2.2.1,x0.2.2.2.2.1,x0.2.2.2.2.2.1,x0.2.2.2.2.2.2.1,x0.2.2.2.2.2.2.2.1,x0.2.2.2.2.2.2.2.2.1,x1.1,x1.2.1,x1.2.2.1,x1.2.2.2.1,x1.2.2.2.2.1,x1.2.2.2.2.2.1,x1.2.2.2.2.2.2.1,x1.2.2.2.2.2.2.2.1,x1.2.2.2.2.2.2.2.2.1,())) fun x2=>(ob (Go.Eng.v_rational_Sign n (x2.2.2.2.2.2.2.1,x2.2.2.2.2.2.2.2.1,x2.2.2.2.2.2.2.2.2.1,())) fun x3=>(some (x3.1,()))))))
theorem le_vector_Orient2(n:Nat)(t:(Bool×(List T)×(List T)×Bool×(List T)×(List T)×Bool×(List T)×(List T)×Bool×(List T)×(List T)×Bool×(List T)×(List T)×Bool×(List T)×(List T)×Bool×(List T)×(List T)×Bool×(List T)×(List T)×Bool×(List T)×(List T)×Unit)):Le (v_vector_Orient2 n t) (u_vector_Orient2 t):=by
 unfold v_vector_Orient2 u_vector_Orient2
 repeat' first
  | with_reducible refine le_cond ?_ ?_
  | with_reducible refine le_onS (fun _=>?_) fun _=>?_
  | with_reducible refine le_ob ?_ fun _=>?_
  | with_reducible refine le_both ?_ ?_
  | with_reducible exact le_rfl
  | with_reducible exact le_vector_Sub n _
  | with_reducible exact le_vector_Cross n _
  | with_reducible exact le_rational_Sign n _
noncomputable def v_trim_between(n:Nat)(t:(Bool×(List T)×(List T)×Bool×(List T)×(List T)×Bool×(List T)×(List T)×Unit)):Option (Bool×Unit):=
 (ob (Go.Eng.v_rational_Min n (t.1,t.2.1,t.2.2.1,t.2.2.2.1,t.2.2.2.2.1,t.2.2.2.2.2.1,())) fun x0=>(ob (Go.Eng.v_rational_Cmp n (x0.1,x0.2.1,x0.2.2.1,t.2.2.2.2.2.2.1,t.2.2.2.2.2.2.2.1,t.2.2.2.2.2.2.2.2.1,())) fun x1=>(bif (Go.Eng.leI x1.1 (0:Int)) then (ob (Go.Eng.v_rational_Max n (t.1,t.2.1,t.2.2.1,t.2.2.2.1,t.2.2.2.2.1,t.2.2.2.2.2.1,())) fun x2=>(ob (Go.Eng.v_rational_Cmp n (t.2.2.2.2.2.2.1,t.2.2.2.2.2.2.2.1,t.2.2.2.2.2.2.2.2.1,x2.1,x2.2.1,x2.2.2.1,())) fun x3=>(some ((Go.Eng.leI x3.1 (0:Int)),())))) else (some (Bool.false,())))))
theorem le_trim_between(n:Nat)(t:(Bool×(List T)×(List T)×Bool×(List T)×(List T)×Bool×(List T)×(List T)×Unit)):Le (v_trim_between n t) (u_trim_between t):=by
 unfold v_trim_between u_trim_between
 repeat' first
  | with_reducible refine le_cond ?_ ?_
  | with_reducible refine le_onS (fun _=>?_) fun _=>?_
  | with_reducible refine le_ob ?_ fun _=>?_
  | with_reducible refine le_both ?_ ?_
  | with_reducible exact le_rfl
  | with_reducible exact le_rational_Min n _
  | with_reducible exact le_rational_Cmp n _
  | with_reducible exact le_rational_Max n _
noncomputable def v_trim_on(n:Nat)(t:(Bool×(List T)×(List T)×Bool×(List T)×(List T)×Bool×(List T)×(List T)×Bool×(List T)×(List T)×Bool×(List T)×(List T)×Bool×(List T)×(List T)×Bool×(List T)×(List T)×Bool×(List T)×(List T)×Bool×(List T)×(List T)×Unit)):Option (Bool×Unit):=
 (ob (Go.Eng.v_vector_Orient2 n (t.1,t.2.1,t.2.2.1,t.2.2.2.1,t.2.2.2.2.1,t.2.2.2.2.2.1,t.2.2.2.2.2.2.1,t.2.2.2.2.2.2.2.1,t.2.2.2.2.2.2.2.2.1,t.2.2.2.2.2.2.2.2.2.1,t.2.2.2.2.2.2.2.2.2.2.1,t.2.2.2.2.2.2.2.2.2.2.2.1,t.2.2.2.2.2.2.2.2.2.2.2.2.1,t.2.2.2.2.2.2.2.2.2.2.2.2.2.1,t.2.2.2.2.2.2.2.2.2.2.2.2.2.2.1,t.2.2.2.2.2.2.2.2.2.2.2.2.2.2.2.1,t.2.2.2.2.2.2.2.2.2.2.2.2.2.2.2.2.1,t.2.2.2.2.2.2.2.2.2.2.2.2.2.2.2.2.2.1,t.2.2.2.2.2.2.2.2.2.2.2.2.2.2.2.2.2.2.1,t.2.2.2.2.2.2.2.2.2.2.2.2.2.2.2.2.2.2.2.1,t.2.2.2.2.2.2.2.2.2.2.2.2.2.2.2.2.2.2.2.2.1,t.2.2.2.2.2.2.2.2.2.2.2.2.2.2.2.2.2.2.2.2.2.1,t.2.2.2.2.2.2.2.2.2.2.2.2.2.2.2.2.2.2.2.2.2.2.1,t.2.2.2.2.2.2.2.2.2.2.2.2.2.2.2.2.2.2.2.2.2.2.2.1,t.2.2.2.2.2.2.2.2.2.2.2.2.2.2.2.2.2.2.2.2.2.2.2.2.1,t.2.2.2.2.2.2.2.2.2.2.2.2.2.2.2.2.2.2.2.2.2.2.2.2.2.1,t.2.2.2.2.2.2.2.2.2.2.2.2.2.2.2.2.2.2.2.2.2.2.2.2.2.2.1,())) fun x0=>(bif (Go.Eng.eqI x0.1 (0:Int)) then (ob (Go.Eng.v_trim_between n (t.1,t.2.1,t.2.2.1,t.2.2.2.2.2.2.2.2.2.1,t.2.2.2.2.2.2.2.2.2.2.1,t.2.2.2.2.2.2.2.2.2.2.2.1,t.2.2.2.2.2.2.2.2.2.2.2.2.2.2.2.2.2.2.1,t.2.2.2.2.2.2.2.2.2.2.2.2.2.2.2.2.2.2.2.1,t.2.2.2.2.2.2.2.2.2.2.2.2.2.2.2.2.2.2.2.2.1,())) fun x1=>(bif x1.1 then (ob (Go.Eng.v_trim_between n (t.2.2.2.1,t.2.2.2.2.1,t.2.2.2.2.2.1,t.2.2.2.2.2.2.2.2.2.2.2.2.1,t.2.2.2.2.2.2.2.2.2.2.2.2.2.1,t.2.2.2.2.2.2.2.2.2.2.2.2.2.2.1,t.2.2.2.2.2.2.2.2.2.2.2.2.2.2.2.2.2.2.2.2.2.1,t.2.2.2.2.2.2.2.2.2.2.2.2.2.2.2.2.2.2.2.2.2.2.1,t.2.2.2.2.2.2.2.2.2.2.2.2.2.2.2.2.2.2.2.2.2.2.2.1,())) fun x2=>(some (x2.1,()))) else (some (Bool.false,())))) else (some (Bool.false,()))))
theorem le_trim_on(n:Nat)(t:(Bool×(List T)×(List T)×Bool×(List T)×(List T)×Bool×(List T)×(List T)×Bool×(List T)×(List T)×Bool×(List T)×(List T)×Bool×(List T)×(List T)×Bool×(List T)×(List T)×Bool×(List T)×(List T)×Bool×(List T)×(List T)×Unit)):Le (v_trim_on n t) (u_trim_on t):=by
 unfold v_trim_on u_trim_on
 repeat' first
  | with_reducible refine le_cond ?_ ?_
  | with_reducible refine le_onS (fun _=>?_) fun _=>?_
  | with_reducible refine le_ob ?_ fun _=>?_
  | with_reducible refine le_both ?_ ?_
  | with_reducible exact le_rfl
  | with_reducible exact le_vector_Orient2 n _
  | with_reducible exact le_trim_between n _
noncomputable def v_trim_edge(n:Nat)(t:((List T)×Int×Unit)):Option (Bool×(List T)×(List T)×Bool×(List T)×(List T)×Bool×(List T)×(List T)×Bool×(List T)×(List T)×Bool×(List T)×(List T)×Bool×(List T)×(List T)×Unit):=
 (ob (Go.Eng.idxL t.1 t.2.1) fun x0=>(ob (Go.Eng.nz (Go.Eng.lenL t.1)) fun x1=>(ob (Go.Eng.idxL t.1 (Go.Eng.modI (Go.Eng.wr Go.IntKind.i64 (Go.Eng.addI t.2.1 (1:Int))) x1)) fun x2=>(ob (Go.Eng.T.bool? (Go.Eng.T.cell x0 0)) fun x3=>(ob (Go.Eng.T.sl? 1 (Go.Eng.T.cell x0 1)) fun x4=>(ob (Go.Eng.T.sl? 1 (Go.Eng.T.cell x0 2)) fun x5=>(ob (Go.Eng.T.bool? (Go.Eng.T.cell x0 3)) fun x6=>(ob (Go.Eng.T.sl? 1 (Go.Eng.T.cell x0 4)) fun x7=>(ob (Go.Eng.T.sl? 1 (Go.Eng.T.cell x0 5)) fun x8=>(ob (Go.Eng.T.bool? (Go.Eng.T.cell x0 6)) fun x9=>(ob (Go.Eng.T.sl? 1 (Go.Eng.T.cell x0 7)) fun x10=>(ob (Go.Eng.T.sl? 1 (Go.Eng.T.cell x0 8)) fun x11=>(ob (Go.Eng.T.bool? (Go.Eng.T.cell x2 0)) fun x12=>(ob (Go.Eng.T.sl? 1 (Go.Eng.T.cell x2 1)) fun x13=>(ob (Go.Eng.T.sl? 1 (Go.Eng.T.cell x2 2)) fun x14=>(ob (Go.Eng.T.bool? (Go.Eng.T.cell x2 3)) fun x15=>(ob (Go.Eng.T.sl? 1 (Go.Eng.T.cell x2 4)) fun x16=>(ob (Go.Eng.T.sl? 1 (Go.Eng.T.cell x2 5)) fun x17=>(ob (Go.Eng.T.bool? (Go.Eng.T.cell x2 6)) fun x18=>(ob (Go.Eng.T.sl? 1 (Go.Eng.T.cell x2 7)) fun x19=>(ob (Go.Eng.T.sl? 1 (Go.Eng.T.cell x2 8)) fun x20=>(some (x3,x4,x5,x6,x7,x8,x9,x10,x11,x12,x13,x14,x15,x16,x17,x18,x19,x20,())))))))))))))))))))))))
theorem le_trim_edge(n:Nat)(t:((List T)×Int×Unit)):Le (v_trim_edge n t) (u_trim_edge t):=by
 unfold v_trim_edge u_trim_edge
 repeat' first
  | with_reducible refine le_cond ?_ ?_
  | with_reducible refine le_onS (fun _=>?_) fun _=>?_
  | with_reducible refine le_ob ?_ fun _=>?_
  | with_reducible refine le_both ?_ ?_
  | with_reducible exact le_rfl
noncomputable def v_trim_Area_l0(n:Nat)(s0:(List T×Unit×Unit×Int×Int×Bool×T×T×Bool×List T×List T×Unit)):Option ((List T×Unit×Unit×Int×Int×Bool×T×T×Bool×List T×List T×Unit)⊕((Unit×Unit×Bool×T×T×Bool×List T×List T×Unit)⊕Empty)):=
 (bif (Go.Eng.ltI s0.2.2.2.2.1 s0.2.2.2.1) then (ob (Go.Eng.v_trim_edge n (s0.1,s0.2.2.2.2.1,())) fun x1=>(ob (Go.Eng.v_rational_Mul n (x1.1,x1.2.1,x1.2.2.1,x1.2.2.2.2.2.2.2.2.2.2.2.2.1,x1.2.2.2.2.2.2.2.2.2.2.2.2.2.1,x1.2.2.2.2.2.2.2.2.2.2.2.2.2.2.1,())) fun x2=>(ob (Go.Eng.v_rational_Mul n (x1.2.2.2.2.2.2.2.2.2.1,x1.2.2.2.2.2.2.2.2.2.2.1,x1.2.2.2.2.2.2.2.2.2.2.2.1,x1.2.2.2.1,x1.2.2.2.2.1,x1.2.2.2.2.2.1,())) fun x3=>(ob (Go.Eng.v_rational_Sub n (x2.1,x2.2.1,x2.2.2.1,x3.1,x3.2.1,x3.2.2.1,())) fun x4=>(ob (Go.Eng.v_rational_Add n (s0.2.2.2.2.2.2.2.2.1,s0.2.2.2.2.2.2.2.2.2.1,s0.2.2.2.2.2.2.2.2.2.2.1,x4.1,x4.2.1,x4.2.2.1,())) fun x5=>(some (Sum.inl (s0.1,(),(),s0.2.2.2.1,(Go.Eng.wr Go.IntKind.i64 (Go.Eng.addI s0.2.2.2.2.1 (1:Int))),s0.2.2.2.2.2.1,s0.2.2.2.2.2.2.1,s0.2.2.2.2.2.2.2.1,x5.1,x5.2.1,x5.2.2.1,())))))))) else (some (Sum.inr (Sum.inl ((),(),s0.2.2.2.2.2.1,s0.2.2.2.2.2.2.1,s0.2.2.2.2.2.2.2.1,s0.2.2.2.2.2.2.2.2.1,s0.2.2.2.2.2.2.2.2.2.1,s0.2.2.2.2.2.2.2.2.2.2.1,())))))
theorem le_trim_Area_l0(n:Nat)(s0:(List T×Unit×Unit×Int×Int×Bool×T×T×Bool×List T×List T×Unit)):Le (v_trim_Area_l0 n s0) (u_trim_Area_l0 s0):=by
 unfold v_trim_Area_l0 u_trim_Area_l0
 repeat' first
  | with_reducible refine le_cond ?_ ?_
  | with_reducible refine le_onS (fun _=>?_) fun _=>?_
  | with_reducible refine le_ob ?_ fun _=>?_
  | with_reducible refine le_both ?_ ?_
  | with_reducible exact le_rfl
  | with_reducible exact le_trim_edge n _
  | with_reducible exact le_rational_Mul n _
  | with_reducible exact le_rational_Sub n _
  | with_reducible exact le_rational_Add n _
noncomputable def v_trim_Area(n:Nat)(t:((List T)×Unit)):Option (Bool×(List T)×(List T)×Unit):=
 (ob (iter (v_trim_Area_l0 n) n (t.1,(),(),(Go.Eng.lenL t.1),(0:Int),Bool.false,(Go.Eng.T.v (Go.Value.slice (Option.none) 0 0)),(Go.Eng.T.v (Go.Value.slice (Option.none) 0 0)),Bool.false,[],[],())) fun q6=>onS q6 (fun t7=>(some (t7.2.2.2.2.2.1,t7.2.2.2.2.2.2.1,t7.2.2.2.2.2.2.2.1,()))) fun q8=>noS q8)
theorem le_trim_Area(n:Nat)(t:((List T)×Unit)):Le (v_trim_Area n t) (u_trim_Area t):=by
 unfold v_trim_Area u_trim_Area
 repeat' first
  | with_reducible refine le_cond ?_ ?_
  | with_reducible refine le_onS (fun _=>?_) fun _=>?_
  | with_reducible refine le_ob ?_ fun _=>?_
  | with_reducible refine le_both ?_ ?_
  | with_reducible exact le_rfl
  | with_reducible exact le_loop (fun s=>le_trim_Area_l0 n s) _ _
noncomputable def v_trim_Winding_l0(n:Nat)(s0:(List T×Unit×Int×Int×Int×Bool×List T×List T×Bool×List T×List T×Bool×List T×List T×Unit)):Option ((List T×Unit×Int×Int×Int×Bool×List T×List T×Bool×List T×List T×Bool×List T×List T×Unit)⊕((Int×Bool×Unit)⊕((Int×Unit)⊕Empty))):=
 (bif (Go.Eng.ltI s0.2.2.2.2.1 s0.2.2.2.1) then (ob (α:=((Int×Bool×Unit)⊕((List T×Unit×Int×Int×Int×Bool×List T×List T×Bool×List T×List T×Bool×List T×List T×Unit)⊕Empty))) (ob (Go.Eng.v_trim_edge n (s0.1,s0.2.2.2.2.1,())) fun x1=>(ob (Go.Eng.v_trim_on n (x1.1,x1.2.1,x1.2.2.1,x1.2.2.2.1,x1.2.2.2.2.1,x1.2.2.2.2.2.1,x1.2.2.2.2.2.2.1,x1.2.2.2.2.2.2.2.1,x1.2.2.2.2.2.2.2.2.1,x1.2.2.2.2.2.2.2.2.2.1,x1.2.2.2.2.2.2.2.2.2.2.1,x1.2.2.2.2.2.2.2.2.2.2.2.1,x1.2.2.2.2.2.2.2.2.2.2.2.2.1,x1.2.2.2.2.2.2.2.2.2.2.2.2.2.1,x1.2.2.2.2.2.2.2.2.2.2.2.2.2.2.1,x1.2.2.2.2.2.2.2.2.2.2.2.2.2.2.2.1,x1.2.2.2.2.2.2.2.2.2.2.2.2.2.2.2.2.1,x1.2.2.2.2.2.2.2.2.2.2.2.2.2.2.2.2.2.1,s0.2.2.2.2.2.1,s0.2.2.2.2.2.2.1,s0.2.2.2.2.2.2.2.1,s0.2.2.2.2.2.2.2.2.1,s0.2.2.2.2.2.2.2.2.2.1,s0.2.2.2.2.2.2.2.2.2.2.1,s0.2.2.2.2.2.2.2.2.2.2.2.1,s0.2.2.2.2.2.2.2.2.2.2.2.2.1,s0.2.2.2.2.2.2.2.2.2.2.2.2.2.1,())) fun x2=>(bif x2.1 then (some (Sum.inl ((0:Int),Bool.false,()))) else (ob (Go.Eng.v_rational_Cmp n (x1.2.2.2.1,x1.2.2.2.2.1,x1.2.2.2.2.2.1,s0.2.2.2.2.2.2.2.2.1,s0.2.2.2.2.2.2.2.2.2.1,s0.2.2.2.2.2.2.2.2.2.2.1,())) fun x3=>(ob (Go.Eng.v_rational_Cmp n (x1.2.2.2.2.2.2.2.2.2.2.2.2.1,x1.2.2.2.2.2.2.2.2.2.2.2.2.2.1,x1.2.2.2.2.2.2.2.2.2.2.2.2.2.2.1,s0.2.2.2.2.2.2.2.2.1,s0.2.2.2.2.2.2.2.2.2.1,s0.2.2.2.2.2.2.2.2.2.2.1,())) fun x4=>(ob (Go.Eng.v_vector_Orient2 n (x1.1,x1.2.1,x1.2.2.1,x1.2.2.2.1,x1.2.2.2.2.1,x1.2.2.2.2.2.1,x1.2.2.2.2.2.2.1,x1.2.2.2.2.2.2.2.1,x1.2.2.2.2.2.2.2.2.1,x1.2.2.2.2.2.2.2.2.2.1,x1.2.2.2.2.2.2.2.2.2.2.1,x1.2.2.2.2.2.2.2.2.2.2.2.1,x1.2.2.2.2.2.2.2.2.2.2.2.2.1,x1.2.2.2.2.2.2.2.2.2.2.2.2.2.1,x1.2.2.2.2.2.2.2.2.2.2.2.2.2.2.1,x1.2.2.2.2.2.2.2.2.2.2.2.2.2.2.2.1,x1.2.2.2.2.2.2.2.2.2.2.2.2.2.2.2.2.1,x1.2.2.2.2.2.2.2.2.2.2.2.2.2.2.2.2.2.1,s0.2.2.2.2.2.1,s0.2.2.2.2.2.2.1,s0.2.2.2.2.2.2.2.1,s0.2.2.2.2.2.2.2.2.1,s0.2.2.2.2.2.2.2.2.2.1,s0.2.2.2.2.2.2.2.2.2.2.1,s0.2.2.2.2.2.2.2.2.2.2.2.1,s0.2.2.2.2.2.2.2.2.2.2.2.2.1,s0.2.2.2.2.2.2.2.2.2.2.2.2.2.1,())) fun x5=>(bif (Go.Eng.leI x3.1 (0:Int)) then (bif (Bool.not (Go.Eng.leI x4.1 (0:Int))) then (bif (Go.Eng.ltI (0:Int) x5.1) then (some (Sum.inr (Sum.inl (s0.1,(),(Go.Eng.wr Go.IntKind.i64 (Go.Eng.addI s0.2.2.1 (1:Int))),s0.2.2.2.1,s0.2.2.2.2.1,s0.2.2.2.2.2.1,s0.2.2.2.2.2.2.1,s0.2.2.2.2.2.2.2.1,s0.2.2.2.2.2.2.2.2.1,s0.2.2.2.2.2.2.2.2.2.1,s0.2.2.2.2.2.2.2.2.2.2.1,s0.2.2.2.2.2.2.2.2.2.2.2.1,s0.2.2.2.2.2.2.2.2.2.2.2.2.1,s0.2.2.2.2.2.2.2.2.2.2.2.2.2.1,())))) else (bif (Go.Eng.leI x4.1 (0:Int)) then (bif (Bool.not (Go.Eng.leI x3.1 (0:Int))) then (bif (Go.Eng.ltI x5.1 (0:Int)) then (some (Sum.inr (Sum.inl (s0.1,(),(Go.Eng.wr Go.IntKind.i64 (Go.Eng.subI s0.2.2.1 (1:Int))),s0.2.2.2.1,s0.2.2.2.2.1,s0.2.2.2.2.2.1,s0.2.2.2.2.2.2.1,s0.2.2.2.2.2.2.2.1,s0.2.2.2.2.2.2.2.2.1,s0.2.2.2.2.2.2.2.2.2.1,s0.2.2.2.2.2.2.2.2.2.2.1,s0.2.2.2.2.2.2.2.2.2.2.2.1,s0.2.2.2.2.2.2.2.2.2.2.2.2.1,s0.2.2.2.2.2.2.2.2.2.2.2.2.2.1,())))) else (some (Sum.inr (Sum.inl (s0.1,(),s0.2.2.1,s0.2.2.2.1,s0.2.2.2.2.1,s0.2.2.2.2.2.1,s0.2.2.2.2.2.2.1,s0.2.2.2.2.2.2.2.1,s0.2.2.2.2.2.2.2.2.1,s0.2.2.2.2.2.2.2.2.2.1,s0.2.2.2.2.2.2.2.2.2.2.1,s0.2.2.2.2.2.2.2.2.2.2.2.1,s0.2.2.2.2.2.2.2.2.2.2.2.2.1,s0.2.2.2.2.2.2.2.2.2.2.2.2.2.1,()))))) else (some (Sum.inr (Sum.inl (s0.1,(),s0.2.2.1,s0.2.2.2.1,s0.2.2.2.2.1,s0.2.2.2.2.2.1,s0.2.2.2.2.2.2.1,s0.2.2.2.2.2.2.2.1,s0.2.2.2.2.2.2.2.2.1,s0.2.2.2.2.2.2.2.2.2.1,s0.2.2.2.2.2.2.2.2.2.2.1,s0.2.2.2.2.2.2.2.2.2.2.2.1,s0.2.2.2.2.2.2.2.2.2.2.2.2.1,s0.2.2.2.2.2.2.2.2.2.2.2.2.2.1,()))))) else (some (Sum.inr (Sum.inl (s0.1,(),s0.2.2.1,s0.2.2.2.1,s0.2.2.2.2.1,s0.2.2.2.2.2.1,s0.2.2.2.2.2.2.1,s0.2.2.2.2.2.2.2.1,s0.2.2.2.2.2.2.2.2.1,s0.2.2.2.2.2.2.2.2.2.1,s0.2.2.2.2.2.2.2.2.2.2.1,s0.2.2.2.2.2.2.2.2.2.2.2.1,s0.2.2.2.2.2.2.2.2.2.2.2.2.1,s0.2.2.2.2.2.2.2.2.2.2.2.2.2.1,())))))) else (bif (Go.Eng.leI x4.1 (0:Int)) then (bif (Bool.not (Go.Eng.leI x3.1 (0:Int))) then (bif (Go.Eng.ltI x5.1 (0:Int)) then (some (Sum.inr (Sum.inl (s0.1,(),(Go.Eng.wr Go.IntKind.i64 (Go.Eng.subI s0.2.2.1 (1:Int))),s0.2.2.2.1,s0.2.2.2.2.1,s0.2.2.2.2.2.1,s0.2.2.2.2.2.2.1,s0.2.2.2.2.2.2.2.1,s0.2.2.2.2.2.2.2.2.1,s0.2.2.2.2.2.2.2.2.2.1,s0.2.2.2.2.2.2.2.2.2.2.1,s0.2.2.2.2.2.2.2.2.2.2.2.1,s0.2.2.2.2.2.2.2.2.2.2.2.2.1,s0.2.2.2.2.2.2.2.2.2.2.2.2.2.1,())))) else (some (Sum.inr (Sum.inl (s0.1,(),s0.2.2.1,s0.2.2.2.1,s0.2.2.2.2.1,s0.2.2.2.2.2.1,s0.2.2.2.2.2.2.1,s0.2.2.2.2.2.2.2.1,s0.2.2.2.2.2.2.2.2.1,s0.2.2.2.2.2.2.2.2.2.1,s0.2.2.2.2.2.2.2.2.2.2.1,s0.2.2.2.2.2.2.2.2.2.2.2.1,s0.2.2.2.2.2.2.2.2.2.2.2.2.1,s0.2.2.2.2.2.2.2.2.2.2.2.2.2.1,()))))) else (some (Sum.inr (Sum.inl (s0.1,(),s0.2.2.1,s0.2.2.2.1,s0.2.2.2.2.1,s0.2.2.2.2.2.1,s0.2.2.2.2.2.2.1,s0.2.2.2.2.2.2.2.1,s0.2.2.2.2.2.2.2.2.1,s0.2.2.2.2.2.2.2.2.2.1,s0.2.2.2.2.2.2.2.2.2.2.1,s0.2.2.2.2.2.2.2.2.2.2.2.1,s0.2.2.2.2.2.2.2.2.2.2.2.2.1,s0.2.2.2.2.2.2.2.2.2.2.2.2.2.1,()))))) else (some (Sum.inr (Sum.inl (s0.1,(),s0.2.2.1,s0.2.2.2.1,s0.2.2.2.2.1,s0.2.2.2.2.2.1,s0.2.2.2.2.2.2.1,s0.2.2.2.2.2.2.2.1,s0.2.2.2.2.2.2.2.2.1,s0.2.2.2.2.2.2.2.2.2.1,s0.2.2.2.2.2.2.2.2.2.2.1,s0.2.2.2.2.2.2.2.2.2.2.2.1,s0.2.2.2.2.2.2.2.2.2.2.2.2.1,s0.2.2.2.2.2.2.2.2.2.2.2.2.2.1,())))))) else (bif (Go.Eng.leI x4.1 (0:Int)) then (bif (Bool.not (Go.Eng.leI x3.1 (0:Int))) then (bif (Go.Eng.ltI x5.1 (0:Int)) then (some (Sum.inr (Sum.inl (s0.1,(),(Go.Eng.wr Go.IntKind.i64 (Go.Eng.subI s0.2.2.1 (1:Int))),s0.2.2.2.1,s0.2.2.2.2.1,s0.2.2.2.2.2.1,s0.2.2.2.2.2.2.1,s0.2.2.2.2.2.2.2.1,s0.2.2.2.2.2.2.2.2.1,s0.2.2.2.2.2.2.2.2.2.1,s0.2.2.2.2.2.2.2.2.2.2.1,s0.2.2.2.2.2.2.2.2.2.2.2.1,s0.2.2.2.2.2.2.2.2.2.2.2.2.1,s0.2.2.2.2.2.2.2.2.2.2.2.2.2.1,())))) else (some (Sum.inr (Sum.inl (s0.1,(),s0.2.2.1,s0.2.2.2.1,s0.2.2.2.2.1,s0.2.2.2.2.2.1,s0.2.2.2.2.2.2.1,s0.2.2.2.2.2.2.2.1,s0.2.2.2.2.2.2.2.2.1,s0.2.2.2.2.2.2.2.2.2.1,s0.2.2.2.2.2.2.2.2.2.2.1,s0.2.2.2.2.2.2.2.2.2.2.2.1,s0.2.2.2.2.2.2.2.2.2.2.2.2.1,s0.2.2.2.2.2.2.2.2.2.2.2.2.2.1,()))))) else (some (Sum.inr (Sum.inl (s0.1,(),s0.2.2.1,s0.2.2.2.1,s0.2.2.2.2.1,s0.2.2.2.2.2.1,s0.2.2.2.2.2.2.1,s0.2.2.2.2.2.2.2.1,s0.2.2.2.2.2.2.2.2.1,s0.2.2.2.2.2.2.2.2.2.1,s0.2.2.2.2.2.2.2.2.2.2.1,s0.2.2.2.2.2.2.2.2.2.2.2.1,s0.2.2.2.2.2.2.2.2.2.2.2.2.1,s0.2.2.2.2.2.2.2.2.2.2.2.2.2.1,()))))) else (some (Sum.inr (Sum.inl (s0.1,(),s0.2.2.1,s0.2.2.2.1,s0.2.2.2.2.1,s0.2.2.2.2.2.1,s0.2.2.2.2.2.2.1,s0.2.2.2.2.2.2.2.1,s0.2.2.2.2.2.2.2.2.1,s0.2.2.2.2.2.2.2.2.2.1,s0.2.2.2.2.2.2.2.2.2.2.1,s0.2.2.2.2.2.2.2.2.2.2.2.1,s0.2.2.2.2.2.2.2.2.2.2.2.2.1,s0.2.2.2.2.2.2.2.2.2.2.2.2.2.1,())))))))))))) fun q6=>onS q6 (fun t7=>(some (Sum.inr (Sum.inl (t7.1,t7.2.1,()))))) fun q8=>onS q8 (fun t9=>(some (Sum.inl (t9.1,(),t9.2.2.1,t9.2.2.2.1,(Go.Eng.wr Go.IntKind.i64 (Go.Eng.addI t9.2.2.2.2.1 (1:Int))),t9.2.2.2.2.2.1,t9.2.2.2.2.2.2.1,t9.2.2.2.2.2.2.2.1,t9.2.2.2.2.2.2.2.2.1,t9.2.2.2.2.2.2.2.2.2.1,t9.2.2.2.2.2.2.2.2.2.2.1,t9.2.2.2.2.2.2.2.2.2.2.2.1,t9.2.2.2.2.2.2.2.2.2.2.2.2.1,t9.2.2.2.2.2.2.2.2.2.2.2.2.2.1,())))) fun q10=>noS q10) else (some (Sum.inr (Sum.inr (Sum.inl (s0.2.2.1,()))))))
theorem le_trim_Winding_l0(n:Nat)(s0:(List T×Unit×Int×Int×Int×Bool×List T×List T×Bool×List T×List T×Bool×List T×List T×Unit)):Le (v_trim_Winding_l0 n s0) (u_trim_Winding_l0 s0):=by
 unfold v_trim_Winding_l0 u_trim_Winding_l0
 repeat' first
  | with_reducible refine le_cond ?_ ?_
  | with_reducible refine le_onS (fun _=>?_) fun _=>?_
  | with_reducible refine le_ob ?_ fun _=>?_
  | with_reducible refine le_both ?_ ?_
  | with_reducible exact le_rfl
  | with_reducible exact le_trim_edge n _
  | with_reducible exact le_trim_on n _
  | with_reducible exact le_rational_Cmp n _
  | with_reducible exact le_vector_Orient2 n _
noncomputable def v_trim_Winding(n:Nat)(t:((List T)×Bool×(List T)×(List T)×Bool×(List T)×(List T)×Bool×(List T)×(List T)×Unit)):Option (Int×Bool×Unit):=
 (ob (iter (v_trim_Winding_l0 n) n (t.1,(),(0:Int),(Go.Eng.lenL t.1),(0:Int),t.2.1,t.2.2.1,t.2.2.2.1,t.2.2.2.2.1,t.2.2.2.2.2.1,t.2.2.2.2.2.2.1,t.2.2.2.2.2.2.2.1,t.2.2.2.2.2.2.2.2.1,t.2.2.2.2.2.2.2.2.2.1,())) fun q11=>onS q11 (fun t12=>(some (t12.1,t12.2.1,()))) fun q13=>onS q13 (fun t14=>(some (t14.1,Bool.true,()))) fun q15=>noS q15)
theorem le_trim_Winding(n:Nat)(t:((List T)×Bool×(List T)×(List T)×Bool×(List T)×(List T)×Bool×(List T)×(List T)×Unit)):Le (v_trim_Winding n t) (u_trim_Winding t):=by
 unfold v_trim_Winding u_trim_Winding
 repeat' first
  | with_reducible refine le_cond ?_ ?_
  | with_reducible refine le_onS (fun _=>?_) fun _=>?_
  | with_reducible refine le_ob ?_ fun _=>?_
  | with_reducible refine le_both ?_ ?_
  | with_reducible exact le_rfl
  | with_reducible exact le_loop (fun s=>le_trim_Winding_l0 n s) _ _
noncomputable def v_brepkernellaw21_at(n:Nat)(t:(Int×Int×Unit)):Option (Bool×(List T)×(List T)×Bool×(List T)×(List T)×Bool×(List T)×(List T)×Unit):=
 (ob (Go.Eng.v_ref02_Int n (t.1,())) fun x0=>(ob (Go.Eng.v_ref02_Int n (t.2.1,())) fun x1=>(some (x0.1,x0.2.1,x0.2.2.1,x1.1,x1.2.1,x1.2.2.1,Bool.false,[],[],()))))
theorem le_brepkernellaw21_at(n:Nat)(t:(Int×Int×Unit)):Le (v_brepkernellaw21_at n t) (u_brepkernellaw21_at t):=by
 unfold v_brepkernellaw21_at u_brepkernellaw21_at
 repeat' first
  | with_reducible refine le_cond ?_ ?_
  | with_reducible refine le_onS (fun _=>?_) fun _=>?_
  | with_reducible refine le_ob ?_ fun _=>?_
  | with_reducible refine le_both ?_ ?_
  | with_reducible exact le_rfl
  | with_reducible exact le_ref02_Int n _
noncomputable def v_trim_meet(n:Nat)(t:(Bool×(List T)×(List T)×Bool×(List T)×(List T)×Bool×(List T)×(List T)×Bool×(List T)×(List T)×Bool×(List T)×(List T)×Bool×(List T)×(List T)×Bool×(List T)×(List T)×Bool×(List T)×(List T)×Bool×(List T)×(List T)×Bool×(List T)×(List T)×Bool×(List T)×(List T)×Bool×(List T)×(List T)×Unit)):Option (Bool×Unit):=
 (ob (Go.Eng.v_trim_on n (t.1,t.2.1,t.2.2.1,t.2.2.2.1,t.2.2.2.2.1,t.2.2.2.2.2.1,t.2.2.2.2.2.2.1,t.2.2.2.2.2.2.2.1,t.2.2.2.2.2.2.2.2.1,t.2.2.2.2.2.2.2.2.2.1,t.2.2.2.2.2.2.2.2.2.2.1,t.2.2.2.2.2.2.2.2.2.2.2.1,t.2.2.2.2.2.2.2.2.2.2.2.2.1,t.2.2.2.2.2.2.2.2.2.2.2.2.2.1,t.2.2.2.2.2.2.2.2.2.2.2.2.2.2.1,t.2.2.2.2.2.2.2.2.2.2.2.2.2.2.2.1,t.2.2.2.2.2.2.2.2.2.2.2.2.2.2.2.2.1,t.2.2.2.2.2.2.2.2.2.2.2.2.2.2.2.2.2.1,t.2.2.2.2.2.2.2.2.2.2.2.2.2.2.2.2.2.2.1,t.2.2.2.2.2.2.2.2.2.2.2.2.2.2.2.2.2.2.2.1,t.2.2.2.2.2.2.2.2.2.2.2.2.2.2.2.2.2.2.2.2.1,t.2.2.2.2.2.2.2.2.2.2.2.2.2.2.2.2.2.2.2.2.2.1,t.2.2.2.2.2.2.2.2.2.2.2.2.2.2.2.2.2.2.2.2.2.2.1,t.2.2.2.2.2.2.2.2.2.2.2.2.2.2.2.2.2.2.2.2.2.2.2.1,t.2.2.2.2.2.2.2.2.2.2.2.2.2.2.2.2.2.2.2.2.2.2.2.2.1,t.2.2.2.2.2.2.2.2.2.2.2.2.2.2.2.2.2.2.2.2.2.2.2.2.2.1,t.2.2.2.2.2.2.2.2.2.2.2.2.2.2.2.2.2.2.2.2.2.2.2.2.2.2.1,())) fun x0=>(bif x0.1 then (some (Bool.true,())) else (ob (Go.Eng.v_trim_on n (t.1,t.2.1,t.2.2.1,t.2.2.2.1,t.2.2.2.2.1,t.2.2.2.2.2.1,t.2.2.2.2.2.2.1,t.2.2.2.2.2.2.2.1,t.2.2.2.2.2.2.2.2.1,t.2.2.2.2.2.2.2.2.2.1,t.2.2.2.2.2.2.2.2.2.2.1,t.2.2.2.2.2.2.2.2.2.2.2.1,t.2.2.2.2.2.2.2.2.2.2.2.2.1,t.2.2.2.2.2.2.2.2.2.2.2.2.2.1,t.2.2.2.2.2.2.2.2.2.2.2.2.2.2.1,t.2.2.2.2.2.2.2.2.2.2.2.2.2.2.2.1,t.2.2.2.2.2.2.2.2.2.2.2.2.2.2.2.2.1,t.2.2.2.2.2.2.2.2.2.2.2.2.2.2.2.2.2.1,t.2.2.2.2.2.2.2.2.2.2.2.2.2.2.2.2.2.2.2.2.2.2.2.2.2.2.2.1,t.2.2.2.2.2.2.2.2.2.2.2.2.2.2.2.2.2.2.2.2.2.2.2.2.2.2.2.2.1,t.2.2.2.2.2.2.2.2.2.2.2.2.2.2.2.2.2.2.2.2.2.2.2.2.2.2.2.2.2.1,t.2.2.2.2.2.2.2.2.2.2.2.2.2.2.2.2.2.2.2.2.2.2.2.2.2.2.2.2.2.2.1,t.2.2.2.2.2.2.2.2.2.2.2.2.2.2.2.2.2.2.2.2.2.2.2.2.2.2.2.2.2.2.2.1,t.2.2.2.2.2.2.2.2.2.2.2.2.2.2.2.2.2.2.2.2.2.2.2.2.2.2.2.2.2.2.2.2.1,t.2.2.2.2.2.2.2.2.2.2.2.2.2.2.2.2.2.2.2.2.2.2.2.2.2.2.2.2.2.2.2.2.2.1,t.2.2.2.2.2.2.2.2.2.2.2.2.2.2.2.2.2.2.2.2.2.2.2.2.2.2.2.2.2.2.2.2.2.2.1,t.2.2.2.2.2.2.2.2.2.2.2.2.2.2.2.2.2.2.2.2.2.2.2.2.2.2.2.2.2.2.2.2.2.2.2.1,())) fun x1=>(bif x1.1 then (some (Bool.true,())) else (ob (Go.Eng.v_trim_on n (t.2.2.2.2.2.2.2.2.2.2.2.2.2.2.2.2.2.2.1,t.2.2.2.2.2.2.2.2.2.2.2.2.2.2.2.2.2.2.2.1,t.2.2.2.2.2.2.2.2.2.2.2.2.2.2.2.2.2.2.2.2.1,t.2.2.2.2.2.2.2.2.2.2.2.2.2.2.2.2.2.2.2.2.2.1,t.2.2.2.2.2.2.2.2.2.2.2.2.2.2.2.2.2.2.2.2.2.2.1,t.2.2.2.2.2.2.2.2.2.2.2.2.2.2.2.2.2.2.2.2.2.2.2.1,t.2.2.2.2.2.2.2.2.2.2.2.2.2.2.2.2.2.2.2.2.2.2.2.2.1,t.2.2.2.2.2.2.2.2.2.2.2.2.2.2.2.2.2.2.2.2.2.2.2.2.2.1,t.2.2.2.2.2.2.2.2.2.2.2.2.2.2.2.2.2.2.2.2.2.2.2.2.2.2.1,t.2.2.2.2.2.2.2.2.2.2.2.2.2.2.2.2.2.2.2.2.2.2.2.2.2.2.2.1,t.2.2.2.2.2.2.2.2.2.2.2.2.2.2.2.2.2.2.2.2.2.2.2.2.2.2.2.2.1,t.2.2.2.2.2.2.2.2.2.2.2.2.2.2.2.2.2.2.2.2.2.2.2.2.2.2.2.2.2.1,t.2.2.2.2.2.2.2.2.2.2.2.2.2.2.2.2.2.2.2.2.2.2.2.2.2.2.2.2.2.2.1,t.2.2.2.2.2.2.2.2.2.2.2.2.2.2.2.2.2.2.2.2.2.2.2.2.2.2.2.2.2.2.2.1,t.2.2.2.2.2.2.2.2.2.2.2.2.2.2.2.2.2.2.2.2.2.2.2.2.2.2.2.2.2.2.2.2.1,t.2.2.2.2.2.2.2.2.2.2.2.2.2.2.2.2.2.2.2.2.2.2.2.2.2.2.2.2.2.2.2.2.2.1,t.2.2.2.2.2.2.2.2.2.2.2.2.2.2.2.2.2.2.2.2.2.2.2.2.2.2.2.2.2.2.2.2.2.2.1,t.2.2.2.2.2.2.2.2.2.2.2.2.2.2.2.2.2.2.2.2.2.2.2.2.2.2.2.2.2.2.2.2.2.2.2.1,t.1,t.2.1,t.2.2.1,t.2.2.2.1,t.2.2.2.2.1,t.2.2.2.2.2.1,t.2.2.2.2.2.2.1,t.2.2.2.2.2.2.2.1,t.2.2.2.2.2.2.2.2.1,())) fun x2=>(bif x2.1 then (some (Bool.true,())) else (ob (Go.Eng.v_trim_on n (t.2.2.2.2.2.2.2.2.2.2.2.2.2.2.2.2.2.2.1,t.2.2.2.2.2.2.2.2.2.2.2.2.2.2.2.2.2.2.2.1,t.2.2.2.2.2.2.2.2.2.2.2.2.2.2.2.2.2.2.2.2.1,t.2.2.2.2.2.2.2.2.2.2.2.2.2.2.2.2.2.2.2.2.2.1,t.2.2.2.2.2.2.2.2.2.2.2.2.2.2.2.2.2.2.2.2.2.2.1,t.2.2.2.2.2.2.2.2.2.2.2.2.2.2.2.2.2.2.2.2.2.2.2.1,t.2.2.2.2.2.2.2.2.2.2.2.2.2.2.2.2.2.2.2.2.2.2.2.2.1,t.2.2.2.2.2.2.2.2.2.2.2.2.2.2.2.2.2.2.2.2.2.2.2.2.2.1,t.2.2.2.2.2.2.2.2.2.2.2.2.2.2.2.2.2.2.2.2.2.2.2.2.2.2.1,t.2.2.2.2.2.2.2.2.2.2.2.2.2.2.2.2.2.2.2.2.2.2.2.2.2.2.2.1,t.2.2.2.2.2.2.2.2.2.2.2.2.2.2.2.2.2.2.2.2.2.2.2.2.2.2.2.2.1,t.2.2.2.2.2.2.2.2.2.2.2.2.2.2.2.2.2.2.2.2.2.2.2.2.2.2.2.2.2.1,t.2.2.2.2.2.2.2.2.2.2.2.2.2.2.2.2.2.2.2.2.2.2.2.2.2.2.2.2.2.2.1,t.2.2.2.2.2.2.2.2.2.2.2.2.2.2.2.2.2.2.2.2.2.2.2.2.2.2.2.2.2.2.2.1,t.2.2.2.2.2.2.2.2.2.2.2.2.2.2.2.2.2.2.2.2.2.2.2.2.2.2.2.2.2.2.2.2.1,t.2.2.2.2.2.2.2.2.2.2.2.2.2.2.2.2.2.2.2.2.2.2.2.2.2.2.2.2.2.2.2.2.2.1,t.2.2.2.2.2.2.2.2.2.2.2.2.2.2.2.2.2.2.2.2.2.2.2.2.2.2.2.2.2.2.2.2.2.2.1,t.2.2.2.2.2.2.2.2.2.2.2.2.2.2.2.2.2.2.2.2.2.2.2.2.2.2.2.2.2.2.2.2.2.2.2.1,t.2.2.2.2.2.2.2.2.2.1,t.2.2.2.2.2.2.2.2.2.2.1,t.2.2.2.2.2.2.2.2.2.2.2.1,t.2.2.2.2.2.2.2.2.2.2.2.2.1,t.2.2.2.2.2.2.2.2.2.2.2.2.2.1,t.2.2.2.2.2.2.2.2.2.2.2.2.2.2.1,t.2.2.2.2.2.2.2.2.2.2.2.2.2.2.2.1,t.2.2.2.2.2.2.2.2.2.2.2.2.2.2.2.2.1,t.2.2.2.2.2.2.2.2.2.2.2.2.2.2.2.2.2.1,())) fun x3=>(bif x3.1 then (some (Bool.true,())) else (ob (Go.Eng.v_vector_Orient2 n (t.1,t.2.1,t.2.2.1,t.2.2.2.1,t.2.2.2.2.1,t.2.2.2.2.2.1,t.2.2.2.2.2.2.1,t.2.2.2.2.2.2.2.1,t.2.2.2.2.2.2.2.2.1,t.2.2.2.2.2.2.2.2.2.1,t.2.2.2.2.2.2.2.2.2.2.1,t.2.2.2.2.2.2.2.2.2.2.2.1,t.2.2.2.2.2.2.2.2.2.2.2.2.1,t.2.2.2.2.2.2.2.2.2.2.2.2.2.1,t.2.2.2.2.2.2.2.2.2.2.2.2.2.2.1,t.2.2.2.2.2.2.2.2.2.2.2.2.2.2.2.1,t.2.2.2.2.2.2.2.2.2.2.2.2.2.2.2.2.1,t.2.2.2.2.2.2.2.2.2.2.2.2.2.2.2.2.2.1,t.2.2.2.2.2.2.2.2.2.2.2.2.2.2.2.2.2.2.1,t.2.2.2.2.2.2.2.2.2.2.2.2.2.2.2.2.2.2.2.1,t.2.2.2.2.2.2.2.2.2.2.2.2.2.2.2.2.2.2.2.2.1,t.2.2.2.2.2.2.2.2.2.2.2.2.2.2.2.2.2.2.2.2.2.1,t.2.2.2.2.2.2.2.2.2.2.2.2.2.2.2.2.2.2.2.2.2.2.1,t.2.2.2.2.2.2.2.2.2.2.2.2.2.2.2.2.2.2.2.2.2.2.2.1,t.2.2.2.2.2.2.2.2.2.2.2.2.2.2.2.2.2.2.2.2.2.2.2.2.1,t.2.2.2.2.2.2.2.2.2.2.2.2.2.2.2.2.2.2.2.2.2.2.2.2.2.1,t.2.2.2.2.2.2.2.2.2.2.2.2.2.2.2.2.2.2.2.2.2.2.2.2.2.2.1,())) fun x4=>(ob (Go.Eng.v_vector_Orient2 n (t.1,t.2.1,t.2.2.1,t.2.2.2.1,t.2.2.2.2.1,t.2.2.2.2.2.1,t.2.2.2.2.2.2.1,t.2.2.2.2.2.2.2.1,t.2.2.2.2.2.2.2.2.1,t.2.2.2.2.2.2.2.2.2.1,t.2.2.2.2.2.2.2.2.2.2.1,t.2.2.2.2.2.2.2.2.2.2.2.1,t.2.2.2.2.2.2.2.2.2.2.2.2.1,t.2.2.2.2.2.2.2.2.2.2.2.2.2.1,t.2.2.2.2.2.2.2.2.2.2.2.2.2.2.1,t.2.2.2.2.2.2.2.2.2.2.2.2.2.2.2.1,t.2.2.2.2.2.2.2.2.2.2.2.2.2.2.2.2.1,t.2.2.2.2.2.2.2.2.2.2.2.2.2.2.2.2.2.1,t.2.2.2.2.2.2.2.2.2.2.2.2.2.2.2.2.2.2.2.2.2.2.2.2.2.2.2.1,t.2.2.2.2.2.2.2.2.2.2.2.2.2.2.2.2.2.2.2.2.2.2.2.2.2.2.2.2.1,t.2.2.2.2.2.2.2.2.2.2.2.2.2.2.2.2.2.2.2.2.2.2.2.2.2.2.2.2.2.1,t.2.2.2.2.2.2.2.2.2.2.2.2.2.2.2.2.2.2.2.2.2.2.2.2.2.2.2.2.2.2.1,t.2.2.2.2.2.2.2.2.2.2.2.2.2.2.2.2.2.2.2.2.2.2.2.2.2.2.2.2.2.2.2.1,t.2.2.2.2.2.2.2.2.2.2.2.2.2.2.2.2.2.2.2.2.2.2.2.2.2.2.2.2.2.2.2.2.1,t.2.2.2.2.2.2.2.2.2.2.2.2.2.2.2.2.2.2.2.2.2.2.2.2.2.2.2.2.2.2.2.2.2.1,t.2.2.2.2.2.2.2.2.2.2.2.2.2.2.2.2.2.2.2.2.2.2.2.2.2.2.2.2.2.2.2.2.2.2.1,t.2.2.2.2.2.2.2.2.2.2.2.2.2.2.2.2.2.2.2.2.2.2.2.2.2.2.2.2.2.2.2.2.2.2.2.1,())) fun x5=>(bif (Go.Eng.ltI (Go.Eng.wr Go.IntKind.i64 (Go.Eng.mulI x4.1 x5.1)) (0:Int)) then (ob (Go.Eng.v_vector_Orient2 n (t.2.2.2.2.2.2.2.2.2.2.2.2.2.2.2.2.2.2.1,t.2.2.2.2.2.2.2.2.2.2.2.2.2.2.2.2.2.2.2.1,t.2.2.2.2.2.2.2.2.2.2.2.2.2.2.2.2.2.2.2.2.1,t.2.2.2.2.2.2.2.2.2.2.2.2.2.2.2.2.2.2.2.2.2.1,t.2.2.2.2.2.2.2.2.2.2.2.2.2.2.2.2.2.2.2.2.2.2.1,t.2.2.2.2.2.2.2.2.2.2.2.2.2.2.2.2.2.2.2.2.2.2.2.1,t.2.2.2.2.2.2.2.2.2.2.2.2.2.2.2.2.2.2.2.2.2.2.2.2.1,t.2.2.2.2.2.2.2.2.2.2.2.2.2.2.2.2.2.2.2.2.2.2.2.2.2.1,t.2.2.2.2.2.2.2.2.2.2.2.2.2.2.2.2.2.2.2.2.2.2.2.2.2.2.1,t.2.2.2.2.2.2.2.2.2.2.2.2.2.2.2.2.2.2.2.2.2.2.2.2.2.2.2.1,t.2.2.2.2.2.2.2.2.2.2.2.2.2.2.2.2.2.2.2.2.2.2.2.2.2.2.2.2.1,t.2.2.2.2.2.2.2.2.2.2.2.2.2.2.2.2.2.2.2.2.2.2.2.2.2.2.2.2.2.1,t.2.2.2.2.2.2.2.2.2.2.2.2.2.2.2.2.2.2.2.2.2.2.2.2.2.2.2.2.2.2.1,t.2.2.2.2.2.2.2.2.2.2.2.2.2.2.2.2.2.2.2.2.2.2.2.2.2.2.2.2.2.2.2.1,t.2.2.2.2.2.2.2.2.2.2.2.2.2.2.2.2.2.2.2.2.2.2.2.2.2.2.2.2.2.2.2.2.1,t.2.2.2.2.2.2.2.2.2.2.2.2.2.2.2.2.2.2.2.2.2.2.2.2.2.2.2.2.2.2.2.2.2.1,t.2.2.2.2.2.2.2.2.2.2.2.2.2.2.2.2.2.2.2.2.2.2.2.2.2.2.2.2.2.2.2.2.2.2.1,t.2.2.2.2.2.2.2.2.2.2.2.2.2.2.2.2.2.2.2.2.2.2.2.2.2.2.2.2.2.2.2.2.2.2.2.1,t.1,t.2.1,t.2.2.1,t.2.2.2.1,t.2.2.2.2.1,t.2.2.2.2.2.1,t.2.2.2.2.2.2.1,t.2.2.2.2.2.2.2.1,t.2.2.2.2.2.2.2.2.1,())) fun x6=>(ob (Go.Eng.v_vector_Orient2 n (t.2.2.2.2.2.2.2.2.2.2.2.2.2.2.2.2.2.2.1,t.2.2.2.2.2.2.2.2.2.2.2.2.2.2.2.2.2.2.2.1,t.2.2.2.2.2.2.2.2.2.2.2.2.2.2.2.2.2.2.2.2.1,t.2.2.2.2.2.2.2.2.2.2.2.2.2.2.2.2.2.2.2.2.2.1,t.2.2.2.2.2.2.2.2.2.2.2.2.2.2.2.2.2.2.2.2.2.2.1,t.2.2.2.2.2.2.2.2.2.2.2.2.2.2.2.2.2.2.2.2.2.2.2.1,t.2.2.2.2.2.2.2.2.2.2.2.2.2.2.2.2.2.2.2.2.2.2.2.2.1,t.2.2.2.2.2.2.2.2.2.2.2.2.2.2.2.2.2.2.2.2.2.2.2.2.2.1,t.2.2.2.2.2.2.2.2.2.2.2.2.2.2.2.2.2.2.2.2.2.2.2.2.2.2.1,t.2.2.2.2.2.2.2.2.2.2.2.2.2.2.2.2.2.2.2.2.2.2.2.2.2.2.2.1,t.2.2.2.2.2.2.2.2.2.2.2.2.2.2.2.2.2.2.2.2.2.2.2.2.2.2.2.2.1,t.2.2.2.2.2.2.2.2.2.2.2.2.2.2.2.2.2.2.2.2.2.2.2.2.2.2.2.2.2.1,t.2.2.2.2.2.2.2.2.2.2.2.2.2.2.2.2.2.2.2.2.2.2.2.2.2.2.2.2.2.2.1,t.2.2.2.2.2.2.2.2.2.2.2.2.2.2.2.2.2.2.2.2.2.2.2.2.2.2.2.2.2.2.2.1,t.2.2.2.2.2.2.2.2.2.2.2.2.2.2.2.2.2.2.2.2.2.2.2.2.2.2.2.2.2.2.2.2.1,t.2.2.2.2.2.2.2.2.2.2.2.2.2.2.2.2.2.2.2.2.2.2.2.2.2.2.2.2.2.2.2.2.2.1,t.2.2.2.2.2.2.2.2.2.2.2.2.2.2.2.2.2.2.2.2.2.2.2.2.2.2.2.2.2.2.2.2.2.2.1,t.2.2.2.2.2.2.2.2.2.2.2.2.2.2.2.2.2.2.2.2.2.2.2.2.2.2.2.2.2.2.2.2.2.2.2.1,t.2.2.2.2.2.2.2.2.2.1,t.2.2.2.2.2.2.2.2.2.2.1,t.2.2.2.2.2.2.2.2.2.2.2.1,t.2.2.2.2.2.2.2.2.2.2.2.2.1,t.2.2.2.2.2.2.2.2.2.2.2.2.2.1,t.2.2.2.2.2.2.2.2.2.2.2.2.2.2.1,t.2.2.2.2.2.2.2.2.2.2.2.2.2.2.2.1,t.2.2.2.2.2.2.2.2.2.2.2.2.2.2.2.2.1,t.2.2.2.2.2.2.2.2.2.2.2.2.2.2.2.2.2.1,())) fun x7=>(some ((Go.Eng.ltI (Go.Eng.wr Go.IntKind.i64 (Go.Eng.mulI x6.1 x7.1)) (0:Int)),())))) else (some (Bool.false,())))))))))))))
theorem le_trim_meet(n:Nat)(t:(Bool×(List T)×(List T)×Bool×(List T)×(List T)×Bool×(List T)×(List T)×Bool×(List T)×(List T)×Bool×(List T)×(List T)×Bool×(List T)×(List T)×Bool×(List T)×(List T)×Bool×(List T)×(List T)×Bool×(List T)×(List T)×Bool×(List T)×(List T)×Bool×(List T)×(List T)×Bool×(List T)×(List T)×Unit)):Le (v_trim_meet n t) (u_trim_meet t):=by
 unfold v_trim_meet u_trim_meet
 repeat' first
  | with_reducible refine le_cond ?_ ?_
  | with_reducible refine le_onS (fun _=>?_) fun _=>?_
  | with_reducible refine le_ob ?_ fun _=>?_
  | with_reducible refine le_both ?_ ?_
  | with_reducible exact le_rfl
  | with_reducible exact le_trim_on n _
  | with_reducible exact le_vector_Orient2 n _
noncomputable def v_trim_folded(n:Nat)(t:(Bool×(List T)×(List T)×Bool×(List T)×(List T)×Bool×(List T)×(List T)×Bool×(List T)×(List T)×Bool×(List T)×(List T)×Bool×(List T)×(List T)×Bool×(List T)×(List T)×Bool×(List T)×(List T)×Bool×(List T)×(List T)×Unit)):Option (Bool×Unit):=
 (ob (Go.Eng.v_vector_Sub n (t.1,t.2.1,t.2.2.1,t.2.2.2.1,t.2.2.2.2.1,t.2.2.2.2.2.1,t.2.2.2.2.2.2.1,t.2.2.2.2.2.2.2.1,t.2.2.2.2.2.2.2.2.1,t.2.2.2.2.2.2.2.2.2.1,t.2.2.2.2.2.2.2.2.2.2.1,t.2.2.2.2.2.2.2.2.2.2.2.1,t.2.2.2.2.2.2.2.2.2.2.2.2.1,t.2.2.2.2.2.2.2.2.2.2.2.2.2.1,t.2.2.2.2.2.2.2.2.2.2.2.2.2.2.1,t.2.2.2.2.2.2.2.2.2.2.2.2.2.2.2.1,t.2.2.2.2.2.2.2.2.2.2.2.2.2.2.2.2.1,t.2.2.2.2.2.2.2.2.2.2.2.2.2.2.2.2.2.1,())) fun x0=>(ob (Go.Eng.v_vector_Sub n (t.2.2.2.2.2.2.2.2.2.2.2.2.2.2.2.2.2.2.1,t.2.2.2.2.2.2.2.2.2.2.2.2.2.2.2.2.2.2.2.1,t.2.2.2.2.2.2.2.2.2.2.2.2.2.2.2.2.2.2.2.2.1,t.2.2.2.2.2.2.2.2.2.2.2.2.2.2.2.2.2.2.2.2.2.1,t.2.2.2.2.2.2.2.2.2.2.2.2.2.2.2.2.2.2.2.2.2.2.1,t.2.2.2.2.2.2.2.2.2.2.2.2.2.2.2.2.2.2.2.2.2.2.2.1,t.2.2.2.2.2.2.2.2.2.2.2.2.2.2.2.2.2.2.2.2.2.2.2.2.1,t.2.2.2.2.2.2.2.2.2.2.2.2.2.2.2.2.2.2.2.2.2.2.2.2.2.1,t.2.2.2.2.2.2.2.2.2.2.2.2.2.2.2.2.2.2.2.2.2.2.2.2.2.2.1,t.2.2.2.2.2.2.2.2.2.1,t.2.2.2.2.2.2.2.2.2.2.1,t.2.2.2.2.2.2.2.2.2.2.2.1,t.2.2.2.2.2.2.2.2.2.2.2.2.1,t.2.2.2.2.2.2.2.2.2.2.2.2.2.1,t.2.2.2.2.2.2.2.2.2.2.2.2.2.2.1,t.2.2.2.2.2.2.2.2.2.2.2.2.2.2.2.1,t.2.2.2.2.2.2.2.2.2.2.2.2.2.2.2.2.1,t.2.2.2.2.2.2.2.2.2.2.2.2.2.2.2.2.2.1,())) fun x1=>(ob (Go.Eng.v_rational_Mul n (x0.1,x0.2.1,x0.2.2.1,x1.1,x1.2.1,x1.2.2.1,())) fun x2=>(ob (Go.Eng.v_rational_Mul n (x0.2.2.2.1,x0.2.2.2.2.1,x0.2.2.2.2.2.1,x1.2.2.2.1,x1.2.2.2.2.1,x1.2.2.2.2.2.1,())) fun x3=>(ob (Go.Eng.v_rational_Add n (x2.1,x2.2.1,x2.2.2.1,x3.1,x3.2.1,x3.2.2.1,())) fun x4=>(ob (Go.Eng.v_vector_Orient2 n (t.1,t.2.1,t.2.2.1,t.2.2.2.1,t.2.2.2.2.1,t.2.2.2.2.2.1,t.2.2.2.2.2.2.1,t.2.2.2.2.2.2.2.1,t.2.2.2.2.2.2.2.2.1,t.2.2.2.2.2.2.2.2.2.1,t.2.2.2.2.2.2.2.2.2.2.1,t.2.2.2.2.2.2.2.2.2.2.2.1,t.2.2.2.2.2.2.2.2.2.2.2.2.1,t.2.2.2.2.2.2.2.2.2.2.2.2.2.1,t.2.2.2.2.2.2.2.2.2.2.2.2.2.2.1,t.2.2.2.2.2.2.2.2.2.2.2.2.2.2.2.1,t.2.2.2.2.2.2.2.2.2.2.2.2.2.2.2.2.1,t.2.2.2.2.2.2.2.2.2.2.2.2.2.2.2.2.2.1,t.2.2.2.2.2.2.2.2.2.2.2.2.2.2.2.2.2.2.1,t.2.2.2.2.2.2.2.2.2.2.2.2.2.2.2.2.2.2.2.1,t.2.2.2.2.2.2.2.2.2.2.2.2.2.2.2.2.2.2.2.2.1,t.2.2.2.2.2.2.2.2.2.2.2.2.2.2.2.2.2.2.2.2.2.1,t.2.2.2.2.2.2.2.2.2.2.2.2.2.2.2.2.2.2.2.2.2.2.1,t.2.2.2.2.2.2.2.2.2.2.2.2.2.2.2.2.2.2.2.2.2.2.2.1,t.2.2.2.2.2.2.2.2.2.2.2.2.2.2.2.2.2.2.2.2.2.2.2.2.1,t.2.2.2.2.2.2.2.2.2.2.2.2.2.2.2.2.2.2.2.2.2.2.2.2.2.1,t.2.2.2.2.2.2.2.2.2.2.2.2.2.2.2.2.2.2.2.2.2.2.2.2.2.2.1,())) fun x5=>(bif (Go.Eng.eqI x5.1 (0:Int)) then (ob (Go.Eng.v_rational_Sign n (x4.1,x4.2.1,x4.2.2.1,())) fun x6=>(some ((Go.Eng.ltI (0:Int) x6.1),()))) else (some (Bool.false,())))))))))
theorem le_trim_folded(n:Nat)(t:(Bool×(List T)×(List T)×Bool×(List T)×(List T)×Bool×(List T)×(List T)×Bool×(List T)×(List T)×Bool×(List T)×(List T)×Bool×(List T)×(List T)×Bool×(List T)×(List T)×Bool×(List T)×(List T)×Bool×(List T)×(List T)×Unit)):Le (v_trim_folded n t) (u_trim_folded t):=by
 unfold v_trim_folded u_trim_folded
 repeat' first
  | with_reducible refine le_cond ?_ ?_
  | with_reducible refine le_onS (fun _=>?_) fun _=>?_
  | with_reducible refine le_ob ?_ fun _=>?_
  | with_reducible refine le_both ?_ ?_
  | with_reducible exact le_rfl
  | with_reducible exact le_vector_Sub n _
  | with_reducible exact le_rational_Mul n _
  | with_reducible exact le_rational_Add n _
  | with_reducible exact le_vector_Orient2 n _
  | with_reducible exact le_rational_Sign n _
noncomputable def v_trim_simple_l1(n:Nat)(s7:(List T×Int×Unit×Unit×Int×Int×Int×Bool×List T×List T×Bool×List T×List T×Bool×List T×List T×Bool×List T×List T×Bool×List T×List T×Bool×List T×List T×Unit)):Option ((List T×Int×Unit×Unit×Int×Int×Int×Bool×List T×List T×Bool×List T×List T×Bool×List T×List T×Bool×List T×List T×Bool×List T×List T×Bool×List T×List T×Unit)⊕((Bool×Unit)⊕((List T×Int×Int×Unit)⊕Empty))):=
 (bif (Go.Eng.ltI s7.2.2.2.2.1 (Go.Eng.lenL s7.1)) then (bif (Go.Eng.ltI (0:Int) s7.2.1) then (ob (Go.Eng.v_trim_edge n (s7.1,s7.2.2.2.2.1,())) fun x8=>(ob (Go.Eng.v_trim_meet n (s7.2.2.2.2.2.2.2.1,s7.2.2.2.2.2.2.2.2.1,s7.2.2.2.2.2.2.2.2.2.1,s7.2.2.2.2.2.2.2.2.2.2.1,s7.2.2.2.2.2.2.2.2.2.2.2.1,s7.2.2.2.2.2.2.2.2.2.2.2.2.1,s7.2.2.2.2.2.2.2.2.2.2.2.2.2.1,s7.2.2.2.2.2.2.2.2.2.2.2.2.2.2.1,s7.2.2.2.2.2.2.2.2.2.2.2.2.2.2.2.1,s7.2.2.2.2.2.2.2.2.2.2.2.2.2.2.2.2.1,s7.2.2.2.2.2.2.2.2.2.2.2.2.2.2.2.2.2.1,s7.2.2.2.2.2.2.2.2.2.2.2.2.2.2.2.2.2.2.1,s7.2.2.2.2.2.2.2.2.2.2.2.2.2.2.2.2.2.2.2.1,s7.2.2.2.2.2.2.2.2.2.2.2.2.2.2.2.2.2.2.2.2.1,s7.2.2.2.2.2.2.2.2.2.2.2.2.2.2.2.2.2.2.2.2.2.1,s7.2.2.2.2.2.2.2.2.2.2.2.2.2.2.2.2.2.2.2.2.2.2.1,s7.2.2.2.2.2.2.2.2.2.2.2.2.2.2.2.2.2.2.2.2.2.2.2.1,s7.2.2.2.2.2.2.2.2.2.2.2.2.2.2.2.2.2.2.2.2.2.2.2.2.1,x8.1,x8.2.1,x8.2.2.1,x8.2.2.2.1,x8.2.2.2.2.1,x8.2.2.2.2.2.1,x8.2.2.2.2.2.2.1,x8.2.2.2.2.2.2.2.1,x8.2.2.2.2.2.2.2.2.1,x8.2.2.2.2.2.2.2.2.2.1,x8.2.2.2.2.2.2.2.2.2.2.1,x8.2.2.2.2.2.2.2.2.2.2.2.1,x8.2.2.2.2.2.2.2.2.2.2.2.2.1,x8.2.2.2.2.2.2.2.2.2.2.2.2.2.1,x8.2.2.2.2.2.2.2.2.2.2.2.2.2.2.1,x8.2.2.2.2.2.2.2.2.2.2.2.2.2.2.2.1,x8.2.2.2.2.2.2.2.2.2.2.2.2.2.2.2.2.1,x8.2.2.2.2.2.2.2.2.2.2.2.2.2.2.2.2.2.1,())) fun x9=>(bif x9.1 then (some (Sum.inr (Sum.inl (Bool.false,())))) else (some (Sum.inl (s7.1,s7.2.1,(),(),(Go.Eng.wr Go.IntKind.i64 (Go.Eng.addI s7.2.2.2.2.1 (1:Int))),s7.2.2.2.2.2.1,s7.2.2.2.2.2.2.1,s7.2.2.2.2.2.2.2.1,s7.2.2.2.2.2.2.2.2.1,s7.2.2.2.2.2.2.2.2.2.1,s7.2.2.2.2.2.2.2.2.2.2.1,s7.2.2.2.2.2.2.2.2.2.2.2.1,s7.2.2.2.2.2.2.2.2.2.2.2.2.1,s7.2.2.2.2.2.2.2.2.2.2.2.2.2.1,s7.2.2.2.2.2.2.2.2.2.2.2.2.2.2.1,s7.2.2.2.2.2.2.2.2.2.2.2.2.2.2.2.1,s7.2.2.2.2.2.2.2.2.2.2.2.2.2.2.2.2.1,s7.2.2.2.2.2.2.2.2.2.2.2.2.2.2.2.2.2.1,s7.2.2.2.2.2.2.2.2.2.2.2.2.2.2.2.2.2.2.1,s7.2.2.2.2.2.2.2.2.2.2.2.2.2.2.2.2.2.2.2.1,s7.2.2.2.2.2.2.2.2.2.2.2.2.2.2.2.2.2.2.2.2.1,s7.2.2.2.2.2.2.2.2.2.2.2.2.2.2.2.2.2.2.2.2.2.1,s7.2.2.2.2.2.2.2.2.2.2.2.2.2.2.2.2.2.2.2.2.2.2.1,s7.2.2.2.2.2.2.2.2.2.2.2.2.2.2.2.2.2.2.2.2.2.2.2.1,s7.2.2.2.2.2.2.2.2.2.2.2.2.2.2.2.2.2.2.2.2.2.2.2.2.1,())))))) else (bif (Go.Eng.ltI s7.2.2.2.2.1 (Go.Eng.wr Go.IntKind.i64 (Go.Eng.subI (Go.Eng.lenL s7.1) (1:Int)))) then (ob (Go.Eng.v_trim_edge n (s7.1,s7.2.2.2.2.1,())) fun x10=>(ob (Go.Eng.v_trim_meet n (s7.2.2.2.2.2.2.2.1,s7.2.2.2.2.2.2.2.2.1,s7.2.2.2.2.2.2.2.2.2.1,s7.2.2.2.2.2.2.2.2.2.2.1,s7.2.2.2.2.2.2.2.2.2.2.2.1,s7.2.2.2.2.2.2.2.2.2.2.2.2.1,s7.2.2.2.2.2.2.2.2.2.2.2.2.2.1,s7.2.2.2.2.2.2.2.2.2.2.2.2.2.2.1,s7.2.2.2.2.2.2.2.2.2.2.2.2.2.2.2.1,s7.2.2.2.2.2.2.2.2.2.2.2.2.2.2.2.2.1,s7.2.2.2.2.2.2.2.2.2.2.2.2.2.2.2.2.2.1,s7.2.2.2.2.2.2.2.2.2.2.2.2.2.2.2.2.2.2.1,s7.2.2.2.2.2.2.2.2.2.2.2.2.2.2.2.2.2.2.2.1,s7.2.2.2.2.2.2.2.2.2.2.2.2.2.2.2.2.2.2.2.2.1,s7.2.2.2.2.2.2.2.2.2.2.2.2.2.2.2.2.2.2.2.2.2.1,s7.2.2.2.2.2.2.2.2.2.2.2.2.2.2.2.2.2.2.2.2.2.2.1,s7.2.2.2.2.2.2.2.2.2.2.2.2.2.2.2.2.2.2.2.2.2.2.2.1,s7.2.2.2.2.2.2.2.2.2.2.2.2.2.2.2.2.2.2.2.2.2.2.2.2.1,x10.1,x10.2.1,x10.2.2.1,x10.2.2.2.1,x10.2.2.2.2.1,x10.2.2.2.2.2.1,x10.2.2.2.2.2.2.1,x10.2.2.2.2.2.2.2.1,x10.2.2.2.2.2.2.2.2.1,x10.2.2.2.2.2.2.2.2.2.1,x10.2.2.2.2.2.2.2.2.2.2.1,x10.2.2.2.2.2.2.2.2.2.2.2.1,x10.2.2.2.2.2.2.2.2.2.2.2.2.1,x10.2.2.2.2.2.2.2.2.2.2.2.2.2.1,x10.2.2.2.2.2.2.2.2.2.2.2.2.2.2.1,x10.2.2.2.2.2.2.2.2.2.2.2.2.2.2.2.1,x10.2.2.2.2.2.2.2.2.2.2.2.2.2.2.2.2.1,x10.2.2.2.2.2.2.2.2.2.2.2.2.2.2.2.2.2.1,())) fun x11=>(bif x11.1 then (some (Sum.inr (Sum.inl (Bool.false,())))) else (some (Sum.inl (s7.1,s7.2.1,(),(),(Go.Eng.wr Go.IntKind.i64 (Go.Eng.addI s7.2.2.2.2.1 (1:Int))),s7.2.2.2.2.2.1,s7.2.2.2.2.2.2.1,s7.2.2.2.2.2.2.2.1,s7.2.2.2.2.2.2.2.2.1,s7.2.2.2.2.2.2.2.2.2.1,s7.2.2.2.2.2.2.2.2.2.2.1,s7.2.2.2.2.2.2.2.2.2.2.2.1,s7.2.2.2.2.2.2.2.2.2.2.2.2.1,s7.2.2.2.2.2.2.2.2.2.2.2.2.2.1,s7.2.2.2.2.2.2.2.2.2.2.2.2.2.2.1,s7.2.2.2.2.2.2.2.2.2.2.2.2.2.2.2.1,s7.2.2.2.2.2.2.2.2.2.2.2.2.2.2.2.2.1,s7.2.2.2.2.2.2.2.2.2.2.2.2.2.2.2.2.2.1,s7.2.2.2.2.2.2.2.2.2.2.2.2.2.2.2.2.2.2.1,s7.2.2.2.2.2.2.2.2.2.2.2.2.2.2.2.2.2.2.2.1,s7.2.2.2.2.2.2.2.2.2.2.2.2.2.2.2.2.2.2.2.2.1,s7.2.2.2.2.2.2.2.2.2.2.2.2.2.2.2.2.2.2.2.2.2.1,s7.2.2.2.2.2.2.2.2.2.2.2.2.2.2.2.2.2.2.2.2.2.2.1,s7.2.2.2.2.2.2.2.2.2.2.2.2.2.2.2.2.2.2.2.2.2.2.2.1,s7.2.2.2.2.2.2.2.2.2.2.2.2.2.2.2.2.2.2.2.2.2.2.2.2.1,())))))) else (some (Sum.inr (Sum.inr (Sum.inl (s7.1,s7.2.2.2.2.2.1,s7.2.2.2.2.2.2.1,()))))))) else (some (Sum.inr (Sum.inr (Sum.inl (s7.1,s7.2.2.2.2.2.1,s7.2.2.2.2.2.2.1,()))))))
theorem le_trim_simple_l1(n:Nat)(s7:(List T×Int×Unit×Unit×Int×Int×Int×Bool×List T×List T×Bool×List T×List T×Bool×List T×List T×Bool×List T×List T×Bool×List T×List T×Bool×List T×List T×Unit)):Le (v_trim_simple_l1 n s7) (u_trim_simple_l1 s7):=by
 unfold v_trim_simple_l1 u_trim_simple_l1
 repeat' first
  | with_reducible refine le_cond ?_ ?_
  | with_reducible refine le_onS (fun _=>?_) fun _=>?_
  | with_reducible refine le_ob ?_ fun _=>?_
  | with_reducible refine le_both ?_ ?_
  | with_reducible exact le_rfl
  | with_reducible exact le_trim_edge n _
  | with_reducible exact le_trim_meet n _
noncomputable def v_trim_simple_l0(n:Nat)(s0:(List T×Int×Int×Unit)):Option ((List T×Int×Int×Unit)⊕((Bool×Unit)⊕((Unit)⊕Empty))):=
 (bif (Go.Eng.ltI s0.2.2.1 s0.2.1) then (ob (Go.Eng.v_trim_edge n (s0.1,s0.2.2.1,())) fun x1=>(ob (Go.Eng.v_rational_Same n (x1.1,x1.2.1,x1.2.2.1,x1.2.2.2.2.2.2.2.2.2.1,x1.2.2.2.2.2.2.2.2.2.2.1,x1.2.2.2.2.2.2.2.2.2.2.2.1,())) fun x2=>(bif x2.1 then (ob (Go.Eng.v_rational_Same n (x1.2.2.2.1,x1.2.2.2.2.1,x1.2.2.2.2.2.1,x1.2.2.2.2.2.2.2.2.2.2.2.2.1,x1.2.2.2.2.2.2.2.2.2.2.2.2.2.1,x1.2.2.2.2.2.2.2.2.2.2.2.2.2.2.1,())) fun x3=>(bif x3.1 then (some (Sum.inr (Sum.inl (Bool.false,())))) else (ob (Go.Eng.nz (Go.Eng.lenL s0.1)) fun x4=>(ob (Go.Eng.v_trim_edge n (s0.1,(Go.Eng.modI (Go.Eng.wr Go.IntKind.i64 (Go.Eng.addI s0.2.2.1 (1:Int))) x4),())) fun x5=>(ob (Go.Eng.v_trim_folded n (x1.1,x1.2.1,x1.2.2.1,x1.2.2.2.1,x1.2.2.2.2.1,x1.2.2.2.2.2.1,x1.2.2.2.2.2.2.1,x1.2.2.2.2.2.2.2.1,x1.2.2.2.2.2.2.2.2.1,x1.2.2.2.2.2.2.2.2.2.1,x1.2.2.2.2.2.2.2.2.2.2.1,x1.2.2.2.2.2.2.2.2.2.2.2.1,x1.2.2.2.2.2.2.2.2.2.2.2.2.1,x1.2.2.2.2.2.2.2.2.2.2.2.2.2.1,x1.2.2.2.2.2.2.2.2.2.2.2.2.2.2.1,x1.2.2.2.2.2.2.2.2.2.2.2.2.2.2.2.1,x1.2.2.2.2.2.2.2.2.2.2.2.2.2.2.2.2.1,x1.2.2.2.2.2.2.2.2.2.2.2.2.2.2.2.2.2.1,x5.2.2.2.2.2.2.2.2.2.1,x5.2.2.2.2.2.2.2.2.2.2.1,x5.2.2.2.2.2.2.2.2.2.2.2.1,x5.2.2.2.2.2.2.2.2.2.2.2.2.1,x5.2.2.2.2.2.2.2.2.2.2.2.2.2.1,x5.2.2.2.2.2.2.2.2.2.2.2.2.2.2.1,x5.2.2.2.2.2.2.2.2.2.2.2.2.2.2.2.1,x5.2.2.2.2.2.2.2.2.2.2.2.2.2.2.2.2.1,x5.2.2.2.2.2.2.2.2.2.2.2.2.2.2.2.2.2.1,())) fun x6=>(bif x6.1 then (some (Sum.inr (Sum.inl (Bool.false,())))) else (ob (iter (v_trim_simple_l1 n) n (s0.1,s0.2.2.1,(),(),(Go.Eng.wr Go.IntKind.i64 (Go.Eng.addI s0.2.2.1 (2:Int))),s0.2.1,s0.2.2.1,x1.1,x1.2.1,x1.2.2.1,x1.2.2.2.1,x1.2.2.2.2.1,x1.2.2.2.2.2.1,x1.2.2.2.2.2.2.1,x1.2.2.2.2.2.2.2.1,x1.2.2.2.2.2.2.2.2.1,x1.2.2.2.2.2.2.2.2.2.1,x1.2.2.2.2.2.2.2.2.2.2.1,x1.2.2.2.2.2.2.2.2.2.2.2.1,x1.2.2.2.2.2.2.2.2.2.2.2.2.1,x1.2.2.2.2.2.2.2.2.2.2.2.2.2.1,x1.2.2.2.2.2.2.2.2.2.2.2.2.2.2.1,x1.2.2.2.2.2.2.2.2.2.2.2.2.2.2.2.1,x1.2.2.2.2.2.2.2.2.2.2.2.2.2.2.2.2.1,x1.2.2.2.2.2.2.2.2.2.2.2.2.2.2.2.2.2.1,())) fun q12=>onS q12 (fun t13=>(some (Sum.inr (Sum.inl (t13.1,()))))) fun q14=>onS q14 (fun t15=>(some (Sum.inl (t15.1,t15.2.1,(Go.Eng.wr Go.IntKind.i64 (Go.Eng.addI t15.2.2.1 (1:Int))),())))) fun q16=>noS q16))))))) else (ob (Go.Eng.nz (Go.Eng.lenL s0.1)) fun x17=>(ob (Go.Eng.v_trim_edge n (s0.1,(Go.Eng.modI (Go.Eng.wr Go.IntKind.i64 (Go.Eng.addI s0.2.2.1 (1:Int))) x17),())) fun x18=>(ob (Go.Eng.v_trim_folded n (x1.1,x1.2.1,x1.2.2.1,x1.2.2.2.1,x1.2.2.2.2.1,x1.2.2.2.2.2.1,x1.2.2.2.2.2.2.1,x1.2.2.2.2.2.2.2.1,x1.2.2.2.2.2.2.2.2.1,x1.2.2.2.2.2.2.2.2.2.1,x1.2.2.2.2.2.2.2.2.2.2.1,x1.2.2.2.2.2.2.2.2.2.2.2.1,x1.2.2.2.2.2.2.2.2.2.2.2.2.1,x1.2.2.2.2.2.2.2.2.2.2.2.2.2.1,x1.2.2.2.2.2.2.2.2.2.2.2.2.2.2.1,x1.2.2.2.2.2.2.2.2.2.2.2.2.2.2.2.1,x1.2.2.2.2.2.2.2.2.2.2.2.2.2.2.2.2.1,x1.2.2.2.2.2.2.2.2.2.2.2.2.2.2.2.2.2.1,x18.2.2.2.2.2.2.2.2.2.1,x18.2.2.2.2.2.2.2.2.2.2.1,x18.2.2.2.2.2.2.2.2.2.2.2.1,x18.2.2.2.2.2.2.2.2.2.2.2.2.1,x18.2.2.2.2.2.2.2.2.2.2.2.2.2.1,x18.2.2.2.2.2.2.2.2.2.2.2.2.2.2.1,x18.2.2.2.2.2.2.2.2.2.2.2.2.2.2.2.1,x18.2.2.2.2.2.2.2.2.2.2.2.2.2.2.2.2.1,x18.2.2.2.2.2.2.2.2.2.2.2.2.2.2.2.2.2.1,())) fun x19=>(bif x19.1 then (some (Sum.inr (Sum.inl (Bool.false,())))) else (ob (iter (v_trim_simple_l1 n) n (s0.1,s0.2.2.1,(),(),(Go.Eng.wr Go.IntKind.i64 (Go.Eng.addI s0.2.2.1 (2:Int))),s0.2.1,s0.2.2.1,x1.1,x1.2.1,x1.2.2.1,x1.2.2.2.1,x1.2.2.2.2.1,x1.2.2.2.2.2.1,x1.2.2.2.2.2.2.1,x1.2.2.2.2.2.2.2.1,x1.2.2.2.2.2.2.2.2.1,x1.2.2.2.2.2.2.2.2.2.1,x1.2.2.2.2.2.2.2.2.2.2.1,x1.2.2.2.2.2.2.2.2.2.2.2.1,x1.2.2.2.2.2.2.2.2.2.2.2.2.1,x1.2.2.2.2.2.2.2.2.2.2.2.2.2.1,x1.2.2.2.2.2.2.2.2.2.2.2.2.2.2.1,x1.2.2.2.2.2.2.2.2.2.2.2.2.2.2.2.1,x1.2.2.2.2.2.2.2.2.2.2.2.2.2.2.2.2.1,x1.2.2.2.2.2.2.2.2.2.2.2.2.2.2.2.2.2.1,())) fun q25=>onS q25 (fun t26=>(some (Sum.inr (Sum.inl (t26.1,()))))) fun q27=>onS q27 (fun t28=>(some (Sum.inl (t28.1,t28.2.1,(Go.Eng.wr Go.IntKind.i64 (Go.Eng.addI t28.2.2.1 (1:Int))),())))) fun q29=>noS q29)))))))) else (some (Sum.inr (Sum.inr (Sum.inl ())))))
theorem le_trim_simple_l0(n:Nat)(s0:(List T×Int×Int×Unit)):Le (v_trim_simple_l0 n s0) (u_trim_simple_l0 s0):=by
 unfold v_trim_simple_l0 u_trim_simple_l0
 repeat' first
  | with_reducible refine le_cond ?_ ?_
  | with_reducible refine le_onS (fun _=>?_) fun _=>?_
  | with_reducible refine le_ob ?_ fun _=>?_
  | with_reducible refine le_both ?_ ?_
  | with_reducible exact le_rfl
  | with_reducible exact le_trim_edge n _
  | with_reducible exact le_rational_Same n _
  | with_reducible exact le_trim_folded n _
  | with_reducible exact le_loop (fun s=>le_trim_simple_l1 n s) _ _
noncomputable def v_trim_simple(n:Nat)(t:((List T)×Unit)):Option (Bool×Unit):=
 (bif (Go.Eng.ltI (Go.Eng.lenL t.1) (3:Int)) then (some (Bool.false,())) else (ob (iter (v_trim_simple_l0 n) n (t.1,(Go.Eng.lenL t.1),(0:Int),())) fun q30=>onS q30 (fun t31=>(some (t31.1,()))) fun q32=>onS q32 (fun t33=>(some (Bool.true,()))) fun q34=>noS q34))
theorem le_trim_simple(n:Nat)(t:((List T)×Unit)):Le (v_trim_simple n t) (u_trim_simple t):=by
 unfold v_trim_simple u_trim_simple
 repeat' first
  | with_reducible refine le_cond ?_ ?_
  | with_reducible refine le_onS (fun _=>?_) fun _=>?_
  | with_reducible refine le_ob ?_ fun _=>?_
  | with_reducible refine le_both ?_ ?_
  | with_reducible exact le_rfl
  | with_reducible exact le_loop (fun s=>le_trim_simple_l0 n s) _ _
noncomputable def v_trim_apart_l1(n:Nat)(s1:(List T×List T×Int×Int×Int×Int×Int×Unit)):Option ((List T×List T×Int×Int×Int×Int×Int×Unit)⊕((Bool×Unit)⊕((List T×List T×Int×Int×Unit)⊕Empty))):=
 (bif (Go.Eng.ltI s1.2.2.2.2.2.2.1 s1.2.2.2.2.2.1) then (ob (Go.Eng.v_trim_edge n (s1.1,s1.2.2.1,())) fun x2=>(ob (Go.Eng.v_trim_edge n (s1.2.1,s1.2.2.2.2.2.2.1,())) fun x3=>(ob (Go.Eng.v_trim_meet n (x2.1,x2.2.1,x2.2.2.1,x2.2.2.2.1,x2.2.2.2.2.1,x2.2.2.2.2.2.1,x2.2.2.2.2.2.2.1,x2.2.2.2.2.2.2.2.1,x2.2.2.2.2.2.2.2.2.1,x2.2.2.2.2.2.2.2.2.2.1,x2.2.2.2.2.2.2.2.2.2.2.1,x2.2.2.2.2.2.2.2.2.2.2.2.1,x2.2.2.2.2.2.2.2.2.2.2.2.2.1,x2.2.2.2.2.2.2.2.2.2.2.2.2.2.1,x2.2.2.2.2.2.2.2.2.2.2.2.2.2.2.1,x2.2.2.2.2.2.2.2.2.2.2.2.2.2.2.2.1,x2.2.2.2.2.2.2.2.2.2.2.2.2.2.2.2.2.1,x2.2.2.2.2.2.2.2.2.2.2.2.2.2.2.2.2.2.1,x3.1,x3.2.1,x3.2.2.1,x3.2.2.2.1,x3.2.2.2.2.1,x3.2.2.2.2.2.1,x3.2.2.2.2.2.2.1,x3.2.2.2.2.2.2.2.1,x3.2.2.2.2.2.2.2.2.1,x3.2.2.2.2.2.2.2.2.2.1,x3.2.2.2.2.2.2.2.2.2.2.1,x3.2.2.2.2.2.2.2.2.2.2.2.1,x3.2.2.2.2.2.2.2.2.2.2.2.2.1,x3.2.2.2.2.2.2.2.2.2.2.2.2.2.1,x3.2.2.2.2.2.2.2.2.2.2.2.2.2.2.1,x3.2.2.2.2.2.2.2.2.2.2.2.2.2.2.2.1,x3.2.2.2.2.2.2.2.2.2.2.2.2.2.2.2.2.1,x3.2.2.2.2.2.2.2.2.2.2.2.2.2.2.2.2.2.1,())) fun x4=>(bif x4.1 then (some (Sum.inr (Sum.inl (Bool.false,())))) else (some (Sum.inl (s1.1,s1.2.1,s1.2.2.1,s1.2.2.2.1,s1.2.2.2.2.1,s1.2.2.2.2.2.1,(Go.Eng.wr Go.IntKind.i64 (Go.Eng.addI s1.2.2.2.2.2.2.1 (1:Int))),()))))))) else (some (Sum.inr (Sum.inr (Sum.inl (s1.1,s1.2.1,s1.2.2.2.1,s1.2.2.2.2.1,()))))))
theorem le_trim_apart_l1(n:Nat)(s1:(List T×List T×Int×Int×Int×Int×Int×Unit)):Le (v_trim_apart_l1 n s1) (u_trim_apart_l1 s1):=by
 unfold v_trim_apart_l1 u_trim_apart_l1
 repeat' first
  | with_reducible refine le_cond ?_ ?_
  | with_reducible refine le_onS (fun _=>?_) fun _=>?_
  | with_reducible refine le_ob ?_ fun _=>?_
  | with_reducible refine le_both ?_ ?_
  | with_reducible exact le_rfl
  | with_reducible exact le_trim_edge n _
  | with_reducible exact le_trim_meet n _
noncomputable def v_trim_apart_l0(n:Nat)(s0:(List T×List T×Int×Int×Unit)):Option ((List T×List T×Int×Int×Unit)⊕((Bool×Unit)⊕((Unit)⊕Empty))):=
 (bif (Go.Eng.ltI s0.2.2.2.1 s0.2.2.1) then (ob (iter (v_trim_apart_l1 n) n (s0.1,s0.2.1,s0.2.2.2.1,s0.2.2.1,s0.2.2.2.1,(Go.Eng.lenL s0.2.1),(0:Int),())) fun q5=>onS q5 (fun t6=>(some (Sum.inr (Sum.inl (t6.1,()))))) fun q7=>onS q7 (fun t8=>(some (Sum.inl (t8.1,t8.2.1,t8.2.2.1,(Go.Eng.wr Go.IntKind.i64 (Go.Eng.addI t8.2.2.2.1 (1:Int))),())))) fun q9=>noS q9) else (some (Sum.inr (Sum.inr (Sum.inl ())))))
theorem le_trim_apart_l0(n:Nat)(s0:(List T×List T×Int×Int×Unit)):Le (v_trim_apart_l0 n s0) (u_trim_apart_l0 s0):=by
 unfold v_trim_apart_l0 u_trim_apart_l0
 repeat' first
  | with_reducible refine le_cond ?_ ?_
  | with_reducible refine le_onS (fun _=>?_) fun _=>?_
  | with_reducible refine le_ob ?_ fun _=>?_
  | with_reducible refine le_both ?_ ?_
  | with_reducible exact le_rfl
  | with_reducible exact le_loop (fun s=>le_trim_apart_l1 n s) _ _
noncomputable def v_trim_apart(n:Nat)(t:((List T)×(List T)×Unit)):Option (Bool×Unit):=
 (ob (iter (v_trim_apart_l0 n) n (t.1,t.2.1,(Go.Eng.lenL t.1),(0:Int),())) fun q10=>onS q10 (fun t11=>(some (t11.1,()))) fun q12=>onS q12 (fun t13=>(some (Bool.true,()))) fun q14=>noS q14)
theorem le_trim_apart(n:Nat)(t:((List T)×(List T)×Unit)):Le (v_trim_apart n t) (u_trim_apart t):=by
 unfold v_trim_apart u_trim_apart
 repeat' first
  | with_reducible refine le_cond ?_ ?_
  | with_reducible refine le_onS (fun _=>?_) fun _=>?_
  | with_reducible refine le_ob ?_ fun _=>?_
  | with_reducible refine le_both ?_ ?_
  | with_reducible exact le_rfl
  | with_reducible exact le_loop (fun s=>le_trim_apart_l0 n s) _ _
noncomputable def v_trim_around_l0(n:Nat)(s0:(List T×Int×List T×List T×Int×Int×Unit)):Option ((List T×Int×List T×List T×Int×Int×Unit)⊕((List T×Unit)⊕Empty)):=
 (bif (Go.Eng.ltI s0.2.2.2.2.2.1 s0.2.2.2.2.1) then (ob (α:=((List T×Int×List T×List T×Int×Int×Unit)⊕Empty)) (ob (Go.Eng.idxL s0.2.2.2.1 s0.2.2.2.2.2.1) fun x1=>(ob (Go.Eng.idxL s0.1 s0.2.1) fun x2=>(ob (Go.Eng.T.rw? 9 (Go.Eng.T.cell x2 0)) fun x3=>(ob (Go.Eng.idxL x3 (0:Int)) fun x4=>(ob (Go.Eng.T.sl? 9 (Go.Eng.T.cell x1 0)) fun x5=>(ob (Go.Eng.T.bool? (Go.Eng.T.cell x4 0)) fun x6=>(ob (Go.Eng.T.sl? 1 (Go.Eng.T.cell x4 1)) fun x7=>(ob (Go.Eng.T.sl? 1 (Go.Eng.T.cell x4 2)) fun x8=>(ob (Go.Eng.T.bool? (Go.Eng.T.cell x4 3)) fun x9=>(ob (Go.Eng.T.sl? 1 (Go.Eng.T.cell x4 4)) fun x10=>(ob (Go.Eng.T.sl? 1 (Go.Eng.T.cell x4 5)) fun x11=>(ob (Go.Eng.T.bool? (Go.Eng.T.cell x4 6)) fun x12=>(ob (Go.Eng.T.sl? 1 (Go.Eng.T.cell x4 7)) fun x13=>(ob (Go.Eng.T.sl? 1 (Go.Eng.T.cell x4 8)) fun x14=>(ob (Go.Eng.v_trim_Winding n (x5,x6,x7,x8,x9,x10,x11,x12,x13,x14,())) fun x15=>(bif (Bool.not (Go.Eng.eqI s0.2.2.2.2.2.1 s0.2.1)) then (bif (Bool.not (Go.Eng.eqI x15.1 (0:Int))) then (ob (Go.Eng.room s0.2.2.1 [(Go.Eng.T.v (Go.Value.int Go.IntKind.i64 s0.2.2.2.2.2.1))] 8) fun x16=>(some (Sum.inl (s0.1,s0.2.1,x16,s0.2.2.2.1,s0.2.2.2.2.1,s0.2.2.2.2.2.1,())))) else (some (Sum.inl (s0.1,s0.2.1,s0.2.2.1,s0.2.2.2.1,s0.2.2.2.2.1,s0.2.2.2.2.2.1,())))) else (some (Sum.inl (s0.1,s0.2.1,s0.2.2.1,s0.2.2.2.1,s0.2.2.2.2.1,s0.2.2.2.2.2.1,()))))))))))))))))))) fun q17=>onS q17 (fun t18=>(some (Sum.inl (t18.1,t18.2.1,t18.2.2.1,t18.2.2.2.1,t18.2.2.2.2.1,(Go.Eng.wr Go.IntKind.i64 (Go.Eng.addI t18.2.2.2.2.2.1 (1:Int))),())))) fun q19=>noS q19) else (some (Sum.inr (Sum.inl (s0.2.2.1,())))))
theorem le_trim_around_l0(n:Nat)(s0:(List T×Int×List T×List T×Int×Int×Unit)):Le (v_trim_around_l0 n s0) (u_trim_around_l0 s0):=by
 unfold v_trim_around_l0 u_trim_around_l0
 repeat' first
  | with_reducible refine le_cond ?_ ?_
  | with_reducible refine le_onS (fun _=>?_) fun _=>?_
  | with_reducible refine le_ob ?_ fun _=>?_
  | with_reducible refine le_both ?_ ?_
  | with_reducible exact le_rfl
  | with_reducible exact le_trim_Winding n _
noncomputable def v_trim_around(n:Nat)(t:((List T)×Int×Unit)):Option ((List T)×Unit):=
 (ob (iter (v_trim_around_l0 n) n (t.1,t.2.1,[],t.1,(Go.Eng.lenL t.1),(0:Int),())) fun q20=>onS q20 (fun t21=>(some (t21.1,()))) fun q22=>noS q22)
theorem le_trim_around(n:Nat)(t:((List T)×Int×Unit)):Le (v_trim_around n t) (u_trim_around t):=by
 unfold v_trim_around u_trim_around
 repeat' first
  | with_reducible refine le_cond ?_ ?_
  | with_reducible refine le_onS (fun _=>?_) fun _=>?_
  | with_reducible refine le_ob ?_ fun _=>?_
  | with_reducible refine le_both ?_ ?_
  | with_reducible exact le_rfl
  | with_reducible exact le_loop (fun s=>le_trim_around_l0 n s) _ _
noncomputable def v_trim_Check_1(n:Nat)(t:(Bool×(List T)×(List T)×Unit)):Option (Bool×Unit):=
 (ob (Go.Eng.v_rational_Valid n (t.1,t.2.1,t.2.2.1,())) fun x0=>(some ((Bool.not x0.1),())))
theorem le_trim_Check_1(n:Nat)(t:(Bool×(List T)×(List T)×Unit)):Le (v_trim_Check_1 n t) (u_trim_Check_1 t):=by
 unfold v_trim_Check_1 u_trim_Check_1
 repeat' first
  | with_reducible refine le_cond ?_ ?_
  | with_reducible refine le_onS (fun _=>?_) fun _=>?_
  | with_reducible refine le_ob ?_ fun _=>?_
  | with_reducible refine le_both ?_ ?_
  | with_reducible exact le_rfl
  | with_reducible exact le_rational_Valid n _
noncomputable def v_slices_IndexFunc___api_Rat_api_Rat__l0(n:Nat)(s0:(List T×Unit×Int×Int×Unit)):Option ((List T×Unit×Int×Int×Unit)⊕((Int×Unit)⊕((Unit)⊕Empty))):=
 (bif (Go.Eng.ltI s0.2.2.2.1 s0.2.2.1) then (ob (Go.Eng.idxL s0.1 s0.2.2.2.1) fun x1=>(ob (Go.Eng.T.bool? (Go.Eng.T.cell x1 0)) fun x2=>(ob (Go.Eng.T.sl? 1 (Go.Eng.T.cell x1 1)) fun x3=>(ob (Go.Eng.T.sl? 1 (Go.Eng.T.cell x1 2)) fun x4=>(ob (Go.Eng.v_trim_Check_1 n (x2,x3,x4,())) fun x5=>(bif x5.1 then (some (Sum.inr (Sum.inl (s0.2.2.2.1,())))) else (some (Sum.inl (s0.1,(),s0.2.2.1,(Go.Eng.wr Go.IntKind.i64 (Go.Eng.addI s0.2.2.2.1 (1:Int))),()))))))))) else (some (Sum.inr (Sum.inr (Sum.inl ())))))
theorem le_slices_IndexFunc___api_Rat_api_Rat__l0(n:Nat)(s0:(List T×Unit×Int×Int×Unit)):Le (v_slices_IndexFunc___api_Rat_api_Rat__l0 n s0) (u_slices_IndexFunc___api_Rat_api_Rat__l0 s0):=by
 unfold v_slices_IndexFunc___api_Rat_api_Rat__l0 u_slices_IndexFunc___api_Rat_api_Rat__l0
 repeat' first
  | with_reducible refine le_cond ?_ ?_
  | with_reducible refine le_onS (fun _=>?_) fun _=>?_
  | with_reducible refine le_ob ?_ fun _=>?_
  | with_reducible refine le_both ?_ ?_
  | with_reducible exact le_rfl
  | with_reducible exact le_trim_Check_1 n _
noncomputable def v_slices_IndexFunc___api_Rat_api_Rat_(n:Nat)(t:((List T)×Unit×Unit)):Option (Int×Unit):=
 (ob (iter (v_slices_IndexFunc___api_Rat_api_Rat__l0 n) n (t.1,(),(Go.Eng.lenL t.1),(0:Int),())) fun q6=>onS q6 (fun t7=>(some (t7.1,()))) fun q8=>onS q8 (fun t9=>(some ((-1:Int),()))) fun q10=>noS q10)
theorem le_slices_IndexFunc___api_Rat_api_Rat_(n:Nat)(t:((List T)×Unit×Unit)):Le (v_slices_IndexFunc___api_Rat_api_Rat_ n t) (u_slices_IndexFunc___api_Rat_api_Rat_ t):=by
 unfold v_slices_IndexFunc___api_Rat_api_Rat_ u_slices_IndexFunc___api_Rat_api_Rat_
 repeat' first
  | with_reducible refine le_cond ?_ ?_
  | with_reducible refine le_onS (fun _=>?_) fun _=>?_
  | with_reducible refine le_ob ?_ fun _=>?_
  | with_reducible refine le_both ?_ ?_
  | with_reducible exact le_rfl
  | with_reducible exact le_loop (fun s=>le_slices_IndexFunc___api_Rat_api_Rat__l0 n s) _ _
noncomputable def v_slices_ContainsFunc___api_Rat_api_Rat_(n:Nat)(t:((List T)×Unit×Unit)):Option (Bool×Unit):=
 (ob (Go.Eng.v_slices_IndexFunc___api_Rat_api_Rat_ n (t.1,(),())) fun x0=>(some ((Go.Eng.leI (0:Int) x0.1),())))
theorem le_slices_ContainsFunc___api_Rat_api_Rat_(n:Nat)(t:((List T)×Unit×Unit)):Le (v_slices_ContainsFunc___api_Rat_api_Rat_ n t) (u_slices_ContainsFunc___api_Rat_api_Rat_ t):=by
 unfold v_slices_ContainsFunc___api_Rat_api_Rat_ u_slices_ContainsFunc___api_Rat_api_Rat_
 repeat' first
  | with_reducible refine le_cond ?_ ?_
  | with_reducible refine le_onS (fun _=>?_) fun _=>?_
  | with_reducible refine le_ob ?_ fun _=>?_
  | with_reducible refine le_both ?_ ?_
  | with_reducible exact le_rfl
  | with_reducible exact le_slices_IndexFunc___api_Rat_api_Rat_ n _
noncomputable def v_trim_Check_2(n:Nat)(t:((List T)×Unit)):Option (Bool×Unit):=
 (some ((Go.Eng.ltI (64:Int) (Go.Eng.lenL t.1)),()))
theorem le_trim_Check_2(n:Nat)(t:((List T)×Unit)):Le (v_trim_Check_2 n t) (u_trim_Check_2 t):=by
 unfold v_trim_Check_2 u_trim_Check_2
 repeat' first
  | with_reducible refine le_cond ?_ ?_
  | with_reducible refine le_onS (fun _=>?_) fun _=>?_
  | with_reducible refine le_ob ?_ fun _=>?_
  | with_reducible refine le_both ?_ ?_
  | with_reducible exact le_rfl
noncomputable def v_slices_IndexFunc_____api_Point___api_Point__l0(n:Nat)(s0:(List T×Unit×Int×Int×Unit)):Option ((List T×Unit×Int×Int×Unit)⊕((Int×Unit)⊕((Unit)⊕Empty))):=
 (bif (Go.Eng.ltI s0.2.2.2.1 s0.2.2.1) then (ob (Go.Eng.idxL s0.1 s0.2.2.2.1) fun x1=>(ob (Go.Eng.T.sl? 9 (Go.Eng.T.cell x1 0)) fun x2=>(ob (Go.Eng.v_trim_Check_2 n (x2,())) fun x3=>(bif x3.1 then (some (Sum.inr (Sum.inl (s0.2.2.2.1,())))) else (some (Sum.inl (s0.1,(),s0.2.2.1,(Go.Eng.wr Go.IntKind.i64 (Go.Eng.addI s0.2.2.2.1 (1:Int))),()))))))) else (some (Sum.inr (Sum.inr (Sum.inl ())))))
theorem le_slices_IndexFunc_____api_Point___api_Point__l0(n:Nat)(s0:(List T×Unit×Int×Int×Unit)):Le (v_slices_IndexFunc_____api_Point___api_Point__l0 n s0) (u_slices_IndexFunc_____api_Point___api_Point__l0 s0):=by
 unfold v_slices_IndexFunc_____api_Point___api_Point__l0 u_slices_IndexFunc_____api_Point___api_Point__l0
 repeat' first
  | with_reducible refine le_cond ?_ ?_
  | with_reducible refine le_onS (fun _=>?_) fun _=>?_
  | with_reducible refine le_ob ?_ fun _=>?_
  | with_reducible refine le_both ?_ ?_
  | with_reducible exact le_rfl
  | with_reducible exact le_trim_Check_2 n _
noncomputable def v_slices_IndexFunc_____api_Point___api_Point_(n:Nat)(t:((List T)×Unit×Unit)):Option (Int×Unit):=
 (ob (iter (v_slices_IndexFunc_____api_Point___api_Point__l0 n) n (t.1,(),(Go.Eng.lenL t.1),(0:Int),())) fun q4=>onS q4 (fun t5=>(some (t5.1,()))) fun q6=>onS q6 (fun t7=>(some ((-1:Int),()))) fun q8=>noS q8)
theorem le_slices_IndexFunc_____api_Point___api_Point_(n:Nat)(t:((List T)×Unit×Unit)):Le (v_slices_IndexFunc_____api_Point___api_Point_ n t) (u_slices_IndexFunc_____api_Point___api_Point_ t):=by
 unfold v_slices_IndexFunc_____api_Point___api_Point_ u_slices_IndexFunc_____api_Point___api_Point_
 repeat' first
  | with_reducible refine le_cond ?_ ?_
  | with_reducible refine le_onS (fun _=>?_) fun _=>?_
  | with_reducible refine le_ob ?_ fun _=>?_
  | with_reducible refine le_both ?_ ?_
  | with_reducible exact le_rfl
  | with_reducible exact le_loop (fun s=>le_slices_IndexFunc_____api_Point___api_Point__l0 n s) _ _
noncomputable def v_slices_ContainsFunc_____api_Point___api_Point_(n:Nat)(t:((List T)×Unit×Unit)):Option (Bool×Unit):=
 (ob (Go.Eng.v_slices_IndexFunc_____api_Point___api_Point_ n (t.1,(),())) fun x0=>(some ((Go.Eng.leI (0:Int) x0.1),())))
theorem le_slices_ContainsFunc_____api_Point___api_Point_(n:Nat)(t:((List T)×Unit×Unit)):Le (v_slices_ContainsFunc_____api_Point___api_Point_ n t) (u_slices_ContainsFunc_____api_Point___api_Point_ t):=by
 unfold v_slices_ContainsFunc_____api_Point___api_Point_ u_slices_ContainsFunc_____api_Point___api_Point_
 repeat' first
  | with_reducible refine le_cond ?_ ?_
  | with_reducible refine le_onS (fun _=>?_) fun _=>?_
  | with_reducible refine le_ob ?_ fun _=>?_
  | with_reducible refine le_both ?_ ?_
  | with_reducible exact le_rfl
  | with_reducible exact le_slices_IndexFunc_____api_Point___api_Point_ n _
noncomputable def v_trim_Check_l1(n:Nat)(s3:(List T×List T×Int×Int×T×Int×Int×Unit)):Option ((List T×List T×Int×Int×T×Int×Int×Unit)⊕((Int×Unit)⊕((List T×List T×Int×Int×Unit)⊕Empty))):=
 (bif (Go.Eng.ltI s3.2.2.2.2.2.2.1 s3.2.2.2.2.2.1) then (ob (Go.Eng.T.rw? 9 s3.2.2.2.2.1) fun x4=>(ob (Go.Eng.idxL x4 s3.2.2.2.2.2.2.1) fun x5=>(ob (Go.Eng.T.bool? (Go.Eng.T.cell x5 0)) fun x6=>(ob (Go.Eng.T.sl? 1 (Go.Eng.T.cell x5 1)) fun x7=>(ob (Go.Eng.T.sl? 1 (Go.Eng.T.cell x5 2)) fun x8=>(ob (Go.Eng.T.bool? (Go.Eng.T.cell x5 3)) fun x9=>(ob (Go.Eng.T.sl? 1 (Go.Eng.T.cell x5 4)) fun x10=>(ob (Go.Eng.T.sl? 1 (Go.Eng.T.cell x5 5)) fun x11=>(ob (Go.Eng.T.bool? (Go.Eng.T.cell x5 6)) fun x12=>(ob (Go.Eng.T.sl? 1 (Go.Eng.T.cell x5 7)) fun x13=>(ob (Go.Eng.T.sl? 1 (Go.Eng.T.cell x5 8)) fun x14=>(ob (Go.Eng.v_slices_ContainsFunc___api_Rat_api_Rat_ n ([(Go.Eng.T.agg [(Go.Eng.T.v (Go.Value.bool x6)),(Go.Eng.T.sl 1 x7),(Go.Eng.T.sl 1 x8)]),(Go.Eng.T.agg [(Go.Eng.T.v (Go.Value.bool x9)),(Go.Eng.T.sl 1 x10),(Go.Eng.T.sl 1 x11)]),(Go.Eng.T.agg [(Go.Eng.T.v (Go.Value.bool x12)),(Go.Eng.T.sl 1 x13),(Go.Eng.T.sl 1 x14)])],(),())) fun x15=>(bif x15.1 then (some (Sum.inr (Sum.inl ((1:Int),())))) else (ob (Go.Eng.v_rational_Sign n (x12,x13,x14,())) fun x16=>(bif (Bool.not (Go.Eng.eqI x16.1 (0:Int))) then (some (Sum.inr (Sum.inl ((1:Int),())))) else (some (Sum.inl (s3.1,s3.2.1,s3.2.2.1,s3.2.2.2.1,s3.2.2.2.2.1,s3.2.2.2.2.2.1,(Go.Eng.wr Go.IntKind.i64 (Go.Eng.addI s3.2.2.2.2.2.2.1 (1:Int))),())))))))))))))))))) else (some (Sum.inr (Sum.inr (Sum.inl (s3.1,s3.2.1,s3.2.2.1,s3.2.2.2.1,()))))))
theorem le_trim_Check_l1(n:Nat)(s3:(List T×List T×Int×Int×T×Int×Int×Unit)):Le (v_trim_Check_l1 n s3) (u_trim_Check_l1 s3):=by
 unfold v_trim_Check_l1 u_trim_Check_l1
 repeat' first
  | with_reducible refine le_cond ?_ ?_
  | with_reducible refine le_onS (fun _=>?_) fun _=>?_
  | with_reducible refine le_ob ?_ fun _=>?_
  | with_reducible refine le_both ?_ ?_
  | with_reducible exact le_rfl
  | with_reducible exact le_slices_ContainsFunc___api_Rat_api_Rat_ n _
  | with_reducible exact le_rational_Sign n _
noncomputable def v_trim_Check_l0(n:Nat)(s0:(List T×List T×Int×Int×Unit)):Option ((List T×List T×Int×Int×Unit)⊕((Int×Unit)⊕((List T×Unit)⊕Empty))):=
 (bif (Go.Eng.ltI s0.2.2.2.1 s0.2.2.1) then (ob (Go.Eng.idxL s0.2.1 s0.2.2.2.1) fun x1=>(ob (Go.Eng.T.len? (Go.Eng.T.cell x1 0)) fun x2=>(ob (iter (v_trim_Check_l1 n) n (s0.1,s0.2.1,s0.2.2.1,s0.2.2.2.1,(Go.Eng.T.cell x1 0),x2,(0:Int),())) fun q17=>onS q17 (fun t18=>(some (Sum.inr (Sum.inl (t18.1,()))))) fun q19=>onS q19 (fun t20=>(some (Sum.inl (t20.1,t20.2.1,t20.2.2.1,(Go.Eng.wr Go.IntKind.i64 (Go.Eng.addI t20.2.2.2.1 (1:Int))),())))) fun q21=>noS q21))) else (some (Sum.inr (Sum.inr (Sum.inl (s0.1,()))))))
theorem le_trim_Check_l0(n:Nat)(s0:(List T×List T×Int×Int×Unit)):Le (v_trim_Check_l0 n s0) (u_trim_Check_l0 s0):=by
 unfold v_trim_Check_l0 u_trim_Check_l0
 repeat' first
  | with_reducible refine le_cond ?_ ?_
  | with_reducible refine le_onS (fun _=>?_) fun _=>?_
  | with_reducible refine le_ob ?_ fun _=>?_
  | with_reducible refine le_both ?_ ?_
  | with_reducible exact le_rfl
  | with_reducible exact le_loop (fun s=>le_trim_Check_l1 n s) _ _
noncomputable def v_trim_Check_l3(n:Nat)(s32:(List T×T×List T×Int×Int×List T×Int×Int×Unit)):Option ((List T×T×List T×Int×Int×List T×Int×Int×Unit)⊕((Int×Unit)⊕((List T×List T×Int×Int×Unit)⊕Empty))):=
 (bif (Go.Eng.ltI s32.2.2.2.2.2.2.2.1 s32.2.2.2.2.2.2.1) then (ob (Go.Eng.idxL s32.2.2.2.2.2.1 s32.2.2.2.2.2.2.2.1) fun x33=>(ob (Go.Eng.T.sl? 9 s32.2.1) fun x34=>(ob (Go.Eng.T.sl? 9 (Go.Eng.T.cell x33 0)) fun x35=>(ob (Go.Eng.v_trim_apart n (x34,x35,())) fun x36=>(bif (Bool.not x36.1) then (some (Sum.inr (Sum.inl ((8:Int),())))) else (some (Sum.inl (s32.1,s32.2.1,s32.2.2.1,s32.2.2.2.1,s32.2.2.2.2.1,s32.2.2.2.2.2.1,s32.2.2.2.2.2.2.1,(Go.Eng.wr Go.IntKind.i64 (Go.Eng.addI s32.2.2.2.2.2.2.2.1 (1:Int))),())))))))) else (some (Sum.inr (Sum.inr (Sum.inl (s32.1,s32.2.2.1,s32.2.2.2.1,s32.2.2.2.2.1,()))))))
theorem le_trim_Check_l3(n:Nat)(s32:(List T×T×List T×Int×Int×List T×Int×Int×Unit)):Le (v_trim_Check_l3 n s32) (u_trim_Check_l3 s32):=by
 unfold v_trim_Check_l3 u_trim_Check_l3
 repeat' first
  | with_reducible refine le_cond ?_ ?_
  | with_reducible refine le_onS (fun _=>?_) fun _=>?_
  | with_reducible refine le_ob ?_ fun _=>?_
  | with_reducible refine le_both ?_ ?_
  | with_reducible exact le_rfl
  | with_reducible exact le_trim_apart n _
noncomputable def v_trim_Check_l2(n:Nat)(s27:(List T×List T×Int×Int×Unit)):Option ((List T×List T×Int×Int×Unit)⊕((Int×Unit)⊕((List T×Unit)⊕Empty))):=
 (bif (Go.Eng.ltI s27.2.2.2.1 s27.2.2.1) then (ob (Go.Eng.idxL s27.2.1 s27.2.2.2.1) fun x28=>(ob (Go.Eng.T.sl? 9 (Go.Eng.T.cell x28 0)) fun x29=>(ob (Go.Eng.v_trim_simple n (x29,())) fun x30=>(bif (Bool.not x30.1) then (some (Sum.inr (Sum.inl ((8:Int),())))) else (ob (Go.Eng.cutL s27.1 (0:Int) s27.2.2.2.1) fun x31=>(ob (iter (v_trim_Check_l3 n) n (s27.1,(Go.Eng.T.cell x28 0),s27.2.1,s27.2.2.1,s27.2.2.2.1,x31,(Go.Eng.lenL x31),(0:Int),())) fun q37=>onS q37 (fun t38=>(some (Sum.inr (Sum.inl (t38.1,()))))) fun q39=>onS q39 (fun t40=>(some (Sum.inl (t40.1,t40.2.1,t40.2.2.1,(Go.Eng.wr Go.IntKind.i64 (Go.Eng.addI t40.2.2.2.1 (1:Int))),())))) fun q41=>noS q41)))))) else (some (Sum.inr (Sum.inr (Sum.inl (s27.1,()))))))
theorem le_trim_Check_l2(n:Nat)(s27:(List T×List T×Int×Int×Unit)):Le (v_trim_Check_l2 n s27) (u_trim_Check_l2 s27):=by
 unfold v_trim_Check_l2 u_trim_Check_l2
 repeat' first
  | with_reducible refine le_cond ?_ ?_
  | with_reducible refine le_onS (fun _=>?_) fun _=>?_
  | with_reducible refine le_ob ?_ fun _=>?_
  | with_reducible refine le_both ?_ ?_
  | with_reducible exact le_rfl
  | with_reducible exact le_trim_simple n _
  | with_reducible exact le_loop (fun s=>le_trim_Check_l3 n s) _ _
noncomputable def v_trim_Check_l5(n:Nat)(s49:(List T×T×Int×List T×Int×Int×List T×Int×Int×Unit)):Option ((List T×T×Int×List T×Int×Int×List T×Int×Int×Unit)⊕((List T×T×Int×List T×Int×Int×Unit)⊕Empty)):=
 (bif (Go.Eng.ltI s49.2.2.2.2.2.2.2.2.1 s49.2.2.2.2.2.2.2.1) then (ob (Go.Eng.idxL s49.2.2.2.2.2.2.1 s49.2.2.2.2.2.2.2.2.1) fun x50=>(ob (Go.Eng.T.anyInt? (Go.Eng.T.cell x50 0)) fun x51=>(ob (Go.Eng.idxL s49.1 x51) fun x52=>(ob (Go.Eng.T.sl? 9 (Go.Eng.T.cell x52 0)) fun x53=>(ob (Go.Eng.v_trim_Area n (x53,())) fun x54=>(ob (Go.Eng.v_rational_Sign n (x54.1,x54.2.1,x54.2.2.1,())) fun x55=>(some (Sum.inl (s49.1,s49.2.1,(Go.Eng.wr Go.IntKind.i64 (Go.Eng.addI s49.2.2.1 x55.1)),s49.2.2.2.1,s49.2.2.2.2.1,s49.2.2.2.2.2.1,s49.2.2.2.2.2.2.1,s49.2.2.2.2.2.2.2.1,(Go.Eng.wr Go.IntKind.i64 (Go.Eng.addI s49.2.2.2.2.2.2.2.2.1 (1:Int))),()))))))))) else (some (Sum.inr (Sum.inl (s49.1,s49.2.1,s49.2.2.1,s49.2.2.2.1,s49.2.2.2.2.1,s49.2.2.2.2.2.1,())))))
theorem le_trim_Check_l5(n:Nat)(s49:(List T×T×Int×List T×Int×Int×List T×Int×Int×Unit)):Le (v_trim_Check_l5 n s49) (u_trim_Check_l5 s49):=by
 unfold v_trim_Check_l5 u_trim_Check_l5
 repeat' first
  | with_reducible refine le_cond ?_ ?_
  | with_reducible refine le_onS (fun _=>?_) fun _=>?_
  | with_reducible refine le_ob ?_ fun _=>?_
  | with_reducible refine le_both ?_ ?_
  | with_reducible exact le_rfl
  | with_reducible exact le_trim_Area n _
  | with_reducible exact le_rational_Sign n _
noncomputable def v_trim_Check_l4(n:Nat)(s46:(List T×List T×Int×Int×Unit)):Option ((List T×List T×Int×Int×Unit)⊕((Int×Unit)⊕((Unit)⊕Empty))):=
 (bif (Go.Eng.ltI s46.2.2.2.1 s46.2.2.1) then (ob (Go.Eng.idxL s46.2.1 s46.2.2.2.1) fun x47=>(ob (Go.Eng.v_trim_around n (s46.1,s46.2.2.2.1,())) fun x48=>(ob (iter (v_trim_Check_l5 n) n (s46.1,(Go.Eng.T.cell x47 0),(0:Int),s46.2.1,s46.2.2.1,s46.2.2.2.1,x48.1,(Go.Eng.lenL x48.1),(0:Int),())) fun q56=>onS q56 (fun t57=>(ob (Go.Eng.T.sl? 9 t57.2.1) fun x58=>(ob (Go.Eng.v_trim_Area n (x58,())) fun x59=>(ob (Go.Eng.v_rational_Sign n (x59.1,x59.2.1,x59.2.2.1,())) fun x60=>(bif (Bool.not (Go.Eng.eqI (Go.Eng.mmI Bool.false (Go.Eng.wr Go.IntKind.i64 (Go.Eng.addI t57.2.2.1 x60.1)) t57.2.2.1) (0:Int))) then (some (Sum.inr (Sum.inl ((8:Int),())))) else (bif (Bool.not (Go.Eng.eqI (Go.Eng.mmI Bool.true (Go.Eng.wr Go.IntKind.i64 (Go.Eng.addI t57.2.2.1 x60.1)) t57.2.2.1) (1:Int))) then (some (Sum.inr (Sum.inl ((8:Int),())))) else (some (Sum.inl (t57.1,t57.2.2.2.1,t57.2.2.2.2.1,(Go.Eng.wr Go.IntKind.i64 (Go.Eng.addI t57.2.2.2.2.2.1 (1:Int))),()))))))))) fun q61=>noS q61))) else (some (Sum.inr (Sum.inr (Sum.inl ())))))
theorem le_trim_Check_l4(n:Nat)(s46:(List T×List T×Int×Int×Unit)):Le (v_trim_Check_l4 n s46) (u_trim_Check_l4 s46):=by
 unfold v_trim_Check_l4 u_trim_Check_l4
 repeat' first
  | with_reducible refine le_cond ?_ ?_
  | with_reducible refine le_onS (fun _=>?_) fun _=>?_
  | with_reducible refine le_ob ?_ fun _=>?_
  | with_reducible refine le_both ?_ ?_
  | with_reducible exact le_rfl
  | with_reducible exact le_trim_around n _
  | with_reducible exact le_trim_Area n _
  | with_reducible exact le_rational_Sign n _
  | with_reducible exact le_loop (fun s=>le_trim_Check_l5 n s) _ _
noncomputable def v_trim_Check(n:Nat)(t:((List T)×Unit)):Option (Int×Unit):=
 (bif (Go.Eng.eqI (Go.Eng.lenL t.1) (0:Int)) then (some ((1:Int),())) else (ob (iter (v_trim_Check_l0 n) n (t.1,t.1,(Go.Eng.lenL t.1),(0:Int),())) fun q22=>onS q22 (fun t23=>(some (t23.1,()))) fun q24=>onS q24 (fun t25=>(bif (Go.Eng.ltI (16:Int) (Go.Eng.lenL t25.1)) then (some ((2:Int),())) else (ob (Go.Eng.v_slices_ContainsFunc_____api_Point___api_Point_ n (t25.1,(),())) fun x26=>(bif x26.1 then (some ((2:Int),())) else (ob (iter (v_trim_Check_l2 n) n (t25.1,t25.1,(Go.Eng.lenL t25.1),(0:Int),())) fun q42=>onS q42 (fun t43=>(some (t43.1,()))) fun q44=>onS q44 (fun t45=>(ob (iter (v_trim_Check_l4 n) n (t45.1,t45.1,(Go.Eng.lenL t45.1),(0:Int),())) fun q62=>onS q62 (fun t63=>(some (t63.1,()))) fun q64=>onS q64 (fun t65=>(some ((0:Int),()))) fun q66=>noS q66)) fun q67=>noS q67))))) fun q68=>noS q68))
theorem le_trim_Check(n:Nat)(t:((List T)×Unit)):Le (v_trim_Check n t) (u_trim_Check t):=by
 unfold v_trim_Check u_trim_Check
 repeat' first
  | with_reducible refine le_cond ?_ ?_
  | with_reducible refine le_onS (fun _=>?_) fun _=>?_
  | with_reducible refine le_ob ?_ fun _=>?_
  | with_reducible refine le_both ?_ ?_
  | with_reducible exact le_rfl
  | with_reducible exact le_slices_ContainsFunc_____api_Point___api_Point_ n _
  | with_reducible exact le_loop (fun s=>le_trim_Check_l0 n s) _ _
  | with_reducible exact le_loop (fun s=>le_trim_Check_l2 n s) _ _
  | with_reducible exact le_loop (fun s=>le_trim_Check_l4 n s) _ _
noncomputable def v_trim_Where_l0(n:Nat)(s0:(Unit×Int×List T×Int×Int×Bool×List T×List T×Bool×List T×List T×Bool×List T×List T×Unit)):Option ((Unit×Int×List T×Int×Int×Bool×List T×List T×Bool×List T×List T×Bool×List T×List T×Unit)⊕((Int×Unit)⊕((Int×Unit)⊕Empty))):=
 (bif (Go.Eng.ltI s0.2.2.2.2.1 s0.2.2.2.1) then (ob (Go.Eng.idxL s0.2.2.1 s0.2.2.2.2.1) fun x1=>(ob (Go.Eng.T.sl? 9 (Go.Eng.T.cell x1 0)) fun x2=>(ob (Go.Eng.v_trim_Winding n (x2,s0.2.2.2.2.2.1,s0.2.2.2.2.2.2.1,s0.2.2.2.2.2.2.2.1,s0.2.2.2.2.2.2.2.2.1,s0.2.2.2.2.2.2.2.2.2.1,s0.2.2.2.2.2.2.2.2.2.2.1,s0.2.2.2.2.2.2.2.2.2.2.2.1,s0.2.2.2.2.2.2.2.2.2.2.2.2.1,s0.2.2.2.2.2.2.2.2.2.2.2.2.2.1,())) fun x3=>(bif (Bool.not x3.2.1) then (some (Sum.inr (Sum.inl ((0:Int),())))) else (some (Sum.inl ((),(Go.Eng.wr Go.IntKind.i64 (Go.Eng.addI s0.2.1 x3.1)),s0.2.2.1,s0.2.2.2.1,(Go.Eng.wr Go.IntKind.i64 (Go.Eng.addI s0.2.2.2.2.1 (1:Int))),s0.2.2.2.2.2.1,s0.2.2.2.2.2.2.1,s0.2.2.2.2.2.2.2.1,s0.2.2.2.2.2.2.2.2.1,s0.2.2.2.2.2.2.2.2.2.1,s0.2.2.2.2.2.2.2.2.2.2.1,s0.2.2.2.2.2.2.2.2.2.2.2.1,s0.2.2.2.2.2.2.2.2.2.2.2.2.1,s0.2.2.2.2.2.2.2.2.2.2.2.2.2.1,()))))))) else (some (Sum.inr (Sum.inr (Sum.inl (s0.2.1,()))))))
theorem le_trim_Where_l0(n:Nat)(s0:(Unit×Int×List T×Int×Int×Bool×List T×List T×Bool×List T×List T×Bool×List T×List T×Unit)):Le (v_trim_Where_l0 n s0) (u_trim_Where_l0 s0):=by
 unfold v_trim_Where_l0 u_trim_Where_l0
 repeat' first
  | with_reducible refine le_cond ?_ ?_
  | with_reducible refine le_onS (fun _=>?_) fun _=>?_
  | with_reducible refine le_ob ?_ fun _=>?_
  | with_reducible refine le_both ?_ ?_
  | with_reducible exact le_rfl
  | with_reducible exact le_trim_Winding n _
noncomputable def v_trim_Where(n:Nat)(t:((List T)×Bool×(List T)×(List T)×Bool×(List T)×(List T)×Bool×(List T)×(List T)×Unit)):Option (Int×Unit):=
 (ob (iter (v_trim_Where_l0 n) n ((),(0:Int),t.1,(Go.Eng.lenL t.1),(0:Int),t.2.1,t.2.2.1,t.2.2.2.1,t.2.2.2.2.1,t.2.2.2.2.2.1,t.2.2.2.2.2.2.1,t.2.2.2.2.2.2.2.1,t.2.2.2.2.2.2.2.2.1,t.2.2.2.2.2.2.2.2.2.1,())) fun q4=>onS q4 (fun t5=>(some (t5.1,()))) fun q6=>onS q6 (fun t7=>(bif (Go.Eng.eqI t7.1 (1:Int)) then (some ((1:Int),())) else (some ((-1:Int),())))) fun q8=>noS q8)
theorem le_trim_Where(n:Nat)(t:((List T)×Bool×(List T)×(List T)×Bool×(List T)×(List T)×Bool×(List T)×(List T)×Unit)):Le (v_trim_Where n t) (u_trim_Where t):=by
 unfold v_trim_Where u_trim_Where
 repeat' first
  | with_reducible refine le_cond ?_ ?_
  | with_reducible refine le_onS (fun _=>?_) fun _=>?_
  | with_reducible refine le_ob ?_ fun _=>?_
  | with_reducible refine le_both ?_ ?_
  | with_reducible exact le_rfl
  | with_reducible exact le_loop (fun s=>le_trim_Where_l0 n s) _ _
noncomputable def v_brepkernellaw21_awake(n:Nat)(t:Unit):Option (Bool×Unit):=
 (ob (Go.Eng.v_brepkernellaw21_at n ((0:Int),(0:Int),())) fun x0=>(ob (Go.Eng.v_brepkernellaw21_at n ((1:Int),(0:Int),())) fun x1=>(ob (Go.Eng.v_brepkernellaw21_at n ((1:Int),(1:Int),())) fun x2=>(ob (Go.Eng.v_brepkernellaw21_at n ((0:Int),(1:Int),())) fun x3=>(ob (Go.Eng.v_ref02_Frac n ((1:Int),(2:Int),())) fun x4=>(ob (Go.Eng.v_trim_Check n ([(Go.Eng.T.sl 9 [(Go.Eng.T.agg [(Go.Eng.T.v (Go.Value.bool x0.1)),(Go.Eng.T.sl 1 x0.2.1),(Go.Eng.T.sl 1 x0.2.2.1),(Go.Eng.T.v (Go.Value.bool x0.2.2.2.1)),(Go.Eng.T.sl 1 x0.2.2.2.2.1),(Go.Eng.T.sl 1 x0.2.2.2.2.2.1),(Go.Eng.T.v (Go.Value.bool x0.2.2.2.2.2.2.1)),(Go.Eng.T.sl 1 x0.2.2.2.2.2.2.2.1),(Go.Eng.T.sl 1 x0.2.2.2.2.2.2.2.2.1)]),(Go.Eng.T.agg [(Go.Eng.T.v (Go.Value.bool x1.1)),(Go.Eng.T.sl 1 x1.2.1),(Go.Eng.T.sl 1 x1.2.2.1),(Go.Eng.T.v (Go.Value.bool x1.2.2.2.1)),(Go.Eng.T.sl 1 x1.2.2.2.2.1),(Go.Eng.T.sl 1 x1.2.2.2.2.2.1),(Go.Eng.T.v (Go.Value.bool x1.2.2.2.2.2.2.1)),(Go.Eng.T.sl 1 x1.2.2.2.2.2.2.2.1),(Go.Eng.T.sl 1 x1.2.2.2.2.2.2.2.2.1)]),(Go.Eng.T.agg [(Go.Eng.T.v (Go.Value.bool x2.1)),(Go.Eng.T.sl 1 x2.2.1),(Go.Eng.T.sl 1 x2.2.2.1),(Go.Eng.T.v (Go.Value.bool x2.2.2.2.1)),(Go.Eng.T.sl 1 x2.2.2.2.2.1),(Go.Eng.T.sl 1 x2.2.2.2.2.2.1),(Go.Eng.T.v (Go.Value.bool x2.2.2.2.2.2.2.1)),(Go.Eng.T.sl 1 x2.2.2.2.2.2.2.2.1),(Go.Eng.T.sl 1 x2.2.2.2.2.2.2.2.2.1)]),(Go.Eng.T.agg [(Go.Eng.T.v (Go.Value.bool x3.1)),(Go.Eng.T.sl 1 x3.2.1),(Go.Eng.T.sl 1 x3.2.2.1),(Go.Eng.T.v (Go.Value.bool x3.2.2.2.1)),(Go.Eng.T.sl 1 x3.2.2.2.2.1),(Go.Eng.T.sl 1 x3.2.2.2.2.2.1),(Go.Eng.T.v (Go.Value.bool x3.2.2.2.2.2.2.1)),(Go.Eng.T.sl 1 x3.2.2.2.2.2.2.2.1),(Go.Eng.T.sl 1 x3.2.2.2.2.2.2.2.2.1)])])],())) fun x5=>(bif (Go.Eng.eqI x5.1 (0:Int)) then (ob (Go.Eng.v_trim_Area n ([(Go.Eng.T.agg [(Go.Eng.T.v (Go.Value.bool x0.1)),(Go.Eng.T.sl 1 x0.2.1),(Go.Eng.T.sl 1 x0.2.2.1),(Go.Eng.T.v (Go.Value.bool x0.2.2.2.1)),(Go.Eng.T.sl 1 x0.2.2.2.2.1),(Go.Eng.T.sl 1 x0.2.2.2.2.2.1),(Go.Eng.T.v (Go.Value.bool x0.2.2.2.2.2.2.1)),(Go.Eng.T.sl 1 x0.2.2.2.2.2.2.2.1),(Go.Eng.T.sl 1 x0.2.2.2.2.2.2.2.2.1)]),(Go.Eng.T.agg [(Go.Eng.T.v (Go.Value.bool x1.1)),(Go.Eng.T.sl 1 x1.2.1),(Go.Eng.T.sl 1 x1.2.2.1),(Go.Eng.T.v (Go.Value.bool x1.2.2.2.1)),(Go.Eng.T.sl 1 x1.2.2.2.2.1),(Go.Eng.T.sl 1 x1.2.2.2.2.2.1),(Go.Eng.T.v (Go.Value.bool x1.2.2.2.2.2.2.1)),(Go.Eng.T.sl 1 x1.2.2.2.2.2.2.2.1),(Go.Eng.T.sl 1 x1.2.2.2.2.2.2.2.2.1)]),(Go.Eng.T.agg [(Go.Eng.T.v (Go.Value.bool x2.1)),(Go.Eng.T.sl 1 x2.2.1),(Go.Eng.T.sl 1 x2.2.2.1),(Go.Eng.T.v (Go.Value.bool x2.2.2.2.1)),(Go.Eng.T.sl 1 x2.2.2.2.2.1),(Go.Eng.T.sl 1 x2.2.2.2.2.2.1),(Go.Eng.T.v (Go.Value.bool x2.2.2.2.2.2.2.1)),(Go.Eng.T.sl 1 x2.2.2.2.2.2.2.2.1),(Go.Eng.T.sl 1 x2.2.2.2.2.2.2.2.2.1)]),(Go.Eng.T.agg [(Go.Eng.T.v (Go.Value.bool x3.1)),(Go.Eng.T.sl 1 x3.2.1),(Go.Eng.T.sl 1 x3.2.2.1),(Go.Eng.T.v (Go.Value.bool x3.2.2.2.1)),(Go.Eng.T.sl 1 x3.2.2.2.2.1),(Go.Eng.T.sl 1 x3.2.2.2.2.2.1),(Go.Eng.T.v (Go.Value.bool x3.2.2.2.2.2.2.1)),(Go.Eng.T.sl 1 x3.2.2.2.2.2.2.2.1),(Go.Eng.T.sl 1 x3.2.2.2.2.2.2.2.2.1)])],())) fun x6=>(ob (Go.Eng.v_ref02_Text n (x6.1,x6.2.1,x6.2.2.1,())) fun x7=>(bif (Go.Eng.eqS x7.1 (ByteArray.mk #[50])) then (ob (Go.Eng.v_trim_Where n ([(Go.Eng.T.sl 9 [(Go.Eng.T.agg [(Go.Eng.T.v (Go.Value.bool x0.1)),(Go.Eng.T.sl 1 x0.2.1),(Go.Eng.T.sl 1 x0.2.2.1),(Go.Eng.T.v (Go.Value.bool x0.2.2.2.1)),(Go.Eng.T.sl 1 x0.2.2.2.2.1),(Go.Eng.T.sl 1 x0.2.2.2.2.2.1),(Go.Eng.T.v (Go.Value.bool x0.2.2.2.2.2.2.1)),(Go.Eng.T.sl 1 x0.2.2.2.2.2.2.2.1),(Go.Eng.T.sl 1 x0.2.2.2.2.2.2.2.2.1)]),(Go.Eng.T.agg [(Go.Eng.T.v (Go.Value.bool x1.1)),(Go.Eng.T.sl 1 x1.2.1),(Go.Eng.T.sl 1 x1.2.2.1),(Go.Eng.T.v (Go.Value.bool x1.2.2.2.1)),(Go.Eng.T.sl 1 x1.2.2.2.2.1),(Go.Eng.T.sl 1 x1.2.2.2.2.2.1),(Go.Eng.T.v (Go.Value.bool x1.2.2.2.2.2.2.1)),(Go.Eng.T.sl 1 x1.2.2.2.2.2.2.2.1),(Go.Eng.T.sl 1 x1.2.2.2.2.2.2.2.2.1)]),(Go.Eng.T.agg [(Go.Eng.T.v (Go.Value.bool x2.1)),(Go.Eng.T.sl 1 x2.2.1),(Go.Eng.T.sl 1 x2.2.2.1),(Go.Eng.T.v (Go.Value.bool x2.2.2.2.1)),(Go.Eng.T.sl 1 x2.2.2.2.2.1),(Go.Eng.T.sl 1 x2.2.2.2.2.2.1),(Go.Eng.T.v (Go.Value.bool x2.2.2.2.2.2.2.1)),(Go.Eng.T.sl 1 x2.2.2.2.2.2.2.2.1),(Go.Eng.T.sl 1 x2.2.2.2.2.2.2.2.2.1)]),(Go.Eng.T.agg [(Go.Eng.T.v (Go.Value.bool x3.1)),(Go.Eng.T.sl 1 x3.2.1),(Go.Eng.T.sl 1 x3.2.2.1),(Go.Eng.T.v (Go.Value.bool x3.2.2.2.1)),(Go.Eng.T.sl 1 x3.2.2.2.2.1),(Go.Eng.T.sl 1 x3.2.2.2.2.2.1),(Go.Eng.T.v (Go.Value.bool x3.2.2.2.2.2.2.1)),(Go.Eng.T.sl 1 x3.2.2.2.2.2.2.2.1),(Go.Eng.T.sl 1 x3.2.2.2.2.2.2.2.2.1)])])],x4.1,x4.2.1,x4.2.2.1,x4.1,x4.2.1,x4.2.2.1,Bool.false,[],[],())) fun x8=>(bif (Go.Eng.eqI x8.1 (1:Int)) then (ob (Go.Eng.v_ref02_Int n ((1:Int),())) fun x9=>(ob (Go.Eng.v_trim_Where n ([(Go.Eng.T.sl 9 [(Go.Eng.T.agg [(Go.Eng.T.v (Go.Value.bool x0.1)),(Go.Eng.T.sl 1 x0.2.1),(Go.Eng.T.sl 1 x0.2.2.1),(Go.Eng.T.v (Go.Value.bool x0.2.2.2.1)),(Go.Eng.T.sl 1 x0.2.2.2.2.1),(Go.Eng.T.sl 1 x0.2.2.2.2.2.1),(Go.Eng.T.v (Go.Value.bool x0.2.2.2.2.2.2.1)),(Go.Eng.T.sl 1 x0.2.2.2.2.2.2.2.1),(Go.Eng.T.sl 1 x0.2.2.2.2.2.2.2.2.1)]),(Go.Eng.T.agg [(Go.Eng.T.v (Go.Value.bool x1.1)),(Go.Eng.T.sl 1 x1.2.1),(Go.Eng.T.sl 1 x1.2.2.1),(Go.Eng.T.v (Go.Value.bool x1.2.2.2.1)),(Go.Eng.T.sl 1 x1.2.2.2.2.1),(Go.Eng.T.sl 1 x1.2.2.2.2.2.1),(Go.Eng.T.v (Go.Value.bool x1.2.2.2.2.2.2.1)),(Go.Eng.T.sl 1 x1.2.2.2.2.2.2.2.1),(Go.Eng.T.sl 1 x1.2.2.2.2.2.2.2.2.1)]),(Go.Eng.T.agg [(Go.Eng.T.v (Go.Value.bool x2.1)),(Go.Eng.T.sl 1 x2.2.1),(Go.Eng.T.sl 1 x2.2.2.1),(Go.Eng.T.v (Go.Value.bool x2.2.2.2.1)),(Go.Eng.T.sl 1 x2.2.2.2.2.1),(Go.Eng.T.sl 1 x2.2.2.2.2.2.1),(Go.Eng.T.v (Go.Value.bool x2.2.2.2.2.2.2.1)),(Go.Eng.T.sl 1 x2.2.2.2.2.2.2.2.1),(Go.Eng.T.sl 1 x2.2.2.2.2.2.2.2.2.1)]),(Go.Eng.T.agg [(Go.Eng.T.v (Go.Value.bool x3.1)),(Go.Eng.T.sl 1 x3.2.1),(Go.Eng.T.sl 1 x3.2.2.1),(Go.Eng.T.v (Go.Value.bool x3.2.2.2.1)),(Go.Eng.T.sl 1 x3.2.2.2.2.1),(Go.Eng.T.sl 1 x3.2.2.2.2.2.1),(Go.Eng.T.v (Go.Value.bool x3.2.2.2.2.2.2.1)),(Go.Eng.T.sl 1 x3.2.2.2.2.2.2.2.1),(Go.Eng.T.sl 1 x3.2.2.2.2.2.2.2.2.1)])])],x9.1,x9.2.1,x9.2.2.1,x4.1,x4.2.1,x4.2.2.1,Bool.false,[],[],())) fun x10=>(bif (Go.Eng.eqI x10.1 (0:Int)) then (ob (Go.Eng.v_brepkernellaw21_at n ((0:Int),(0:Int),())) fun x11=>(ob (Go.Eng.v_brepkernellaw21_at n ((0:Int),(1:Int),())) fun x12=>(ob (Go.Eng.v_brepkernellaw21_at n ((1:Int),(1:Int),())) fun x13=>(ob (Go.Eng.v_brepkernellaw21_at n ((1:Int),(0:Int),())) fun x14=>(ob (Go.Eng.v_trim_Check n ([(Go.Eng.T.sl 9 [(Go.Eng.T.agg [(Go.Eng.T.v (Go.Value.bool x11.1)),(Go.Eng.T.sl 1 x11.2.1),(Go.Eng.T.sl 1 x11.2.2.1),(Go.Eng.T.v (Go.Value.bool x11.2.2.2.1)),(Go.Eng.T.sl 1 x11.2.2.2.2.1),(Go.Eng.T.sl 1 x11.2.2.2.2.2.1),(Go.Eng.T.v (Go.Value.bool x11.2.2.2.2.2.2.1)),(Go.Eng.T.sl 1 x11.2.2.2.2.2.2.2.1),(Go.Eng.T.sl 1 x11.2.2.2.2.2.2.2.2.1)]),(Go.Eng.T.agg [(Go.Eng.T.v (Go.Value.bool x12.1)),(Go.Eng.T.sl 1 x12.2.1),(Go.Eng.T.sl 1 x12.2.2.1),(Go.Eng.T.v (Go.Value.bool x12.2.2.2.1)),(Go.Eng.T.sl 1 x12.2.2.2.2.1),(Go.Eng.T.sl 1 x12.2.2.2.2.2.1),(Go.Eng.T.v (Go.Value.bool x12.2.2.2.2.2.2.1)),(Go.Eng.T.sl 1 x12.2.2.2.2.2.2.2.1),(Go.Eng.T.sl 1 x12.2.2.2.2.2.2.2.2.1)]),(Go.Eng.T.agg [(Go.Eng.T.v (Go.Value.bool x13.1)),(Go.Eng.T.sl 1 x13.2.1),(Go.Eng.T.sl 1 x13.2.2.1),(Go.Eng.T.v (Go.Value.bool x13.2.2.2.1)),(Go.Eng.T.sl 1 x13.2.2.2.2.1),(Go.Eng.T.sl 1 x13.2.2.2.2.2.1),(Go.Eng.T.v (Go.Value.bool x13.2.2.2.2.2.2.1)),(Go.Eng.T.sl 1 x13.2.2.2.2.2.2.2.1),(Go.Eng.T.sl 1 x13.2.2.2.2.2.2.2.2.1)]),(Go.Eng.T.agg [(Go.Eng.T.v (Go.Value.bool x14.1)),(Go.Eng.T.sl 1 x14.2.1),(Go.Eng.T.sl 1 x14.2.2.1),(Go.Eng.T.v (Go.Value.bool x14.2.2.2.1)),(Go.Eng.T.sl 1 x14.2.2.2.2.1),(Go.Eng.T.sl 1 x14.2.2.2.2.2.1),(Go.Eng.T.v (Go.Value.bool x14.2.2.2.2.2.2.1)),(Go.Eng.T.sl 1 x14.2.2.2.2.2.2.2.1),(Go.Eng.T.sl 1 x14.2.2.2.2.2.2.2.2.1)])])],())) fun x15=>(some ((Go.Eng.eqI x15.1 (8:Int)),()))))))) else (some (Bool.false,()))))) else (some (Bool.false,())))) else (some (Bool.false,()))))) else (some (Bool.false,())))))))))
theorem le_brepkernellaw21_awake(n:Nat)(t:Unit):Le (v_brepkernellaw21_awake n t) (u_brepkernellaw21_awake t):=by
 unfold v_brepkernellaw21_awake u_brepkernellaw21_awake
 repeat' first
  | with_reducible refine le_cond ?_ ?_
  | with_reducible refine le_onS (fun _=>?_) fun _=>?_
  | with_reducible refine le_ob ?_ fun _=>?_
  | with_reducible refine le_both ?_ ?_
  | with_reducible exact le_rfl
  | with_reducible exact le_brepkernellaw21_at n _
  | with_reducible exact le_ref02_Frac n _
  | with_reducible exact le_trim_Check n _
  | with_reducible exact le_trim_Area n _
  | with_reducible exact le_ref02_Text n _
  | with_reducible exact le_trim_Where n _
  | with_reducible exact le_ref02_Int n _
end Go.Eng
namespace Go.Eng.Rt
open Go.Eng Go.Eng.Tm
theorem upd9(a0 a1 a2 a3 a4 a5 a6 a7 a8 b0 b1 b2 b3 b4 b5 b6 b7 b8:T):T.upd 9 (.agg [a0,a1,a2,a3,a4,a5,a6,a7,a8]) 0 [b0,b1,b2,b3,b4,b5,b6,b7,b8]=.agg [b0,b1,b2,b3,b4,b5,b6,b7,b8]:=by
 unfold T.upd;rfl
theorem d_Loop{L:List T}{a:Int}(hD:DiceOK L a):∃a' ps,u___brepkernelmade_Dice__Loop ((),L,a,())=some (ps.map wT,L,a',())∧DiceOK L a'∧Bx ps:=by
 obtain⟨v0,a0,e0,l0,h0,D0⟩:=s_Next hD (n:=9) (by omega) (by omega)
 obtain⟨v1,a1,e1,l1,h1,D1⟩:=s_Next D0 (n:=9) (by omega) (by omega)
 obtain⟨v2,a2,e2,l2,h2,D2⟩:=s_Next D1 (n:=5) (by omega) (by omega)
 obtain⟨v3,a3,e3,l3,h3,D3⟩:=s_Next D2 (n:=3) (by omega) (by omega)
 have w0:wr .i64 (v0-4)=v0-4:=wr64 (by omega) (by omega)
 have w1:wr .i64 (v1-4)=v1-4:=wr64 (by omega) (by omega)
 have w2:wr .i64 (1+v2)=1+v2:=wr64 (by omega) (by omega)
 obtain⟨a4,ps,e4,D4,hl,hs⟩:=loop_all (L:=L) (x:=v0-4) (y:=v1-4) (r:=1+v2) (by omega) (by omega) (by omega) (by omega) (turn:=decide (v3=2)) 8 D3 (ps:=[]) (i:=0) (by omega) (by omega) (by simp) (fun p hp=>by cases hp)
 obtain⟨v5,a5,e5,l5,h5,D5⟩:=s_Next D4 (n:=7) (by omega) (by omega)
 have fold:((),v0-4,v1-4,1+v2,(),([]:List T),decide (v3=2),(0:Int),L,a3,(2:Int),(0:Int),(2:Int),(1:Int),(1:Int),(2:Int),(-1:Int),(2:Int),(-2:Int),(0:Int),(-2:Int),(-1:Int),(0:Int),(-2:Int),(1:Int),(-1:Int),())=DS L a3 (v0-4) (v1-4) (1+v2) (decide (v3=2)) 0 (([]:List (Int×Int)).map wT):=rfl
 have hcell:∀p,T.bool? (T.cell (wT p) 0)=some (rNeg (p.1:Rat))∧T.sl? 1 (T.cell (wT p) 1)=some (rNum (p.1:Rat))∧T.sl? 1 (T.cell (wT p) 2)=some (rDen (p.1:Rat)) ∧
  T.bool? (T.cell (wT p) 3)=some (rNeg (p.2:Rat))∧T.sl? 1 (T.cell (wT p) 4)=some (rNum (p.2:Rat))∧T.sl? 1 (T.cell (wT p) 5)=some (rDen (p.2:Rat)) ∧
  T.bool? (T.cell (wT p) 6)=some false∧T.sl? 1 (T.cell (wT p) 7)=some []∧T.sl? 1 (T.cell (wT p) 8)=some []:=fun p=>⟨rfl,T_sl _ _,T_sl _ _,rfl,T_sl _ _,T_sl _ _,rfl,T_sl _ _,T_sl _ _⟩
 have bx:∀{ps:List (Int×Int)},ps.length≤8→SmS (v0-4) (v1-4) ps→Bx ps:=fun {ps} hl hs=>⟨by omega,fun p hp=>by have:=hs p hp;omega,fun p hp q hq=>by have h1:=hs p hp;have h2:=hs q hq;omega⟩
 unfold u___brepkernelmade_Dice__Loop
 simp only[e0,e1,e2,e3,obS,subI_eq,addI_eq,eqI_eq,w0,w1,w2,fold,e4,e5,onS_l]
 by_cases h6:v5=6
 ·rw[decide_eq_true h6]
  simp only[cond_true,ltI_eq,lenL_eq,List.length_map]
  match ps,hl,hs with
  | [],hl,hs=>exact⟨a5,[],rfl,D5,bx (by simp) hs⟩
  | [p],hl,hs=>exact⟨a5,[p],rfl,D5,bx (by simp) hs⟩
  | p::q::r,hl,hs=>
   obtain⟨p0,p1,p2,p3,p4,p5,p6,p7,p8⟩:=hcell p
   obtain⟨q0,q1,q2,q3,q4,q5,q6,q7,q8⟩:=hcell q
   have hlen:(((p::q::r).length:Nat):Int)=(r.length:Int)+2:=by simp;omega
   have c1:chkI ((r.length:Int)+2) 1=some 1:=chkI_nat (i:=1) (by omega)
   have c0:chkI ((r.length:Int)+2) 0=some 0:=chkI_nat (i:=0) (by omega)
   have hlt:decide ((1:Int)<(r.length:Int)+2)=true:=decide_eq_true (by omega)
   have u1:=upd9 (.v (.bool (rNeg (p.1:Rat)))) (.sl 1 (rNum (p.1:Rat))) (.sl 1 (rDen (p.1:Rat))) (.v (.bool (rNeg (p.2:Rat)))) (.sl 1 (rNum (p.2:Rat))) (.sl 1 (rDen (p.2:Rat))) (.v (.bool false)) (.sl 1 []) (.sl 1 [])
    (.v (.bool (rNeg (q.1:Rat)))) (.sl 1 (rNum (q.1:Rat))) (.sl 1 (rDen (q.1:Rat))) (.v (.bool (rNeg (q.2:Rat)))) (.sl 1 (rNum (q.2:Rat))) (.sl 1 (rDen (q.2:Rat))) (.v (.bool false)) (.sl 1 []) (.sl 1 [])
   have u2:=upd9 (.v (.bool (rNeg (q.1:Rat)))) (.sl 1 (rNum (q.1:Rat))) (.sl 1 (rDen (q.1:Rat))) (.v (.bool (rNeg (q.2:Rat)))) (.sl 1 (rNum (q.2:Rat))) (.sl 1 (rDen (q.2:Rat))) (.v (.bool false)) (.sl 1 []) (.sl 1 [])
    (.v (.bool (rNeg (p.1:Rat)))) (.sl 1 (rNum (p.1:Rat))) (.sl 1 (rDen (p.1:Rat))) (.v (.bool (rNeg (p.2:Rat)))) (.sl 1 (rNum (p.2:Rat))) (.sl 1 (rDen (p.2:Rat))) (.v (.bool false)) (.sl 1 []) (.sl 1 [])
   have u1':T.upd 9 (wT p) 0 [.v (.bool (rNeg (q.1:Rat))),.sl 1 (rNum (q.1:Rat)),.sl 1 (rDen (q.1:Rat)),.v (.bool (rNeg (q.2:Rat))),.sl 1 (rNum (q.2:Rat)),.sl 1 (rDen (q.2:Rat)),.v (.bool false),.sl 1 [],.sl 1 []]=wT q:=u1
   have u2':T.upd 9 (wT q) 0 [.v (.bool (rNeg (p.1:Rat))),.sl 1 (rNum (p.1:Rat)),.sl 1 (rDen (p.1:Rat)),.v (.bool (rNeg (p.2:Rat))),.sl 1 (rNum (p.2:Rat)),.sl 1 (rDen (p.2:Rat)),.v (.bool false),.sl 1 [],.sl 1 []]=wT p:=u2
   refine⟨a5,q::p::r,?_,D5,bx (by simpa using hl) fun x hx=>hs x ?_⟩
   ·have g1:((p::q::r).map wT)[1]?=some (wT q):=rfl
    have g0:((p::q::r).map wT)[0]?=some (wT p):=rfl
    have s1:((p::q::r).map wT).set 0 (wT q)=wT q::wT q::r.map wT:=rfl
    have hlen2:(((wT q::wT q::r.map wT).length:Nat):Int)=(r.length:Int)+2:=by simp;omega
    have g2:(wT q::wT q::r.map wT)[1]?=some (wT q):=rfl
    simp only[hlen,hlt,cond_true,c1,c0,obS,idxN_eq,g1,g0,p0,p1,p2,p3,p4,p5,p6,p7,p8,q0,q1,q2,q3,q4,q5,q6,q7,q8,u1',s1,hlen2,g2,u2',onS_l]
    rfl
   ·simp only[List.mem_cons] at hx ⊢
    rcases hx with h | h | h
    ·exact .inr (.inl h)
    ·exact .inl h
    ·exact .inr (.inr h)
 ·rw[decide_eq_false h6]
  exact⟨a5,ps,rfl,D5,bx hl hs⟩
theorem s_Light(L:List T):u_brepkernelmade_Light (L,())=some (decide (L.length≤500),()):=by
 unfold u_brepkernelmade_Light
 simp only[leI_eq,lenL_eq]
 congr 2
 rw[Bool.eq_iff_iff];simp;omega
theorem s_Roll(L:List T):u_brepkernelmade_Roll (L,())=some (L,0,()):=rfl
def lT(l:List (Int×Int)):T:=.sl 9 (l.map wT)
def AllB(ls:List (List (Int×Int))):Prop:=∀l∈ls,Bx l
theorem loops_loop{L:List T}:∀(k:Nat) (n a:Int) (ls:List (List (Int×Int))),n=k→n≤3→ls.length+k≤3→DiceOK L a→AllB ls→∃ls' a',loopU u___brepkernelmade_Dice__Loops_l0 ((),ls.map lT,n,L,a,())=some (.inl (ls'.map lT,L,a',()))∧AllB ls'∧ls'.length≤3:=by
 intro k
 induction k with
 | zero=>
  intro n a ls hn _ hl hD hB
  refine⟨ls,a,loopU_out ?_,hB,by omega⟩
  unfold u___brepkernelmade_Dice__Loops_l0
  simp only[ltI_eq]
  rw[decide_eq_false (by omega)]
  rfl
 | succ k ih=>
  intro n a ls hn h3 hl hD hB
  obtain⟨a1,ps,e1,D1,B1⟩:=d_Loop hD
  have hr:=room_ok (l:=ls.map lT) (m:=[lT ps]) (b:=24) (by simp only[List.length_map,List.length_cons,List.length_nil];omega) (by decide)
  have hr:room (ls.map lT) [T.sl 9 (ps.map wT)] 24=some ((ls++[ps]).map lT):=by rw[List.map_append];exact hr
  have hw:wr .i64 (n-1)=n-1:=wr64 (by omega) (by omega)
  have hgo:u___brepkernelmade_Dice__Loops_l0 ((),ls.map lT,n,L,a,())=some (.inl ((),(ls++[ps]).map lT,n-1,L,a1,())):=by
   unfold u___brepkernelmade_Dice__Loops_l0
   simp only[ltI_eq,decide_eq_true (show (0:Int)<n by omega),cond_true,e1,obS,hr,subI_eq,hw]
  rw[loopU_go hgo]
  exact ih (n-1) a1 (ls++[ps]) (by omega) (by omega) (by rw[List.length_append];simp only[List.length_cons,List.length_nil];omega) D1 fun l hl2=>by
   rcases List.mem_append.1 hl2 with h | h
   ·exact hB l h
   ·rw[List.mem_singleton.1 h];exact B1
theorem d_Loops{L:List T}{a:Int}(hD:DiceOK L a):∃ls a',u___brepkernelmade_Dice__Loops ((),L,a,())=some (ls.map lT,L,a',())∧AllB ls∧ls.length≤3:=by
 obtain⟨v0,a0,e0,l0,h0,D0⟩:=s_Next hD (n:=3) (by omega) (by omega)
 have hw:wr .i64 (1+v0)=1+v0:=wr64 (by omega) (by omega)
 obtain⟨k,hk⟩:∃k:Nat,1+v0=k:=⟨(1+v0).toNat,by omega⟩
 obtain⟨ls,a',e,h1,h2⟩:=loops_loop (L:=L) k (1+v0) a0 [] hk (by omega) (by simp;omega) D0 (fun l hl=>by cases hl)
 refine⟨ls,a',?_,h1,h2⟩
 have e:loopU u___brepkernelmade_Dice__Loops_l0 ((),([]:List T),1+v0,L,a0,())=some (.inl (ls.map lT,L,a',())):=e
 unfold u___brepkernelmade_Dice__Loops
 simp only[e0,obS,addI_eq,hw,e,onS_l]
end Go.Eng.Rt
namespace Go.Eng.Rt
open Go.Eng Go.Eng.Tw Go.Eng.Tm
theorem at_eq{x y:Int}(hx:x.natAbs≤100)(hy:y.natAbs≤100):u_brepkernellaw21_at (x,y,())=some (rNeg (x:Rat),rNum (x:Rat),rDen (x:Rat),rNeg (y:Rat),rNum (y:Rat),rDen (y:Rat),false,[],[],()):=by
 unfold u_brepkernellaw21_at
 simp only[r_Int (n:=x) (by omega) (by omega),r_Int (n:=y) (by omega) (by omega),obS]
theorem wT_def(x y:Int):T.agg [T.v (.bool (rNeg (x:Rat))),.sl 1 (rNum (x:Rat)),.sl 1 (rDen (x:Rat)),.v (.bool (rNeg (y:Rat))),.sl 1 (rNum (y:Rat)),.sl 1 (rDen (y:Rat)),.v (.bool false),.sl 1 [],.sl 1 []]=wT (x,y):=rfl
theorem updW(p:Int×Int)(x y:Int):T.upd 9 (wT p) 0 [.v (.bool (rNeg (x:Rat))),.sl 1 (rNum (x:Rat)),.sl 1 (rDen (x:Rat)),.v (.bool (rNeg (y:Rat))),.sl 1 (rNum (y:Rat)),.sl 1 (rDen (y:Rat)),.v (.bool false),.sl 1 [],.sl 1 []]=wT (x,y):=upd9 ..
theorem len4(a b c d:T):lenL [a,b,c,d]=4:=by rw[lenL_eq];rfl
theorem ch43:chkI 4 3=some 3:=by unfold chkI;rfl
theorem ch41:chkI 4 1=some 1:=by unfold chkI;rfl
theorem ix3(a b c d:T):idxN [a,b,c,d] 3=some d:=by rw[idxN_eq];rfl
theorem ix1(a b c d:T):idxN [a,b,c,d] 1=some b:=by rw[idxN_eq];rfl
theorem st1(a b c d x:T):[a,b,c,d].set 1 x=[a,x,c,d]:=rfl
theorem st3(a b c d x:T):[a,b,c,d].set 3 x=[a,b,c,x]:=rfl
theorem w0(p:Int×Int):T.bool? (T.cell (wT p) 0)=some (rNeg (p.1:Rat)):=(cells p).1
theorem w1(p:Int×Int):T.sl? 1 (T.cell (wT p) 1)=some (rNum (p.1:Rat)):=(cells p).2.1
theorem w2(p:Int×Int):T.sl? 1 (T.cell (wT p) 2)=some (rDen (p.1:Rat)):=(cells p).2.2.1
theorem w3(p:Int×Int):T.bool? (T.cell (wT p) 3)=some (rNeg (p.2:Rat)):=(cells p).2.2.2.1
theorem w4(p:Int×Int):T.sl? 1 (T.cell (wT p) 4)=some (rNum (p.2:Rat)):=(cells p).2.2.2.2.1
theorem w5(p:Int×Int):T.sl? 1 (T.cell (wT p) 5)=some (rDen (p.2:Rat)):=(cells p).2.2.2.2.2.1
theorem w6(p:Int×Int):T.bool? (T.cell (wT p) 6)=some false:=(cells p).2.2.2.2.2.2.1
theorem w7(p:Int×Int):T.sl? 1 (T.cell (wT p) 7)=some []:=(cells p).2.2.2.2.2.2.2.1
theorem w8(p:Int×Int):T.sl? 1 (T.cell (wT p) 8)=some []:=(cells p).2.2.2.2.2.2.2.2
def SqB(r:Int)(l:List (Int×Int)):Prop:=∀p∈l,p.1.natAbs≤r∧p.2.natAbs≤r
theorem sq_bx{r:Int}(hr:r≤9){l:List (Int×Int)}(hl:l.length≤8)(h:SqB r l):Bx l:=⟨by omega,fun p hp=>by have:=h p hp;omega,fun p hp q hq=>by have h1:=h p hp;have h2:=h q hq;omega⟩
theorem ring_end{L:List T}{a n i:Int}(hD:DiceOK L a)(hi:0≤i)(hn:n≤4){r:Int}(hr:r≤9){ls:List (List (Int×Int))}(hl:ls.length≤5){m:List (Int×Int)}(hm:m.length=4)(hS:SqB r m)(hin:i<n):∃ps a',(ob (u___brepkernelmade_Dice__Next ((),(4:Int),L,a,())) fun x64=>ob (cutI 4 x64.1 4) fun x65=>ob (room [] (cutN (m.map wT) x65.1 x65.2) 168) fun x66=>ob (cutI 4 (0:Int) x64.1) fun x67=>ob (room x66 (cutN (m.map wT) x67.1 x67.2) 168) fun x68=>ob (room (ls.map lT) [T.sl 9 x68] 24) fun x69=>(some (Sum.inl ((),x69,n,wr .i64 (i+1),x64.2.1,x64.2.2.1,())):Option ((Unit×List T×Int×Int×List T×Int×Unit)⊕((Unit×List T×Int×List T×Int×Unit)⊕Empty)))) =
 some (Sum.inl ((),(ls++[ps]).map lT,n,i+1,L,a',()))∧Bx ps∧DiceOK L a':=by
 obtain⟨k,a',e,k0,k1,D⟩:=s_Next hD (n:=4) (by omega) (by omega)
 obtain⟨j,rfl⟩:∃j:Nat,k=j:=⟨k.toNat,by omega⟩
 have c1:cutI (4:Int) (j:Int) 4=some (j,4-j):=cutI_nat (L:=4) (l:=j) (h:=4) (by omega) (by omega)
 have c2:cutI (4:Int) 0 (j:Int)=some (0,j-0):=cutI_nat (L:=4) (l:=0) (h:=j) (by omega) (by omega)
 have e1:cutN (m.map wT) j (4-j)=(m.drop j).map wT:=by
  rw[cutN_eq,←List.map_drop,List.take_of_length_le (by simp;omega)]
 have e2:cutN (m.map wT) 0 (j-0)=(m.take j).map wT:=by
  rw[cutN_eq,List.drop_zero,Nat.sub_zero,List.map_take]
 have r1:=room_ok (l:=([]:List T)) (m:=(m.drop j).map wT) (b:=168) (by simp;omega) (by decide)
 rw[List.nil_append] at r1
 have r2:=room_ok (l:=(m.drop j).map wT) (m:=(m.take j).map wT) (b:=168) (by simp;omega) (by decide)
 rw[←List.map_append] at r2
 have r3:=room_ok (l:=ls.map lT) (m:=[lT (m.drop j++m.take j)]) (b:=24) (by simp only[List.length_map,List.length_cons,List.length_nil];omega) (by decide)
 have r3:room (ls.map lT) [T.sl 9 ((m.drop j++m.take j).map wT)] 24=some ((ls++[m.drop j++m.take j]).map lT):=r3.trans (by simp)
 refine⟨m.drop j++m.take j,a',?_,sq_bx hr (by simp;omega) fun p hp=>?_,D⟩
 ·simp only[e,obS,c1,e1,r1,c2,e2,r2,r3,wr64 (n:=i+1) (by omega) (by omega)]
 ·rcases List.mem_append.1 hp with h | h
  ·exact hS p (List.mem_of_mem_drop h)
  ·exact hS p (List.mem_of_mem_take h)
set_option maxHeartbeats 2000000 in
theorem ring_step{L:List T}{a n i:Int}(hD:DiceOK L a)(hi:0≤i)(hin:i<n)(hn:n≤4){ls:List (List (Int×Int))}(hl:ls.length≤5):∃ps a',u_brepkernellaw21_rings_l0 ((),ls.map lT,n,i,L,a,())=some (.inl ((),(ls++[ps]).map lT,n,i+1,L,a',()))∧Bx ps∧DiceOK L a':=by
 obtain⟨v,a1,e1,v0,v1,D1⟩:=s_Next hD (n:=2) (by omega) (by omega)
 obtain⟨r,hr⟩:∃r,r=2*(n-i)+v:=⟨_,rfl⟩
 have x1:wr .i64 (n-i)=n-i:=wr64 (by omega) (by omega)
 have x2:wr .i64 (2*(n-i))=2*(n-i):=wr64 (by omega) (by omega)
 have x3:wr .i64 (2*(n-i)+v)=r:=by rw[hr];exact wr64 (by omega) (by omega)
 have x4:wr .i64 (0-r)=-r:=by rw[wri' (by omega) (by omega)];omega
 have t1:=at_eq (x:=-r) (y:=-r) (by omega) (by omega)
 have t2:=at_eq (x:=r) (y:=-r) (by omega) (by omega)
 have t3:=at_eq (x:=r) (y:=r) (by omega) (by omega)
 have t4:=at_eq (x:=-r) (y:=r) (by omega) (by omega)
 obtain⟨u,a2,e2,u0,u1,D2⟩:=s_Next D1 (n:=9) (by omega) (by omega)
 have sq:∀{m:List (Int×Int)},(∀p∈m,p=(-r,-r)∨p=(r,-r)∨p=(r,r)∨p=(-r,r))→SqB r m:=fun h p hp=>by
  rcases h p hp with rfl | rfl | rfl | rfl <;> exact⟨by dsimp only;omega,by dsimp only;omega⟩
 unfold u_brepkernellaw21_rings_l0
 simp -implicitDefEqProofs only[ltI_eq,decide_eq_true hin,cond_true,e1,obS,subI_eq,mulI_eq,addI_eq,modI_eq,x1,x2,x3,x4,t1,t2,t3,t4,wT_def,eqI_eq]
 by_cases h1:i.tmod 2=1
 ·simp -implicitDefEqProofs only[decide_eq_true h1,cond_true,len4,ch43,ch41,ix3,ix1,st1,st3,obS,w0,w1,w2,w3,w4,w5,w6,w7,w8,updW,onS_l,e2]
  by_cases h2:u=8
  ·simp -implicitDefEqProofs only[decide_eq_true h2,cond_true,len4,ch43,ch41,ix3,ix1,st1,st3,obS,w0,w1,w2,w3,w4,w5,w6,w7,w8,updW,onS_l]
   exact ring_end (m:=[(-r,-r),(r,-r),(r,r),(-r,r)]) D2 hi hn (r:=r) (by omega) hl rfl (sq (by simp)) hin
  ·simp -implicitDefEqProofs only[decide_eq_false h2,cond_false,len4,obS,onS_l]
   exact ring_end (m:=[(-r,-r),(-r,r),(r,r),(r,-r)]) D2 hi hn (r:=r) (by omega) hl rfl (sq (by simp)) hin
 ·simp -implicitDefEqProofs only[decide_eq_false h1,cond_false,obS,onS_l,e2]
  by_cases h2:u=8
  ·simp -implicitDefEqProofs only[decide_eq_true h2,cond_true,len4,ch43,ch41,ix3,ix1,st1,st3,obS,w0,w1,w2,w3,w4,w5,w6,w7,w8,updW,onS_l]
   exact ring_end (m:=[(-r,-r),(-r,r),(r,r),(r,-r)]) D2 hi hn (r:=r) (by omega) hl rfl (sq (by simp)) hin
  ·simp -implicitDefEqProofs only[decide_eq_false h2,cond_false,len4,obS,onS_l]
   exact ring_end (m:=[(-r,-r),(r,-r),(r,r),(-r,r)]) D2 hi hn (r:=r) (by omega) hl rfl (sq (by simp)) hin
end Go.Eng.Rt
namespace Go.Eng.Rt
open Go.Eng Go.Eng.Tw Go.Eng.Tm
theorem lT_sl(l:List (Int×Int)):T.sl? 9 (T.cell (lT l) 0)=some (l.map wT):=T_sl 9 _
theorem lT_rw(l:List (Int×Int)):T.rw? 9 (T.cell (lT l) 0)=some (l.map wT):=T_rw (by decide) (lT_sl l)
theorem lT_len(l:List (Int×Int)):T.len? (T.cell (lT l) 0)=some (l.length:Int):=by
 show (if (9:Nat)<1000000000 then some (lenL (l.map wT)) else none)=_
 rw[if_pos (by decide),lenL_eq,List.length_map]
theorem lT_upd(x l:List (Int×Int)):T.upd 1 (lT x) 0 [T.sl 9 (l.map wT)]=lT l:=by unfold T.upd;rfl
theorem ixL{ls:List (List (Int×Int))}{k:Nat}(h:k<ls.length):idxN (ls.map lT) k=some (lT (ls.getD k [])):=by
 rw[idxN_eq,List.getElem?_map,List.getElem?_eq_getElem h,List.getD_eq_getElem?_getD,List.getElem?_eq_getElem h];rfl
theorem ixZ{ls:List (List (Int×Int))}{k:Nat}(h:k<ls.length):idxL (ls.map lT) (k:Int)=some (lT (ls.getD k [])):=by
 rw[idxL_nat,←idxN_eq];exact ixL h
theorem chL{N k:Nat}(h:k<N):chkI (N:Int) (k:Int)=some k:=chkI_nat (by omega)
theorem getD_mem{ls:List (List (Int×Int))}{k:Nat}(h:k<ls.length):ls.getD k []∈ls:=by
 rw[List.getD_eq_getElem?_getD,List.getElem?_eq_getElem h];exact List.getElem_mem h
theorem rings_loop{L:List T}{n:Int}(hn:n≤4):∀(k:Nat) (i a:Int) (ls:List (List (Int×Int))),n-i=k→0≤i→(ls.length:Int)=i→DiceOK L a→AllB ls →
 ∃ls' a',loopU u_brepkernellaw21_rings_l0 ((),ls.map lT,n,i,L,a,())=some (.inl ((),ls'.map lT,n,L,a',()))∧AllB ls'∧(ls'.length:Int)=n∧DiceOK L a':=by
 intro k
 induction k with
 | zero=>
  intro i a ls hk hi hl hD hB
  refine⟨ls,a,loopU_out ?_,hB,by omega,hD⟩
  unfold u_brepkernellaw21_rings_l0
  simp only[ltI_eq,decide_eq_false (show ¬i<n by omega),cond_false]
 | succ k ih=>
  intro i a ls hk hi hl hD hB
  obtain⟨ps,a1,e1,B1,D1⟩:=ring_step hD hi (n:=n) (by omega) hn (ls:=ls) (by omega)
  rw[loopU_go e1]
  exact ih (i+1) a1 (ls++[ps]) (by omega) (by omega) (by rw[List.length_append];simp only[List.length_cons,List.length_nil];omega) D1 fun l hl2=>by
   rcases List.mem_append.1 hl2 with h | h
   ·exact hB l h
   ·rw[List.mem_singleton.1 h];exact B1
theorem mem_set2{ls:List (List (Int×Int))}{i:Nat}{x:List (Int×Int)}(hB:AllB ls)(hx:Bx x):AllB (ls.set i x):=fun l hl=>by
 rcases List.mem_or_eq_of_mem_set hl with h | h
 ·exact hB l h
 ·rw[h];exact hx
set_option maxHeartbeats 1000000 in
theorem d_rings{L:List T}{a:Int}(hD:DiceOK L a):∃ls a',u_brepkernellaw21_rings ((),L,a,())=some (ls.map lT,L,a',())∧AllB ls∧ls.length≤5:=by
 obtain⟨v0,a0,e0,l0,h0,D0⟩:=s_Next hD (n:=4) (by omega) (by omega)
 have hw:wr .i64 (1+v0)=1+v0:=wr64 (by omega) (by omega)
 obtain⟨k,hk⟩:∃k:Nat,1+v0=k:=⟨(1+v0).toNat,by omega⟩
 rw[hk] at hw
 obtain⟨ls,a1,e1,B1,hl1,D1⟩:=rings_loop (L:=L) (n:=(k:Int)) (by omega) k 0 a0 [] (by omega) (by omega) rfl D0 (fun l hl=>by cases hl)
 have e1:loopU u_brepkernellaw21_rings_l0 ((),([]:List T),(k:Int),(0:Int),L,a0,())=some (.inl ((),ls.map lT,(k:Int),L,a1,())):=e1
 have hl1:ls.length=k:=by omega
 obtain⟨v2,a2,e2,l2,h2,D2⟩:=s_Next D1 (n:=2) (by omega) (by omega)
 have fin:∀(ms:List (List (Int×Int))) (b:Int),DiceOK L b→AllB ms→ms.length≤4→∃ls a',(ob (ob (u___brepkernelmade_Dice__Next ((),(4:Int),L,b,())) fun x87=>(bif decide (x87.1=0) then (ob (u___brepkernelmade_Dice__Next ((),(9:Int),x87.2.1,x87.2.2.1,())) fun x88=>(ob (u_brepkernellaw21_at ((wr Go.IntKind.i64 (20+x88.1)),(0:Int),())) fun x89=>(ob (u_brepkernellaw21_at ((wr Go.IntKind.i64 (wr Go.IntKind.i64 (20+x88.1)+3)),(1:Int),())) fun x90=>(ob (u_brepkernellaw21_at ((wr Go.IntKind.i64 (wr Go.IntKind.i64 (20+x88.1)+1)),(4:Int),())) fun x91=>(ob (room (ms.map lT) [(T.sl 9 [(T.agg [(T.v (Go.Value.bool x89.1)),(T.sl 1 x89.2.1),(T.sl 1 x89.2.2.1),(T.v (Go.Value.bool x89.2.2.2.1)),(T.sl 1 x89.2.2.2.2.1),(T.sl 1 x89.2.2.2.2.2.1),(T.v (Go.Value.bool x89.2.2.2.2.2.2.1)),(T.sl 1 x89.2.2.2.2.2.2.2.1),(T.sl 1 x89.2.2.2.2.2.2.2.2.1)]),(T.agg [(T.v (Go.Value.bool x90.1)),(T.sl 1 x90.2.1),(T.sl 1 x90.2.2.1),(T.v (Go.Value.bool x90.2.2.2.1)),(T.sl 1 x90.2.2.2.2.1),(T.sl 1 x90.2.2.2.2.2.1),(T.v (Go.Value.bool x90.2.2.2.2.2.2.1)),(T.sl 1 x90.2.2.2.2.2.2.2.1),(T.sl 1 x90.2.2.2.2.2.2.2.2.1)]),(T.agg [(T.v (Go.Value.bool x91.1)),(T.sl 1 x91.2.1),(T.sl 1 x91.2.2.1),(T.v (Go.Value.bool x91.2.2.2.1)),(T.sl 1 x91.2.2.2.2.1),(T.sl 1 x91.2.2.2.2.2.1),(T.v (Go.Value.bool x91.2.2.2.2.2.2.1)),(T.sl 1 x91.2.2.2.2.2.2.2.1),(T.sl 1 x91.2.2.2.2.2.2.2.2.1)])])] 24) fun x92=>(some (Sum.inl (x92,x88.2.1,x88.2.2.1,())):Option ((List T×List T×Int×Unit)⊕Empty))))))) else (some (Sum.inl (ms.map lT,x87.2.1,x87.2.2.1,()))))) fun q93=>onS q93 (fun t94=>(some (t94.1,t94.2.1,t94.2.2.1,()))) fun q95=>noS q95)=some (ls.map lT,L,a',())∧AllB ls∧ls.length≤5:=by
  intro ms b Db Bm hm
  obtain⟨v3,a3,e3,l3,h3,D3⟩:=s_Next Db (n:=4) (by omega) (by omega)
  by_cases hv:v3=0
  ·obtain⟨v4,a4,e4,l4,h4,D4⟩:=s_Next D3 (n:=9) (by omega) (by omega)
   have x1:wr .i64 (20+v4)=20+v4:=wr64 (by omega) (by omega)
   have x2:wr .i64 (20+v4+3)=20+v4+3:=wr64 (by omega) (by omega)
   have x3:wr .i64 (20+v4+1)=20+v4+1:=wr64 (by omega) (by omega)
   have t1:=at_eq (x:=20+v4) (y:=0) (by omega) (by omega)
   have t2:=at_eq (x:=20+v4+3) (y:=1) (by omega) (by omega)
   have t3:=at_eq (x:=20+v4+1) (y:=4) (by omega) (by omega)
   obtain⟨tri,htri⟩:∃tri:List (Int×Int),tri=[(20+v4,0),(20+v4+3,1),(20+v4+1,4)]:=⟨_,rfl⟩
   have hr:=room_ok (l:=ms.map lT) (m:=[lT tri]) (b:=24) (by simp only[List.length_map,List.length_cons,List.length_nil];omega) (by decide)
   have hr:room (ms.map lT) [T.sl 9 [wT (20+v4,0),wT (20+v4+3,1),wT (20+v4+1,4)]] 24=some ((ms++[tri]).map lT):=by
    rw[List.map_append];rw[htri] at hr ⊢;exact hr
   have mt:∀p∈tri,(20+v4≤p.1∧p.1≤20+v4+3)∧0≤p.2∧p.2≤4:=fun p hp=>by
    rw[htri] at hp
    simp only[List.mem_cons,List.not_mem_nil,or_false] at hp
    rcases hp with rfl | rfl | rfl <;> (dsimp only;omega)
   refine⟨ms++[tri],a4,?_,fun l hl=>?_,by rw[List.length_append];simp only[List.length_cons,List.length_nil];omega⟩
   ·simp only[e3,obS,decide_eq_true hv,cond_true,e4,x1,x2,x3,t1,t2,t3,wT_def,hr,onS_l]
   ·rcases List.mem_append.1 hl with h | h
    ·exact Bm l h
    ·rw[List.mem_singleton.1 h]
     refine⟨by rw[htri];simp,fun p hp=>?_,fun p hp q hq=>?_⟩
     ·have:=mt p hp;omega
     ·have:=mt p hp;have:=mt q hq;omega
  ·refine⟨ms,a3,?_,Bm,by omega⟩
   simp only[e3,obS,decide_eq_false hv,cond_false,onS_l]
 unfold u_brepkernellaw21_rings
 simp -implicitDefEqProofs only[e0,obS,addI_eq,subI_eq,eqI_eq,hk,hw,e1,onS_l,e2]
 by_cases hv:v2=0
 ·have k0:0<ls.length:=by omega
  have k1:k-1<ls.length:=by omega
  have x1:wr .i64 ((k:Int)-1)=((k-1:Nat):Int):=by rw[wr64 (by omega) (by omega)];omega
  have hlen:lenL (ls.map lT)=(ls.length:Int):=by rw[lenL_eq,List.length_map]
  have c1:=chL k1
  have c0:chkI (ls.length:Int) 0=some 0:=chL (k:=0) k0
  have hs1:(ls.map lT).set 0 (lT (ls.getD (k-1) []))=(ls.set 0 (ls.getD (k-1) [])).map lT:=by rw[List.map_set]
  obtain⟨ms,hms⟩:∃ms,ms=ls.set 0 (ls.getD (k-1) []):=⟨_,rfl⟩
  have hml:ms.length=ls.length:=by rw[hms,List.length_set]
  have hlen2:lenL (ms.map lT)=(ls.length:Int):=by rw[lenL_eq,List.length_map,hml]
  have hs2:(ms.map lT).set (k-1) (lT (ls.getD 0 []))=(ms.set (k-1) (ls.getD 0 [])).map lT:=by rw[List.map_set]
  have i2:=ixL (ls:=ms) (k:=k-1) (by omega)
  rw[←hms] at hs1
  obtain⟨rs,a',hr,B,hl⟩:=fin (ms.set (k-1) (ls.getD 0 [])) a2 D2 (mem_set2 (by rw[hms];exact mem_set2 B1 (B1 _ (getD_mem k1))) (B1 _ (getD_mem k0))) (by rw[List.length_set];omega)
  refine⟨rs,a',?_,B,hl⟩
  simp -implicitDefEqProofs only[decide_eq_true hv,cond_true,hlen,x1,c1,obS,ixL k1,c0,ixL k0,lT_sl,lT_upd,hs1,hlen2,i2,hs2,onS_l]
  exact hr
 ·obtain⟨rs,a',hr,B,hl⟩:=fin ls a2 D2 B1 (by omega)
  refine⟨rs,a',?_,B,hl⟩
  simp -implicitDefEqProofs only[decide_eq_false hv,cond_false,obS,onS_l]
  exact hr
theorem d_loops(zs:List Int)(h:zs.length≤500):∃ls,u_brepkernellaw21_loops (zs.map intT,())=some (ls.map lT,())∧AllB ls∧ls.length≤5:=by
 have hD:DiceOK (zs.map intT) 0:=⟨zs,rfl,by omega,by omega,by omega⟩
 obtain⟨v0,a0,e0,l0,h0,D0⟩:=s_Next hD (n:=2) (by omega) (by omega)
 unfold u_brepkernellaw21_loops
 simp only[s_Roll,obS,e0,eqI_eq]
 by_cases hv:v0=0
 ·obtain⟨ls,a',e,B,hl⟩:=d_rings D0
  exact⟨ls,by simp only[decide_eq_true hv,cond_true,e,obS],B,hl⟩
 ·obtain⟨ls,a',e,B,hl⟩:=d_Loops D0
  exact⟨ls,by simp only[decide_eq_false hv,cond_false,e,obS],B,by omega⟩
end Go.Eng.Rt
namespace Go.Eng.Rt
open Go.Eng Go.Eng.Tw Go.Eng.Tm
theorem w_awake:u_brepkernellaw21_awake ()=some (true,()):=le_brepkernellaw21_awake 60 () _ (by kernel_rfl)
theorem d_Rat(n d:Int):∃q:Rat,u_brepkernelmade_Rat (n,d,())=some (c3 q ())∧Fr ((modV d 8).toNat+1) 20 q:=by
 have a0:=modV_lo n (n:=41) (by decide)
 have a1:=modV_hi n (n:=41) (by decide)
 have b0:=modV_lo d (n:=8) (by decide)
 have b1:=modV_hi d (n:=8) (by decide)
 have x1:wr .i64 (modV n 41-20)=modV n 41-20:=wri' (by omega) (by omega)
 have x2:wr .i64 (modV d 8+1)=modV d 8+1:=wr64 (by omega) (by omega)
 have e:=r_Frac (n:=modV n 41-20) (d:=modV d 8+1) (by omega) (by omega) (by omega) (by omega) (by omega)
 refine⟨fracQ (modV n 41-20) (modV d 8+1),?_,?_⟩
 ·unfold u_brepkernelmade_Rat
  simp only[s_Mod n (n:=41) (by decide) (by decide),s_Mod d (n:=8) (by decide) (by decide),obS,subI_eq,addI_eq,x1,x2,e]
 ·unfold fracQ
  have hD:(modV d 8+1).natAbs=(modV d 8).toNat+1:=by omega
  have hs:sg (decide (modV n 41-20<0) != decide (modV d 8+1<0)) (modV n 41-20).natAbs=modV n 41-20:=by
   rw[decide_eq_false (show ¬modV d 8+1<0 by omega)]
   by_cases h:modV n 41-20<0
   ·rw[decide_eq_true h];show -((modV n 41-20).natAbs:Int)=_;omega
   ·rw[decide_eq_false h];show ((modV n 41-20).natAbs:Int)=_;omega
  rw[hs,hD]
  exact(Fr.mk (by omega)).mono (by omega)
theorem bx_sm{l:List (Int×Int)}(h:Bx l):∀p∈l,SmW p:=fun p hp=>by have:=h.2.1 p hp;exact⟨by omega,by omega⟩
theorem area_fit{l:List (Int×Int)}(h:Bx l):Fit (area l:Rat):=by
 have:=psum_bnd (bx_sm h)
 have h2:=h.1
 exact(sm_int (n:=area l) (by omega)).fit
def LS(ls:List (List (Int×Int)))(px py pz:Rat)(k:Nat):List T×Unit×Int×Bool×List T×List T×Bool×List T×List T×Bool×List T×List T×Unit:=(ls.map lT,(),(k:Int),c3 px (c3 py (c3 pz ())))
set_option maxHeartbeats 1000000 in
theorem law_step{ls:List (List (Int×Int))}(hB:AllB ls)(hl:ls.length≤5){D:Nat}{px py pz:Rat}(hp:Pp D 20 px py pz){k:Nat}(hk:k<ls.length):u_brepkernellaw21_TrimWindings_l0 (LS ls px py pz k)=some (.inl (LS ls px py pz (k+1))):=by
 have hlt:decide ((k:Int)<(ls.length:Int))=true:=decide_eq_true (by omega)
 have hw:wr .i64 ((k:Int)+1)=((k+1:Nat):Int):=by rw[wri' (by omega) (by omega)];push_cast;rfl
 have hlen:lenL (ls.map lT)=(ls.length:Int):=by rw[lenL_eq,List.length_map]
 have hi:=ixZ hk
 have hb:=hB _ (getD_mem hk)
 obtain⟨l,hle⟩:∃l,l=ls.getD k []:=⟨_,rfl⟩
 rw[←hle] at hi hb
 obtain⟨n,b,e1,e2⟩:=wind_eq hb hp
 have e3:=p_Area (bx_sm hb) hb.1
 have e4:=r_Area (bx_sm hb) hb.1
 have e5:=r_Same (area_fit hb) (area_fit hb)
 unfold u_brepkernellaw21_TrimWindings_l0 LS
 simp -implicitDefEqProofs only[ltI_eq,hlen,hlt,cond_true,hi,obS,lT_sl,e1,e2,eqI_eq,eqB_eq,decide_true,beq_self_eq_true,Bool.not_true,cond_false,e3,e4,e5,lT_len,addI_eq,hw]
 by_cases h0:0<l.length
 ·have m:=(at_mem h0).1
  have g:idxL (l.map wT) 0=some (wT (at' l 0)):=by
   rw[show (0:Int)=((0:Nat):Int) from rfl,idxL_nat,List.getElem?_map,m];rfl
  have e6:=wind_at hb h0
  rw[z3] at e6
  simp -implicitDefEqProofs only[decide_eq_true (show (0:Int)<(l.length:Int) by omega),cond_true,lT_rw,obS,g,w0,w1,w2,w3,w4,w5,w6,w7,w8,e6,cond_false,onS_l,onS_r,hw]
 ·simp -implicitDefEqProofs only[decide_eq_false (show ¬(0:Int)<(l.length:Int) by omega),cond_false,onS_l,onS_r,obS,hw]
theorem law_windings(zs:List Int)(i j m:Int):u_brepkernellaw21_TrimWindings (zs.map intT,i,j,m,())=some (true,()):=by
 unfold u_brepkernellaw21_TrimWindings
 simp only[s_Light,obS,List.length_map,w_awake]
 by_cases h:zs.length≤500
 ·obtain⟨ls,el,B,hl⟩:=d_loops zs h
  obtain⟨px,ex,fx⟩:=d_Rat i m
  obtain⟨py,ey,fy⟩:=d_Rat j m
  obtain⟨pz,ez,fz⟩:=d_Rat m 1
  have h1:(modV 1 8).toNat+1=2:=by decide
  rw[h1] at fz
  have b1:=modV_hi m (n:=8) (by decide)
  have hp:Pp ((modV m 8).toNat+1) 20 px py pz:=⟨by omega,fx,fy,fz⟩
  have hL:=loopU_for (F:=u_brepkernellaw21_TrimWindings_l0) ls.length (LS ls px py pz) fun k hk=>law_step B hl hp hk
  have hout:loopU u_brepkernellaw21_TrimWindings_l0 (LS ls px py pz ls.length)=some (.inr (.inl ())):=by
   refine loopU_out ?_
   unfold u_brepkernellaw21_TrimWindings_l0 LS
   simp only[ltI_eq,lenL_eq,List.length_map,decide_eq_false (show ¬(ls.length:Int)<(ls.length:Int) by omega),cond_false]
  rw[hout] at hL
  have hL:loopU u_brepkernellaw21_TrimWindings_l0 (ls.map lT,(),(0:Int),c3 px (c3 py (c3 pz ())))=some (.inr (.inl ())):=hL
  have ha:=p_Area (l:=[]) (fun p hp=>by cases hp) (by simp)
  have ha:u_trim_Area (([]:List T),())=some (c3 ((0:Int):Rat) ()):=ha
  have hs:sgnQ ((0:Int):Rat)=0:=sgnQ_eq.2 rfl
  simp -implicitDefEqProofs only[decide_eq_true h,Bool.not_true,cond_false,el,obS,ex,ey,ez,hL,onS_l,onS_r,ha,r_Sign,hs,eqI_eq,decide_true,cond_true]
 ·simp only[decide_eq_false h,Bool.not_false,cond_true]
end Go.Eng.Rt
