/- The functions and the laws of this seat in plain words; each statement names its conditions. -/
import Derived.Test.YtkkmmpncicdffaaGen
import Derived.Test.YtkkmmpncicdffaaEng3
set_option linter.unusedSimpArgs false
set_option linter.unusedVariables false
namespace Go.Eng
noncomputable def v_shell_loop_l0(n:Nat)(s0:(List T×List T×List T×Int×Int×Unit)):Option ((List T×List T×List T×Int×Int×Unit)⊕((Bool×Unit)⊕((List T×Unit)⊕Empty))):=
 (bif (Go.Eng.ltI s0.2.2.2.2.1 s0.2.2.2.1) then (ob (Go.Eng.idxL s0.2.2.1 s0.2.2.2.2.1) fun x1=>(ob (Go.Eng.T.int? Go.IntKind.i64 (Go.Eng.T.cell x1 0)) fun x2=>(bif (Go.Eng.ltI x2 (0:Int)) then (some (Sum.inr (Sum.inl (Bool.false,())))) else (ob (Go.Eng.T.int? Go.IntKind.i64 (Go.Eng.T.cell x1 0)) fun x3=>(bif (Go.Eng.leI (512:Int) x3) then (some (Sum.inr (Sum.inl (Bool.false,())))) else (ob (Go.Eng.T.int? Go.IntKind.i64 (Go.Eng.T.cell x1 0)) fun x4=>(ob (Go.Eng.T.one? (Go.Eng.mapGetD (Go.Eng.T.v (Go.Value.int Go.IntKind.i64 x4)) s0.2.1 (Go.Eng.T.v (Go.Value.bool Bool.false)))) fun x5=>(ob (Go.Eng.T.bool? x5) fun x6=>(bif x6 then (some (Sum.inr (Sum.inl (Bool.false,())))) else (ob (Go.Eng.T.int? Go.IntKind.i64 (Go.Eng.T.cell x1 0)) fun x7=>(some (Sum.inl (s0.1,(Go.Eng.mapPut (Go.Eng.T.v (Go.Value.int Go.IntKind.i64 x7)) (Go.Eng.T.v (Go.Value.bool Bool.true)) s0.2.1),s0.2.2.1,s0.2.2.2.1,(Go.Eng.wr Go.IntKind.i64 (Go.Eng.addI s0.2.2.2.2.1 (1:Int))),()))))))))))))) else (some (Sum.inr (Sum.inr (Sum.inl (s0.1,()))))))
theorem le_shell_loop_l0(n:Nat)(s0:(List T×List T×List T×Int×Int×Unit)):Le (v_shell_loop_l0 n s0) (u_shell_loop_l0 s0):=by
 unfold v_shell_loop_l0 u_shell_loop_l0
 repeat' first
  | with_reducible refine le_cond ?_ ?_
  | with_reducible refine le_onS (fun _=>?_) fun _=>?_
  | with_reducible refine le_ob ?_ fun _=>?_
  | with_reducible refine le_both ?_ ?_
  | with_reducible exact le_rfl
noncomputable def v_shell_loop(n:Nat)(t:((List T)×Unit)):Option (Bool×Unit):=
 (ob (iter (v_shell_loop_l0 n) n (t.1,[],t.1,(Go.Eng.lenL t.1),(0:Int),())) fun q8=>onS q8 (fun t9=>(some (t9.1,()))) fun q10=>onS q10 (fun t11=>(bif (Go.Eng.leI (3:Int) (Go.Eng.lenL t11.1)) then (some ((Go.Eng.leI (Go.Eng.lenL t11.1) (64:Int)),())) else (some (Bool.false,())))) fun q12=>noS q12)
theorem le_shell_loop(n:Nat)(t:((List T)×Unit)):Le (v_shell_loop n t) (u_shell_loop t):=by
 unfold v_shell_loop u_shell_loop
 repeat' first
  | with_reducible refine le_cond ?_ ?_
  | with_reducible refine le_onS (fun _=>?_) fun _=>?_
  | with_reducible refine le_ob ?_ fun _=>?_
  | with_reducible refine le_both ?_ ?_
  | with_reducible exact le_rfl
  | with_reducible exact le_loop (fun s=>le_shell_loop_l0 n s) _ _
noncomputable def v_shell_Valid_l1(n:Nat)(s5:(List T×Int×Int×T×Int×Int×Unit)):Option ((List T×Int×Int×T×Int×Int×Unit)⊕((Bool×Unit)⊕((List T×Int×Int×Unit)⊕Empty))):=
 (bif (Go.Eng.ltI s5.2.2.2.2.2.1 s5.2.2.2.2.1) then (ob (Go.Eng.T.rw? 1 s5.2.2.2.1) fun x6=>(ob (Go.Eng.idxL x6 s5.2.2.2.2.2.1) fun x7=>(ob (Go.Eng.T.sl? 1 (Go.Eng.T.cell x7 0)) fun x8=>(ob (Go.Eng.v_shell_loop n (x8,())) fun x9=>(bif (Bool.not x9.1) then (some (Sum.inr (Sum.inl (Bool.false,())))) else (some (Sum.inl (s5.1,s5.2.1,s5.2.2.1,s5.2.2.2.1,s5.2.2.2.2.1,(Go.Eng.wr Go.IntKind.i64 (Go.Eng.addI s5.2.2.2.2.2.1 (1:Int))),())))))))) else (some (Sum.inr (Sum.inr (Sum.inl (s5.1,s5.2.1,s5.2.2.1,()))))))
theorem le_shell_Valid_l1(n:Nat)(s5:(List T×Int×Int×T×Int×Int×Unit)):Le (v_shell_Valid_l1 n s5) (u_shell_Valid_l1 s5):=by
 unfold v_shell_Valid_l1 u_shell_Valid_l1
 repeat' first
  | with_reducible refine le_cond ?_ ?_
  | with_reducible refine le_onS (fun _=>?_) fun _=>?_
  | with_reducible refine le_ob ?_ fun _=>?_
  | with_reducible refine le_both ?_ ?_
  | with_reducible exact le_rfl
  | with_reducible exact le_shell_loop n _
noncomputable def v_shell_Valid_l0(n:Nat)(s0:(List T×Int×Int×Unit)):Option ((List T×Int×Int×Unit)⊕((Bool×Unit)⊕((Unit)⊕Empty))):=
 (bif (Go.Eng.ltI s0.2.2.1 s0.2.1) then (ob (Go.Eng.idxL s0.1 s0.2.2.1) fun x1=>(ob (Go.Eng.T.len? (Go.Eng.T.cell x1 0)) fun x2=>(bif (Go.Eng.ltI x2 (1:Int)) then (some (Sum.inr (Sum.inl (Bool.false,())))) else (ob (Go.Eng.T.len? (Go.Eng.T.cell x1 0)) fun x3=>(bif (Go.Eng.ltI (16:Int) x3) then (some (Sum.inr (Sum.inl (Bool.false,())))) else (ob (Go.Eng.T.len? (Go.Eng.T.cell x1 0)) fun x4=>(ob (iter (v_shell_Valid_l1 n) n (s0.1,s0.2.1,s0.2.2.1,(Go.Eng.T.cell x1 0),x4,(0:Int),())) fun q10=>onS q10 (fun t11=>(some (Sum.inr (Sum.inl (t11.1,()))))) fun q12=>onS q12 (fun t13=>(some (Sum.inl (t13.1,t13.2.1,(Go.Eng.wr Go.IntKind.i64 (Go.Eng.addI t13.2.2.1 (1:Int))),())))) fun q14=>noS q14))))))) else (some (Sum.inr (Sum.inr (Sum.inl ())))))
theorem le_shell_Valid_l0(n:Nat)(s0:(List T×Int×Int×Unit)):Le (v_shell_Valid_l0 n s0) (u_shell_Valid_l0 s0):=by
 unfold v_shell_Valid_l0 u_shell_Valid_l0
 repeat' first
  | with_reducible refine le_cond ?_ ?_
  | with_reducible refine le_onS (fun _=>?_) fun _=>?_
  | with_reducible refine le_ob ?_ fun _=>?_
  | with_reducible refine le_both ?_ ?_
  | with_reducible exact le_rfl
  | with_reducible exact le_loop (fun s=>le_shell_Valid_l1 n s) _ _
noncomputable def v_shell_Valid(n:Nat)(t:((List T)×Unit)):Option (Bool×Unit):=
 (bif (Go.Eng.ltI (256:Int) (Go.Eng.lenL t.1)) then (some (Bool.false,())) else (ob (iter (v_shell_Valid_l0 n) n (t.1,(Go.Eng.lenL t.1),(0:Int),())) fun q15=>onS q15 (fun t16=>(some (t16.1,()))) fun q17=>onS q17 (fun t18=>(some (Bool.true,()))) fun q19=>noS q19))
theorem le_shell_Valid(n:Nat)(t:((List T)×Unit)):Le (v_shell_Valid n t) (u_shell_Valid t):=by
 unfold v_shell_Valid u_shell_Valid
 repeat' first
  | with_reducible refine le_cond ?_ ?_
  | with_reducible refine le_onS (fun _=>?_) fun _=>?_
  | with_reducible refine le_ob ?_ fun _=>?_
  | with_reducible refine le_both ?_ ?_
  | with_reducible exact le_rfl
  | with_reducible exact le_loop (fun s=>le_shell_Valid_l0 n s) _ _
noncomputable def v__shell_edge__back(n:Nat)(t:(Int×Int×Unit)):Option (Int×Int×Unit):=
 (some (t.2.1,t.1,()))
theorem le__shell_edge__back(n:Nat)(t:(Int×Int×Unit)):Le (v__shell_edge__back n t) (u__shell_edge__back t):=by
 unfold v__shell_edge__back u__shell_edge__back
 repeat' first
  | with_reducible refine le_cond ?_ ?_
  | with_reducible refine le_onS (fun _=>?_) fun _=>?_
  | with_reducible refine le_ob ?_ fun _=>?_
  | with_reducible refine le_both ?_ ?_
  | with_reducible exact le_rfl
noncomputable def v_shell_counts_1(n:Nat)(t:(Int×Int×Int×Int×Int×Unit×(List T)×Unit)):Option ((List T)×Unit):=
 (ob (Go.Eng.T.one? (Go.Eng.mapGetD (Go.Eng.T.agg [(Go.Eng.T.v (Go.Value.int Go.IntKind.i64 t.2.2.2.1)),(Go.Eng.T.v (Go.Value.int Go.IntKind.i64 t.2.2.2.2.1))]) t.2.2.2.2.2.2.1 (Go.Eng.T.v (Go.Value.int Go.IntKind.i64 (0:Int))))) fun x0=>(ob (Go.Eng.T.int? Go.IntKind.i64 x0) fun x1=>(ob (Go.Eng.T.one? (Go.Eng.mapGetD (Go.Eng.T.agg [(Go.Eng.T.v (Go.Value.int Go.IntKind.i64 t.2.2.2.1)),(Go.Eng.T.v (Go.Value.int Go.IntKind.i64 t.2.2.2.2.1))]) t.2.2.2.2.2.2.1 (Go.Eng.T.v (Go.Value.int Go.IntKind.i64 (0:Int))))) fun x2=>(ob (Go.Eng.mapSetV (Go.Eng.mapIdx (Go.Eng.T.agg [(Go.Eng.T.v (Go.Value.int Go.IntKind.i64 t.2.2.2.1)),(Go.Eng.T.v (Go.Value.int Go.IntKind.i64 t.2.2.2.2.1))]) t.2.2.2.2.2.2.1) (Go.Eng.T.v (Go.Value.int Go.IntKind.i64 (Go.Eng.wr Go.IntKind.i64 (Go.Eng.addI x1 (1:Int))))) (Go.Eng.mapEnt (Go.Eng.T.agg [(Go.Eng.T.v (Go.Value.int Go.IntKind.i64 t.2.2.2.1)),(Go.Eng.T.v (Go.Value.int Go.IntKind.i64 t.2.2.2.2.1))]) (Go.Eng.T.v (Go.Value.int Go.IntKind.i64 (0:Int))) t.2.2.2.2.2.2.1)) fun x3=>(some (x3,()))))))
theorem le_shell_counts_1(n:Nat)(t:(Int×Int×Int×Int×Int×Unit×(List T)×Unit)):Le (v_shell_counts_1 n t) (u_shell_counts_1 t):=by
 unfold v_shell_counts_1 u_shell_counts_1
 repeat' first
  | with_reducible refine le_cond ?_ ?_
  | with_reducible refine le_onS (fun _=>?_) fun _=>?_
  | with_reducible refine le_ob ?_ fun _=>?_
  | with_reducible refine le_both ?_ ?_
  | with_reducible exact le_rfl
noncomputable def v_shell_each_counts_l2(n:Nat)(s7:(Unit×Int×Int×T×List T×Int×Int×T×Int×Int×T×Int×Int×List T×Unit)):Option ((Unit×Int×Int×T×List T×Int×Int×T×Int×Int×T×Int×Int×List T×Unit)⊕((Unit×Int×List T×Int×Int×T×Int×Int×List T×Unit)⊕Empty)):=
 (bif (Go.Eng.ltI s7.2.2.2.2.2.2.2.2.2.2.2.2.1 s7.2.2.2.2.2.2.2.2.2.2.2.1) then (ob (Go.Eng.T.rw? 1 s7.2.2.2.2.2.2.2.2.2.2.1) fun x8=>(ob (Go.Eng.idxL x8 s7.2.2.2.2.2.2.2.2.2.2.2.2.1) fun x9=>(ob (Go.Eng.T.len? s7.2.2.2.1) fun x10=>(ob (Go.Eng.nz x10) fun x11=>(ob (Go.Eng.T.rw? 1 s7.2.2.2.1) fun x12=>(ob (Go.Eng.idxL x12 (Go.Eng.modI (Go.Eng.wr Go.IntKind.i64 (Go.Eng.addI s7.2.2.2.2.2.2.2.2.2.2.2.2.1 (1:Int))) x11)) fun x13=>(ob (Go.Eng.T.int? Go.IntKind.i64 (Go.Eng.T.cell x9 0)) fun x14=>(ob (Go.Eng.T.int? Go.IntKind.i64 (Go.Eng.T.cell x13 0)) fun x15=>(ob (Go.Eng.v_shell_counts_1 n (s7.2.1,s7.2.2.1,s7.2.2.2.2.2.2.2.2.2.2.2.2.1,x14,x15,(),s7.2.2.2.2.2.2.2.2.2.2.2.2.2.1,())) fun x16=>(some (Sum.inl ((),s7.2.1,s7.2.2.1,s7.2.2.2.1,s7.2.2.2.2.1,s7.2.2.2.2.2.1,s7.2.2.2.2.2.2.1,s7.2.2.2.2.2.2.2.1,s7.2.2.2.2.2.2.2.2.1,s7.2.2.2.2.2.2.2.2.2.1,s7.2.2.2.2.2.2.2.2.2.2.1,s7.2.2.2.2.2.2.2.2.2.2.2.1,(Go.Eng.wr Go.IntKind.i64 (Go.Eng.addI s7.2.2.2.2.2.2.2.2.2.2.2.2.1 (1:Int))),x16.1,())))))))))))) else (some (Sum.inr (Sum.inl ((),s7.2.1,s7.2.2.2.2.1,s7.2.2.2.2.2.1,s7.2.2.2.2.2.2.1,s7.2.2.2.2.2.2.2.1,s7.2.2.2.2.2.2.2.2.1,s7.2.2.2.2.2.2.2.2.2.1,s7.2.2.2.2.2.2.2.2.2.2.2.2.2.1,())))))
theorem le_shell_each_counts_l2(n:Nat)(s7:(Unit×Int×Int×T×List T×Int×Int×T×Int×Int×T×Int×Int×List T×Unit)):Le (v_shell_each_counts_l2 n s7) (u_shell_each_counts_l2 s7):=by
 unfold v_shell_each_counts_l2 u_shell_each_counts_l2
 repeat' first
  | with_reducible refine le_cond ?_ ?_
  | with_reducible refine le_onS (fun _=>?_) fun _=>?_
  | with_reducible refine le_ob ?_ fun _=>?_
  | with_reducible refine le_both ?_ ?_
  | with_reducible exact le_rfl
  | with_reducible exact le_shell_counts_1 n _
noncomputable def v_shell_each_counts_l1(n:Nat)(s3:(Unit×Int×List T×Int×Int×T×Int×Int×List T×Unit)):Option ((Unit×Int×List T×Int×Int×T×Int×Int×List T×Unit)⊕((Unit×List T×Int×Int×List T×Unit)⊕Empty)):=
 (bif (Go.Eng.ltI s3.2.2.2.2.2.2.2.1 s3.2.2.2.2.2.2.1) then (ob (Go.Eng.T.rw? 1 s3.2.2.2.2.2.1) fun x4=>(ob (Go.Eng.idxL x4 s3.2.2.2.2.2.2.2.1) fun x5=>(ob (Go.Eng.T.len? (Go.Eng.T.cell x5 0)) fun x6=>(ob (iter (v_shell_each_counts_l2 n) n ((),s3.2.1,s3.2.2.2.2.2.2.2.1,(Go.Eng.T.cell x5 0),s3.2.2.1,s3.2.2.2.1,s3.2.2.2.2.1,s3.2.2.2.2.2.1,s3.2.2.2.2.2.2.1,s3.2.2.2.2.2.2.2.1,(Go.Eng.T.cell x5 0),x6,(0:Int),s3.2.2.2.2.2.2.2.2.1,())) fun q17=>onS q17 (fun t18=>(some (Sum.inl ((),t18.2.1,t18.2.2.1,t18.2.2.2.1,t18.2.2.2.2.1,t18.2.2.2.2.2.1,t18.2.2.2.2.2.2.1,(Go.Eng.wr Go.IntKind.i64 (Go.Eng.addI t18.2.2.2.2.2.2.2.1 (1:Int))),t18.2.2.2.2.2.2.2.2.1,())))) fun q19=>noS q19)))) else (some (Sum.inr (Sum.inl ((),s3.2.2.1,s3.2.2.2.1,s3.2.2.2.2.1,s3.2.2.2.2.2.2.2.2.1,())))))
theorem le_shell_each_counts_l1(n:Nat)(s3:(Unit×Int×List T×Int×Int×T×Int×Int×List T×Unit)):Le (v_shell_each_counts_l1 n s3) (u_shell_each_counts_l1 s3):=by
 unfold v_shell_each_counts_l1 u_shell_each_counts_l1
 repeat' first
  | with_reducible refine le_cond ?_ ?_
  | with_reducible refine le_onS (fun _=>?_) fun _=>?_
  | with_reducible refine le_ob ?_ fun _=>?_
  | with_reducible refine le_both ?_ ?_
  | with_reducible exact le_rfl
  | with_reducible exact le_loop (fun s=>le_shell_each_counts_l2 n s) _ _
noncomputable def v_shell_each_counts_l0(n:Nat)(s0:(Unit×List T×Int×Int×List T×Unit)):Option ((Unit×List T×Int×Int×List T×Unit)⊕((List T×Unit)⊕Empty)):=
 (bif (Go.Eng.ltI s0.2.2.2.1 s0.2.2.1) then (ob (Go.Eng.idxL s0.2.1 s0.2.2.2.1) fun x1=>(ob (Go.Eng.T.len? (Go.Eng.T.cell x1 0)) fun x2=>(ob (iter (v_shell_each_counts_l1 n) n ((),s0.2.2.2.1,s0.2.1,s0.2.2.1,s0.2.2.2.1,(Go.Eng.T.cell x1 0),x2,(0:Int),s0.2.2.2.2.1,())) fun q20=>onS q20 (fun t21=>(some (Sum.inl ((),t21.2.1,t21.2.2.1,(Go.Eng.wr Go.IntKind.i64 (Go.Eng.addI t21.2.2.2.1 (1:Int))),t21.2.2.2.2.1,())))) fun q22=>noS q22))) else (some (Sum.inr (Sum.inl (s0.2.2.2.2.1,())))))
theorem le_shell_each_counts_l0(n:Nat)(s0:(Unit×List T×Int×Int×List T×Unit)):Le (v_shell_each_counts_l0 n s0) (u_shell_each_counts_l0 s0):=by
 unfold v_shell_each_counts_l0 u_shell_each_counts_l0
 repeat' first
  | with_reducible refine le_cond ?_ ?_
  | with_reducible refine le_onS (fun _=>?_) fun _=>?_
  | with_reducible refine le_ob ?_ fun _=>?_
  | with_reducible refine le_both ?_ ?_
  | with_reducible exact le_rfl
  | with_reducible exact le_loop (fun s=>le_shell_each_counts_l1 n s) _ _
noncomputable def v_shell_each_counts(n:Nat)(t:((List T)×Unit×(List T)×Unit)):Option ((List T)×Unit):=
 (ob (iter (v_shell_each_counts_l0 n) n ((),t.1,(Go.Eng.lenL t.1),(0:Int),t.2.2.1,())) fun q23=>onS q23 (fun t24=>(some (t24.1,()))) fun q25=>noS q25)
theorem le_shell_each_counts(n:Nat)(t:((List T)×Unit×(List T)×Unit)):Le (v_shell_each_counts n t) (u_shell_each_counts t):=by
 unfold v_shell_each_counts u_shell_each_counts
 repeat' first
  | with_reducible refine le_cond ?_ ?_
  | with_reducible refine le_onS (fun _=>?_) fun _=>?_
  | with_reducible refine le_ob ?_ fun _=>?_
  | with_reducible refine le_both ?_ ?_
  | with_reducible exact le_rfl
  | with_reducible exact le_loop (fun s=>le_shell_each_counts_l0 n s) _ _
noncomputable def v_shell_counts(n:Nat)(t:((List T)×Unit)):Option ((List T)×Unit):=
 (ob (Go.Eng.v_shell_each_counts n (t.1,(),[],())) fun x0=>(some (x0.1,())))
theorem le_shell_counts(n:Nat)(t:((List T)×Unit)):Le (v_shell_counts n t) (u_shell_counts t):=by
 unfold v_shell_counts u_shell_counts
 repeat' first
  | with_reducible refine le_cond ?_ ?_
  | with_reducible refine le_onS (fun _=>?_) fun _=>?_
  | with_reducible refine le_ob ?_ fun _=>?_
  | with_reducible refine le_both ?_ ?_
  | with_reducible exact le_rfl
  | with_reducible exact le_shell_each_counts n _
noncomputable def v_shell_Closed_1(n:Nat)(t:(Int×Int×Int×Int×Int×Unit×Unit×(List T)×(List T)×Unit)):Option ((List T)×(List T)×Unit):=
 (ob (Go.Eng.T.one? (Go.Eng.mapGetD (Go.Eng.T.agg [(Go.Eng.T.v (Go.Value.int Go.IntKind.i64 t.2.2.2.1)),(Go.Eng.T.v (Go.Value.int Go.IntKind.i64 t.2.2.2.2.1))]) t.2.2.2.2.2.2.2.1 (Go.Eng.T.v (Go.Value.int Go.IntKind.i64 (0:Int))))) fun x0=>(ob (Go.Eng.v__shell_edge__back n (t.2.2.2.1,t.2.2.2.2.1,())) fun x1=>(ob (Go.Eng.T.one? (Go.Eng.mapGetD (Go.Eng.T.agg [(Go.Eng.T.v (Go.Value.int Go.IntKind.i64 x1.1)),(Go.Eng.T.v (Go.Value.int Go.IntKind.i64 x1.2.1))]) t.2.2.2.2.2.2.2.1 (Go.Eng.T.v (Go.Value.int Go.IntKind.i64 (0:Int))))) fun x2=>(ob (Go.Eng.T.int? Go.IntKind.i64 x0) fun x3=>(ob (Go.Eng.T.int? Go.IntKind.i64 x2) fun x4=>(bif (Go.Eng.ltI x4 x3) then (ob (Go.Eng.room t.2.2.2.2.2.2.2.2.1 [(Go.Eng.T.agg [(Go.Eng.T.v (Go.Value.int Go.IntKind.i64 (30:Int))),(Go.Eng.T.v (Go.Value.int Go.IntKind.i64 (-1:Int))),(Go.Eng.T.v (Go.Value.int Go.IntKind.i64 t.1)),(Go.Eng.T.v (Go.Value.int Go.IntKind.i64 t.2.1)),(Go.Eng.T.v (Go.Value.int Go.IntKind.i64 t.2.2.1))])] 40) fun x5=>(some (t.2.2.2.2.2.2.2.1,x5,()))) else (some (t.2.2.2.2.2.2.2.1,t.2.2.2.2.2.2.2.2.1,()))))))))
theorem le_shell_Closed_1(n:Nat)(t:(Int×Int×Int×Int×Int×Unit×Unit×(List T)×(List T)×Unit)):Le (v_shell_Closed_1 n t) (u_shell_Closed_1 t):=by
 unfold v_shell_Closed_1 u_shell_Closed_1
 repeat' first
  | with_reducible refine le_cond ?_ ?_
  | with_reducible refine le_onS (fun _=>?_) fun _=>?_
  | with_reducible refine le_ob ?_ fun _=>?_
  | with_reducible refine le_both ?_ ?_
  | with_reducible exact le_rfl
  | with_reducible exact le__shell_edge__back n _
noncomputable def v_shell_each_Closed_l2(n:Nat)(s7:(Unit×Int×Int×T×List T×Int×Int×T×Int×Int×T×Int×Int×List T×List T×Unit)):Option ((Unit×Int×Int×T×List T×Int×Int×T×Int×Int×T×Int×Int×List T×List T×Unit)⊕((Unit×Int×List T×Int×Int×T×Int×Int×List T×List T×Unit)⊕Empty)):=
 (bif (Go.Eng.ltI s7.2.2.2.2.2.2.2.2.2.2.2.2.1 s7.2.2.2.2.2.2.2.2.2.2.2.1) then (ob (Go.Eng.T.rw? 1 s7.2.2.2.2.2.2.2.2.2.2.1) fun x8=>(ob (Go.Eng.idxL x8 s7.2.2.2.2.2.2.2.2.2.2.2.2.1) fun x9=>(ob (Go.Eng.T.len? s7.2.2.2.1) fun x10=>(ob (Go.Eng.nz x10) fun x11=>(ob (Go.Eng.T.rw? 1 s7.2.2.2.1) fun x12=>(ob (Go.Eng.idxL x12 (Go.Eng.modI (Go.Eng.wr Go.IntKind.i64 (Go.Eng.addI s7.2.2.2.2.2.2.2.2.2.2.2.2.1 (1:Int))) x11)) fun x13=>(ob (Go.Eng.T.int? Go.IntKind.i64 (Go.Eng.T.cell x9 0)) fun x14=>(ob (Go.Eng.T.int? Go.IntKind.i64 (Go.Eng.T.cell x13 0)) fun x15=>(ob (Go.Eng.v_shell_Closed_1 n (s7.2.1,s7.2.2.1,s7.2.2.2.2.2.2.2.2.2.2.2.2.1,x14,x15,(),(),s7.2.2.2.2.2.2.2.2.2.2.2.2.2.1,s7.2.2.2.2.2.2.2.2.2.2.2.2.2.2.1,())) fun x16=>(some (Sum.inl ((),s7.2.1,s7.2.2.1,s7.2.2.2.1,s7.2.2.2.2.1,s7.2.2.2.2.2.1,s7.2.2.2.2.2.2.1,s7.2.2.2.2.2.2.2.1,s7.2.2.2.2.2.2.2.2.1,s7.2.2.2.2.2.2.2.2.2.1,s7.2.2.2.2.2.2.2.2.2.2.1,s7.2.2.2.2.2.2.2.2.2.2.2.1,(Go.Eng.wr Go.IntKind.i64 (Go.Eng.addI s7.2.2.2.2.2.2.2.2.2.2.2.2.1 (1:Int))),x16.1,x16.2.1,())))))))))))) else (some (Sum.inr (Sum.inl ((),s7.2.1,s7.2.2.2.2.1,s7.2.2.2.2.2.1,s7.2.2.2.2.2.2.1,s7.2.2.2.2.2.2.2.1,s7.2.2.2.2.2.2.2.2.1,s7.2.2.2.2.2.2.2.2.2.1,s7.2.2.2.2.2.2.2.2.2.2.2.2.2.1,s7.2.2.2.2.2.2.2.2.2.2.2.2.2.2.1,())))))
theorem le_shell_each_Closed_l2(n:Nat)(s7:(Unit×Int×Int×T×List T×Int×Int×T×Int×Int×T×Int×Int×List T×List T×Unit)):Le (v_shell_each_Closed_l2 n s7) (u_shell_each_Closed_l2 s7):=by
 unfold v_shell_each_Closed_l2 u_shell_each_Closed_l2
 repeat' first
  | with_reducible refine le_cond ?_ ?_
  | with_reducible refine le_onS (fun _=>?_) fun _=>?_
  | with_reducible refine le_ob ?_ fun _=>?_
  | with_reducible refine le_both ?_ ?_
  | with_reducible exact le_rfl
  | with_reducible exact le_shell_Closed_1 n _
noncomputable def v_shell_each_Closed_l1(n:Nat)(s3:(Unit×Int×List T×Int×Int×T×Int×Int×List T×List T×Unit)):Option ((Unit×Int×List T×Int×Int×T×Int×Int×List T×List T×Unit)⊕((Unit×List T×Int×Int×List T×List T×Unit)⊕Empty)):=
 (bif (Go.Eng.ltI s3.2.2.2.2.2.2.2.1 s3.2.2.2.2.2.2.1) then (ob (Go.Eng.T.rw? 1 s3.2.2.2.2.2.1) fun x4=>(ob (Go.Eng.idxL x4 s3.2.2.2.2.2.2.2.1) fun x5=>(ob (Go.Eng.T.len? (Go.Eng.T.cell x5 0)) fun x6=>(ob (iter (v_shell_each_Closed_l2 n) n ((),s3.2.1,s3.2.2.2.2.2.2.2.1,(Go.Eng.T.cell x5 0),s3.2.2.1,s3.2.2.2.1,s3.2.2.2.2.1,s3.2.2.2.2.2.1,s3.2.2.2.2.2.2.1,s3.2.2.2.2.2.2.2.1,(Go.Eng.T.cell x5 0),x6,(0:Int),s3.2.2.2.2.2.2.2.2.1,s3.2.2.2.2.2.2.2.2.2.1,())) fun q17=>onS q17 (fun t18=>(some (Sum.inl ((),t18.2.1,t18.2.2.1,t18.2.2.2.1,t18.2.2.2.2.1,t18.2.2.2.2.2.1,t18.2.2.2.2.2.2.1,(Go.Eng.wr Go.IntKind.i64 (Go.Eng.addI t18.2.2.2.2.2.2.2.1 (1:Int))),t18.2.2.2.2.2.2.2.2.1,t18.2.2.2.2.2.2.2.2.2.1,())))) fun q19=>noS q19)))) else (some (Sum.inr (Sum.inl ((),s3.2.2.1,s3.2.2.2.1,s3.2.2.2.2.1,s3.2.2.2.2.2.2.2.2.1,s3.2.2.2.2.2.2.2.2.2.1,())))))
theorem le_shell_each_Closed_l1(n:Nat)(s3:(Unit×Int×List T×Int×Int×T×Int×Int×List T×List T×Unit)):Le (v_shell_each_Closed_l1 n s3) (u_shell_each_Closed_l1 s3):=by
 unfold v_shell_each_Closed_l1 u_shell_each_Closed_l1
 repeat' first
  | with_reducible refine le_cond ?_ ?_
  | with_reducible refine le_onS (fun _=>?_) fun _=>?_
  | with_reducible refine le_ob ?_ fun _=>?_
  | with_reducible refine le_both ?_ ?_
  | with_reducible exact le_rfl
  | with_reducible exact le_loop (fun s=>le_shell_each_Closed_l2 n s) _ _
noncomputable def v_shell_each_Closed_l0(n:Nat)(s0:(Unit×List T×Int×Int×List T×List T×Unit)):Option ((Unit×List T×Int×Int×List T×List T×Unit)⊕((List T×List T×Unit)⊕Empty)):=
 (bif (Go.Eng.ltI s0.2.2.2.1 s0.2.2.1) then (ob (Go.Eng.idxL s0.2.1 s0.2.2.2.1) fun x1=>(ob (Go.Eng.T.len? (Go.Eng.T.cell x1 0)) fun x2=>(ob (iter (v_shell_each_Closed_l1 n) n ((),s0.2.2.2.1,s0.2.1,s0.2.2.1,s0.2.2.2.1,(Go.Eng.T.cell x1 0),x2,(0:Int),s0.2.2.2.2.1,s0.2.2.2.2.2.1,())) fun q20=>onS q20 (fun t21=>(some (Sum.inl ((),t21.2.1,t21.2.2.1,(Go.Eng.wr Go.IntKind.i64 (Go.Eng.addI t21.2.2.2.1 (1:Int))),t21.2.2.2.2.1,t21.2.2.2.2.2.1,())))) fun q22=>noS q22))) else (some (Sum.inr (Sum.inl (s0.2.2.2.2.1,s0.2.2.2.2.2.1,())))))
theorem le_shell_each_Closed_l0(n:Nat)(s0:(Unit×List T×Int×Int×List T×List T×Unit)):Le (v_shell_each_Closed_l0 n s0) (u_shell_each_Closed_l0 s0):=by
 unfold v_shell_each_Closed_l0 u_shell_each_Closed_l0
 repeat' first
  | with_reducible refine le_cond ?_ ?_
  | with_reducible refine le_onS (fun _=>?_) fun _=>?_
  | with_reducible refine le_ob ?_ fun _=>?_
  | with_reducible refine le_both ?_ ?_
  | with_reducible exact le_rfl
  | with_reducible exact le_loop (fun s=>le_shell_each_Closed_l1 n s) _ _
noncomputable def v_shell_each_Closed(n:Nat)(t:((List T)×Unit×(List T)×(List T)×Unit)):Option ((List T)×(List T)×Unit):=
 (ob (iter (v_shell_each_Closed_l0 n) n ((),t.1,(Go.Eng.lenL t.1),(0:Int),t.2.2.1,t.2.2.2.1,())) fun q23=>onS q23 (fun t24=>(some (t24.1,t24.2.1,()))) fun q25=>noS q25)
theorem le_shell_each_Closed(n:Nat)(t:((List T)×Unit×(List T)×(List T)×Unit)):Le (v_shell_each_Closed n t) (u_shell_each_Closed t):=by
 unfold v_shell_each_Closed u_shell_each_Closed
 repeat' first
  | with_reducible refine le_cond ?_ ?_
  | with_reducible refine le_onS (fun _=>?_) fun _=>?_
  | with_reducible refine le_ob ?_ fun _=>?_
  | with_reducible refine le_both ?_ ?_
  | with_reducible exact le_rfl
  | with_reducible exact le_loop (fun s=>le_shell_each_Closed_l0 n s) _ _
noncomputable def v_shell_Closed(n:Nat)(t:((List T)×Unit)):Option ((List T)×Unit):=
 (ob (Go.Eng.v_shell_Valid n (t.1,())) fun x0=>(bif (Bool.not x0.1) then (some ([(Go.Eng.T.agg [(Go.Eng.T.v (Go.Value.int Go.IntKind.i64 (1:Int))),(Go.Eng.T.v (Go.Value.int Go.IntKind.i64 (-1:Int))),(Go.Eng.T.v (Go.Value.int Go.IntKind.i64 (-1:Int))),(Go.Eng.T.v (Go.Value.int Go.IntKind.i64 (-1:Int))),(Go.Eng.T.v (Go.Value.int Go.IntKind.i64 (-1:Int)))])],())) else (ob (Go.Eng.v_shell_counts n (t.1,())) fun x1=>(ob (Go.Eng.v_shell_each_Closed n (t.1,(),x1.1,[],())) fun x2=>(some (x2.2.1,()))))))
theorem le_shell_Closed(n:Nat)(t:((List T)×Unit)):Le (v_shell_Closed n t) (u_shell_Closed t):=by
 unfold v_shell_Closed u_shell_Closed
 repeat' first
  | with_reducible refine le_cond ?_ ?_
  | with_reducible refine le_onS (fun _=>?_) fun _=>?_
  | with_reducible refine le_ob ?_ fun _=>?_
  | with_reducible refine le_both ?_ ?_
  | with_reducible exact le_rfl
  | with_reducible exact le_shell_Valid n _
  | with_reducible exact le_shell_counts n _
  | with_reducible exact le_shell_each_Closed n _
def okE(t:T):Option Int:=ob (T.parts? 2 (entKey t)) fun _=>ob (T.one? (entVal t)) fun x=>T.int? .i64 x
def leOne(t:T):Bool:=match okE t with
 | some v=>!ltI 1 v
 | none=>false
theorem man_round(t:T)(l:List T){v:Int}(h:okE t=some v):(ob (T.parts? 2 (entKey t)) fun _=>ob (T.one? (entVal t)) fun x=>ob (T.int? .i64 x) fun x7=>(bif ltI 1 x7 then some (Sum.inr (Sum.inr (Sum.inl (Bool.false,())))) else some (Sum.inl (l,())):Option ((List T×Unit)⊕(Unit⊕((Bool×Unit)⊕Empty))))) =
 if leOne t=true then some (Sum.inl (l,())) else some (Sum.inr (Sum.inr (Sum.inl (Bool.false,())))):=by
 have h0:=h
 unfold okE at h
 obtain⟨a,h1,h2⟩:=ob_some h
 obtain⟨b,h3,h4⟩:=ob_some h2
 have hl:leOne t=!ltI 1 v:=by unfold leOne;rw[h0]
 rw[h1]
 show ob (T.one? (entVal t)) _=_
 rw[h3]
 show ob (T.int? .i64 b) _=_
 rw[h4,hl]
 show (bif ltI 1 v then _ else _)=_
 cases ltI 1 v <;> rfl
theorem rng_man{R:Type}(K:(Unit⊕((Bool×Unit)⊕Empty))→Option R){rt rf:R}(hKt:K (Sum.inl ())=some rt)(hKf:K (Sum.inr (Sum.inl (Bool.false,())))=some rf):
 ∀(n:Nat) (l:List T),l.length=n→(∀t∈l,∃v,okE t=some v)→rngU u_shell_Manifold_l0 K (l,())=some (if l.all leOne=true then rt else rf)
 | 0,l,hn,_=>by
  have:l=[]:=List.eq_nil_of_length_eq_zero hn
  subst this
  refine rngU_step (by unfold u_shell_Manifold_l0 rngL;simp) fun o ho=>?_
  have ho':o=some (Sum.inr (Sum.inl ())):=by
   unfold u_shell_Manifold_l0 rngL at ho
   simpa using ho
  exact .inr ⟨_,ho',by simpa using hKt⟩
 | n+1,l,hn,hall=>by
  have hne:l≠[]:=fun e=>by subst e;simp at hn
  have hF:∀o∈u_shell_Manifold_l0 (l,()),∃i,i<l.length∧o=if leOne (l.getD i default)=true then some (Sum.inl (l.eraseIdx i,())) else some (Sum.inr (Sum.inr (Sum.inl (Bool.false,())))):=by
   intro o ho
   unfold u_shell_Manifold_l0 rngL at ho
   dsimp only at ho
   split at ho
   ·exact(hne rfl).elim
   ·obtain⟨i,hi,rfl⟩:=List.mem_map.1 ho
    have hi:=List.mem_range.1 hi
    have hm:l.getD i default∈l:=by
     rw[List.getD_eq_getElem?_getD,List.getElem?_eq_getElem hi]
     exact List.getElem_mem hi
    obtain⟨v,hv⟩:=hall _ hm
    exact⟨i,hi,man_round _ _ hv⟩
  refine rngU_step (fun e=>?_) fun o ho=>?_
  ·unfold u_shell_Manifold_l0 rngL at e
   dsimp only at e
   split at e
   ·exact hne rfl
   ·have:=congrArg List.length e
    simp at this
    exact hne this
  ·obtain⟨i,hi,rfl⟩:=hF o ho
   have hg:l.getD i default=l[i]:=by rw[List.getD_eq_getElem?_getD,List.getElem?_eq_getElem hi];rfl
   have hsplit:l.all leOne=(leOne l[i]&&(l.eraseIdx i).all leOne):=by
    rw[List.eraseIdx_eq_take_drop_succ]
    have e1:l=l.take i++l[i]::l.drop (i+1):=by rw[←List.drop_eq_getElem_cons hi,List.take_append_drop]
    conv=>lhs;rw[e1]
    simp only[List.all_append,List.all_cons]
    cases leOne l[i] <;> simp
   rw[hg]
   by_cases h1:leOne l[i]=true
   ·rw[if_pos h1]
    refine .inl ⟨_,rfl,?_⟩
    rw[rng_man K hKt hKf n (l.eraseIdx i) (by rw[List.length_eraseIdx,if_pos hi];omega) (fun t ht=>hall t (List.mem_of_mem_eraseIdx ht)),hsplit,h1,Bool.true_and]
   ·rw[if_neg h1]
    refine .inr ⟨_,rfl,?_⟩
    rw[hKf,hsplit,if_neg (by simp[h1])]
theorem e_Manifold{f:List T}{c:List T}{n:List T}(h1:u_shell_Closed (f,())=some (c,()))(h2:u_shell_counts (f,())=some (n,()))(h3:∀t∈n,∃v,okE t=some v):
 u_shell_Manifold (f,())=some (c.isEmpty&&n.all leOne,()):=by
 unfold u_shell_Manifold
 rw[h1]
 show (bif ltI 0 (lenL c) then _ else _)=_
 cases c with
 | cons a c=>
  have:ltI 0 (lenL (a::c))=true:=by simp <;> omega
  rw[this];rfl
 | nil=>
  have:ltI 0 (lenL ([]:List T))=false:=by simp
  rw[this,h2]
  show rngU _ _ _=_
  rw[rng_man _ (rt:=(true,())) (rf:=(false,())) rfl rfl n.length n rfl h3]
  cases n.all leOne <;> rfl
noncomputable def v_shell_Manifold(n:Nat)(t:((List T)×Unit)):Option (Bool×Unit):=
 ob (v_shell_Closed n (t.1,())) fun x0=>ob (v_shell_counts n (t.1,())) fun x1=>bif x1.1.all (fun t=>(okE t).isSome) then some (x0.1.isEmpty&&x1.1.all leOne,()) else none
theorem le_shell_Manifold(n:Nat)(t:((List T)×Unit)):Le (v_shell_Manifold n t) (u_shell_Manifold t):=by
 intro r hr
 unfold v_shell_Manifold at hr
 obtain⟨⟨c,⟨⟩⟩,h1,hr⟩:=ob_some hr
 obtain⟨⟨m,⟨⟩⟩,h2,hr⟩:=ob_some hr
 dsimp only at hr
 cases hb:m.all (fun t=>(okE t).isSome) with
 | false=>rw[hb] at hr;cases hr
 | true=>
  rw[hb] at hr
  cases hr
  refine e_Manifold (le_shell_Closed n _ _ h1) (le_shell_counts n _ _ h2) fun t ht=>?_
  exact Option.isSome_iff_exists.1 (List.all_eq_true.1 hb t ht)
noncomputable def v__shell_edge__line(n:Nat)(t:(Int×Int×Unit)):Option (Int×Int×Unit):=
 (some ((Go.Eng.mmI Bool.false t.1 t.2.1),(Go.Eng.mmI Bool.true t.1 t.2.1),()))
theorem le__shell_edge__line(n:Nat)(t:(Int×Int×Unit)):Le (v__shell_edge__line n t) (u__shell_edge__line t):=by
 unfold v__shell_edge__line u__shell_edge__line
 repeat' first
  | with_reducible refine le_cond ?_ ?_
  | with_reducible refine le_onS (fun _=>?_) fun _=>?_
  | with_reducible refine le_ob ?_ fun _=>?_
  | with_reducible refine le_both ?_ ?_
  | with_reducible exact le_rfl
noncomputable def v_shell_Components_1_r_l0(n:Nat)(s0:(Int×Unit×List T×Unit)):Option ((Int×Unit×List T×Unit)⊕((Int×List T×Unit)⊕Empty)):=
 (ob (Go.Eng.chkI (Go.Eng.lenL s0.2.2.1) s0.1) fun x1=>(ob (Go.Eng.idxN s0.2.2.1 x1) fun x2=>(ob (Go.Eng.T.int? Go.IntKind.i64 (Go.Eng.T.cell x2 0)) fun x3=>(bif (Bool.not (Go.Eng.eqI x3 s0.1)) then (ob (Go.Eng.chkI (Go.Eng.lenL s0.2.2.1) s0.1) fun x4=>(ob (Go.Eng.idxN s0.2.2.1 x4) fun x5=>(ob (Go.Eng.T.int? Go.IntKind.i64 (Go.Eng.T.cell x5 0)) fun x6=>(some (Sum.inl (x6,(),s0.2.2.1,())))))) else (some (Sum.inr (Sum.inl (s0.1,s0.2.2.1,()))))))))
theorem le_shell_Components_1_r_l0(n:Nat)(s0:(Int×Unit×List T×Unit)):Le (v_shell_Components_1_r_l0 n s0) (u_shell_Components_1_r_l0 s0):=by
 unfold v_shell_Components_1_r_l0 u_shell_Components_1_r_l0
 repeat' first
  | with_reducible refine le_cond ?_ ?_
  | with_reducible refine le_onS (fun _=>?_) fun _=>?_
  | with_reducible refine le_ob ?_ fun _=>?_
  | with_reducible refine le_both ?_ ?_
  | with_reducible exact le_rfl
noncomputable def v_shell_Components_1_r(n:Nat)(t:(Int×Unit×(List T)×Unit)):Option (Int×(List T)×Unit):=
 (ob (iter (v_shell_Components_1_r_l0 n) n (t.1,(),t.2.2.1,())) fun q7=>onS q7 (fun t8=>(some (t8.1,t8.2.1,()))) fun q9=>noS q9)
theorem le_shell_Components_1_r(n:Nat)(t:(Int×Unit×(List T)×Unit)):Le (v_shell_Components_1_r n t) (u_shell_Components_1_r t):=by
 unfold v_shell_Components_1_r u_shell_Components_1_r
 repeat' first
  | with_reducible refine le_cond ?_ ?_
  | with_reducible refine le_onS (fun _=>?_) fun _=>?_
  | with_reducible refine le_ob ?_ fun _=>?_
  | with_reducible refine le_both ?_ ?_
  | with_reducible exact le_rfl
  | with_reducible exact le_loop (fun s=>le_shell_Components_1_r_l0 n s) _ _
noncomputable def v_shell_Components_2(n:Nat)(t:(Int×Int×Int×Int×Int×Unit×Unit×Unit×(List T)×Unit×(List T)×Unit)):Option ((List T)×Unit×(List T)×Unit):=
 (ob (Go.Eng.v__shell_edge__line n (t.2.2.2.1,t.2.2.2.2.1,())) fun x0=>(ob (Go.Eng.T.one? (Go.Eng.mapGetD (Go.Eng.T.agg [(Go.Eng.T.v (Go.Value.int Go.IntKind.i64 x0.1)),(Go.Eng.T.v (Go.Value.int Go.IntKind.i64 x0.2.1))]) t.2.2.2.2.2.2.2.2.1 (Go.Eng.T.v (Go.Value.int Go.IntKind.i64 (0:Int))))) fun x1=>(bif (Bool.not (Go.Eng.mapHas (Go.Eng.T.agg [(Go.Eng.T.v (Go.Value.int Go.IntKind.i64 x0.1)),(Go.Eng.T.v (Go.Value.int Go.IntKind.i64 x0.2.1))]) t.2.2.2.2.2.2.2.2.1)) then (ob (Go.Eng.v__shell_edge__line n (t.2.2.2.1,t.2.2.2.2.1,())) fun x2=>(some ((Go.Eng.mapPut (Go.Eng.T.agg [(Go.Eng.T.v (Go.Value.int Go.IntKind.i64 x2.1)),(Go.Eng.T.v (Go.Value.int Go.IntKind.i64 x2.2.1))]) (Go.Eng.T.v (Go.Value.int Go.IntKind.i64 t.1)) t.2.2.2.2.2.2.2.2.1),(),t.2.2.2.2.2.2.2.2.2.2.1,()))) else (ob (Go.Eng.v_shell_Components_1_r n (t.1,(),t.2.2.2.2.2.2.2.2.2.2.1,())) fun x3=>(ob (Go.Eng.T.int? Go.IntKind.i64 x1) fun x4=>(ob (Go.Eng.v_shell_Components_1_r n (x4,(),x3.2.1,())) fun x5=>(ob (Go.Eng.chkI (Go.Eng.lenL x5.2.1) (Go.Eng.mmI Bool.true x3.1 x5.1)) fun x6=>(ob (Go.Eng.idxN x5.2.1 x6) fun x7=>(some (t.2.2.2.2.2.2.2.2.1,(),(List.set x5.2.1 x6 (Go.Eng.T.upd 1 x7 0 [(Go.Eng.T.v (Go.Value.int Go.IntKind.i64 (Go.Eng.mmI Bool.false x3.1 x5.1)))])),()))))))))))
theorem le_shell_Components_2(n:Nat)(t:(Int×Int×Int×Int×Int×Unit×Unit×Unit×(List T)×Unit×(List T)×Unit)):Le (v_shell_Components_2 n t) (u_shell_Components_2 t):=by
 unfold v_shell_Components_2 u_shell_Components_2
 repeat' first
  | with_reducible refine le_cond ?_ ?_
  | with_reducible refine le_onS (fun _=>?_) fun _=>?_
  | with_reducible refine le_ob ?_ fun _=>?_
  | with_reducible refine le_both ?_ ?_
  | with_reducible exact le_rfl
  | with_reducible exact le__shell_edge__line n _
  | with_reducible exact le_shell_Components_1_r n _
noncomputable def v_shell_each_Comp_l2(n:Nat)(s7:(Unit×Int×Int×T×List T×Int×Int×T×Int×Int×T×Int×Int×List T×Unit×List T×Unit)):Option ((Unit×Int×Int×T×List T×Int×Int×T×Int×Int×T×Int×Int×List T×Unit×List T×Unit)⊕((Unit×Int×List T×Int×Int×T×Int×Int×List T×Unit×List T×Unit)⊕Empty)):=
 (bif (Go.Eng.ltI s7.2.2.2.2.2.2.2.2.2.2.2.2.1 s7.2.2.2.2.2.2.2.2.2.2.2.1) then (ob (Go.Eng.T.rw? 1 s7.2.2.2.2.2.2.2.2.2.2.1) fun x8=>(ob (Go.Eng.idxL x8 s7.2.2.2.2.2.2.2.2.2.2.2.2.1) fun x9=>(ob (Go.Eng.T.len? s7.2.2.2.1) fun x10=>(ob (Go.Eng.nz x10) fun x11=>(ob (Go.Eng.T.rw? 1 s7.2.2.2.1) fun x12=>(ob (Go.Eng.idxL x12 (Go.Eng.modI (Go.Eng.wr Go.IntKind.i64 (Go.Eng.addI s7.2.2.2.2.2.2.2.2.2.2.2.2.1 (1:Int))) x11)) fun x13=>(ob (Go.Eng.T.int? Go.IntKind.i64 (Go.Eng.T.cell x9 0)) fun x14=>(ob (Go.Eng.T.int? Go.IntKind.i64 (Go.Eng.T.cell x13 0)) fun x15=>(ob (Go.Eng.v_shell_Components_2 n (s7.2.1,s7.2.2.1,s7.2.2.2.2.2.2.2.2.2.2.2.2.1,x14,x15,(),(),(),s7.2.2.2.2.2.2.2.2.2.2.2.2.2.1,(),s7.2.2.2.2.2.2.2.2.2.2.2.2.2.2.2.1,())) fun x16=>(some (Sum.inl ((),s7.2.1,s7.2.2.1,s7.2.2.2.1,s7.2.2.2.2.1,s7.2.2.2.2.2.1,s7.2.2.2.2.2.2.1,s7.2.2.2.2.2.2.2.1,s7.2.2.2.2.2.2.2.2.1,s7.2.2.2.2.2.2.2.2.2.1,s7.2.2.2.2.2.2.2.2.2.2.1,s7.2.2.2.2.2.2.2.2.2.2.2.1,(Go.Eng.wr Go.IntKind.i64 (Go.Eng.addI s7.2.2.2.2.2.2.2.2.2.2.2.2.1 (1:Int))),x16.1,(),x16.2.2.1,())))))))))))) else (some (Sum.inr (Sum.inl ((),s7.2.1,s7.2.2.2.2.1,s7.2.2.2.2.2.1,s7.2.2.2.2.2.2.1,s7.2.2.2.2.2.2.2.1,s7.2.2.2.2.2.2.2.2.1,s7.2.2.2.2.2.2.2.2.2.1,s7.2.2.2.2.2.2.2.2.2.2.2.2.2.1,(),s7.2.2.2.2.2.2.2.2.2.2.2.2.2.2.2.1,())))))
theorem le_shell_each_Comp_l2(n:Nat)(s7:(Unit×Int×Int×T×List T×Int×Int×T×Int×Int×T×Int×Int×List T×Unit×List T×Unit)):Le (v_shell_each_Comp_l2 n s7) (u_shell_each_Comp_l2 s7):=by
 unfold v_shell_each_Comp_l2 u_shell_each_Comp_l2
 repeat' first
  | with_reducible refine le_cond ?_ ?_
  | with_reducible refine le_onS (fun _=>?_) fun _=>?_
  | with_reducible refine le_ob ?_ fun _=>?_
  | with_reducible refine le_both ?_ ?_
  | with_reducible exact le_rfl
  | with_reducible exact le_shell_Components_2 n _
noncomputable def v_shell_each_Comp_l1(n:Nat)(s3:(Unit×Int×List T×Int×Int×T×Int×Int×List T×Unit×List T×Unit)):Option ((Unit×Int×List T×Int×Int×T×Int×Int×List T×Unit×List T×Unit)⊕((Unit×List T×Int×Int×List T×Unit×List T×Unit)⊕Empty)):=
 (bif (Go.Eng.ltI s3.2.2.2.2.2.2.2.1 s3.2.2.2.2.2.2.1) then (ob (Go.Eng.T.rw? 1 s3.2.2.2.2.2.1) fun x4=>(ob (Go.Eng.idxL x4 s3.2.2.2.2.2.2.2.1) fun x5=>(ob (Go.Eng.T.len? (Go.Eng.T.cell x5 0)) fun x6=>(ob (iter (v_shell_each_Comp_l2 n) n ((),s3.2.1,s3.2.2.2.2.2.2.2.1,(Go.Eng.T.cell x5 0),s3.2.2.1,s3.2.2.2.1,s3.2.2.2.2.1,s3.2.2.2.2.2.1,s3.2.2.2.2.2.2.1,s3.2.2.2.2.2.2.2.1,(Go.Eng.T.cell x5 0),x6,(0:Int),s3.2.2.2.2.2.2.2.2.1,(),s3.2.2.2.2.2.2.2.2.2.2.1,())) fun q17=>onS q17 (fun t18=>(some (Sum.inl ((),t18.2.1,t18.2.2.1,t18.2.2.2.1,t18.2.2.2.2.1,t18.2.2.2.2.2.1,t18.2.2.2.2.2.2.1,(Go.Eng.wr Go.IntKind.i64 (Go.Eng.addI t18.2.2.2.2.2.2.2.1 (1:Int))),t18.2.2.2.2.2.2.2.2.1,(),t18.2.2.2.2.2.2.2.2.2.2.1,())))) fun q19=>noS q19)))) else (some (Sum.inr (Sum.inl ((),s3.2.2.1,s3.2.2.2.1,s3.2.2.2.2.1,s3.2.2.2.2.2.2.2.2.1,(),s3.2.2.2.2.2.2.2.2.2.2.1,())))))
theorem le_shell_each_Comp_l1(n:Nat)(s3:(Unit×Int×List T×Int×Int×T×Int×Int×List T×Unit×List T×Unit)):Le (v_shell_each_Comp_l1 n s3) (u_shell_each_Comp_l1 s3):=by
 unfold v_shell_each_Comp_l1 u_shell_each_Comp_l1
 repeat' first
  | with_reducible refine le_cond ?_ ?_
  | with_reducible refine le_onS (fun _=>?_) fun _=>?_
  | with_reducible refine le_ob ?_ fun _=>?_
  | with_reducible refine le_both ?_ ?_
  | with_reducible exact le_rfl
  | with_reducible exact le_loop (fun s=>le_shell_each_Comp_l2 n s) _ _
noncomputable def v_shell_each_Comp_l0(n:Nat)(s0:(Unit×List T×Int×Int×List T×Unit×List T×Unit)):Option ((Unit×List T×Int×Int×List T×Unit×List T×Unit)⊕((List T×Unit×List T×Unit)⊕Empty)):=
 (bif (Go.Eng.ltI s0.2.2.2.1 s0.2.2.1) then (ob (Go.Eng.idxL s0.2.1 s0.2.2.2.1) fun x1=>(ob (Go.Eng.T.len? (Go.Eng.T.cell x1 0)) fun x2=>(ob (iter (v_shell_each_Comp_l1 n) n ((),s0.2.2.2.1,s0.2.1,s0.2.2.1,s0.2.2.2.1,(Go.Eng.T.cell x1 0),x2,(0:Int),s0.2.2.2.2.1,(),s0.2.2.2.2.2.2.1,())) fun q20=>onS q20 (fun t21=>(some (Sum.inl ((),t21.2.1,t21.2.2.1,(Go.Eng.wr Go.IntKind.i64 (Go.Eng.addI t21.2.2.2.1 (1:Int))),t21.2.2.2.2.1,(),t21.2.2.2.2.2.2.1,())))) fun q22=>noS q22))) else (some (Sum.inr (Sum.inl (s0.2.2.2.2.1,(),s0.2.2.2.2.2.2.1,())))))
theorem le_shell_each_Comp_l0(n:Nat)(s0:(Unit×List T×Int×Int×List T×Unit×List T×Unit)):Le (v_shell_each_Comp_l0 n s0) (u_shell_each_Comp_l0 s0):=by
 unfold v_shell_each_Comp_l0 u_shell_each_Comp_l0
 repeat' first
  | with_reducible refine le_cond ?_ ?_
  | with_reducible refine le_onS (fun _=>?_) fun _=>?_
  | with_reducible refine le_ob ?_ fun _=>?_
  | with_reducible refine le_both ?_ ?_
  | with_reducible exact le_rfl
  | with_reducible exact le_loop (fun s=>le_shell_each_Comp_l1 n s) _ _
noncomputable def v_shell_each_Comp(n:Nat)(t:((List T)×Unit×(List T)×Unit×(List T)×Unit)):Option ((List T)×Unit×(List T)×Unit):=
 (ob (iter (v_shell_each_Comp_l0 n) n ((),t.1,(Go.Eng.lenL t.1),(0:Int),t.2.2.1,(),t.2.2.2.2.1,())) fun q23=>onS q23 (fun t24=>(some (t24.1,(),t24.2.2.1,()))) fun q25=>noS q25)
theorem le_shell_each_Comp(n:Nat)(t:((List T)×Unit×(List T)×Unit×(List T)×Unit)):Le (v_shell_each_Comp n t) (u_shell_each_Comp t):=by
 unfold v_shell_each_Comp u_shell_each_Comp
 repeat' first
  | with_reducible refine le_cond ?_ ?_
  | with_reducible refine le_onS (fun _=>?_) fun _=>?_
  | with_reducible refine le_ob ?_ fun _=>?_
  | with_reducible refine le_both ?_ ?_
  | with_reducible exact le_rfl
  | with_reducible exact le_loop (fun s=>le_shell_each_Comp_l0 n s) _ _
noncomputable def v_shell_Components_l0(n:Nat)(s2:(List T×Unit×Int×Int×List T×Unit)):Option ((List T×Unit×Int×Int×List T×Unit)⊕((List T×Unit×List T×Unit)⊕Empty)):=
 (bif (Go.Eng.ltI s2.2.2.2.1 s2.2.2.1) then (ob (Go.Eng.chkI (Go.Eng.lenL s2.2.2.2.2.1) s2.2.2.2.1) fun x3=>(ob (Go.Eng.idxN s2.2.2.2.2.1 x3) fun x4=>(some (Sum.inl (s2.1,(),s2.2.2.1,(Go.Eng.wr Go.IntKind.i64 (Go.Eng.addI s2.2.2.2.1 (1:Int))),(List.set s2.2.2.2.2.1 x3 (Go.Eng.T.upd 1 x4 0 [(Go.Eng.T.v (Go.Value.int Go.IntKind.i64 s2.2.2.2.1))])),()))))) else (some (Sum.inr (Sum.inl (s2.1,(),s2.2.2.2.2.1,())))))
theorem le_shell_Components_l0(n:Nat)(s2:(List T×Unit×Int×Int×List T×Unit)):Le (v_shell_Components_l0 n s2) (u_shell_Components_l0 s2):=by
 unfold v_shell_Components_l0 u_shell_Components_l0
 repeat' first
  | with_reducible refine le_cond ?_ ?_
  | with_reducible refine le_onS (fun _=>?_) fun _=>?_
  | with_reducible refine le_ob ?_ fun _=>?_
  | with_reducible refine le_both ?_ ?_
  | with_reducible exact le_rfl
noncomputable def v_shell_Components_l1(n:Nat)(s9:(Unit×List T×List T×Int×Int×Unit×List T×Unit)):Option ((Unit×List T×List T×Int×Int×Unit×List T×Unit)⊕((List T×Unit)⊕Empty)):=
 (bif (Go.Eng.ltI s9.2.2.2.2.1 s9.2.2.2.1) then (ob (Go.Eng.v_shell_Components_1_r n (s9.2.2.2.2.1,(),s9.2.2.2.2.2.2.1,())) fun x10=>(ob (α:=((Unit×List T×List T×Int×Int×Int×Int×Unit×List T×Unit)⊕Empty)) (ob (Go.Eng.T.one? (Go.Eng.mapGetD (Go.Eng.T.v (Go.Value.int Go.IntKind.i64 x10.1)) s9.2.2.1 (Go.Eng.T.v (Go.Value.int Go.IntKind.i64 (0:Int))))) fun x11=>(bif (Bool.not (Go.Eng.mapHas (Go.Eng.T.v (Go.Value.int Go.IntKind.i64 x10.1)) s9.2.2.1)) then (some (Sum.inl ((),s9.2.1,(Go.Eng.mapPut (Go.Eng.T.v (Go.Value.int Go.IntKind.i64 x10.1)) (Go.Eng.T.v (Go.Value.int Go.IntKind.i64 (Go.Eng.lenL s9.2.2.1))) s9.2.2.1),s9.2.2.2.2.1,x10.1,s9.2.2.2.1,s9.2.2.2.2.1,(),x10.2.1,()))) else (some (Sum.inl ((),s9.2.1,s9.2.2.1,s9.2.2.2.2.1,x10.1,s9.2.2.2.1,s9.2.2.2.2.1,(),x10.2.1,()))))) fun q12=>onS q12 (fun t13=>(ob (Go.Eng.T.one? (Go.Eng.mapGetD (Go.Eng.T.v (Go.Value.int Go.IntKind.i64 t13.2.2.2.2.1)) t13.2.2.1 (Go.Eng.T.v (Go.Value.int Go.IntKind.i64 (0:Int))))) fun x14=>(ob (Go.Eng.chkI (Go.Eng.lenL t13.2.1) t13.2.2.2.1) fun x15=>(ob (Go.Eng.T.int? Go.IntKind.i64 x14) fun x16=>(ob (Go.Eng.idxN t13.2.1 x15) fun x17=>(some (Sum.inl ((),(List.set t13.2.1 x15 (Go.Eng.T.upd 1 x17 0 [(Go.Eng.T.v (Go.Value.int Go.IntKind.i64 x16))])),t13.2.2.1,t13.2.2.2.2.2.1,(Go.Eng.wr Go.IntKind.i64 (Go.Eng.addI t13.2.2.2.2.2.2.1 (1:Int))),(),t13.2.2.2.2.2.2.2.2.1,())))))))) fun q18=>noS q18)) else (some (Sum.inr (Sum.inl (s9.2.1,())))))
theorem le_shell_Components_l1(n:Nat)(s9:(Unit×List T×List T×Int×Int×Unit×List T×Unit)):Le (v_shell_Components_l1 n s9) (u_shell_Components_l1 s9):=by
 unfold v_shell_Components_l1 u_shell_Components_l1
 repeat' first
  | with_reducible refine le_cond ?_ ?_
  | with_reducible refine le_onS (fun _=>?_) fun _=>?_
  | with_reducible refine le_ob ?_ fun _=>?_
  | with_reducible refine le_both ?_ ?_
  | with_reducible exact le_rfl
  | with_reducible exact le_shell_Components_1_r n _
noncomputable def v_shell_Components(n:Nat)(t:((List T)×Unit)):Option ((List T)×Unit):=
 (ob (Go.Eng.v_shell_Valid n (t.1,())) fun x0=>(bif (Bool.not x0.1) then (some ([],())) else (ob (Go.Eng.mkLen (Go.Eng.lenL t.1) (Go.Eng.lenL t.1) 8) fun x1=>(ob (iter (v_shell_Components_l0 n) n (t.1,(),(Go.Eng.lenL (Go.Eng.repL x1.1 (Go.Eng.T.v (Go.Value.int Go.IntKind.i64 (0:Int))))),(0:Int),(Go.Eng.repL x1.1 (Go.Eng.T.v (Go.Value.int Go.IntKind.i64 (0:Int)))),())) fun q5=>onS q5 (fun t6=>(ob (Go.Eng.v_shell_each_Comp n (t6.1,(),[],(),t6.2.2.1,())) fun x7=>(ob (Go.Eng.mkLen (Go.Eng.lenL t6.1) (Go.Eng.lenL t6.1) 8) fun x8=>(ob (iter (v_shell_Components_l1 n) n ((),(Go.Eng.repL x8.1 (Go.Eng.T.v (Go.Value.int Go.IntKind.i64 (0:Int)))),[],(Go.Eng.lenL (Go.Eng.repL x8.1 (Go.Eng.T.v (Go.Value.int Go.IntKind.i64 (0:Int))))),(0:Int),(),x7.2.2.1,())) fun q19=>onS q19 (fun t20=>(some (t20.1,()))) fun q21=>noS q21)))) fun q22=>noS q22))))
theorem le_shell_Components(n:Nat)(t:((List T)×Unit)):Le (v_shell_Components n t) (u_shell_Components t):=by
 unfold v_shell_Components u_shell_Components
 repeat' first
  | with_reducible refine le_cond ?_ ?_
  | with_reducible refine le_onS (fun _=>?_) fun _=>?_
  | with_reducible refine le_ob ?_ fun _=>?_
  | with_reducible refine le_both ?_ ?_
  | with_reducible exact le_rfl
  | with_reducible exact le_shell_Valid n _
  | with_reducible exact le_shell_each_Comp n _
  | with_reducible exact le_loop (fun s=>le_shell_Components_l0 n s) _ _
  | with_reducible exact le_loop (fun s=>le_shell_Components_l1 n s) _ _
noncomputable def v_shell_joined_1(n:Nat)(t:(Int×Int×Int×Int×Int×Unit×(List T)×Unit)):Option ((List T)×Unit):=
 (ob (Go.Eng.T.one? (Go.Eng.mapGetD (Go.Eng.T.agg [(Go.Eng.T.v (Go.Value.int Go.IntKind.i64 t.2.2.2.1)),(Go.Eng.T.v (Go.Value.int Go.IntKind.i64 t.2.2.2.2.1))]) t.2.2.2.2.2.2.1 (Go.Eng.T.v (Go.Value.int Go.IntKind.i64 (0:Int))))) fun x0=>(bif (Bool.not (Go.Eng.mapHas (Go.Eng.T.agg [(Go.Eng.T.v (Go.Value.int Go.IntKind.i64 t.2.2.2.1)),(Go.Eng.T.v (Go.Value.int Go.IntKind.i64 t.2.2.2.2.1))]) t.2.2.2.2.2.2.1)) then (ob (Go.Eng.v__shell_edge__back n (t.2.2.2.1,t.2.2.2.2.1,())) fun x1=>(some ((Go.Eng.mapPut (Go.Eng.T.agg [(Go.Eng.T.v (Go.Value.int Go.IntKind.i64 x1.1)),(Go.Eng.T.v (Go.Value.int Go.IntKind.i64 x1.2.1))]) (Go.Eng.T.v (Go.Value.int Go.IntKind.i64 (Go.Eng.wr Go.IntKind.i64 (Go.Eng.addI (Go.Eng.lenL t.2.2.2.2.2.2.1) (1:Int))))) (Go.Eng.mapPut (Go.Eng.T.agg [(Go.Eng.T.v (Go.Value.int Go.IntKind.i64 t.2.2.2.1)),(Go.Eng.T.v (Go.Value.int Go.IntKind.i64 t.2.2.2.2.1))]) (Go.Eng.T.v (Go.Value.int Go.IntKind.i64 (Go.Eng.lenL t.2.2.2.2.2.2.1))) t.2.2.2.2.2.2.1)),()))) else (some (t.2.2.2.2.2.2.1,()))))
theorem le_shell_joined_1(n:Nat)(t:(Int×Int×Int×Int×Int×Unit×(List T)×Unit)):Le (v_shell_joined_1 n t) (u_shell_joined_1 t):=by
 unfold v_shell_joined_1 u_shell_joined_1
 repeat' first
  | with_reducible refine le_cond ?_ ?_
  | with_reducible refine le_onS (fun _=>?_) fun _=>?_
  | with_reducible refine le_ob ?_ fun _=>?_
  | with_reducible refine le_both ?_ ?_
  | with_reducible exact le_rfl
  | with_reducible exact le__shell_edge__back n _
noncomputable def v_shell_each_joined_l2(n:Nat)(s7:(Unit×Int×Int×T×List T×Int×Int×T×Int×Int×T×Int×Int×List T×Unit)):Option ((Unit×Int×Int×T×List T×Int×Int×T×Int×Int×T×Int×Int×List T×Unit)⊕((Unit×Int×List T×Int×Int×T×Int×Int×List T×Unit)⊕Empty)):=
 (bif (Go.Eng.ltI s7.2.2.2.2.2.2.2.2.2.2.2.2.1 s7.2.2.2.2.2.2.2.2.2.2.2.1) then (ob (Go.Eng.T.rw? 1 s7.2.2.2.2.2.2.2.2.2.2.1) fun x8=>(ob (Go.Eng.idxL x8 s7.2.2.2.2.2.2.2.2.2.2.2.2.1) fun x9=>(ob (Go.Eng.T.len? s7.2.2.2.1) fun x10=>(ob (Go.Eng.nz x10) fun x11=>(ob (Go.Eng.T.rw? 1 s7.2.2.2.1) fun x12=>(ob (Go.Eng.idxL x12 (Go.Eng.modI (Go.Eng.wr Go.IntKind.i64 (Go.Eng.addI s7.2.2.2.2.2.2.2.2.2.2.2.2.1 (1:Int))) x11)) fun x13=>(ob (Go.Eng.T.int? Go.IntKind.i64 (Go.Eng.T.cell x9 0)) fun x14=>(ob (Go.Eng.T.int? Go.IntKind.i64 (Go.Eng.T.cell x13 0)) fun x15=>(ob (Go.Eng.v_shell_joined_1 n (s7.2.1,s7.2.2.1,s7.2.2.2.2.2.2.2.2.2.2.2.2.1,x14,x15,(),s7.2.2.2.2.2.2.2.2.2.2.2.2.2.1,())) fun x16=>(some (Sum.inl ((),s7.2.1,s7.2.2.1,s7.2.2.2.1,s7.2.2.2.2.1,s7.2.2.2.2.2.1,s7.2.2.2.2.2.2.1,s7.2.2.2.2.2.2.2.1,s7.2.2.2.2.2.2.2.2.1,s7.2.2.2.2.2.2.2.2.2.1,s7.2.2.2.2.2.2.2.2.2.2.1,s7.2.2.2.2.2.2.2.2.2.2.2.1,(Go.Eng.wr Go.IntKind.i64 (Go.Eng.addI s7.2.2.2.2.2.2.2.2.2.2.2.2.1 (1:Int))),x16.1,())))))))))))) else (some (Sum.inr (Sum.inl ((),s7.2.1,s7.2.2.2.2.1,s7.2.2.2.2.2.1,s7.2.2.2.2.2.2.1,s7.2.2.2.2.2.2.2.1,s7.2.2.2.2.2.2.2.2.1,s7.2.2.2.2.2.2.2.2.2.1,s7.2.2.2.2.2.2.2.2.2.2.2.2.2.1,())))))
theorem le_shell_each_joined_l2(n:Nat)(s7:(Unit×Int×Int×T×List T×Int×Int×T×Int×Int×T×Int×Int×List T×Unit)):Le (v_shell_each_joined_l2 n s7) (u_shell_each_joined_l2 s7):=by
 unfold v_shell_each_joined_l2 u_shell_each_joined_l2
 repeat' first
  | with_reducible refine le_cond ?_ ?_
  | with_reducible refine le_onS (fun _=>?_) fun _=>?_
  | with_reducible refine le_ob ?_ fun _=>?_
  | with_reducible refine le_both ?_ ?_
  | with_reducible exact le_rfl
  | with_reducible exact le_shell_joined_1 n _
noncomputable def v_shell_each_joined_l1(n:Nat)(s3:(Unit×Int×List T×Int×Int×T×Int×Int×List T×Unit)):Option ((Unit×Int×List T×Int×Int×T×Int×Int×List T×Unit)⊕((Unit×List T×Int×Int×List T×Unit)⊕Empty)):=
 (bif (Go.Eng.ltI s3.2.2.2.2.2.2.2.1 s3.2.2.2.2.2.2.1) then (ob (Go.Eng.T.rw? 1 s3.2.2.2.2.2.1) fun x4=>(ob (Go.Eng.idxL x4 s3.2.2.2.2.2.2.2.1) fun x5=>(ob (Go.Eng.T.len? (Go.Eng.T.cell x5 0)) fun x6=>(ob (iter (v_shell_each_joined_l2 n) n ((),s3.2.1,s3.2.2.2.2.2.2.2.1,(Go.Eng.T.cell x5 0),s3.2.2.1,s3.2.2.2.1,s3.2.2.2.2.1,s3.2.2.2.2.2.1,s3.2.2.2.2.2.2.1,s3.2.2.2.2.2.2.2.1,(Go.Eng.T.cell x5 0),x6,(0:Int),s3.2.2.2.2.2.2.2.2.1,())) fun q17=>onS q17 (fun t18=>(some (Sum.inl ((),t18.2.1,t18.2.2.1,t18.2.2.2.1,t18.2.2.2.2.1,t18.2.2.2.2.2.1,t18.2.2.2.2.2.2.1,(Go.Eng.wr Go.IntKind.i64 (Go.Eng.addI t18.2.2.2.2.2.2.2.1 (1:Int))),t18.2.2.2.2.2.2.2.2.1,())))) fun q19=>noS q19)))) else (some (Sum.inr (Sum.inl ((),s3.2.2.1,s3.2.2.2.1,s3.2.2.2.2.1,s3.2.2.2.2.2.2.2.2.1,())))))
theorem le_shell_each_joined_l1(n:Nat)(s3:(Unit×Int×List T×Int×Int×T×Int×Int×List T×Unit)):Le (v_shell_each_joined_l1 n s3) (u_shell_each_joined_l1 s3):=by
 unfold v_shell_each_joined_l1 u_shell_each_joined_l1
 repeat' first
  | with_reducible refine le_cond ?_ ?_
  | with_reducible refine le_onS (fun _=>?_) fun _=>?_
  | with_reducible refine le_ob ?_ fun _=>?_
  | with_reducible refine le_both ?_ ?_
  | with_reducible exact le_rfl
  | with_reducible exact le_loop (fun s=>le_shell_each_joined_l2 n s) _ _
noncomputable def v_shell_each_joined_l0(n:Nat)(s0:(Unit×List T×Int×Int×List T×Unit)):Option ((Unit×List T×Int×Int×List T×Unit)⊕((List T×Unit)⊕Empty)):=
 (bif (Go.Eng.ltI s0.2.2.2.1 s0.2.2.1) then (ob (Go.Eng.idxL s0.2.1 s0.2.2.2.1) fun x1=>(ob (Go.Eng.T.len? (Go.Eng.T.cell x1 0)) fun x2=>(ob (iter (v_shell_each_joined_l1 n) n ((),s0.2.2.2.1,s0.2.1,s0.2.2.1,s0.2.2.2.1,(Go.Eng.T.cell x1 0),x2,(0:Int),s0.2.2.2.2.1,())) fun q20=>onS q20 (fun t21=>(some (Sum.inl ((),t21.2.1,t21.2.2.1,(Go.Eng.wr Go.IntKind.i64 (Go.Eng.addI t21.2.2.2.1 (1:Int))),t21.2.2.2.2.1,())))) fun q22=>noS q22))) else (some (Sum.inr (Sum.inl (s0.2.2.2.2.1,())))))
theorem le_shell_each_joined_l0(n:Nat)(s0:(Unit×List T×Int×Int×List T×Unit)):Le (v_shell_each_joined_l0 n s0) (u_shell_each_joined_l0 s0):=by
 unfold v_shell_each_joined_l0 u_shell_each_joined_l0
 repeat' first
  | with_reducible refine le_cond ?_ ?_
  | with_reducible refine le_onS (fun _=>?_) fun _=>?_
  | with_reducible refine le_ob ?_ fun _=>?_
  | with_reducible refine le_both ?_ ?_
  | with_reducible exact le_rfl
  | with_reducible exact le_loop (fun s=>le_shell_each_joined_l1 n s) _ _
noncomputable def v_shell_each_joined(n:Nat)(t:((List T)×Unit×(List T)×Unit)):Option ((List T)×Unit):=
 (ob (iter (v_shell_each_joined_l0 n) n ((),t.1,(Go.Eng.lenL t.1),(0:Int),t.2.2.1,())) fun q23=>onS q23 (fun t24=>(some (t24.1,()))) fun q25=>noS q25)
theorem le_shell_each_joined(n:Nat)(t:((List T)×Unit×(List T)×Unit)):Le (v_shell_each_joined n t) (u_shell_each_joined t):=by
 unfold v_shell_each_joined u_shell_each_joined
 repeat' first
  | with_reducible refine le_cond ?_ ?_
  | with_reducible refine le_onS (fun _=>?_) fun _=>?_
  | with_reducible refine le_ob ?_ fun _=>?_
  | with_reducible refine le_both ?_ ?_
  | with_reducible exact le_rfl
  | with_reducible exact le_loop (fun s=>le_shell_each_joined_l0 n s) _ _
noncomputable def v_shell_joined_r_l2(n:Nat)(s10:(Unit×Unit×Unit×List T×Int×T×Unit×List T×Int×Int×T×Int×Int×T×Int×Int×Int×Int×T×T×Int×Int×List T×List T×List T×Int×Int×Int×Unit)):Option ((Unit×Unit×Unit×List T×Int×T×Unit×List T×Int×Int×T×Int×Int×T×Int×Int×Int×Int×T×T×Int×Int×List T×List T×List T×Int×Int×Int×Unit)⊕((Unit×Unit×Unit×List T×Int×Unit×List T×Int×Int×T×Int×Int×Int×Int×T×T×Int×Int×List T×List T×List T×Int×Int×Int×Unit)⊕Empty)):=
 (bif (Go.Eng.ltI s10.2.2.2.2.2.2.2.2.2.2.2.2.2.2.2.1 s10.2.2.2.2.2.2.2.2.2.2.2.2.2.2.1) then (ob (Go.Eng.T.rw? 1 s10.2.2.2.2.2.2.2.2.2.2.2.2.2.1) fun x11=>(ob (Go.Eng.idxL x11 s10.2.2.2.2.2.2.2.2.2.2.2.2.2.2.2.1) fun x12=>(ob (Go.Eng.T.len? s10.2.2.2.2.2.1) fun x13=>(ob (Go.Eng.nz x13) fun x14=>(ob (Go.Eng.T.rw? 1 s10.2.2.2.2.2.1) fun x15=>(ob (Go.Eng.idxL x15 (Go.Eng.modI (Go.Eng.wr Go.IntKind.i64 (Go.Eng.addI s10.2.2.2.2.2.2.2.2.2.2.2.2.2.2.2.1 (1:Int))) x14)) fun x16=>(ob (Go.Eng.T.len? s10.2.2.2.2.2.1) fun x17=>(ob (Go.Eng.nz x17) fun x18=>(ob (Go.Eng.T.rw? 1 s10.2.2.2.2.2.1) fun x19=>(ob (Go.Eng.idxL x19 (Go.Eng.modI (Go.Eng.wr Go.IntKind.i64 (Go.Eng.addI s10.2.2.2.2.2.2.2.2.2.2.2.2.2.2.2.1 (2:Int))) x18)) fun x20=>(ob (Go.Eng.T.int? Go.IntKind.i64 (Go.Eng.T.cell x12 0)) fun x21=>(ob (Go.Eng.T.int? Go.IntKind.i64 (Go.Eng.T.cell x16 0)) fun x22=>(ob (Go.Eng.T.one? (Go.Eng.mapGetD (Go.Eng.T.agg [(Go.Eng.T.v (Go.Value.int Go.IntKind.i64 x21)),(Go.Eng.T.v (Go.Value.int Go.IntKind.i64 x22))]) s10.2.2.2.2.2.2.2.2.2.2.2.2.2.2.2.2.2.2.2.2.2.2.2.2.1 (Go.Eng.T.v (Go.Value.int Go.IntKind.i64 (0:Int))))) fun x23=>(ob (Go.Eng.T.int? Go.IntKind.i64 (Go.Eng.T.cell x16 0)) fun x24=>(ob (Go.Eng.T.int? Go.IntKind.i64 (Go.Eng.T.cell x20 0)) fun x25=>(ob (Go.Eng.T.one? (Go.Eng.mapGetD (Go.Eng.T.agg [(Go.Eng.T.v (Go.Value.int Go.IntKind.i64 x24)),(Go.Eng.T.v (Go.Value.int Go.IntKind.i64 x25))]) s10.2.2.2.2.2.2.2.2.2.2.2.2.2.2.2.2.2.2.2.2.2.2.2.2.1 (Go.Eng.T.v (Go.Value.int Go.IntKind.i64 (0:Int))))) fun x26=>(ob (Go.Eng.T.anyInt? x23) fun x27=>(ob (Go.Eng.chkI (Go.Eng.lenL s10.2.2.2.2.2.2.2.2.2.2.2.2.2.2.2.2.2.2.2.2.2.2.1) x27) fun x28=>(ob (Go.Eng.T.int? Go.IntKind.i64 x26) fun x29=>(ob (Go.Eng.idxN s10.2.2.2.2.2.2.2.2.2.2.2.2.2.2.2.2.2.2.2.2.2.2.1 x28) fun x30=>(ob (Go.Eng.T.anyInt? x26) fun x31=>(ob (Go.Eng.chkI (Go.Eng.lenL (List.set s10.2.2.2.2.2.2.2.2.2.2.2.2.2.2.2.2.2.2.2.2.2.2.1 x28 (Go.Eng.T.upd 4 x30 1 [(Go.Eng.T.v (Go.Value.int Go.IntKind.i64 x29))]))) x31) fun x32=>(ob (Go.Eng.T.int? Go.IntKind.i64 x23) fun x33=>(ob (Go.Eng.idxN (List.set s10.2.2.2.2.2.2.2.2.2.2.2.2.2.2.2.2.2.2.2.2.2.2.1 x28 (Go.Eng.T.upd 4 x30 1 [(Go.Eng.T.v (Go.Value.int Go.IntKind.i64 x29))])) x32) fun x34=>(ob (Go.Eng.T.anyInt? x23) fun x35=>(ob (Go.Eng.chkI (Go.Eng.lenL (List.set (List.set s10.2.2.2.2.2.2.2.2.2.2.2.2.2.2.2.2.2.2.2.2.2.2.1 x28 (Go.Eng.T.upd 4 x30 1 [(Go.Eng.T.v (Go.Value.int Go.IntKind.i64 x29))])) x32 (Go.Eng.T.upd 4 x34 2 [(Go.Eng.T.v (Go.Value.int Go.IntKind.i64 x33))]))) x35) fun x36=>(ob (Go.Eng.idxN (List.set (List.set s10.2.2.2.2.2.2.2.2.2.2.2.2.2.2.2.2.2.2.2.2.2.2.1 x28 (Go.Eng.T.upd 4 x30 1 [(Go.Eng.T.v (Go.Value.int Go.IntKind.i64 x29))])) x32 (Go.Eng.T.upd 4 x34 2 [(Go.Eng.T.v (Go.Value.int Go.IntKind.i64 x33))])) x36) fun x37=>(ob (Go.Eng.T.anyInt? x23) fun x38=>(ob (Go.Eng.chkI (Go.Eng.lenL s10.2.2.2.1) x38) fun x39=>(ob (Go.Eng.T.int? Go.IntKind.i64 (Go.Eng.T.cell x12 0)) fun x40=>(ob (Go.Eng.idxN s10.2.2.2.1 x39) fun x41=>(ob (Go.Eng.T.int? Go.IntKind.i64 x23) fun x42=>(some (Sum.inl ((),(),(),(List.set s10.2.2.2.1 x39 (Go.Eng.T.upd 1 x41 0 [(Go.Eng.T.v (Go.Value.int Go.IntKind.i64 x40))])),s10.2.2.2.2.1,s10.2.2.2.2.2.1,(),s10.2.2.2.2.2.2.2.1,s10.2.2.2.2.2.2.2.2.1,s10.2.2.2.2.2.2.2.2.2.1,s10.2.2.2.2.2.2.2.2.2.2.1,s10.2.2.2.2.2.2.2.2.2.2.2.1,s10.2.2.2.2.2.2.2.2.2.2.2.2.1,s10.2.2.2.2.2.2.2.2.2.2.2.2.2.1,s10.2.2.2.2.2.2.2.2.2.2.2.2.2.2.1,(Go.Eng.wr Go.IntKind.i64 (Go.Eng.addI s10.2.2.2.2.2.2.2.2.2.2.2.2.2.2.2.1 (1:Int))),s10.2.2.2.2.2.2.2.2.2.2.2.2.2.2.2.2.1,s10.2.2.2.2.2.2.2.2.2.2.2.2.2.2.2.2.2.1,s10.2.2.2.2.2.2.2.2.2.2.2.2.2.2.2.2.2.2.1,s10.2.2.2.2.2.2.2.2.2.2.2.2.2.2.2.2.2.2.2.1,s10.2.2.2.2.2.2.2.2.2.2.2.2.2.2.2.2.2.2.2.2.1,s10.2.2.2.2.2.2.2.2.2.2.2.2.2.2.2.2.2.2.2.2.2.1,(List.set (List.set (List.set s10.2.2.2.2.2.2.2.2.2.2.2.2.2.2.2.2.2.2.2.2.2.2.1 x28 (Go.Eng.T.upd 4 x30 1 [(Go.Eng.T.v (Go.Value.int Go.IntKind.i64 x29))])) x32 (Go.Eng.T.upd 4 x34 2 [(Go.Eng.T.v (Go.Value.int Go.IntKind.i64 x33))])) x36 (Go.Eng.T.upd 4 x37 3 [(Go.Eng.T.v (Go.Value.int Go.IntKind.i64 (Go.Eng.lenL s10.2.2.2.2.2.2.2.2.2.2.2.2.2.2.2.2.2.2.2.2.2.2.2.1)))])),s10.2.2.2.2.2.2.2.2.2.2.2.2.2.2.2.2.2.2.2.2.2.2.2.1,s10.2.2.2.2.2.2.2.2.2.2.2.2.2.2.2.2.2.2.2.2.2.2.2.2.1,(Go.Eng.mmI Bool.false s10.2.2.2.2.2.2.2.2.2.2.2.2.2.2.2.2.2.2.2.2.2.2.2.2.2.1 x42),s10.2.2.2.2.2.2.2.2.2.2.2.2.2.2.2.2.2.2.2.2.2.2.2.2.2.2.1,s10.2.2.2.2.2.2.2.2.2.2.2.2.2.2.2.2.2.2.2.2.2.2.2.2.2.2.2.1,()))))))))))))))))))))))))))))))))))) else (some (Sum.inr (Sum.inl ((),(),(),s10.2.2.2.1,s10.2.2.2.2.1,(),s10.2.2.2.2.2.2.2.1,s10.2.2.2.2.2.2.2.2.1,s10.2.2.2.2.2.2.2.2.2.1,s10.2.2.2.2.2.2.2.2.2.2.1,s10.2.2.2.2.2.2.2.2.2.2.2.1,s10.2.2.2.2.2.2.2.2.2.2.2.2.1,s10.2.2.2.2.2.2.2.2.2.2.2.2.2.2.2.2.1,s10.2.2.2.2.2.2.2.2.2.2.2.2.2.2.2.2.2.1,s10.2.2.2.2.2.2.2.2.2.2.2.2.2.2.2.2.2.2.1,s10.2.2.2.2.2.2.2.2.2.2.2.2.2.2.2.2.2.2.2.1,s10.2.2.2.2.2.2.2.2.2.2.2.2.2.2.2.2.2.2.2.2.1,s10.2.2.2.2.2.2.2.2.2.2.2.2.2.2.2.2.2.2.2.2.2.1,s10.2.2.2.2.2.2.2.2.2.2.2.2.2.2.2.2.2.2.2.2.2.2.1,s10.2.2.2.2.2.2.2.2.2.2.2.2.2.2.2.2.2.2.2.2.2.2.2.1,s10.2.2.2.2.2.2.2.2.2.2.2.2.2.2.2.2.2.2.2.2.2.2.2.2.1,s10.2.2.2.2.2.2.2.2.2.2.2.2.2.2.2.2.2.2.2.2.2.2.2.2.2.1,s10.2.2.2.2.2.2.2.2.2.2.2.2.2.2.2.2.2.2.2.2.2.2.2.2.2.2.1,s10.2.2.2.2.2.2.2.2.2.2.2.2.2.2.2.2.2.2.2.2.2.2.2.2.2.2.2.1,())))))
theorem le_shell_joined_r_l2(n:Nat)(s10:(Unit×Unit×Unit×List T×Int×T×Unit×List T×Int×Int×T×Int×Int×T×Int×Int×Int×Int×T×T×Int×Int×List T×List T×List T×Int×Int×Int×Unit)):Le (v_shell_joined_r_l2 n s10) (u_shell_joined_r_l2 s10):=by
 unfold v_shell_joined_r_l2 u_shell_joined_r_l2
 repeat' first
  | with_reducible refine le_cond ?_ ?_
  | with_reducible refine le_onS (fun _=>?_) fun _=>?_
  | with_reducible refine le_ob ?_ fun _=>?_
  | with_reducible refine le_both ?_ ?_
  | with_reducible exact le_rfl
noncomputable def v_shell_joined_r_l1(n:Nat)(s6:(Unit×Unit×Unit×List T×Int×List T×Int×Int×T×Int×Int×Int×Int×T×T×Int×Int×List T×List T×List T×Unit)):Option ((Unit×Unit×Unit×List T×Int×List T×Int×Int×T×Int×Int×Int×Int×T×T×Int×Int×List T×List T×List T×Unit)⊕((Unit×Unit×Unit×List T×List T×Int×Int×Int×Int×T×T×Int×Int×List T×List T×List T×Unit)⊕Empty)):=
 (bif (Go.Eng.ltI s6.2.2.2.2.2.2.2.2.2.2.1 s6.2.2.2.2.2.2.2.2.2.1) then (ob (Go.Eng.T.rw? 1 s6.2.2.2.2.2.2.2.2.1) fun x7=>(ob (Go.Eng.idxL x7 s6.2.2.2.2.2.2.2.2.2.2.1) fun x8=>(ob (Go.Eng.T.len? (Go.Eng.T.cell x8 0)) fun x9=>(ob (iter (v_shell_joined_r_l2 n) n ((),(),(),s6.2.2.2.1,s6.2.2.2.2.1,(Go.Eng.T.cell x8 0),(),s6.2.2.2.2.2.1,s6.2.2.2.2.2.2.1,s6.2.2.2.2.2.2.2.1,s6.2.2.2.2.2.2.2.2.1,s6.2.2.2.2.2.2.2.2.2.1,s6.2.2.2.2.2.2.2.2.2.2.1,(Go.Eng.T.cell x8 0),x9,(0:Int),s6.2.2.2.2.2.2.2.2.2.2.2.1,s6.2.2.2.2.2.2.2.2.2.2.2.2.1,s6.2.2.2.2.2.2.2.2.2.2.2.2.2.1,s6.2.2.2.2.2.2.2.2.2.2.2.2.2.2.1,s6.2.2.2.2.2.2.2.2.2.2.2.2.2.2.2.1,s6.2.2.2.2.2.2.2.2.2.2.2.2.2.2.2.2.1,s6.2.2.2.2.2.2.2.2.2.2.2.2.2.2.2.2.2.1,s6.2.2.2.2.2.2.2.2.2.2.2.2.2.2.2.2.2.2.1,s6.2.2.2.2.2.2.2.2.2.2.2.2.2.2.2.2.2.2.2.1,(Go.Eng.lenL s6.2.2.2.2.2.2.2.2.2.2.2.2.2.2.2.2.2.2.2.1),(-1:Int),s6.2.2.2.2.1,())) fun q43=>onS q43 (fun t44=>(ob (Go.Eng.room t44.2.2.2.2.2.2.2.2.2.2.2.2.2.2.2.2.2.2.2.1 [(Go.Eng.T.agg [(Go.Eng.T.v (Go.Value.int Go.IntKind.i64 t44.2.2.2.2.2.2.2.2.2.2.2.2.2.2.2.2.2.2.2.2.2.1)),(Go.Eng.T.v (Go.Value.int Go.IntKind.i64 t44.2.2.2.2.2.2.2.2.2.2.2.2.2.2.2.2.2.2.2.2.2.2.1)),(Go.Eng.T.v (Go.Value.int Go.IntKind.i64 t44.2.2.2.2.2.2.2.2.2.2.2.2.2.2.2.2.2.2.2.2.2.2.2.1))])] 24) fun x45=>(some (Sum.inl ((),(),(),t44.2.2.2.1,t44.2.2.2.2.1,t44.2.2.2.2.2.2.1,t44.2.2.2.2.2.2.2.1,t44.2.2.2.2.2.2.2.2.1,t44.2.2.2.2.2.2.2.2.2.1,t44.2.2.2.2.2.2.2.2.2.2.1,(Go.Eng.wr Go.IntKind.i64 (Go.Eng.addI t44.2.2.2.2.2.2.2.2.2.2.2.1 (1:Int))),t44.2.2.2.2.2.2.2.2.2.2.2.2.1,t44.2.2.2.2.2.2.2.2.2.2.2.2.2.1,t44.2.2.2.2.2.2.2.2.2.2.2.2.2.2.1,t44.2.2.2.2.2.2.2.2.2.2.2.2.2.2.2.1,t44.2.2.2.2.2.2.2.2.2.2.2.2.2.2.2.2.1,t44.2.2.2.2.2.2.2.2.2.2.2.2.2.2.2.2.2.1,t44.2.2.2.2.2.2.2.2.2.2.2.2.2.2.2.2.2.2.1,x45,t44.2.2.2.2.2.2.2.2.2.2.2.2.2.2.2.2.2.2.2.2.1,()))))) fun q46=>noS q46)))) else (some (Sum.inr (Sum.inl ((),(),(),s6.2.2.2.1,s6.2.2.2.2.2.1,s6.2.2.2.2.2.2.1,s6.2.2.2.2.2.2.2.1,s6.2.2.2.2.2.2.2.2.2.2.2.1,s6.2.2.2.2.2.2.2.2.2.2.2.2.1,s6.2.2.2.2.2.2.2.2.2.2.2.2.2.1,s6.2.2.2.2.2.2.2.2.2.2.2.2.2.2.1,s6.2.2.2.2.2.2.2.2.2.2.2.2.2.2.2.1,s6.2.2.2.2.2.2.2.2.2.2.2.2.2.2.2.2.1,s6.2.2.2.2.2.2.2.2.2.2.2.2.2.2.2.2.2.1,s6.2.2.2.2.2.2.2.2.2.2.2.2.2.2.2.2.2.2.1,s6.2.2.2.2.2.2.2.2.2.2.2.2.2.2.2.2.2.2.2.1,())))))
theorem le_shell_joined_r_l1(n:Nat)(s6:(Unit×Unit×Unit×List T×Int×List T×Int×Int×T×Int×Int×Int×Int×T×T×Int×Int×List T×List T×List T×Unit)):Le (v_shell_joined_r_l1 n s6) (u_shell_joined_r_l1 s6):=by
 unfold v_shell_joined_r_l1 u_shell_joined_r_l1
 repeat' first
  | with_reducible refine le_cond ?_ ?_
  | with_reducible refine le_onS (fun _=>?_) fun _=>?_
  | with_reducible refine le_ob ?_ fun _=>?_
  | with_reducible refine le_both ?_ ?_
  | with_reducible exact le_rfl
  | with_reducible exact le_loop (fun s=>le_shell_joined_r_l2 n s) _ _
noncomputable def v_shell_joined_r_l0(n:Nat)(s3:(Unit×Unit×Unit×List T×List T×Int×Int×Int×Int×T×T×Int×Int×List T×List T×List T×Unit)):Option ((Unit×Unit×Unit×List T×List T×Int×Int×Int×Int×T×T×Int×Int×List T×List T×List T×Unit)⊕((Unit×Unit×List T×Int×Int×T×T×Int×Int×List T×List T×Unit)⊕Empty)):=
 (bif (Go.Eng.ltI s3.2.2.2.2.2.2.1 s3.2.2.2.2.2.1) then (ob (Go.Eng.idxL s3.2.2.2.2.1 s3.2.2.2.2.2.2.1) fun x4=>(ob (Go.Eng.T.len? (Go.Eng.T.cell x4 0)) fun x5=>(ob (iter (v_shell_joined_r_l1 n) n ((),(),(),s3.2.2.2.1,s3.2.2.2.2.2.2.1,s3.2.2.2.2.1,s3.2.2.2.2.2.1,s3.2.2.2.2.2.2.1,(Go.Eng.T.cell x4 0),x5,(0:Int),s3.2.2.2.2.2.2.2.1,s3.2.2.2.2.2.2.2.2.1,s3.2.2.2.2.2.2.2.2.2.1,s3.2.2.2.2.2.2.2.2.2.2.1,s3.2.2.2.2.2.2.2.2.2.2.2.1,s3.2.2.2.2.2.2.2.2.2.2.2.2.1,s3.2.2.2.2.2.2.2.2.2.2.2.2.2.1,s3.2.2.2.2.2.2.2.2.2.2.2.2.2.2.1,s3.2.2.2.2.2.2.2.2.2.2.2.2.2.2.2.1,())) fun q47=>onS q47 (fun t48=>(some (Sum.inl ((),(),(),t48.2.2.2.1,t48.2.2.2.2.1,t48.2.2.2.2.2.1,(Go.Eng.wr Go.IntKind.i64 (Go.Eng.addI t48.2.2.2.2.2.2.1 (1:Int))),t48.2.2.2.2.2.2.2.1,t48.2.2.2.2.2.2.2.2.1,t48.2.2.2.2.2.2.2.2.2.1,t48.2.2.2.2.2.2.2.2.2.2.1,t48.2.2.2.2.2.2.2.2.2.2.2.1,t48.2.2.2.2.2.2.2.2.2.2.2.2.1,t48.2.2.2.2.2.2.2.2.2.2.2.2.2.1,t48.2.2.2.2.2.2.2.2.2.2.2.2.2.2.1,t48.2.2.2.2.2.2.2.2.2.2.2.2.2.2.2.1,())))) fun q49=>noS q49))) else (some (Sum.inr (Sum.inl ((),(),s3.2.2.2.1,s3.2.2.2.2.2.2.2.1,s3.2.2.2.2.2.2.2.2.1,s3.2.2.2.2.2.2.2.2.2.1,s3.2.2.2.2.2.2.2.2.2.2.1,s3.2.2.2.2.2.2.2.2.2.2.2.1,s3.2.2.2.2.2.2.2.2.2.2.2.2.1,s3.2.2.2.2.2.2.2.2.2.2.2.2.2.1,s3.2.2.2.2.2.2.2.2.2.2.2.2.2.2.1,())))))
theorem le_shell_joined_r_l0(n:Nat)(s3:(Unit×Unit×Unit×List T×List T×Int×Int×Int×Int×T×T×Int×Int×List T×List T×List T×Unit)):Le (v_shell_joined_r_l0 n s3) (u_shell_joined_r_l0 s3):=by
 unfold v_shell_joined_r_l0 u_shell_joined_r_l0
 repeat' first
  | with_reducible refine le_cond ?_ ?_
  | with_reducible refine le_onS (fun _=>?_) fun _=>?_
  | with_reducible refine le_ob ?_ fun _=>?_
  | with_reducible refine le_both ?_ ?_
  | with_reducible exact le_rfl
  | with_reducible exact le_loop (fun s=>le_shell_joined_r_l1 n s) _ _
noncomputable def v_shell_joined_r(n:Nat)(t:((List T)×Unit)):Option (Int×Int×(List T)×(List T)×(List T)×Unit):=
 (ob (Go.Eng.v_shell_each_joined n (t.1,(),[],())) fun x0=>(ob (Go.Eng.mkLen (Go.Eng.lenL x0.1) (Go.Eng.lenL x0.1) 32) fun x1=>(ob (Go.Eng.mkLen (Go.Eng.lenL x0.1) (Go.Eng.lenL x0.1) 8) fun x2=>(ob (iter (v_shell_joined_r_l0 n) n ((),(),(),(Go.Eng.repL x2.1 (Go.Eng.T.v (Go.Value.int Go.IntKind.i64 (0:Int)))),t.1,(Go.Eng.lenL t.1),(0:Int),(0:Int),(0:Int),(Go.Eng.T.v (Go.Value.slice (Option.none) 0 0)),(Go.Eng.T.v (Go.Value.slice (Option.none) 0 0)),(0:Int),(Go.Eng.lenL t.1),(Go.Eng.repL x1.1 (Go.Eng.T.agg [(Go.Eng.T.v (Go.Value.int Go.IntKind.i64 (0:Int))),(Go.Eng.T.v (Go.Value.int Go.IntKind.i64 (0:Int))),(Go.Eng.T.v (Go.Value.int Go.IntKind.i64 (0:Int))),(Go.Eng.T.v (Go.Value.int Go.IntKind.i64 (0:Int)))])),[],x0.1,())) fun q50=>onS q50 (fun t51=>(some (t51.2.2.2.2.2.2.2.1,t51.2.2.2.2.2.2.2.2.1,t51.2.2.2.2.2.2.2.2.2.1,t51.2.2.2.2.2.2.2.2.2.2.1,t51.2.2.1,()))) fun q52=>noS q52))))
theorem le_shell_joined_r(n:Nat)(t:((List T)×Unit)):Le (v_shell_joined_r n t) (u_shell_joined_r t):=by
 unfold v_shell_joined_r u_shell_joined_r
 repeat' first
  | with_reducible refine le_cond ?_ ?_
  | with_reducible refine le_onS (fun _=>?_) fun _=>?_
  | with_reducible refine le_ob ?_ fun _=>?_
  | with_reducible refine le_both ?_ ?_
  | with_reducible exact le_rfl
  | with_reducible exact le_shell_each_joined n _
  | with_reducible exact le_loop (fun s=>le_shell_joined_r_l0 n s) _ _
noncomputable def v_shell_Topology_l1(n:Nat)(s8:(Unit×Unit×List T×List T×List T×Int×Int×Int×Int×Int×Int×T×T×Int×Int×List T×List T×Unit)):Option ((Unit×Unit×List T×List T×List T×Int×Int×Int×Int×Int×Int×T×T×Int×Int×List T×List T×Unit)⊕((Unit×Unit×List T×List T×List T×Int×Int×Int×Int×Int×T×T×Int×Int×List T×List T×Unit)⊕Empty)):=
 (ob (Go.Eng.chkI (Go.Eng.lenL s8.2.2.2.2.1) s8.2.2.2.2.2.2.1) fun x9=>(ob (Go.Eng.idxN s8.2.2.2.2.1 x9) fun x10=>(ob (Go.Eng.T.bool? (Go.Eng.T.cell x10 0)) fun x11=>(bif (Bool.not x11) then (ob (Go.Eng.chkI (Go.Eng.lenL s8.2.2.2.2.1) s8.2.2.2.2.2.2.1) fun x12=>(ob (Go.Eng.idxN s8.2.2.2.2.1 x12) fun x13=>(ob (Go.Eng.chkI (Go.Eng.lenL s8.2.2.2.2.2.2.2.2.2.2.2.2.2.2.2.1) s8.2.2.2.2.2.2.1) fun x14=>(ob (Go.Eng.idxN s8.2.2.2.2.2.2.2.2.2.2.2.2.2.2.2.1 x14) fun x15=>(ob (Go.Eng.chkI (Go.Eng.lenL (List.set s8.2.2.2.2.2.2.2.2.2.2.2.2.2.2.2.1 x14 (Go.Eng.T.upd 4 x15 0 [(Go.Eng.T.v (Go.Value.int Go.IntKind.i64 s8.2.2.2.2.2.2.2.2.2.2.2.2.2.1))]))) s8.2.2.2.2.2.2.1) fun x16=>(ob (Go.Eng.idxN (List.set s8.2.2.2.2.2.2.2.2.2.2.2.2.2.2.2.1 x14 (Go.Eng.T.upd 4 x15 0 [(Go.Eng.T.v (Go.Value.int Go.IntKind.i64 s8.2.2.2.2.2.2.2.2.2.2.2.2.2.1))])) x16) fun x17=>(ob (Go.Eng.T.int? Go.IntKind.i64 (Go.Eng.T.cell x17 2)) fun x18=>(some (Sum.inl ((),(),s8.2.2.1,s8.2.2.2.1,(List.set s8.2.2.2.2.1 x12 (Go.Eng.T.upd 1 x13 0 [(Go.Eng.T.v (Go.Value.bool Bool.true))])),s8.2.2.2.2.2.1,(Go.Eng.bitI Go.BinOp.xor Go.IntKind.i64 x18 (1:Int)),s8.2.2.2.2.2.2.2.1,s8.2.2.2.2.2.2.2.2.1,s8.2.2.2.2.2.2.2.2.2.1,s8.2.2.2.2.2.2.2.2.2.2.1,s8.2.2.2.2.2.2.2.2.2.2.2.1,s8.2.2.2.2.2.2.2.2.2.2.2.2.1,s8.2.2.2.2.2.2.2.2.2.2.2.2.2.1,s8.2.2.2.2.2.2.2.2.2.2.2.2.2.2.1,(List.set s8.2.2.2.2.2.2.2.2.2.2.2.2.2.2.2.1 x14 (Go.Eng.T.upd 4 x15 0 [(Go.Eng.T.v (Go.Value.int Go.IntKind.i64 s8.2.2.2.2.2.2.2.2.2.2.2.2.2.1))])),s8.2.2.2.2.2.2.2.2.2.2.2.2.2.2.2.2.1,())))))))))) else (some (Sum.inr (Sum.inl ((),(),s8.2.2.1,s8.2.2.2.1,s8.2.2.2.2.1,s8.2.2.2.2.2.1,s8.2.2.2.2.2.2.2.1,s8.2.2.2.2.2.2.2.2.1,s8.2.2.2.2.2.2.2.2.2.1,s8.2.2.2.2.2.2.2.2.2.2.1,s8.2.2.2.2.2.2.2.2.2.2.2.1,s8.2.2.2.2.2.2.2.2.2.2.2.2.1,s8.2.2.2.2.2.2.2.2.2.2.2.2.2.1,s8.2.2.2.2.2.2.2.2.2.2.2.2.2.2.1,s8.2.2.2.2.2.2.2.2.2.2.2.2.2.2.2.1,s8.2.2.2.2.2.2.2.2.2.2.2.2.2.2.2.2.1,()))))))))
theorem le_shell_Topology_l1(n:Nat)(s8:(Unit×Unit×List T×List T×List T×Int×Int×Int×Int×Int×Int×T×T×Int×Int×List T×List T×Unit)):Le (v_shell_Topology_l1 n s8) (u_shell_Topology_l1 s8):=by
 unfold v_shell_Topology_l1 u_shell_Topology_l1
 repeat' first
  | with_reducible refine le_cond ?_ ?_
  | with_reducible refine le_onS (fun _=>?_) fun _=>?_
  | with_reducible refine le_ob ?_ fun _=>?_
  | with_reducible refine le_both ?_ ?_
  | with_reducible exact le_rfl
noncomputable def v_shell_Topology_l0(n:Nat)(s4:(Unit×Unit×List T×List T×List T×Int×Int×Int×Int×T×T×Int×Int×List T×List T×Unit)):Option ((Unit×Unit×List T×List T×List T×Int×Int×Int×Int×T×T×Int×Int×List T×List T×Unit)⊕((Unit×Unit×List T×Int×Int×T×T×Int×Int×List T×List T×Unit)⊕Empty)):=
 (bif (Go.Eng.ltI s4.2.2.2.2.2.2.1 s4.2.2.2.2.2.1) then (ob (α:=((Unit×Unit×List T×List T×List T×Int×Int×Int×Int×T×T×Int×Int×List T×List T×Unit)⊕Empty)) (ob (Go.Eng.chkI (Go.Eng.lenL s4.2.2.2.2.1) s4.2.2.2.2.2.2.1) fun x5=>(ob (Go.Eng.idxN s4.2.2.2.2.1 x5) fun x6=>(ob (Go.Eng.T.bool? (Go.Eng.T.cell x6 0)) fun x7=>(bif x7 then (some (Sum.inl ((),(),s4.2.2.1,s4.2.2.2.1,s4.2.2.2.2.1,s4.2.2.2.2.2.1,s4.2.2.2.2.2.2.1,s4.2.2.2.2.2.2.2.1,s4.2.2.2.2.2.2.2.2.1,s4.2.2.2.2.2.2.2.2.2.1,s4.2.2.2.2.2.2.2.2.2.2.1,s4.2.2.2.2.2.2.2.2.2.2.2.1,s4.2.2.2.2.2.2.2.2.2.2.2.2.1,s4.2.2.2.2.2.2.2.2.2.2.2.2.2.1,s4.2.2.2.2.2.2.2.2.2.2.2.2.2.2.1,()))) else (ob (iter (v_shell_Topology_l1 n) n ((),(),s4.2.2.1,s4.2.2.2.1,s4.2.2.2.2.1,s4.2.2.2.2.2.2.1,s4.2.2.2.2.2.2.1,s4.2.2.2.2.2.1,s4.2.2.2.2.2.2.1,s4.2.2.2.2.2.2.2.1,s4.2.2.2.2.2.2.2.2.1,s4.2.2.2.2.2.2.2.2.2.1,s4.2.2.2.2.2.2.2.2.2.2.1,s4.2.2.2.2.2.2.2.2.2.2.2.1,s4.2.2.2.2.2.2.2.2.2.2.2.2.1,s4.2.2.2.2.2.2.2.2.2.2.2.2.2.1,s4.2.2.2.2.2.2.2.2.2.2.2.2.2.2.1,())) fun q19=>onS q19 (fun t20=>(ob (Go.Eng.idxL t20.2.2.1 t20.2.2.2.2.2.1) fun x21=>(ob (Go.Eng.T.int? Go.IntKind.i64 (Go.Eng.T.cell x21 0)) fun x22=>(ob (Go.Eng.room t20.2.2.2.1 [(Go.Eng.T.v (Go.Value.int Go.IntKind.i64 x22))] 8) fun x23=>(some (Sum.inl ((),(),t20.2.2.1,x23,t20.2.2.2.2.1,t20.2.2.2.2.2.2.1,t20.2.2.2.2.2.2.2.1,t20.2.2.2.2.2.2.2.2.1,t20.2.2.2.2.2.2.2.2.2.1,t20.2.2.2.2.2.2.2.2.2.2.1,t20.2.2.2.2.2.2.2.2.2.2.2.1,(Go.Eng.wr Go.IntKind.i64 (Go.Eng.addI t20.2.2.2.2.2.2.2.2.2.2.2.2.1 (1:Int))),t20.2.2.2.2.2.2.2.2.2.2.2.2.2.1,t20.2.2.2.2.2.2.2.2.2.2.2.2.2.2.1,t20.2.2.2.2.2.2.2.2.2.2.2.2.2.2.2.1,()))))))) fun q24=>noS q24))))) fun q25=>onS q25 (fun t26=>(some (Sum.inl ((),(),t26.2.2.1,t26.2.2.2.1,t26.2.2.2.2.1,t26.2.2.2.2.2.1,(Go.Eng.wr Go.IntKind.i64 (Go.Eng.addI t26.2.2.2.2.2.2.1 (1:Int))),t26.2.2.2.2.2.2.2.1,t26.2.2.2.2.2.2.2.2.1,t26.2.2.2.2.2.2.2.2.2.1,t26.2.2.2.2.2.2.2.2.2.2.1,t26.2.2.2.2.2.2.2.2.2.2.2.1,t26.2.2.2.2.2.2.2.2.2.2.2.2.1,t26.2.2.2.2.2.2.2.2.2.2.2.2.2.1,t26.2.2.2.2.2.2.2.2.2.2.2.2.2.2.1,())))) fun q27=>noS q27) else (some (Sum.inr (Sum.inl ((),(),s4.2.2.2.1,s4.2.2.2.2.2.2.2.1,s4.2.2.2.2.2.2.2.2.1,s4.2.2.2.2.2.2.2.2.2.1,s4.2.2.2.2.2.2.2.2.2.2.1,s4.2.2.2.2.2.2.2.2.2.2.2.1,s4.2.2.2.2.2.2.2.2.2.2.2.2.1,s4.2.2.2.2.2.2.2.2.2.2.2.2.2.1,s4.2.2.2.2.2.2.2.2.2.2.2.2.2.2.1,())))))
theorem le_shell_Topology_l0(n:Nat)(s4:(Unit×Unit×List T×List T×List T×Int×Int×Int×Int×T×T×Int×Int×List T×List T×Unit)):Le (v_shell_Topology_l0 n s4) (u_shell_Topology_l0 s4):=by
 unfold v_shell_Topology_l0 u_shell_Topology_l0
 repeat' first
  | with_reducible refine le_cond ?_ ?_
  | with_reducible refine le_onS (fun _=>?_) fun _=>?_
  | with_reducible refine le_ob ?_ fun _=>?_
  | with_reducible refine le_both ?_ ?_
  | with_reducible exact le_rfl
  | with_reducible exact le_loop (fun s=>le_shell_Topology_l1 n s) _ _
noncomputable def v_shell_Topology(n:Nat)(t:((List T)×Unit)):Option (Int×Int×(List T)×(List T)×(List T)×Int×Unit):=
 (ob (Go.Eng.v_shell_Valid n (t.1,())) fun x0=>(bif (Bool.not x0.1) then (some ((0:Int),(0:Int),[],[],[],(1:Int),())) else (bif (Go.Eng.eqI (Go.Eng.lenL t.1) (0:Int)) then (some ((0:Int),(0:Int),[],[],[],(1:Int),())) else (ob (Go.Eng.v_shell_Manifold n (t.1,())) fun x1=>(bif (Bool.not x1.1) then (some ((0:Int),(0:Int),[],[],[],(30:Int),())) else (ob (Go.Eng.v_shell_joined_r n (t.1,())) fun x2=>(bif (Go.Eng.ltI (256:Int) (Go.Eng.lenL x2.2.2.1)) then (some ((0:Int),(0:Int),[],[],[],(2:Int),())) else (bif (Go.Eng.ltI (257:Int) (Go.Eng.lenL t.1)) then (some ((0:Int),(0:Int),[],[],[],(2:Int),())) else (bif (Go.Eng.ltI (257:Int) (Go.Eng.lenL x2.2.2.2.1)) then (some ((0:Int),(0:Int),[],[],[],(2:Int),())) else (ob (Go.Eng.mkLen (Go.Eng.lenL x2.2.2.1) (Go.Eng.lenL x2.2.2.1) 1) fun x3=>(ob (iter (v_shell_Topology_l0 n) n ((),(),x2.2.2.2.2.1,[],(Go.Eng.repL x3.1 (Go.Eng.T.v (Go.Value.bool Bool.false))),(Go.Eng.lenL x2.2.2.1),(0:Int),(0:Int),(0:Int),(Go.Eng.T.v (Go.Value.slice (Option.none) 0 0)),(Go.Eng.T.v (Go.Value.slice (Option.none) 0 0)),x2.1,x2.2.1,x2.2.2.1,x2.2.2.2.1,())) fun q28=>onS q28 (fun t29=>(some (t29.2.2.2.2.2.2.2.1,t29.2.2.2.2.2.2.2.2.1,t29.2.2.2.2.2.2.2.2.2.1,t29.2.2.2.2.2.2.2.2.2.2.1,t29.2.2.1,(0:Int),()))) fun q30=>noS q30)))))))))))
theorem le_shell_Topology(n:Nat)(t:((List T)×Unit)):Le (v_shell_Topology n t) (u_shell_Topology t):=by
 unfold v_shell_Topology u_shell_Topology
 repeat' first
  | with_reducible refine le_cond ?_ ?_
  | with_reducible refine le_onS (fun _=>?_) fun _=>?_
  | with_reducible refine le_ob ?_ fun _=>?_
  | with_reducible refine le_both ?_ ?_
  | with_reducible exact le_rfl
  | with_reducible exact le_shell_Valid n _
  | with_reducible exact le_shell_Manifold n _
  | with_reducible exact le_shell_joined_r n _
  | with_reducible exact le_loop (fun s=>le_shell_Topology_l0 n s) _ _
noncomputable def v_topology_mate(n:Nat)(t:(Int×Unit)):Option (Int×Unit):=
 (some ((Go.Eng.bitI Go.BinOp.xor Go.IntKind.i64 t.1 (1:Int)),()))
theorem le_topology_mate(n:Nat)(t:(Int×Unit)):Le (v_topology_mate n t) (u_topology_mate t):=by
 unfold v_topology_mate u_topology_mate
 repeat' first
  | with_reducible refine le_cond ?_ ?_
  | with_reducible refine le_onS (fun _=>?_) fun _=>?_
  | with_reducible refine le_ob ?_ fun _=>?_
  | with_reducible refine le_both ?_ ?_
  | with_reducible exact le_rfl
noncomputable def v_topology_index(n:Nat)(t:(Int×Int×Unit)):Option (Bool×Unit):=
 (bif (Go.Eng.leI (0:Int) t.1) then (some ((Go.Eng.ltI t.1 t.2.1),())) else (some (Bool.false,())))
theorem le_topology_index(n:Nat)(t:(Int×Int×Unit)):Le (v_topology_index n t) (u_topology_index t):=by
 unfold v_topology_index u_topology_index
 repeat' first
  | with_reducible refine le_cond ?_ ?_
  | with_reducible refine le_onS (fun _=>?_) fun _=>?_
  | with_reducible refine le_ob ?_ fun _=>?_
  | with_reducible refine le_both ?_ ?_
  | with_reducible exact le_rfl
noncomputable def v_topology_halves_l0(n:Nat)(s0:(Unit×Int×List T×Int×Int×Int×Int×List T×List T×Unit)):Option ((Unit×Int×List T×Int×Int×Int×Int×List T×List T×Unit)⊕((Bool×Unit)⊕((Unit)⊕Empty))):=
 (bif (Go.Eng.ltI s0.2.2.2.2.1 s0.2.2.2.1) then (ob (Go.Eng.idxL s0.2.2.1 s0.2.2.2.2.1) fun x1=>(ob (Go.Eng.T.int? Go.IntKind.i64 (Go.Eng.T.cell x1 0)) fun x2=>(ob (Go.Eng.v_topology_index n (x2,s0.2.2.2.2.2.1,())) fun x3=>(bif (Bool.not x3.1) then (some (Sum.inr (Sum.inl (Bool.false,())))) else (ob (Go.Eng.T.int? Go.IntKind.i64 (Go.Eng.T.cell x1 1)) fun x4=>(ob (Go.Eng.v_topology_index n (x4,s0.2.1,())) fun x5=>(bif (Bool.not x5.1) then (some (Sum.inr (Sum.inl (Bool.false,())))) else (ob (Go.Eng.T.int? Go.IntKind.i64 (Go.Eng.T.cell x1 2)) fun x6=>(ob (Go.Eng.v_topology_index n (x6,s0.2.1,())) fun x7=>(bif (Bool.not x7.1) then (some (Sum.inr (Sum.inl (Bool.false,())))) else (ob (Go.Eng.T.int? Go.IntKind.i64 (Go.Eng.T.cell x1 3)) fun x8=>(ob (Go.Eng.v_topology_index n (x8,(Go.Eng.lenL s0.2.2.2.2.2.2.2.2.1),())) fun x9=>(bif (Bool.not x9.1) then (some (Sum.inr (Sum.inl (Bool.false,())))) else (ob (Go.Eng.T.anyInt? (Go.Eng.T.cell x1 1)) fun x10=>(ob (Go.Eng.idxL s0.2.2.2.2.2.2.2.1 x10) fun x11=>(ob (Go.Eng.T.int? Go.IntKind.i64 (Go.Eng.T.cell x11 2)) fun x12=>(bif (Bool.not (Go.Eng.eqI x12 s0.2.2.2.2.1)) then (some (Sum.inr (Sum.inl (Bool.false,())))) else (ob (Go.Eng.T.anyInt? (Go.Eng.T.cell x1 2)) fun x13=>(ob (Go.Eng.idxL s0.2.2.2.2.2.2.2.1 x13) fun x14=>(ob (Go.Eng.T.int? Go.IntKind.i64 (Go.Eng.T.cell x14 1)) fun x15=>(bif (Bool.not (Go.Eng.eqI x15 s0.2.2.2.2.1)) then (some (Sum.inr (Sum.inl (Bool.false,())))) else (ob (Go.Eng.T.int? Go.IntKind.i64 (Go.Eng.T.cell x11 3)) fun x16=>(ob (Go.Eng.T.int? Go.IntKind.i64 (Go.Eng.T.cell x1 3)) fun x17=>(bif (Bool.not (Go.Eng.eqI x16 x17)) then (some (Sum.inr (Sum.inl (Bool.false,())))) else (ob (Go.Eng.v_topology_mate n (s0.2.2.2.2.1,())) fun x18=>(ob (Go.Eng.idxL s0.2.2.2.2.2.2.2.1 x18.1) fun x19=>(ob (Go.Eng.T.int? Go.IntKind.i64 (Go.Eng.T.cell x11 0)) fun x20=>(ob (Go.Eng.T.int? Go.IntKind.i64 (Go.Eng.T.cell x19 0)) fun x21=>(bif (Bool.not (Go.Eng.eqI x20 x21)) then (some (Sum.inr (Sum.inl (Bool.false,())))) else (some (Sum.inl ((),s0.2.1,s0.2.2.1,s0.2.2.2.1,(Go.Eng.wr Go.IntKind.i64 (Go.Eng.addI s0.2.2.2.2.1 (1:Int))),s0.2.2.2.2.2.1,s0.2.2.2.2.2.2.1,s0.2.2.2.2.2.2.2.1,s0.2.2.2.2.2.2.2.2.1,())))))))))))))))))))))))))))))))) else (some (Sum.inr (Sum.inr (Sum.inl ())))))
theorem le_topology_halves_l0(n:Nat)(s0:(Unit×Int×List T×Int×Int×Int×Int×List T×List T×Unit)):Le (v_topology_halves_l0 n s0) (u_topology_halves_l0 s0):=by
 unfold v_topology_halves_l0 u_topology_halves_l0
 repeat' first
  | with_reducible refine le_cond ?_ ?_
  | with_reducible refine le_onS (fun _=>?_) fun _=>?_
  | with_reducible refine le_ob ?_ fun _=>?_
  | with_reducible refine le_both ?_ ?_
  | with_reducible exact le_rfl
  | with_reducible exact le_topology_index n _
  | with_reducible exact le_topology_mate n _
noncomputable def v_topology_halves(n:Nat)(t:(Int×Int×(List T)×(List T)×Unit)):Option (Bool×Unit):=
 (ob (iter (v_topology_halves_l0 n) n ((),(Go.Eng.lenL t.2.2.1),t.2.2.1,(Go.Eng.lenL t.2.2.1),(0:Int),t.1,t.2.1,t.2.2.1,t.2.2.2.1,())) fun q22=>onS q22 (fun t23=>(some (t23.1,()))) fun q24=>onS q24 (fun t25=>(some (Bool.true,()))) fun q26=>noS q26)
theorem le_topology_halves(n:Nat)(t:(Int×Int×(List T)×(List T)×Unit)):Le (v_topology_halves n t) (u_topology_halves t):=by
 unfold v_topology_halves u_topology_halves
 repeat' first
  | with_reducible refine le_cond ?_ ?_
  | with_reducible refine le_onS (fun _=>?_) fun _=>?_
  | with_reducible refine le_ob ?_ fun _=>?_
  | with_reducible refine le_both ?_ ?_
  | with_reducible exact le_rfl
  | with_reducible exact le_loop (fun s=>le_topology_halves_l0 n s) _ _
noncomputable def v_topology_rings_l0(n:Nat)(s1:(Unit×List T×List T×Int×Int×Int×Int×List T×List T×Unit)):Option ((Unit×List T×List T×Int×Int×Int×Int×List T×List T×Unit)⊕((Unit×List T×Int×Int×List T×List T×Unit)⊕Empty)):=
 (bif (Go.Eng.ltI s1.2.2.2.2.1 s1.2.2.2.1) then (ob (Go.Eng.idxL s1.2.2.1 s1.2.2.2.2.1) fun x2=>(ob (Go.Eng.T.anyInt? (Go.Eng.T.cell x2 3)) fun x3=>(ob (Go.Eng.chkI (Go.Eng.lenL s1.2.1) x3) fun x4=>(ob (Go.Eng.idxN s1.2.1 x4) fun x5=>(ob (Go.Eng.T.int? Go.IntKind.i64 (Go.Eng.T.cell x5 0)) fun x6=>(ob (Go.Eng.T.anyInt? (Go.Eng.T.cell x2 3)) fun x7=>(ob (Go.Eng.chkI (Go.Eng.lenL s1.2.1) x7) fun x8=>(ob (Go.Eng.idxN s1.2.1 x8) fun x9=>(some (Sum.inl ((),(List.set s1.2.1 x8 (Go.Eng.T.upd 1 x9 0 [(Go.Eng.T.v (Go.Value.int Go.IntKind.i64 (Go.Eng.wr Go.IntKind.i64 (Go.Eng.addI x6 (1:Int)))))])),s1.2.2.1,s1.2.2.2.1,(Go.Eng.wr Go.IntKind.i64 (Go.Eng.addI s1.2.2.2.2.1 (1:Int))),s1.2.2.2.2.2.1,s1.2.2.2.2.2.2.1,s1.2.2.2.2.2.2.2.1,s1.2.2.2.2.2.2.2.2.1,()))))))))))) else (some (Sum.inr (Sum.inl ((),s1.2.1,s1.2.2.2.2.2.1,s1.2.2.2.2.2.2.1,s1.2.2.2.2.2.2.2.1,s1.2.2.2.2.2.2.2.2.1,())))))
theorem le_topology_rings_l0(n:Nat)(s1:(Unit×List T×List T×Int×Int×Int×Int×List T×List T×Unit)):Le (v_topology_rings_l0 n s1) (u_topology_rings_l0 s1):=by
 unfold v_topology_rings_l0 u_topology_rings_l0
 repeat' first
  | with_reducible refine le_cond ?_ ?_
  | with_reducible refine le_onS (fun _=>?_) fun _=>?_
  | with_reducible refine le_ob ?_ fun _=>?_
  | with_reducible refine le_both ?_ ?_
  | with_reducible exact le_rfl
noncomputable def v_topology_rings_l2(n:Nat)(s31:(Unit×List T×List T×Int×Unit×Int×T×List T×Int×Int×Int×Int×List T×List T×T×T×T×Unit)):Option ((Unit×List T×List T×Int×Unit×Int×T×List T×Int×Int×Int×Int×List T×List T×T×T×T×Unit)⊕((Unit×List T×List T×Int×Int×List T×Int×Int×Int×Int×List T×List T×Unit)⊕Empty)):=
 (ob (Go.Eng.T.int? Go.IntKind.i64 s31.2.2.2.2.2.2.1) fun x32=>(ob (Go.Eng.T.int? Go.IntKind.i64 s31.2.2.2.2.2.2.2.2.2.2.2.2.2.2.1) fun x33=>(bif (Bool.not (Go.Eng.eqI x32 x33)) then (ob (Go.Eng.T.anyInt? s31.2.2.2.2.2.2.1) fun x34=>(ob (Go.Eng.idxL s31.2.2.2.2.2.2.2.2.2.2.2.2.1 x34) fun x35=>(some (Sum.inl ((),s31.2.1,s31.2.2.1,s31.2.2.2.1,(),(Go.Eng.wr Go.IntKind.i64 (Go.Eng.addI s31.2.2.2.2.2.1 (1:Int))),(Go.Eng.T.cell x35 1),s31.2.2.2.2.2.2.2.1,s31.2.2.2.2.2.2.2.2.1,s31.2.2.2.2.2.2.2.2.2.1,s31.2.2.2.2.2.2.2.2.2.2.1,s31.2.2.2.2.2.2.2.2.2.2.2.1,s31.2.2.2.2.2.2.2.2.2.2.2.2.1,s31.2.2.2.2.2.2.2.2.2.2.2.2.2.1,s31.2.2.2.2.2.2.2.2.2.2.2.2.2.2.1,s31.2.2.2.2.2.2.2.2.2.2.2.2.2.2.2.1,s31.2.2.2.2.2.2.2.2.2.2.2.2.2.2.2.2.1,()))))) else (some (Sum.inr (Sum.inl ((),s31.2.1,s31.2.2.1,s31.2.2.2.1,s31.2.2.2.2.2.1,s31.2.2.2.2.2.2.2.1,s31.2.2.2.2.2.2.2.2.1,s31.2.2.2.2.2.2.2.2.2.1,s31.2.2.2.2.2.2.2.2.2.2.1,s31.2.2.2.2.2.2.2.2.2.2.2.1,s31.2.2.2.2.2.2.2.2.2.2.2.2.1,s31.2.2.2.2.2.2.2.2.2.2.2.2.2.1,())))))))
theorem le_topology_rings_l2(n:Nat)(s31:(Unit×List T×List T×Int×Unit×Int×T×List T×Int×Int×Int×Int×List T×List T×T×T×T×Unit)):Le (v_topology_rings_l2 n s31) (u_topology_rings_l2 s31):=by
 unfold v_topology_rings_l2 u_topology_rings_l2
 repeat' first
  | with_reducible refine le_cond ?_ ?_
  | with_reducible refine le_onS (fun _=>?_) fun _=>?_
  | with_reducible refine le_ob ?_ fun _=>?_
  | with_reducible refine le_both ?_ ?_
  | with_reducible exact le_rfl
noncomputable def v_topology_rings_l1(n:Nat)(s12:(Unit×List T×List T×List T×Int×Int×Int×Int×List T×List T×Unit)):Option ((Unit×List T×List T×List T×Int×Int×Int×Int×List T×List T×Unit)⊕((Bool×Unit)⊕((Unit×List T×Int×Int×List T×List T×Unit)⊕Empty))):=
 (bif (Go.Eng.ltI s12.2.2.2.2.2.1 s12.2.2.2.2.1) then (ob (α:=((Bool×Unit)⊕((Unit×List T×List T×List T×Int×Int×Int×Int×List T×List T×Unit)⊕Empty))) (ob (Go.Eng.idxL s12.2.2.2.1 s12.2.2.2.2.2.1) fun x13=>(ob (Go.Eng.T.int? Go.IntKind.i64 (Go.Eng.T.cell x13 2)) fun x14=>(ob (Go.Eng.v_topology_index n (x14,s12.2.2.2.2.2.2.2.1,())) fun x15=>(bif (Bool.not x15.1) then (some (Sum.inl (Bool.false,()))) else (ob (Go.Eng.T.int? Go.IntKind.i64 (Go.Eng.T.cell x13 2)) fun x16=>(ob (Go.Eng.T.int? Go.IntKind.i64 (Go.Eng.T.cell x13 0)) fun x17=>(bif (Go.Eng.eqI x17 (-1:Int)) then (ob (Go.Eng.T.int? Go.IntKind.i64 (Go.Eng.T.cell x13 1)) fun x18=>(ob (Go.Eng.v_topology_index n (x18,s12.2.2.2.2.2.2.1,())) fun x19=>(bif (Bool.not x19.1) then (some (Sum.inl (Bool.false,()))) else (ob (Go.Eng.chkI (Go.Eng.lenL s12.2.1) s12.2.2.2.2.2.1) fun x20=>(ob (Go.Eng.idxN s12.2.1 x20) fun x21=>(ob (Go.Eng.T.int? Go.IntKind.i64 (Go.Eng.T.cell x21 0)) fun x22=>(bif (Go.Eng.ltI (0:Int) x22) then (some (Sum.inl (Bool.false,()))) else (some (Sum.inr (Sum.inl ((),s12.2.1,(Go.Eng.mapPut (Go.Eng.T.v (Go.Value.int Go.IntKind.i64 x16)) (Go.Eng.T.v (Go.Value.bool Bool.true)) s12.2.2.1),s12.2.2.2.1,s12.2.2.2.2.1,s12.2.2.2.2.2.1,s12.2.2.2.2.2.2.1,s12.2.2.2.2.2.2.2.1,s12.2.2.2.2.2.2.2.2.1,s12.2.2.2.2.2.2.2.2.2.1,()))))))))))) else (ob (Go.Eng.T.int? Go.IntKind.i64 (Go.Eng.T.cell x13 0)) fun x23=>(ob (Go.Eng.v_topology_index n (x23,(Go.Eng.lenL s12.2.2.2.2.2.2.2.2.1),())) fun x24=>(bif (Bool.not x24.1) then (some (Sum.inl (Bool.false,()))) else (ob (Go.Eng.T.int? Go.IntKind.i64 (Go.Eng.T.cell x13 1)) fun x25=>(bif (Bool.not (Go.Eng.eqI x25 (-1:Int))) then (some (Sum.inl (Bool.false,()))) else (ob (Go.Eng.T.anyInt? (Go.Eng.T.cell x13 0)) fun x26=>(ob (Go.Eng.idxL s12.2.2.2.2.2.2.2.2.1 x26) fun x27=>(ob (Go.Eng.T.int? Go.IntKind.i64 (Go.Eng.T.cell x27 3)) fun x28=>(bif (Bool.not (Go.Eng.eqI x28 s12.2.2.2.2.2.1)) then (some (Sum.inl (Bool.false,()))) else (ob (Go.Eng.T.anyInt? (Go.Eng.T.cell x13 0)) fun x29=>(ob (Go.Eng.idxL s12.2.2.2.2.2.2.2.2.1 x29) fun x30=>(ob (iter (v_topology_rings_l2 n) n ((),s12.2.1,(Go.Eng.mapPut (Go.Eng.T.v (Go.Value.int Go.IntKind.i64 x16)) (Go.Eng.T.v (Go.Value.bool Bool.true)) s12.2.2.1),s12.2.2.2.2.2.1,(),(1:Int),(Go.Eng.T.cell x30 1),s12.2.2.2.1,s12.2.2.2.2.1,s12.2.2.2.2.2.1,s12.2.2.2.2.2.2.1,s12.2.2.2.2.2.2.2.1,s12.2.2.2.2.2.2.2.2.1,s12.2.2.2.2.2.2.2.2.2.1,(Go.Eng.T.cell x13 0),(Go.Eng.T.cell x13 1),(Go.Eng.T.cell x13 2),())) fun q36=>onS q36 (fun t37=>(ob (Go.Eng.chkI (Go.Eng.lenL t37.2.1) t37.2.2.2.1) fun x38=>(ob (Go.Eng.idxN t37.2.1 x38) fun x39=>(ob (Go.Eng.T.int? Go.IntKind.i64 (Go.Eng.T.cell x39 0)) fun x40=>(bif (Bool.not (Go.Eng.eqI t37.2.2.2.2.1 x40)) then (some (Sum.inl (Bool.false,()))) else (some (Sum.inr (Sum.inl ((),t37.2.1,t37.2.2.1,t37.2.2.2.2.2.1,t37.2.2.2.2.2.2.1,t37.2.2.2.2.2.2.2.1,t37.2.2.2.2.2.2.2.2.1,t37.2.2.2.2.2.2.2.2.2.1,t37.2.2.2.2.2.2.2.2.2.2.1,t37.2.2.2.2.2.2.2.2.2.2.2.1,()))))))))) fun q41=>noS q41))))))))))))))))))) fun q42=>onS q42 (fun t43=>(some (Sum.inr (Sum.inl (t43.1,()))))) fun q44=>onS q44 (fun t45=>(some (Sum.inl ((),t45.2.1,t45.2.2.1,t45.2.2.2.1,t45.2.2.2.2.1,(Go.Eng.wr Go.IntKind.i64 (Go.Eng.addI t45.2.2.2.2.2.1 (1:Int))),t45.2.2.2.2.2.2.1,t45.2.2.2.2.2.2.2.1,t45.2.2.2.2.2.2.2.2.1,t45.2.2.2.2.2.2.2.2.2.1,())))) fun q46=>noS q46) else (some (Sum.inr (Sum.inr (Sum.inl ((),s12.2.2.1,s12.2.2.2.2.2.2.1,s12.2.2.2.2.2.2.2.1,s12.2.2.2.2.2.2.2.2.1,s12.2.2.2.2.2.2.2.2.2.1,()))))))
theorem le_topology_rings_l1(n:Nat)(s12:(Unit×List T×List T×List T×Int×Int×Int×Int×List T×List T×Unit)):Le (v_topology_rings_l1 n s12) (u_topology_rings_l1 s12):=by
 unfold v_topology_rings_l1 u_topology_rings_l1
 repeat' first
  | with_reducible refine le_cond ?_ ?_
  | with_reducible refine le_onS (fun _=>?_) fun _=>?_
  | with_reducible refine le_ob ?_ fun _=>?_
  | with_reducible refine le_both ?_ ?_
  | with_reducible exact le_rfl
  | with_reducible exact le_topology_index n _
  | with_reducible exact le_loop (fun s=>le_topology_rings_l2 n s) _ _
noncomputable def v_topology_rings(n:Nat)(t:(Int×Int×(List T)×(List T)×Unit)):Option (Bool×Unit):=
 (ob (Go.Eng.mkLen (Go.Eng.lenL t.2.2.2.1) (Go.Eng.lenL t.2.2.2.1) 8) fun x0=>(ob (iter (v_topology_rings_l0 n) n ((),(Go.Eng.repL x0.1 (Go.Eng.T.v (Go.Value.int Go.IntKind.i64 (0:Int)))),t.2.2.1,(Go.Eng.lenL t.2.2.1),(0:Int),t.1,t.2.1,t.2.2.1,t.2.2.2.1,())) fun q10=>onS q10 (fun t11=>(ob (iter (v_topology_rings_l1 n) n ((),t11.2.1,[],t11.2.2.2.2.2.1,(Go.Eng.lenL t11.2.2.2.2.2.1),(0:Int),t11.2.2.1,t11.2.2.2.1,t11.2.2.2.2.1,t11.2.2.2.2.2.1,())) fun q47=>onS q47 (fun t48=>(some (t48.1,()))) fun q49=>onS q49 (fun t50=>(some ((Go.Eng.eqI (Go.Eng.lenL t50.2.1) t50.2.2.2.1),()))) fun q51=>noS q51)) fun q52=>noS q52))
theorem le_topology_rings(n:Nat)(t:(Int×Int×(List T)×(List T)×Unit)):Le (v_topology_rings n t) (u_topology_rings t):=by
 unfold v_topology_rings u_topology_rings
 repeat' first
  | with_reducible refine le_cond ?_ ?_
  | with_reducible refine le_onS (fun _=>?_) fun _=>?_
  | with_reducible refine le_ob ?_ fun _=>?_
  | with_reducible refine le_both ?_ ?_
  | with_reducible exact le_rfl
  | with_reducible exact le_loop (fun s=>le_topology_rings_l0 n s) _ _
  | with_reducible exact le_loop (fun s=>le_topology_rings_l1 n s) _ _
noncomputable def v_topology_vertices_l0(n:Nat)(s3:(Unit×List T×List T×List T×List T×Int×Int×Int×Int×List T×List T×Unit)):Option ((Unit×List T×List T×List T×List T×Int×Int×Int×Int×List T×List T×Unit)⊕((Unit×List T×List T×List T×Int×Int×List T×List T×Unit)⊕Empty)):=
 (bif (Go.Eng.ltI s3.2.2.2.2.2.2.1 s3.2.2.2.2.2.1) then (ob (α:=((Unit×List T×List T×List T×List T×Int×Int×Int×Int×List T×List T×Unit)⊕Empty)) (ob (Go.Eng.idxL s3.2.2.2.2.1 s3.2.2.2.2.2.2.1) fun x4=>(ob (Go.Eng.T.int? Go.IntKind.i64 (Go.Eng.T.cell x4 0)) fun x5=>(bif (Go.Eng.eqI x5 (-1:Int)) then (ob (Go.Eng.T.anyInt? (Go.Eng.T.cell x4 1)) fun x6=>(ob (Go.Eng.chkI (Go.Eng.lenL s3.2.1) x6) fun x7=>(ob (Go.Eng.idxN s3.2.1 x7) fun x8=>(ob (Go.Eng.T.int? Go.IntKind.i64 (Go.Eng.T.cell x8 0)) fun x9=>(ob (Go.Eng.T.anyInt? (Go.Eng.T.cell x4 1)) fun x10=>(ob (Go.Eng.chkI (Go.Eng.lenL s3.2.1) x10) fun x11=>(ob (Go.Eng.idxN s3.2.1 x11) fun x12=>(some (Sum.inl ((),(List.set s3.2.1 x11 (Go.Eng.T.upd 1 x12 0 [(Go.Eng.T.v (Go.Value.int Go.IntKind.i64 (Go.Eng.wr Go.IntKind.i64 (Go.Eng.addI x9 (1:Int)))))])),s3.2.2.1,s3.2.2.2.1,s3.2.2.2.2.1,s3.2.2.2.2.2.1,s3.2.2.2.2.2.2.1,s3.2.2.2.2.2.2.2.1,s3.2.2.2.2.2.2.2.2.1,s3.2.2.2.2.2.2.2.2.2.1,s3.2.2.2.2.2.2.2.2.2.2.1,())))))))))) else (some (Sum.inl ((),s3.2.1,s3.2.2.1,s3.2.2.2.1,s3.2.2.2.2.1,s3.2.2.2.2.2.1,s3.2.2.2.2.2.2.1,s3.2.2.2.2.2.2.2.1,s3.2.2.2.2.2.2.2.2.1,s3.2.2.2.2.2.2.2.2.2.1,s3.2.2.2.2.2.2.2.2.2.2.1,())))))) fun q13=>onS q13 (fun t14=>(some (Sum.inl ((),t14.2.1,t14.2.2.1,t14.2.2.2.1,t14.2.2.2.2.1,t14.2.2.2.2.2.1,(Go.Eng.wr Go.IntKind.i64 (Go.Eng.addI t14.2.2.2.2.2.2.1 (1:Int))),t14.2.2.2.2.2.2.2.1,t14.2.2.2.2.2.2.2.2.1,t14.2.2.2.2.2.2.2.2.2.1,t14.2.2.2.2.2.2.2.2.2.2.1,())))) fun q15=>noS q15) else (some (Sum.inr (Sum.inl ((),s3.2.1,s3.2.2.1,s3.2.2.2.1,s3.2.2.2.2.2.2.2.1,s3.2.2.2.2.2.2.2.2.1,s3.2.2.2.2.2.2.2.2.2.1,s3.2.2.2.2.2.2.2.2.2.2.1,())))))
theorem le_topology_vertices_l0(n:Nat)(s3:(Unit×List T×List T×List T×List T×Int×Int×Int×Int×List T×List T×Unit)):Le (v_topology_vertices_l0 n s3) (u_topology_vertices_l0 s3):=by
 unfold v_topology_vertices_l0 u_topology_vertices_l0
 repeat' first
  | with_reducible refine le_cond ?_ ?_
  | with_reducible refine le_onS (fun _=>?_) fun _=>?_
  | with_reducible refine le_ob ?_ fun _=>?_
  | with_reducible refine le_both ?_ ?_
  | with_reducible exact le_rfl
noncomputable def v_topology_vertices_l2(n:Nat)(s18:(Unit×List T×List T×List T×List T×Int×Int×Int×Int×List T×List T×Unit)):Option ((Unit×List T×List T×List T×List T×Int×Int×Int×Int×List T×List T×Unit)⊕((Unit×List T×List T×List T×Int×Int×List T×List T×Unit)⊕Empty)):=
 (bif (Go.Eng.ltI s18.2.2.2.2.2.2.1 s18.2.2.2.2.2.1) then (ob (Go.Eng.idxL s18.2.2.2.2.1 s18.2.2.2.2.2.2.1) fun x19=>(ob (Go.Eng.T.anyInt? (Go.Eng.T.cell x19 0)) fun x20=>(ob (Go.Eng.chkI (Go.Eng.lenL s18.2.2.1) x20) fun x21=>(ob (Go.Eng.idxN s18.2.2.1 x21) fun x22=>(ob (Go.Eng.T.int? Go.IntKind.i64 (Go.Eng.T.cell x22 0)) fun x23=>(ob (Go.Eng.T.anyInt? (Go.Eng.T.cell x19 0)) fun x24=>(ob (Go.Eng.chkI (Go.Eng.lenL s18.2.2.1) x24) fun x25=>(ob (Go.Eng.idxN s18.2.2.1 x25) fun x26=>(ob (Go.Eng.T.anyInt? (Go.Eng.T.cell x19 0)) fun x27=>(ob (Go.Eng.chkI (Go.Eng.lenL s18.2.2.2.1) x27) fun x28=>(ob (Go.Eng.idxN s18.2.2.2.1 x28) fun x29=>(some (Sum.inl ((),s18.2.1,(List.set s18.2.2.1 x25 (Go.Eng.T.upd 1 x26 0 [(Go.Eng.T.v (Go.Value.int Go.IntKind.i64 (Go.Eng.wr Go.IntKind.i64 (Go.Eng.addI x23 (1:Int)))))])),(List.set s18.2.2.2.1 x28 (Go.Eng.T.upd 1 x29 0 [(Go.Eng.T.v (Go.Value.int Go.IntKind.i64 s18.2.2.2.2.2.2.1))])),s18.2.2.2.2.1,s18.2.2.2.2.2.1,(Go.Eng.wr Go.IntKind.i64 (Go.Eng.addI s18.2.2.2.2.2.2.1 (1:Int))),s18.2.2.2.2.2.2.2.1,s18.2.2.2.2.2.2.2.2.1,s18.2.2.2.2.2.2.2.2.2.1,s18.2.2.2.2.2.2.2.2.2.2.1,())))))))))))))) else (some (Sum.inr (Sum.inl ((),s18.2.1,s18.2.2.1,s18.2.2.2.1,s18.2.2.2.2.2.2.2.1,s18.2.2.2.2.2.2.2.2.1,s18.2.2.2.2.2.2.2.2.2.1,s18.2.2.2.2.2.2.2.2.2.2.1,())))))
theorem le_topology_vertices_l2(n:Nat)(s18:(Unit×List T×List T×List T×List T×Int×Int×Int×Int×List T×List T×Unit)):Le (v_topology_vertices_l2 n s18) (u_topology_vertices_l2 s18):=by
 unfold v_topology_vertices_l2 u_topology_vertices_l2
 repeat' first
  | with_reducible refine le_cond ?_ ?_
  | with_reducible refine le_onS (fun _=>?_) fun _=>?_
  | with_reducible refine le_ob ?_ fun _=>?_
  | with_reducible refine le_both ?_ ?_
  | with_reducible exact le_rfl
noncomputable def v_topology_vertices_l4(n:Nat)(s45:(Unit×List T×List T×List T×Int×Int×Int×Int×Int×Int×Int×List T×List T×Unit)):Option ((Unit×List T×List T×List T×Int×Int×Int×Int×Int×Int×Int×List T×List T×Unit)⊕((Unit×List T×List T×List T×Int×Int×Int×Int×Int×Int×List T×List T×Unit)⊕Empty)):=
 (ob (Go.Eng.chkI (Go.Eng.lenL s45.2.2.2.1) s45.2.2.2.2.1) fun x46=>(ob (Go.Eng.idxN s45.2.2.2.1 x46) fun x47=>(ob (Go.Eng.T.int? Go.IntKind.i64 (Go.Eng.T.cell x47 0)) fun x48=>(bif (Bool.not (Go.Eng.eqI s45.2.2.2.2.2.2.1 x48)) then (ob (Go.Eng.idxL s45.2.2.2.2.2.2.2.2.2.2.2.1 s45.2.2.2.2.2.2.1) fun x49=>(ob (Go.Eng.T.int? Go.IntKind.i64 (Go.Eng.T.cell x49 2)) fun x50=>(ob (Go.Eng.v_topology_mate n (x50,())) fun x51=>(some (Sum.inl ((),s45.2.1,s45.2.2.1,s45.2.2.2.1,s45.2.2.2.2.1,(Go.Eng.wr Go.IntKind.i64 (Go.Eng.addI s45.2.2.2.2.2.1 (1:Int))),x51.1,s45.2.2.2.2.2.2.2.1,s45.2.2.2.2.2.2.2.2.1,s45.2.2.2.2.2.2.2.2.2.1,s45.2.2.2.2.2.2.2.2.2.2.1,s45.2.2.2.2.2.2.2.2.2.2.2.1,s45.2.2.2.2.2.2.2.2.2.2.2.2.1,())))))) else (some (Sum.inr (Sum.inl ((),s45.2.1,s45.2.2.1,s45.2.2.2.1,s45.2.2.2.2.1,s45.2.2.2.2.2.1,s45.2.2.2.2.2.2.2.1,s45.2.2.2.2.2.2.2.2.1,s45.2.2.2.2.2.2.2.2.2.1,s45.2.2.2.2.2.2.2.2.2.2.1,s45.2.2.2.2.2.2.2.2.2.2.2.1,s45.2.2.2.2.2.2.2.2.2.2.2.2.1,()))))))))
theorem le_topology_vertices_l4(n:Nat)(s45:(Unit×List T×List T×List T×Int×Int×Int×Int×Int×Int×Int×List T×List T×Unit)):Le (v_topology_vertices_l4 n s45) (u_topology_vertices_l4 s45):=by
 unfold v_topology_vertices_l4 u_topology_vertices_l4
 repeat' first
  | with_reducible refine le_cond ?_ ?_
  | with_reducible refine le_onS (fun _=>?_) fun _=>?_
  | with_reducible refine le_ob ?_ fun _=>?_
  | with_reducible refine le_both ?_ ?_
  | with_reducible exact le_rfl
  | with_reducible exact le_topology_mate n _
noncomputable def v_topology_vertices_l3(n:Nat)(s32:(Unit×List T×List T×List T×Int×Int×Int×Int×List T×List T×Unit)):Option ((Unit×List T×List T×List T×Int×Int×Int×Int×List T×List T×Unit)⊕((Bool×Unit)⊕((Unit)⊕Empty))):=
 (bif (Go.Eng.ltI s32.2.2.2.2.2.1 s32.2.2.2.2.1) then (ob (α:=((Bool×Unit)⊕((Unit×List T×List T×List T×Int×Int×Int×Int×List T×List T×Unit)⊕Empty))) (ob (Go.Eng.chkI (Go.Eng.lenL s32.2.2.1) s32.2.2.2.2.2.1) fun x33=>(ob (Go.Eng.idxN s32.2.2.1 x33) fun x34=>(ob (Go.Eng.T.int? Go.IntKind.i64 (Go.Eng.T.cell x34 0)) fun x35=>(bif (Go.Eng.eqI x35 (0:Int)) then (ob (Go.Eng.chkI (Go.Eng.lenL s32.2.1) s32.2.2.2.2.2.1) fun x36=>(ob (Go.Eng.idxN s32.2.1 x36) fun x37=>(ob (Go.Eng.T.int? Go.IntKind.i64 (Go.Eng.T.cell x37 0)) fun x38=>(bif (Bool.not (Go.Eng.eqI x38 (1:Int))) then (some (Sum.inl (Bool.false,()))) else (some (Sum.inr (Sum.inl ((),s32.2.1,s32.2.2.1,s32.2.2.2.1,s32.2.2.2.2.1,s32.2.2.2.2.2.1,s32.2.2.2.2.2.2.1,s32.2.2.2.2.2.2.2.1,s32.2.2.2.2.2.2.2.2.1,s32.2.2.2.2.2.2.2.2.2.1,())))))))) else (ob (Go.Eng.chkI (Go.Eng.lenL s32.2.2.2.1) s32.2.2.2.2.2.1) fun x39=>(ob (Go.Eng.idxN s32.2.2.2.1 x39) fun x40=>(ob (Go.Eng.T.anyInt? (Go.Eng.T.cell x40 0)) fun x41=>(ob (Go.Eng.idxL s32.2.2.2.2.2.2.2.2.1 x41) fun x42=>(ob (Go.Eng.T.int? Go.IntKind.i64 (Go.Eng.T.cell x42 2)) fun x43=>(ob (Go.Eng.v_topology_mate n (x43,())) fun x44=>(ob (iter (v_topology_vertices_l4 n) n ((),s32.2.1,s32.2.2.1,s32.2.2.2.1,s32.2.2.2.2.2.1,(1:Int),x44.1,s32.2.2.2.2.1,s32.2.2.2.2.2.1,s32.2.2.2.2.2.2.1,s32.2.2.2.2.2.2.2.1,s32.2.2.2.2.2.2.2.2.1,s32.2.2.2.2.2.2.2.2.2.1,())) fun q52=>onS q52 (fun t53=>(ob (Go.Eng.chkI (Go.Eng.lenL t53.2.1) t53.2.2.2.2.1) fun x54=>(ob (Go.Eng.idxN t53.2.1 x54) fun x55=>(ob (Go.Eng.T.int? Go.IntKind.i64 (Go.Eng.T.cell x55 0)) fun x56=>(bif (Go.Eng.ltI (0:Int) x56) then (some (Sum.inl (Bool.false,()))) else (ob (Go.Eng.chkI (Go.Eng.lenL t53.2.2.1) t53.2.2.2.2.1) fun x57=>(ob (Go.Eng.idxN t53.2.2.1 x57) fun x58=>(ob (Go.Eng.T.int? Go.IntKind.i64 (Go.Eng.T.cell x58 0)) fun x59=>(bif (Bool.not (Go.Eng.eqI t53.2.2.2.2.2.1 x59)) then (some (Sum.inl (Bool.false,()))) else (some (Sum.inr (Sum.inl ((),t53.2.1,t53.2.2.1,t53.2.2.2.1,t53.2.2.2.2.2.2.1,t53.2.2.2.2.2.2.2.1,t53.2.2.2.2.2.2.2.2.1,t53.2.2.2.2.2.2.2.2.2.1,t53.2.2.2.2.2.2.2.2.2.2.1,t53.2.2.2.2.2.2.2.2.2.2.2.1,()))))))))))))) fun q60=>noS q60))))))))))) fun q61=>onS q61 (fun t62=>(some (Sum.inr (Sum.inl (t62.1,()))))) fun q63=>onS q63 (fun t64=>(some (Sum.inl ((),t64.2.1,t64.2.2.1,t64.2.2.2.1,t64.2.2.2.2.1,(Go.Eng.wr Go.IntKind.i64 (Go.Eng.addI t64.2.2.2.2.2.1 (1:Int))),t64.2.2.2.2.2.2.1,t64.2.2.2.2.2.2.2.1,t64.2.2.2.2.2.2.2.2.1,t64.2.2.2.2.2.2.2.2.2.1,())))) fun q65=>noS q65) else (some (Sum.inr (Sum.inr (Sum.inl ())))))
theorem le_topology_vertices_l3(n:Nat)(s32:(Unit×List T×List T×List T×Int×Int×Int×Int×List T×List T×Unit)):Le (v_topology_vertices_l3 n s32) (u_topology_vertices_l3 s32):=by
 unfold v_topology_vertices_l3 u_topology_vertices_l3
 repeat' first
  | with_reducible refine le_cond ?_ ?_
  | with_reducible refine le_onS (fun _=>?_) fun _=>?_
  | with_reducible refine le_ob ?_ fun _=>?_
  | with_reducible refine le_both ?_ ?_
  | with_reducible exact le_rfl
  | with_reducible exact le_topology_mate n _
  | with_reducible exact le_loop (fun s=>le_topology_vertices_l4 n s) _ _
noncomputable def v_topology_vertices(n:Nat)(t:(Int×Int×(List T)×(List T)×Unit)):Option (Bool×Unit):=
 (ob (Go.Eng.mkLen t.1 t.1 8) fun x0=>(ob (Go.Eng.mkLen t.1 t.1 8) fun x1=>(ob (Go.Eng.mkLen t.1 t.1 8) fun x2=>(ob (iter (v_topology_vertices_l0 n) n ((),(Go.Eng.repL x0.1 (Go.Eng.T.v (Go.Value.int Go.IntKind.i64 (0:Int)))),(Go.Eng.repL x1.1 (Go.Eng.T.v (Go.Value.int Go.IntKind.i64 (0:Int)))),(Go.Eng.repL x2.1 (Go.Eng.T.v (Go.Value.int Go.IntKind.i64 (0:Int)))),t.2.2.2.1,(Go.Eng.lenL t.2.2.2.1),(0:Int),t.1,t.2.1,t.2.2.1,t.2.2.2.1,())) fun q16=>onS q16 (fun t17=>(ob (iter (v_topology_vertices_l2 n) n ((),t17.2.1,t17.2.2.1,t17.2.2.2.1,t17.2.2.2.2.2.2.1,(Go.Eng.lenL t17.2.2.2.2.2.2.1),(0:Int),t17.2.2.2.2.1,t17.2.2.2.2.2.1,t17.2.2.2.2.2.2.1,t17.2.2.2.2.2.2.2.1,())) fun q30=>onS q30 (fun t31=>(ob (iter (v_topology_vertices_l3 n) n ((),t31.2.1,t31.2.2.1,t31.2.2.2.1,t31.2.2.2.2.1,(0:Int),t31.2.2.2.2.1,t31.2.2.2.2.2.1,t31.2.2.2.2.2.2.1,t31.2.2.2.2.2.2.2.1,())) fun q66=>onS q66 (fun t67=>(some (t67.1,()))) fun q68=>onS q68 (fun t69=>(some (Bool.true,()))) fun q70=>noS q70)) fun q71=>noS q71)) fun q72=>noS q72))))
theorem le_topology_vertices(n:Nat)(t:(Int×Int×(List T)×(List T)×Unit)):Le (v_topology_vertices n t) (u_topology_vertices t):=by
 unfold v_topology_vertices u_topology_vertices
 repeat' first
  | with_reducible refine le_cond ?_ ?_
  | with_reducible refine le_onS (fun _=>?_) fun _=>?_
  | with_reducible refine le_ob ?_ fun _=>?_
  | with_reducible refine le_both ?_ ?_
  | with_reducible exact le_rfl
  | with_reducible exact le_loop (fun s=>le_topology_vertices_l0 n s) _ _
  | with_reducible exact le_loop (fun s=>le_topology_vertices_l2 n s) _ _
  | with_reducible exact le_loop (fun s=>le_topology_vertices_l3 n s) _ _
noncomputable def v_topology_Check(n:Nat)(t:(Int×Int×(List T)×(List T)×Unit)):Option (Bool×Unit):=
 (bif (Go.Eng.ltI (256:Int) (Go.Eng.lenL t.2.2.1)) then (some (Bool.false,())) else (bif (Go.Eng.eqI (Go.Eng.modI (Go.Eng.lenL t.2.2.1) (2:Int)) (1:Int)) then (some (Bool.false,())) else (bif (Go.Eng.ltI t.1 (1:Int)) then (some (Bool.false,())) else (bif (Go.Eng.ltI (257:Int) t.1) then (some (Bool.false,())) else (bif (Go.Eng.ltI t.2.1 (1:Int)) then (some (Bool.false,())) else (bif (Go.Eng.ltI (257:Int) t.2.1) then (some (Bool.false,())) else (bif (Go.Eng.ltI (257:Int) (Go.Eng.lenL t.2.2.2.1)) then (some (Bool.false,())) else (ob (Go.Eng.v_topology_halves n (t.1,t.2.1,t.2.2.1,t.2.2.2.1,())) fun x0=>(bif x0.1 then (ob (Go.Eng.v_topology_rings n (t.1,t.2.1,t.2.2.1,t.2.2.2.1,())) fun x1=>(bif x1.1 then (ob (Go.Eng.v_topology_vertices n (t.1,t.2.1,t.2.2.1,t.2.2.2.1,())) fun x2=>(some (x2.1,()))) else (some (Bool.false,())))) else (some (Bool.false,())))))))))))
theorem le_topology_Check(n:Nat)(t:(Int×Int×(List T)×(List T)×Unit)):Le (v_topology_Check n t) (u_topology_Check t):=by
 unfold v_topology_Check u_topology_Check
 repeat' first
  | with_reducible refine le_cond ?_ ?_
  | with_reducible refine le_onS (fun _=>?_) fun _=>?_
  | with_reducible refine le_ob ?_ fun _=>?_
  | with_reducible refine le_both ?_ ?_
  | with_reducible exact le_rfl
  | with_reducible exact le_topology_halves n _
  | with_reducible exact le_topology_rings n _
  | with_reducible exact le_topology_vertices n _
noncomputable def v_topology_Shells_l0(n:Nat)(s2:(Unit×List (List T)×List T×Int×Int×Int×Int×List T×List T×Unit)):Option ((Unit×List (List T)×List T×Int×Int×Int×Int×List T×List T×Unit)⊕((Unit×List T×Int×Int×List T×List T×Unit)⊕Empty)):=
 (bif (Go.Eng.ltI s2.2.2.2.2.1 s2.2.2.2.1) then (ob (Go.Eng.idxL s2.2.2.1 s2.2.2.2.2.1) fun x3=>(ob (Go.Eng.T.anyInt? (Go.Eng.T.cell x3 3)) fun x4=>(ob (Go.Eng.idxL s2.2.2.2.2.2.2.2.2.1 x4) fun x5=>(ob (Go.Eng.v_topology_mate n (s2.2.2.2.2.1,())) fun x6=>(ob (Go.Eng.idxL s2.2.2.2.2.2.2.2.1 x6.1) fun x7=>(ob (Go.Eng.T.anyInt? (Go.Eng.T.cell x7 3)) fun x8=>(ob (Go.Eng.idxL s2.2.2.2.2.2.2.2.2.1 x8) fun x9=>(ob (Go.Eng.T.anyInt? (Go.Eng.T.cell x5 2)) fun x10=>(ob (Go.Eng.chkI (Go.Eng.lenL s2.2.1) x10) fun x11=>(ob (Go.Eng.idxN s2.2.1 x11) fun x12=>(ob (Go.Eng.T.int? Go.IntKind.i64 (Go.Eng.T.cell x9 2)) fun x13=>(ob (Go.Eng.idxN s2.2.1 x11) fun x14=>(ob (Go.Eng.room x14 [(Go.Eng.T.v (Go.Value.int Go.IntKind.i64 x13))] 8) fun x15=>(ob (Go.Eng.T.anyInt? (Go.Eng.T.cell x5 2)) fun x16=>(ob (Go.Eng.chkI (Go.Eng.lenL (List.set s2.2.1 x11 x15)) x16) fun x17=>(ob (Go.Eng.eqN x17 x11) fun x18=>(ob (Go.Eng.eqN x11 x17) fun x19=>(ob (Go.Eng.idxN (List.set s2.2.1 x11 x15) x17) fun x20=>(some (Sum.inl ((),(List.set s2.2.1 x11 x15),s2.2.2.1,s2.2.2.2.1,(Go.Eng.wr Go.IntKind.i64 (Go.Eng.addI s2.2.2.2.2.1 (1:Int))),s2.2.2.2.2.2.1,s2.2.2.2.2.2.2.1,s2.2.2.2.2.2.2.2.1,s2.2.2.2.2.2.2.2.2.1,()))))))))))))))))))))) else (some (Sum.inr (Sum.inl ((),(Go.Eng.rowsT 1 s2.2.1),s2.2.2.2.2.2.1,s2.2.2.2.2.2.2.1,s2.2.2.2.2.2.2.2.1,s2.2.2.2.2.2.2.2.2.1,())))))
theorem le_topology_Shells_l0(n:Nat)(s2:(Unit×List (List T)×List T×Int×Int×Int×Int×List T×List T×Unit)):Le (v_topology_Shells_l0 n s2) (u_topology_Shells_l0 s2):=by
 unfold v_topology_Shells_l0 u_topology_Shells_l0
 repeat' first
  | with_reducible refine le_cond ?_ ?_
  | with_reducible refine le_onS (fun _=>?_) fun _=>?_
  | with_reducible refine le_ob ?_ fun _=>?_
  | with_reducible refine le_both ?_ ?_
  | with_reducible exact le_rfl
  | with_reducible exact le_topology_mate n _
noncomputable def v_topology_Shells_l1(n:Nat)(s24:(List T×List T×Int×Int×Unit)):Option ((List T×List T×Int×Int×Unit)⊕((List T×List T×Unit)⊕Empty)):=
 (bif (Go.Eng.ltI s24.2.2.2.1 s24.2.2.1) then (ob (Go.Eng.chkI (Go.Eng.lenL s24.2.1) s24.2.2.2.1) fun x25=>(ob (Go.Eng.idxN s24.2.1 x25) fun x26=>(some (Sum.inl (s24.1,(List.set s24.2.1 x25 (Go.Eng.T.upd 1 x26 0 [(Go.Eng.T.v (Go.Value.int Go.IntKind.i64 (-1:Int)))])),s24.2.2.1,(Go.Eng.wr Go.IntKind.i64 (Go.Eng.addI s24.2.2.2.1 (1:Int))),()))))) else (some (Sum.inr (Sum.inl (s24.1,s24.2.1,())))))
theorem le_topology_Shells_l1(n:Nat)(s24:(List T×List T×Int×Int×Unit)):Le (v_topology_Shells_l1 n s24) (u_topology_Shells_l1 s24):=by
 unfold v_topology_Shells_l1 u_topology_Shells_l1
 repeat' first
  | with_reducible refine le_cond ?_ ?_
  | with_reducible refine le_onS (fun _=>?_) fun _=>?_
  | with_reducible refine le_ob ?_ fun _=>?_
  | with_reducible refine le_both ?_ ?_
  | with_reducible exact le_rfl
noncomputable def v_topology_Shells_l3(n:Nat)(s33:(List T×List T×Int×List T×Int×Int×Unit)):Option ((List T×List T×Int×List T×Int×Int×Unit)⊕((List T×List T×Int×Int×Int×Unit)⊕Empty)):=
 (bif (Go.Eng.ltI (0:Int) (Go.Eng.lenL s33.2.2.2.1)) then (ob (Go.Eng.chkI (Go.Eng.lenL s33.2.2.2.1) (0:Int)) fun x34=>(ob (Go.Eng.idxN s33.2.2.2.1 x34) fun x35=>(ob (Go.Eng.cutI (Go.Eng.lenL s33.2.2.2.1) (1:Int) (Go.Eng.lenL s33.2.2.2.1)) fun x36=>(ob (Go.Eng.T.anyInt? (Go.Eng.T.cell x35 0)) fun x37=>(ob (Go.Eng.chkI (Go.Eng.lenL s33.2.1) x37) fun x38=>(ob (Go.Eng.idxN s33.2.1 x38) fun x39=>(ob (Go.Eng.T.int? Go.IntKind.i64 (Go.Eng.T.cell x39 0)) fun x40=>(bif (Go.Eng.ltI x40 (0:Int)) then (ob (Go.Eng.T.anyInt? (Go.Eng.T.cell x35 0)) fun x41=>(ob (Go.Eng.chkI (Go.Eng.lenL s33.2.1) x41) fun x42=>(ob (Go.Eng.idxN s33.2.1 x42) fun x43=>(ob (Go.Eng.T.anyInt? (Go.Eng.T.cell x35 0)) fun x44=>(ob (Go.Eng.idxL s33.1 x44) fun x45=>(ob (Go.Eng.T.rw? 1 (Go.Eng.T.cell x45 0)) fun x46=>(ob (Go.Eng.room (Go.Eng.cutN s33.2.2.2.1 x36.1 x36.2) x46 8) fun x47=>(some (Sum.inl (s33.1,(List.set s33.2.1 x42 (Go.Eng.T.upd 1 x43 0 [(Go.Eng.T.v (Go.Value.int Go.IntKind.i64 s33.2.2.1))])),s33.2.2.1,x47,s33.2.2.2.2.1,s33.2.2.2.2.2.1,())))))))))) else (some (Sum.inl (s33.1,s33.2.1,s33.2.2.1,(cutN s33.2.2.2.1 x36.1 x36.2),s33.2.2.2.2.1,s33.2.2.2.2.2.1,()))))))))))) else (some (Sum.inr (Sum.inl (s33.1,s33.2.1,s33.2.2.1,s33.2.2.2.2.1,s33.2.2.2.2.2.1,())))))
theorem le_topology_Shells_l3(n:Nat)(s33:(List T×List T×Int×List T×Int×Int×Unit)):Le (v_topology_Shells_l3 n s33) (u_topology_Shells_l3 s33):=by
 unfold v_topology_Shells_l3 u_topology_Shells_l3
 repeat' first
  | with_reducible refine le_cond ?_ ?_
  | with_reducible refine le_onS (fun _=>?_) fun _=>?_
  | with_reducible refine le_ob ?_ fun _=>?_
  | with_reducible refine le_both ?_ ?_
  | with_reducible exact le_rfl
noncomputable def v_topology_Shells_l2(n:Nat)(s29:(List T×List T×Int×Int×Int×Unit)):Option ((List T×List T×Int×Int×Int×Unit)⊕((List T×Unit)⊕Empty)):=
 (bif (Go.Eng.ltI s29.2.2.2.2.1 s29.2.2.2.1) then (ob (α:=((List T×List T×Int×Int×Int×Unit)⊕Empty)) (ob (Go.Eng.chkI (Go.Eng.lenL s29.2.1) s29.2.2.2.2.1) fun x30=>(ob (Go.Eng.idxN s29.2.1 x30) fun x31=>(ob (Go.Eng.T.int? Go.IntKind.i64 (Go.Eng.T.cell x31 0)) fun x32=>(bif (Go.Eng.leI (0:Int) x32) then (some (Sum.inl (s29.1,s29.2.1,s29.2.2.1,s29.2.2.2.1,s29.2.2.2.2.1,()))) else (ob (iter (v_topology_Shells_l3 n) n (s29.1,s29.2.1,s29.2.2.1,[(Go.Eng.T.v (Go.Value.int Go.IntKind.i64 s29.2.2.2.2.1))],s29.2.2.2.1,s29.2.2.2.2.1,())) fun q48=>onS q48 (fun t49=>(some (Sum.inl (t49.1,t49.2.1,(Go.Eng.wr Go.IntKind.i64 (Go.Eng.addI t49.2.2.1 (1:Int))),t49.2.2.2.1,t49.2.2.2.2.1,())))) fun q50=>noS q50))))) fun q51=>onS q51 (fun t52=>(some (Sum.inl (t52.1,t52.2.1,t52.2.2.1,t52.2.2.2.1,(Go.Eng.wr Go.IntKind.i64 (Go.Eng.addI t52.2.2.2.2.1 (1:Int))),())))) fun q53=>noS q53) else (some (Sum.inr (Sum.inl (s29.2.1,())))))
theorem le_topology_Shells_l2(n:Nat)(s29:(List T×List T×Int×Int×Int×Unit)):Le (v_topology_Shells_l2 n s29) (u_topology_Shells_l2 s29):=by
 unfold v_topology_Shells_l2 u_topology_Shells_l2
 repeat' first
  | with_reducible refine le_cond ?_ ?_
  | with_reducible refine le_onS (fun _=>?_) fun _=>?_
  | with_reducible refine le_ob ?_ fun _=>?_
  | with_reducible refine le_both ?_ ?_
  | with_reducible exact le_rfl
  | with_reducible exact le_loop (fun s=>le_topology_Shells_l3 n s) _ _
noncomputable def v_topology_Shells(n:Nat)(t:(Int×Int×(List T)×(List T)×Unit)):Option ((List T)×Unit):=
 (ob (Go.Eng.v_topology_Check n (t.1,t.2.1,t.2.2.1,t.2.2.2.1,())) fun x0=>(bif (Bool.not x0.1) then (some ([],())) else (ob (Go.Eng.mkLen t.2.1 t.2.1 24) fun x1=>(ob (iter (v_topology_Shells_l0 n) n ((),(Go.Eng.repL x1.1 []),t.2.2.1,(Go.Eng.lenL t.2.2.1),(0:Int),t.1,t.2.1,t.2.2.1,t.2.2.2.1,())) fun q21=>onS q21 (fun t22=>(ob (Go.Eng.mkLen t22.2.2.2.1 t22.2.2.2.1 8) fun x23=>(ob (iter (v_topology_Shells_l1 n) n (t22.2.1,(Go.Eng.repL x23.1 (Go.Eng.T.v (Go.Value.int Go.IntKind.i64 (0:Int)))),(Go.Eng.lenL (Go.Eng.repL x23.1 (Go.Eng.T.v (Go.Value.int Go.IntKind.i64 (0:Int))))),(0:Int),())) fun q27=>onS q27 (fun t28=>(ob (iter (v_topology_Shells_l2 n) n (t28.1,t28.2.1,(0:Int),(Go.Eng.lenL t28.2.1),(0:Int),())) fun q54=>onS q54 (fun t55=>(some (t55.1,()))) fun q56=>noS q56)) fun q57=>noS q57))) fun q58=>noS q58))))
theorem le_topology_Shells(n:Nat)(t:(Int×Int×(List T)×(List T)×Unit)):Le (v_topology_Shells n t) (u_topology_Shells t):=by
 unfold v_topology_Shells u_topology_Shells
 repeat' first
  | with_reducible refine le_cond ?_ ?_
  | with_reducible refine le_onS (fun _=>?_) fun _=>?_
  | with_reducible refine le_ob ?_ fun _=>?_
  | with_reducible refine le_both ?_ ?_
  | with_reducible exact le_rfl
  | with_reducible exact le_topology_Check n _
  | with_reducible exact le_loop (fun s=>le_topology_Shells_l0 n s) _ _
  | with_reducible exact le_loop (fun s=>le_topology_Shells_l1 n s) _ _
  | with_reducible exact le_loop (fun s=>le_topology_Shells_l2 n s) _ _
noncomputable def v_topology_Count_l0(n:Nat)(s2:(Unit×Unit×List T×Int×Int×Int×Int×Int×Int×Int×Int×Int×Int×Int×Int×Int×Int×Unit)):Option ((Unit×Unit×List T×Int×Int×Int×Int×Int×Int×Int×Int×Int×Int×Int×Int×Int×Int×Unit)⊕((Unit×Unit×Int×Int×Int×Int×Int×Int×Int×Int×Int×Int×Int×Int×Unit)⊕Empty)):=
 (bif (Go.Eng.ltI s2.2.2.2.2.1 s2.2.2.2.1) then (ob (Go.Eng.idxL s2.2.2.1 s2.2.2.2.2.1) fun x3=>(ob (Go.Eng.T.int? Go.IntKind.i64 (Go.Eng.T.cell x3 0)) fun x4=>(some (Sum.inl ((),(),s2.2.2.1,s2.2.2.2.1,(Go.Eng.wr Go.IntKind.i64 (Go.Eng.addI s2.2.2.2.2.1 (1:Int))),s2.2.2.2.2.2.1,s2.2.2.2.2.2.2.1,s2.2.2.2.2.2.2.2.1,s2.2.2.2.2.2.2.2.2.1,s2.2.2.2.2.2.2.2.2.2.1,s2.2.2.2.2.2.2.2.2.2.2.1,s2.2.2.2.2.2.2.2.2.2.2.2.1,s2.2.2.2.2.2.2.2.2.2.2.2.2.1,s2.2.2.2.2.2.2.2.2.2.2.2.2.2.1,s2.2.2.2.2.2.2.2.2.2.2.2.2.2.2.1,(Go.Eng.mmI Bool.true s2.2.2.2.2.2.2.2.2.2.2.2.2.2.2.2.1 (Go.Eng.wr Go.IntKind.i64 (Go.Eng.addI x4 (1:Int)))),s2.2.2.2.2.2.2.2.2.2.2.2.2.2.2.2.2.1,()))))) else (some (Sum.inr (Sum.inl ((),(),s2.2.2.2.2.2.1,s2.2.2.2.2.2.2.1,s2.2.2.2.2.2.2.2.1,s2.2.2.2.2.2.2.2.2.1,s2.2.2.2.2.2.2.2.2.2.1,s2.2.2.2.2.2.2.2.2.2.2.1,s2.2.2.2.2.2.2.2.2.2.2.2.1,s2.2.2.2.2.2.2.2.2.2.2.2.2.1,s2.2.2.2.2.2.2.2.2.2.2.2.2.2.1,s2.2.2.2.2.2.2.2.2.2.2.2.2.2.2.1,s2.2.2.2.2.2.2.2.2.2.2.2.2.2.2.2.1,s2.2.2.2.2.2.2.2.2.2.2.2.2.2.2.2.2.1,())))))
theorem le_topology_Count_l0(n:Nat)(s2:(Unit×Unit×List T×Int×Int×Int×Int×Int×Int×Int×Int×Int×Int×Int×Int×Int×Int×Unit)):Le (v_topology_Count_l0 n s2) (u_topology_Count_l0 s2):=by
 unfold v_topology_Count_l0 u_topology_Count_l0
 repeat' first
  | with_reducible refine le_cond ?_ ?_
  | with_reducible refine le_onS (fun _=>?_) fun _=>?_
  | with_reducible refine le_ob ?_ fun _=>?_
  | with_reducible refine le_both ?_ ?_
  | with_reducible exact le_rfl
noncomputable def v_topology_Count(n:Nat)(t:(Int×Int×(List T)×(List T)×Unit)):Option (Int×Int×Int×Int×Int×Int×Bool×Unit):=
 (ob (Go.Eng.v_topology_Check n (t.1,t.2.1,t.2.2.1,t.2.2.2.1,())) fun x0=>(bif (Bool.not x0.1) then (some ((0:Int),(0:Int),(0:Int),(0:Int),(0:Int),(0:Int),Bool.false,())) else (ob (Go.Eng.v_topology_Shells n (t.1,t.2.1,t.2.2.1,t.2.2.2.1,())) fun x1=>(ob (iter (v_topology_Count_l0 n) n ((),(),x1.1,(Go.Eng.lenL x1.1),(0:Int),(0:Int),(0:Int),(0:Int),(0:Int),(0:Int),(0:Int),t.1,(Go.Eng.wr Go.IntKind.i64 (Go.Eng.divI (Go.Eng.lenL t.2.2.1) (2:Int))),t.2.1,(Go.Eng.wr Go.IntKind.i64 (Go.Eng.subI (Go.Eng.lenL t.2.2.2.1) t.2.1)),(0:Int),(0:Int),())) fun q5=>onS q5 (fun t6=>(some (t6.2.2.2.2.2.2.2.2.1,t6.2.2.2.2.2.2.2.2.2.1,t6.2.2.2.2.2.2.2.2.2.2.1,t6.2.2.2.2.2.2.2.2.2.2.2.1,t6.2.2.2.2.2.2.2.2.2.2.2.2.1,(Go.Eng.wr Go.IntKind.i64 (Go.Eng.subI t6.2.2.2.2.2.2.2.2.2.2.2.2.1 (Go.Eng.wr Go.IntKind.i64 (Go.Eng.divI (Go.Eng.wr Go.IntKind.i64 (Go.Eng.subI (Go.Eng.wr Go.IntKind.i64 (Go.Eng.addI (Go.Eng.wr Go.IntKind.i64 (Go.Eng.subI t6.2.2.2.2.2.2.2.2.1 t6.2.2.2.2.2.2.2.2.2.1)) t6.2.2.2.2.2.2.2.2.2.2.1)) t6.2.2.2.2.2.2.2.2.2.2.2.1)) (2:Int))))),Bool.true,()))) fun q7=>noS q7))))
theorem le_topology_Count(n:Nat)(t:(Int×Int×(List T)×(List T)×Unit)):Le (v_topology_Count n t) (u_topology_Count t):=by
 unfold v_topology_Count u_topology_Count
 repeat' first
  | with_reducible refine le_cond ?_ ?_
  | with_reducible refine le_onS (fun _=>?_) fun _=>?_
  | with_reducible refine le_ob ?_ fun _=>?_
  | with_reducible refine le_both ?_ ?_
  | with_reducible exact le_rfl
  | with_reducible exact le_topology_Check n _
  | with_reducible exact le_topology_Shells n _
  | with_reducible exact le_loop (fun s=>le_topology_Count_l0 n s) _ _
noncomputable def v_shell_Genus_l0(n:Nat)(s2:(List T×List (List T)×List T×Int×Int×Unit)):Option ((List T×List (List T)×List T×Int×Int×Unit)⊕((List T×Unit)⊕Empty)):=
 (bif (Go.Eng.ltI s2.2.2.2.2.1 s2.2.2.2.1) then (ob (Go.Eng.idxL s2.2.2.1 s2.2.2.2.2.1) fun x3=>(ob (Go.Eng.T.int? Go.IntKind.i64 (Go.Eng.T.cell x3 0)) fun x4=>(bif (Go.Eng.hasR (Go.Eng.T.v (Go.Value.int Go.IntKind.i64 x4)) s2.2.1) then (ob (Go.Eng.findR (Go.Eng.T.v (Go.Value.int Go.IntKind.i64 x4)) s2.2.1) fun x5=>(ob (Go.Eng.idxL s2.1 s2.2.2.2.2.1) fun x6=>(ob (Go.Eng.T.sl? 1 (Go.Eng.T.cell x6 0)) fun x7=>(ob (Go.Eng.idxN s2.2.1 x5) fun x8=>(ob (Go.Eng.room (Go.Eng.tailL x8) [(Go.Eng.T.sl 1 x7)] 24) fun x9=>(ob (Go.Eng.T.int? Go.IntKind.i64 (Go.Eng.T.cell x3 0)) fun x10=>(ob (Go.Eng.findR (Go.Eng.T.v (Go.Value.int Go.IntKind.i64 x10)) (List.set s2.2.1 x5 (Go.Eng.keyL x8 x9))) fun x11=>(ob (Go.Eng.eqN x5 x11) fun x12=>(ob (Go.Eng.eqN x5 x5) fun x13=>(some (Sum.inl (s2.1,(List.set s2.2.1 x5 (Go.Eng.keyL x8 x9)),s2.2.2.1,s2.2.2.2.1,(Go.Eng.wr Go.IntKind.i64 (Go.Eng.addI s2.2.2.2.2.1 (1:Int))),())))))))))))) else (ob (Go.Eng.idxL s2.1 s2.2.2.2.2.1) fun x14=>(ob (Go.Eng.T.sl? 1 (Go.Eng.T.cell x14 0)) fun x15=>(ob (Go.Eng.room [] [(Go.Eng.T.sl 1 x15)] 24) fun x16=>(ob (Go.Eng.T.int? Go.IntKind.i64 (Go.Eng.T.cell x3 0)) fun x17=>(ob (Go.Eng.noneN (Go.Eng.findR (Go.Eng.T.v (Go.Value.int Go.IntKind.i64 x17)) s2.2.1)) fun x18=>(some (Sum.inl (s2.1,(HAppend.hAppend s2.2.1 [((Go.Eng.T.v (Go.Value.int Go.IntKind.i64 x17))::x16)]),s2.2.2.1,s2.2.2.2.1,(Go.Eng.wr Go.IntKind.i64 (Go.Eng.addI s2.2.2.2.2.1 (1:Int))),()))))))))))) else (some (Sum.inr (Sum.inl ((Go.Eng.mapsT 1 s2.2.1),())))))
theorem le_shell_Genus_l0(n:Nat)(s2:(List T×List (List T)×List T×Int×Int×Unit)):Le (v_shell_Genus_l0 n s2) (u_shell_Genus_l0 s2):=by
 unfold v_shell_Genus_l0 u_shell_Genus_l0
 repeat' first
  | with_reducible refine le_cond ?_ ?_
  | with_reducible refine le_onS (fun _=>?_) fun _=>?_
  | with_reducible refine le_ob ?_ fun _=>?_
  | with_reducible refine le_both ?_ ?_
  | with_reducible exact le_rfl
noncomputable def v_shell_Genus_l1(n:Nat)(s21:(List T×List T×Int×Int×Unit)):Option ((List T×List T×Int×Int×Unit)⊕((T×Int×Unit)⊕((List T×Unit)⊕Empty))):=
 (bif (Go.Eng.ltI s21.2.2.2.1 s21.2.2.1) then (ob (Go.Eng.T.one? (Go.Eng.mapGetD (Go.Eng.T.v (Go.Value.int Go.IntKind.i64 s21.2.2.2.1)) s21.1 (Go.Eng.T.v (Go.Value.slice (Option.none) 0 0)))) fun x22=>(ob (Go.Eng.T.sl? 1 x22) fun x23=>(ob (Go.Eng.v_shell_Topology n (x23,())) fun x24=>(bif (Bool.not (Go.Eng.eqI x24.2.2.2.2.2.1 (0:Int))) then (some (Sum.inr (Sum.inl ((Go.Eng.T.v (Go.Value.slice (Option.none) 0 0)),x24.2.2.2.2.2.1,())))) else (ob (Go.Eng.v_topology_Count n (x24.1,x24.2.1,x24.2.2.1,x24.2.2.2.1,())) fun x25=>(ob (Go.Eng.room s21.2.1 [(Go.Eng.T.v (Go.Value.int Go.IntKind.i64 x25.2.2.2.2.2.1))] 8) fun x26=>(some (Sum.inl (s21.1,x26,s21.2.2.1,(Go.Eng.wr Go.IntKind.i64 (Go.Eng.addI s21.2.2.2.1 (1:Int))),()))))))))) else (some (Sum.inr (Sum.inr (Sum.inl (s21.2.1,()))))))
theorem le_shell_Genus_l1(n:Nat)(s21:(List T×List T×Int×Int×Unit)):Le (v_shell_Genus_l1 n s21) (u_shell_Genus_l1 s21):=by
 unfold v_shell_Genus_l1 u_shell_Genus_l1
 repeat' first
  | with_reducible refine le_cond ?_ ?_
  | with_reducible refine le_onS (fun _=>?_) fun _=>?_
  | with_reducible refine le_ob ?_ fun _=>?_
  | with_reducible refine le_both ?_ ?_
  | with_reducible exact le_rfl
  | with_reducible exact le_shell_Topology n _
  | with_reducible exact le_topology_Count n _
noncomputable def v_shell_Genus(n:Nat)(t:((List T)×Unit)):Option ((List T)×Int×Unit):=
 (ob (Go.Eng.v_shell_Valid n (t.1,())) fun x0=>(bif (Bool.not x0.1) then (some ([],(1:Int),())) else (ob (Go.Eng.v_shell_Components n (t.1,())) fun x1=>(ob (iter (v_shell_Genus_l0 n) n (t.1,[],x1.1,(Go.Eng.lenL x1.1),(0:Int),())) fun q19=>onS q19 (fun t20=>(ob (iter (v_shell_Genus_l1 n) n (t20.1,[],(Go.Eng.lenL t20.1),(0:Int),())) fun q27=>onS q27 (fun t28=>(ob (Go.Eng.T.sl? 1 t28.1) fun x29=>(some (x29,t28.2.1,())))) fun q30=>onS q30 (fun t31=>(some (t31.1,(0:Int),()))) fun q32=>noS q32)) fun q33=>noS q33))))
theorem le_shell_Genus(n:Nat)(t:((List T)×Unit)):Le (v_shell_Genus n t) (u_shell_Genus t):=by
 unfold v_shell_Genus u_shell_Genus
 repeat' first
  | with_reducible refine le_cond ?_ ?_
  | with_reducible refine le_onS (fun _=>?_) fun _=>?_
  | with_reducible refine le_ob ?_ fun _=>?_
  | with_reducible refine le_both ?_ ?_
  | with_reducible exact le_rfl
  | with_reducible exact le_shell_Valid n _
  | with_reducible exact le_shell_Components n _
  | with_reducible exact le_loop (fun s=>le_shell_Genus_l0 n s) _ _
  | with_reducible exact le_loop (fun s=>le_shell_Genus_l1 n s) _ _
noncomputable def v_brepkernellaw28_box(n:Nat)(t:Unit):Option ((List T)×Unit):=
 (some ([(Go.Eng.T.sl 1 [(Go.Eng.T.sl 1 [(Go.Eng.T.v (Go.Value.int Go.IntKind.i64 (0:Int))),(Go.Eng.T.v (Go.Value.int Go.IntKind.i64 (2:Int))),(Go.Eng.T.v (Go.Value.int Go.IntKind.i64 (3:Int))),(Go.Eng.T.v (Go.Value.int Go.IntKind.i64 (1:Int)))])]),(Go.Eng.T.sl 1 [(Go.Eng.T.sl 1 [(Go.Eng.T.v (Go.Value.int Go.IntKind.i64 (4:Int))),(Go.Eng.T.v (Go.Value.int Go.IntKind.i64 (5:Int))),(Go.Eng.T.v (Go.Value.int Go.IntKind.i64 (7:Int))),(Go.Eng.T.v (Go.Value.int Go.IntKind.i64 (6:Int)))])]),(Go.Eng.T.sl 1 [(Go.Eng.T.sl 1 [(Go.Eng.T.v (Go.Value.int Go.IntKind.i64 (0:Int))),(Go.Eng.T.v (Go.Value.int Go.IntKind.i64 (1:Int))),(Go.Eng.T.v (Go.Value.int Go.IntKind.i64 (5:Int))),(Go.Eng.T.v (Go.Value.int Go.IntKind.i64 (4:Int)))])]),(Go.Eng.T.sl 1 [(Go.Eng.T.sl 1 [(Go.Eng.T.v (Go.Value.int Go.IntKind.i64 (1:Int))),(Go.Eng.T.v (Go.Value.int Go.IntKind.i64 (3:Int))),(Go.Eng.T.v (Go.Value.int Go.IntKind.i64 (7:Int))),(Go.Eng.T.v (Go.Value.int Go.IntKind.i64 (5:Int)))])]),(Go.Eng.T.sl 1 [(Go.Eng.T.sl 1 [(Go.Eng.T.v (Go.Value.int Go.IntKind.i64 (3:Int))),(Go.Eng.T.v (Go.Value.int Go.IntKind.i64 (2:Int))),(Go.Eng.T.v (Go.Value.int Go.IntKind.i64 (6:Int))),(Go.Eng.T.v (Go.Value.int Go.IntKind.i64 (7:Int)))])]),(Go.Eng.T.sl 1 [(Go.Eng.T.sl 1 [(Go.Eng.T.v (Go.Value.int Go.IntKind.i64 (2:Int))),(Go.Eng.T.v (Go.Value.int Go.IntKind.i64 (0:Int))),(Go.Eng.T.v (Go.Value.int Go.IntKind.i64 (4:Int))),(Go.Eng.T.v (Go.Value.int Go.IntKind.i64 (6:Int)))])])],()))
theorem le_brepkernellaw28_box(n:Nat)(t:Unit):Le (v_brepkernellaw28_box n t) (u_brepkernellaw28_box t):=by
 unfold v_brepkernellaw28_box u_brepkernellaw28_box
 repeat' first
  | with_reducible refine le_cond ?_ ?_
  | with_reducible refine le_onS (fun _=>?_) fun _=>?_
  | with_reducible refine le_ob ?_ fun _=>?_
  | with_reducible refine le_both ?_ ?_
  | with_reducible exact le_rfl
noncomputable def v_brepkernellaw28_tunnel_l0(n:Nat)(s0:(List T×Int×Unit)):Option ((List T×Int×Unit)⊕((List T×Unit)⊕Empty)):=
 (bif (Go.Eng.ltI s0.2.1 (4:Int)) then (ob (Go.Eng.room s0.1 [(Go.Eng.T.sl 1 [(Go.Eng.T.sl 1 [(Go.Eng.T.v (Go.Value.int Go.IntKind.i64 s0.2.1)),(Go.Eng.T.v (Go.Value.int Go.IntKind.i64 (Go.Eng.modI (Go.Eng.wr Go.IntKind.i64 (Go.Eng.addI s0.2.1 (1:Int))) (4:Int)))),(Go.Eng.T.v (Go.Value.int Go.IntKind.i64 (Go.Eng.wr Go.IntKind.i64 (Go.Eng.addI (4:Int) (Go.Eng.modI (Go.Eng.wr Go.IntKind.i64 (Go.Eng.addI s0.2.1 (1:Int))) (4:Int)))))),(Go.Eng.T.v (Go.Value.int Go.IntKind.i64 (Go.Eng.wr Go.IntKind.i64 (Go.Eng.addI (4:Int) s0.2.1))))])]),(Go.Eng.T.sl 1 [(Go.Eng.T.sl 1 [(Go.Eng.T.v (Go.Value.int Go.IntKind.i64 (Go.Eng.wr Go.IntKind.i64 (Go.Eng.addI (8:Int) (Go.Eng.modI (Go.Eng.wr Go.IntKind.i64 (Go.Eng.addI s0.2.1 (1:Int))) (4:Int)))))),(Go.Eng.T.v (Go.Value.int Go.IntKind.i64 (Go.Eng.wr Go.IntKind.i64 (Go.Eng.addI (8:Int) s0.2.1)))),(Go.Eng.T.v (Go.Value.int Go.IntKind.i64 (Go.Eng.wr Go.IntKind.i64 (Go.Eng.addI (12:Int) s0.2.1)))),(Go.Eng.T.v (Go.Value.int Go.IntKind.i64 (Go.Eng.wr Go.IntKind.i64 (Go.Eng.addI (12:Int) (Go.Eng.modI (Go.Eng.wr Go.IntKind.i64 (Go.Eng.addI s0.2.1 (1:Int))) (4:Int))))))])])] 24) fun x1=>(some (Sum.inl (x1,(Go.Eng.wr Go.IntKind.i64 (Go.Eng.addI s0.2.1 (1:Int))),())))) else (some (Sum.inr (Sum.inl (s0.1,())))))
theorem le_brepkernellaw28_tunnel_l0(n:Nat)(s0:(List T×Int×Unit)):Le (v_brepkernellaw28_tunnel_l0 n s0) (u_brepkernellaw28_tunnel_l0 s0):=by
 unfold v_brepkernellaw28_tunnel_l0 u_brepkernellaw28_tunnel_l0
 repeat' first
  | with_reducible refine le_cond ?_ ?_
  | with_reducible refine le_onS (fun _=>?_) fun _=>?_
  | with_reducible refine le_ob ?_ fun _=>?_
  | with_reducible refine le_both ?_ ?_
  | with_reducible exact le_rfl
noncomputable def v_brepkernellaw28_tunnel(n:Nat)(t:Unit):Option ((List T)×Unit):=
 (ob (iter (v_brepkernellaw28_tunnel_l0 n) n ([(Go.Eng.T.sl 1 [(Go.Eng.T.sl 1 [(Go.Eng.T.v (Go.Value.int Go.IntKind.i64 (0:Int))),(Go.Eng.T.v (Go.Value.int Go.IntKind.i64 (3:Int))),(Go.Eng.T.v (Go.Value.int Go.IntKind.i64 (2:Int))),(Go.Eng.T.v (Go.Value.int Go.IntKind.i64 (1:Int)))]),(Go.Eng.T.sl 1 [(Go.Eng.T.v (Go.Value.int Go.IntKind.i64 (8:Int))),(Go.Eng.T.v (Go.Value.int Go.IntKind.i64 (9:Int))),(Go.Eng.T.v (Go.Value.int Go.IntKind.i64 (10:Int))),(Go.Eng.T.v (Go.Value.int Go.IntKind.i64 (11:Int)))])]),(Go.Eng.T.sl 1 [(Go.Eng.T.sl 1 [(Go.Eng.T.v (Go.Value.int Go.IntKind.i64 (4:Int))),(Go.Eng.T.v (Go.Value.int Go.IntKind.i64 (5:Int))),(Go.Eng.T.v (Go.Value.int Go.IntKind.i64 (6:Int))),(Go.Eng.T.v (Go.Value.int Go.IntKind.i64 (7:Int)))]),(Go.Eng.T.sl 1 [(Go.Eng.T.v (Go.Value.int Go.IntKind.i64 (12:Int))),(Go.Eng.T.v (Go.Value.int Go.IntKind.i64 (15:Int))),(Go.Eng.T.v (Go.Value.int Go.IntKind.i64 (14:Int))),(Go.Eng.T.v (Go.Value.int Go.IntKind.i64 (13:Int)))])])],(0:Int),())) fun q2=>onS q2 (fun t3=>(some (t3.1,()))) fun q4=>noS q4)
theorem le_brepkernellaw28_tunnel(n:Nat)(t:Unit):Le (v_brepkernellaw28_tunnel n t) (u_brepkernellaw28_tunnel t):=by
 unfold v_brepkernellaw28_tunnel u_brepkernellaw28_tunnel
 repeat' first
  | with_reducible refine le_cond ?_ ?_
  | with_reducible refine le_onS (fun _=>?_) fun _=>?_
  | with_reducible refine le_ob ?_ fun _=>?_
  | with_reducible refine le_both ?_ ?_
  | with_reducible exact le_rfl
  | with_reducible exact le_loop (fun s=>le_brepkernellaw28_tunnel_l0 n s) _ _
noncomputable def v_brepkernellaw28_sane(n:Nat)(t:Unit):Option (Bool×Unit):=
 (ob (Go.Eng.v_brepkernellaw28_box n ()) fun x0=>(ob (Go.Eng.v_shell_Genus n (x0.1,())) fun x1=>(ob (Go.Eng.v_brepkernellaw28_tunnel n ()) fun x2=>(ob (Go.Eng.v_shell_Genus n (x2.1,())) fun x3=>(bif (Go.Eng.eqI x1.2.1 (0:Int)) then (bif (Go.Eng.eqI x3.2.1 (0:Int)) then (bif (Go.Eng.eqI (Go.Eng.lenL x1.1) (1:Int)) then (ob (Go.Eng.idxL x1.1 (0:Int)) fun x4=>(ob (Go.Eng.T.int? Go.IntKind.i64 (Go.Eng.T.cell x4 0)) fun x5=>(bif (Go.Eng.eqI x5 (0:Int)) then (bif (Go.Eng.eqI (Go.Eng.lenL x3.1) (1:Int)) then (ob (Go.Eng.idxL x3.1 (0:Int)) fun x6=>(ob (Go.Eng.T.int? Go.IntKind.i64 (Go.Eng.T.cell x6 0)) fun x7=>(some ((Go.Eng.eqI x7 (1:Int)),())))) else (some (Bool.false,()))) else (some (Bool.false,()))))) else (some (Bool.false,()))) else (some (Bool.false,()))) else (some (Bool.false,())))))))
theorem le_brepkernellaw28_sane(n:Nat)(t:Unit):Le (v_brepkernellaw28_sane n t) (u_brepkernellaw28_sane t):=by
 unfold v_brepkernellaw28_sane u_brepkernellaw28_sane
 repeat' first
  | with_reducible refine le_cond ?_ ?_
  | with_reducible refine le_onS (fun _=>?_) fun _=>?_
  | with_reducible refine le_ob ?_ fun _=>?_
  | with_reducible refine le_both ?_ ?_
  | with_reducible exact le_rfl
  | with_reducible exact le_brepkernellaw28_box n _
  | with_reducible exact le_shell_Genus n _
  | with_reducible exact le_brepkernellaw28_tunnel n _
noncomputable def v_brepkernellaw28_ShellBalanced_l0(n:Nat)(s11:(List T×Int×Int×Int×Int×Unit)):Option ((List T×Int×Int×Int×Int×Unit)⊕((List T×Int×Int×Unit)⊕Empty)):=
 (bif (Go.Eng.ltI s11.2.2.2.2.1 s11.2.2.2.1) then (ob (Go.Eng.idxL s11.1 s11.2.1) fun x12=>(ob (Go.Eng.T.rw? 1 (Go.Eng.T.cell x12 0)) fun x13=>(ob (Go.Eng.idxL x13 s11.2.2.2.2.1) fun x14=>(ob (Go.Eng.T.len? (Go.Eng.T.cell x14 0)) fun x15=>(some (Sum.inl (s11.1,s11.2.1,(Go.Eng.wr Go.IntKind.i64 (Go.Eng.addI s11.2.2.1 x15)),s11.2.2.2.1,(Go.Eng.wr Go.IntKind.i64 (Go.Eng.addI s11.2.2.2.2.1 (1:Int))),()))))))) else (some (Sum.inr (Sum.inl (s11.1,s11.2.1,s11.2.2.1,())))))
theorem le_brepkernellaw28_ShellBalanced_l0(n:Nat)(s11:(List T×Int×Int×Int×Int×Unit)):Le (v_brepkernellaw28_ShellBalanced_l0 n s11) (u_brepkernellaw28_ShellBalanced_l0 s11):=by
 unfold v_brepkernellaw28_ShellBalanced_l0 u_brepkernellaw28_ShellBalanced_l0
 repeat' first
  | with_reducible refine le_cond ?_ ?_
  | with_reducible refine le_onS (fun _=>?_) fun _=>?_
  | with_reducible refine le_ob ?_ fun _=>?_
  | with_reducible refine le_both ?_ ?_
  | with_reducible exact le_rfl
theorem sane_true:u_brepkernellaw28_sane ()=some (true,()):=le_brepkernellaw28_sane 200 () _ (by kernel_rfl)
theorem tmod_lo(a:Int){b:Int}(h:0<b):-b<a.tmod b:=by
 rcases Int.lt_or_le a 0 with ha | ha
 ·have h1:(-(-a)).tmod b=-((-a).tmod b):=Int.neg_tmod (-a) b
  rw[Int.neg_neg] at h1
  have h2:(-a).tmod b<b:=by rw[Int.tmod_eq_emod_of_nonneg (by omega)];exact Int.emod_lt_of_pos _ h
  omega
 ·have:0≤a.tmod b:=by rw[Int.tmod_eq_emod_of_nonneg ha];exact Int.emod_nonneg _ (by omega)
  omega
theorem tmod_hi(a:Int){b:Int}(h:0<b):a.tmod b<b:=by
 rcases Int.lt_or_le a 0 with ha | ha
 ·have h1:(-(-a)).tmod b=-((-a).tmod b):=Int.neg_tmod (-a) b
  rw[Int.neg_neg] at h1
  have h2:0≤(-a).tmod b:=by rw[Int.tmod_eq_emod_of_nonneg (by omega)];exact Int.emod_nonneg _ (by omega)
  omega
 ·rw[Int.tmod_eq_emod_of_nonneg ha];exact Int.emod_lt_of_pos _ h
def modV(a n:Int):Int:=if a.tmod n<0 then a.tmod n+n else a.tmod n
theorem modV_lo(a:Int){n:Int}(h:0<n):0≤modV a n:=by
 unfold modV
 have:=tmod_lo a h
 split <;> omega
theorem modV_hi(a:Int){n:Int}(h:0<n):modV a n<n:=by
 unfold modV
 have:=tmod_hi a h
 split <;> omega
theorem s_Mod(a:Int){n:Int}(h1:0<n)(h2:n≤4611686018427387904):u_brepkernelmade_Mod (a,n,())=some (modV a n,()):=by
 unfold u_brepkernelmade_Mod modV
 have:=tmod_lo a h1
 have:=tmod_hi a h1
 rw[nz_eq (show n≠0 by omega)]
 simp only[obS,modI_eq,ltI_eq,addI_eq]
 by_cases h:a.tmod n<0
 ·rw[decide_eq_true h,if_pos h,wr64 (by omega) (by omega)];rfl
 ·rw[decide_eq_false h,if_neg h];rfl
def intT(z:Int):T:=.v (.int .i64 z)
def DiceOK(L:List T)(a:Int):Prop:=∃zs:List Int,L=zs.map intT∧zs.length≤1000000∧0≤a∧a≤zs.length
theorem s_Next{L:List T}{a:Int}(h:DiceOK L a){n:Int}(h1:0<n)(h2:n≤4611686018427387904):
 ∃v a',u___brepkernelmade_Dice__Next ((),n,L,a,())=some (v,L,a',())∧0≤v∧v<n∧DiceOK L a':=by
 obtain⟨zs,rfl,hz,ha0,ha1⟩:=h
 unfold u___brepkernelmade_Dice__Next
 simp only[leI_eq,lenL_eq,List.length_map,addI_eq,subI_eq]
 by_cases hc:(zs.length:Int)≤a
 ·rw[decide_eq_true hc]
  exact⟨0,a,rfl,Int.le_refl _,h1,zs,rfl,hz,ha0,ha1⟩
 ·rw[decide_eq_false hc]
  obtain⟨i,rfl⟩:=Int.eq_ofNat_of_zero_le ha0
  have hi:i<zs.length:=by omega
  rw[wr64 (n:=(i:Int)+1) (by omega) (by omega),wr64 (n:=(i:Int)+1-1) (by omega) (by omega),Int.add_sub_cancel,idxL_nat,List.getElem?_map,List.getElem?_eq_getElem hi]
  simp only[cond_false,Option.map_some,obS,intT,T_cell_v,T_int,s_Mod _ h1 h2]
  exact⟨_,_,rfl,modV_lo _ h1,modV_hi _ h1,zs,rfl,hz,by omega,by omega⟩
theorem s_Bool{L:List T}{a:Int}(h:DiceOK L a){n:Int}(h1:0<n)(h2:n≤4611686018427387904):
 ∃b a',u___brepkernelmade_Dice__Bool ((),n,L,a,())=some (b,L,a',())∧DiceOK L a':=by
 obtain⟨v,a',e,_,_,hd⟩:=s_Next h h1 h2
 unfold u___brepkernelmade_Dice__Bool
 rw[e]
 exact⟨_,a',rfl,hd⟩
theorem s_Light(L:List T):u_brepkernelmade_Light (L,())=some (decide (L.length≤500),()):=by
 unfold u_brepkernelmade_Light
 simp only[leI_eq,lenL_eq]
 congr 2
 rw[Bool.eq_iff_iff];simp;omega
theorem s_Roll(L:List T):u_brepkernelmade_Roll (L,())=some (L,0,()):=rfl
noncomputable def restB(f:List T)(i:Int):Option (Bool×Unit):=
 (ob (Go.Eng.idxL f i) fun x9=>(ob (Go.Eng.T.len? (Go.Eng.T.cell x9 0)) fun x10=>(ob (loopU u_brepkernellaw28_ShellBalanced_l0 (f,i,(0:Int),x10,(0:Int),())) fun q16=>onS q16 (fun t17=>(ob (Go.Eng.cutL t17.1 (0:Int) t17.2.1) fun x18=>(ob (Go.Eng.room [] x18 24) fun x19=>(ob (Go.Eng.cutL t17.1 (Go.Eng.wr Go.IntKind.i64 (Go.Eng.addI t17.2.1 (1:Int))) (Go.Eng.lenL t17.1)) fun x20=>(ob (Go.Eng.room x19 x20 24) fun x21=>(ob (Go.Eng.room [] t17.1 24) fun x22=>(ob (Go.Eng.idxL t17.1 t17.2.1) fun x23=>(ob (Go.Eng.T.sl? 1 (Go.Eng.T.cell x23 0)) fun x24=>(ob (Go.Eng.room x22 [(Go.Eng.T.sl 1 x24)] 24) fun x25=>(ob (Go.Eng.u_shell_Closed (x21,())) fun x26=>(ob (Go.Eng.u_shell_Closed (x25,())) fun x27=>(ob (Go.Eng.u_shell_Closed (t17.1,())) fun x28=>(bif (Go.Eng.eqI (Go.Eng.lenL x28.1) (0:Int)) then (bif (Go.Eng.eqI (Go.Eng.lenL x26.1) t17.2.2.1) then (bif (Go.Eng.eqI (Go.Eng.lenL x27.1) (Go.Eng.wr Go.IntKind.i64 (Go.Eng.mulI (2:Int) t17.2.2.1))) then (ob (Go.Eng.u_shell_Manifold (x25,())) fun x29=>(bif (Bool.not x29.1) then (ob (Go.Eng.u_brepkernellaw28_sane ()) fun x30=>(some (x30.1,()))) else (some (Bool.false,())))) else (some (Bool.false,()))) else (some (Bool.false,()))) else (some (Bool.false,()))))))))))))))) fun q31=>noS q31)))
noncomputable def restV(n:Nat)(f:List T)(i:Int):Option (Bool×Unit):=
 (ob (Go.Eng.idxL f i) fun x9=>(ob (Go.Eng.T.len? (Go.Eng.T.cell x9 0)) fun x10=>(ob (iter (v_brepkernellaw28_ShellBalanced_l0 n) n (f,i,(0:Int),x10,(0:Int),())) fun q16=>onS q16 (fun t17=>(ob (Go.Eng.cutL t17.1 (0:Int) t17.2.1) fun x18=>(ob (Go.Eng.room [] x18 24) fun x19=>(ob (Go.Eng.cutL t17.1 (Go.Eng.wr Go.IntKind.i64 (Go.Eng.addI t17.2.1 (1:Int))) (Go.Eng.lenL t17.1)) fun x20=>(ob (Go.Eng.room x19 x20 24) fun x21=>(ob (Go.Eng.room [] t17.1 24) fun x22=>(ob (Go.Eng.idxL t17.1 t17.2.1) fun x23=>(ob (Go.Eng.T.sl? 1 (Go.Eng.T.cell x23 0)) fun x24=>(ob (Go.Eng.room x22 [(Go.Eng.T.sl 1 x24)] 24) fun x25=>(ob (v_shell_Closed n (x21,())) fun x26=>(ob (v_shell_Closed n (x25,())) fun x27=>(ob (v_shell_Closed n (t17.1,())) fun x28=>(bif (Go.Eng.eqI (Go.Eng.lenL x28.1) (0:Int)) then (bif (Go.Eng.eqI (Go.Eng.lenL x26.1) t17.2.2.1) then (bif (Go.Eng.eqI (Go.Eng.lenL x27.1) (Go.Eng.wr Go.IntKind.i64 (Go.Eng.mulI (2:Int) t17.2.2.1))) then (ob (v_shell_Manifold n (x25,())) fun x29=>(bif (Bool.not x29.1) then (ob (some (true,())) fun x30=>(some (x30.1,()))) else (some (Bool.false,())))) else (some (Bool.false,()))) else (some (Bool.false,()))) else (some (Bool.false,()))))))))))))))) fun q31=>noS q31)))
theorem le_sane:Le (some (true,())) (u_brepkernellaw28_sane ()):=fun r h=>by rw[sane_true];exact h
theorem le_rest(n:Nat)(f:List T)(i:Int):Le (restV n f i) (restB f i):=by
 unfold restV restB
 repeat' first
  | with_reducible refine le_cond ?_ ?_
  | with_reducible refine le_onS (fun _=>?_) fun _=>?_
  | with_reducible refine le_ob ?_ fun _=>?_
  | with_reducible exact le_rfl
  | with_reducible exact le_shell_Closed n _
  | with_reducible exact le_shell_Manifold n _
  | with_reducible exact le_sane
  | with_reducible exact le_loop (fun s=>le_brepkernellaw28_ShellBalanced_l0 n s) _ _
noncomputable def boxT:List T:=((u_brepkernellaw28_box ()).getD ([],())).1
noncomputable def tunnelT:List T:=((v_brepkernellaw28_tunnel 60 ()).getD ([],())).1
theorem box_eq:u_brepkernellaw28_box ()=some (boxT,()):=by kernel_rfl
theorem tunnel_eq:u_brepkernellaw28_tunnel ()=some (tunnelT,()):=le_brepkernellaw28_tunnel 60 () _ (by kernel_rfl)
def yesR:Option (Bool×Unit)→Bool
 | some (b,_)=>b
 | none=>false
theorem yesR_some{x:Option (Bool×Unit)}(h:yesR x=true):x=some (true,()):=by
 unfold yesR at h
 split at h
 ·rename_i b u;cases h;rfl
 ·cases h
theorem box_len:boxT.length=6:=by kernel_rfl
theorem tunnel_len:tunnelT.length=10:=by kernel_rfl
theorem box_0:yesR (restV 60 boxT (0:Nat))=true:=by kernel_rfl
theorem box_1:yesR (restV 60 boxT (1:Nat))=true:=by kernel_rfl
theorem box_2:yesR (restV 60 boxT (2:Nat))=true:=by kernel_rfl
theorem box_3:yesR (restV 60 boxT (3:Nat))=true:=by kernel_rfl
theorem box_4:yesR (restV 60 boxT (4:Nat))=true:=by kernel_rfl
theorem box_5:yesR (restV 60 boxT (5:Nat))=true:=by kernel_rfl
theorem tunnel_0:yesR (restV 60 tunnelT (0:Nat))=true:=by kernel_rfl
theorem tunnel_1:yesR (restV 60 tunnelT (1:Nat))=true:=by kernel_rfl
theorem tunnel_2:yesR (restV 60 tunnelT (2:Nat))=true:=by kernel_rfl
theorem tunnel_3:yesR (restV 60 tunnelT (3:Nat))=true:=by kernel_rfl
theorem tunnel_4:yesR (restV 60 tunnelT (4:Nat))=true:=by kernel_rfl
theorem tunnel_5:yesR (restV 60 tunnelT (5:Nat))=true:=by kernel_rfl
theorem tunnel_6:yesR (restV 60 tunnelT (6:Nat))=true:=by kernel_rfl
theorem tunnel_7:yesR (restV 60 tunnelT (7:Nat))=true:=by kernel_rfl
theorem tunnel_8:yesR (restV 60 tunnelT (8:Nat))=true:=by kernel_rfl
theorem tunnel_9:yesR (restV 60 tunnelT (9:Nat))=true:=by kernel_rfl
theorem box_all:∀i:Nat,i<6→yesR (restV 60 boxT i)=true
 | 0,_=>box_0
 | 1,_=>box_1
 | 2,_=>box_2
 | 3,_=>box_3
 | 4,_=>box_4
 | 5,_=>box_5
 | _+6,h=>by omega
theorem tunnel_all:∀i:Nat,i<10→yesR (restV 60 tunnelT i)=true
 | 0,_=>tunnel_0
 | 1,_=>tunnel_1
 | 2,_=>tunnel_2
 | 3,_=>tunnel_3
 | 4,_=>tunnel_4
 | 5,_=>tunnel_5
 | 6,_=>tunnel_6
 | 7,_=>tunnel_7
 | 8,_=>tunnel_8
 | 9,_=>tunnel_9
 | _+10,h=>by omega
theorem rest_true{f:List T}{m:Nat}(hall:∀i:Nat,i<m→yesR (restV 60 f i)=true){i:Int}(h0:0≤i)(h1:i<m):restB f i=some (true,()):=by
 obtain⟨k,rfl⟩:=Int.eq_ofNat_of_zero_le h0
 exact le_rest 60 f k _ (yesR_some (hall k (by omega)))
theorem law_bal(zs:List Int):u_brepkernellaw28_ShellBalanced (zs.map intT,())=some (true,()):=by
 unfold u_brepkernellaw28_ShellBalanced
 rw[s_Light]
 show (bif !(decide ((zs.map intT).length≤500)) then _ else _)=_
 rw[List.length_map]
 by_cases hl:zs.length≤500
 case neg=>
  rw[decide_eq_false hl,sane_true];rfl
 rw[decide_eq_true hl,s_Roll,box_eq]
 have hd:DiceOK (zs.map intT) 0:=⟨zs,rfl,by omega,by omega,by omega⟩
 obtain⟨b,a',hb,hd'⟩:=s_Bool hd (n:=2) (by omega) (by omega)
 have key:∀(f:List T) (m:Nat),f.length=m→0<m→m<100→(∀i:Nat,i<m→yesR (restV 60 f i)=true)→(ob (u___brepkernelmade_Dice__Next ((),(lenL f),zs.map intT,a',())) fun x8=>restB f x8.1)=some (true,()):=by
  intro f m hf h0 h1 hall
  obtain⟨v,a2,e,q1,q2,_⟩:=s_Next hd' (n:=lenL f) (by simp[hf];omega) (by simp[hf];omega)
  rw[e]
  exact rest_true hall q1 (by simpa[hf] using q2)
 show (ob (ob (u___brepkernelmade_Dice__Bool ((),2,zs.map intT,0,())) _) _)=_
 rw[hb]
 cases b with
 | true=>
  show (ob (ob (u_brepkernellaw28_tunnel ()) _) _)=_
  rw[tunnel_eq]
  exact key tunnelT 10 tunnel_len (by omega) (by omega) tunnel_all
 | false=>exact key boxT 6 box_len (by omega) (by omega) box_all
end Go.Eng
