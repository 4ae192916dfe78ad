/- The functions and the laws of this seat in plain words; each statement names its conditions. -/
import Derived.Test.YtlfdplabancdcaaEng4
import Derived.Test.YtlfdplabancdcaaLaw
import Derived.Test.YtlfdplabancdcaaProg
import Derived.Test.YtlfdplabancdcaaEng3
set_option linter.unusedSimpArgs false
set_option linter.unusedVariables false
namespace Go.Eng
open Go.Proofs
def sg_brepkernellaw24_sane:Sig:={ na:=0,np:=0,hin:={ items:=[],shapes:=[] },nres:=1,kept:=[],nnew:=0,hout:={ items:=[.slot 0],shapes:=[.bool] },nob:=168 }
noncomputable def g_brepkernellaw24_sane:List (Go.FuncId×Callee):=[(11,(calleeOf sg_ref02_Frac u_ref02_Frac)),(10,(calleeOf sg_entity_Decimal u_entity_Decimal)),(12,(calleeOf sg_ref02_Int u_ref02_Int)),(13,(calleeOf sg_entity_Typed u_entity_Typed))]
noncomputable def u_brepkernellaw24_sane(t:Unit):Option (Bool×Unit):=
 (ob (Go.Eng.u_ref02_Frac ((-3:Int),((8:Int),()))) fun x0=>(ob (Go.Eng.u_entity_Decimal (x0.1,(x0.2.1,(x0.2.2.1,())))) fun x1=>(ob (Go.Eng.u_ref02_Int ((5:Int),())) fun x2=>(ob (Go.Eng.u_entity_Decimal (x2.1,(x2.2.1,(x2.2.2.1,())))) fun x3=>(ob (Go.Eng.u_ref02_Frac ((1:Int),((3:Int),()))) fun x4=>(ob (Go.Eng.u_entity_Decimal (x4.1,(x4.2.1,(x4.2.2.1,())))) fun x5=>(ob (Go.Eng.u_entity_Typed ([],([(Go.Eng.T.agg [(Go.Eng.T.v (Go.Value.int Go.IntKind.i64 (1:Int))),(Go.Eng.T.v (Go.Value.string (ByteArray.mk #[80,76,65,78,69]))),(Go.Eng.T.sl 7 [(Go.Eng.T.agg [(Go.Eng.T.v (Go.Value.int Go.IntKind.i64 (3:Int))),(Go.Eng.T.v (Go.Value.bool Bool.false)),(Go.Eng.T.sl 1 []),(Go.Eng.T.sl 1 []),(Go.Eng.T.v (Go.Value.string (ByteArray.mk #[]))),(Go.Eng.T.v (Go.Value.int Go.IntKind.i64 (0:Int))),(Go.Eng.T.sl 7 [])]),(Go.Eng.T.agg [(Go.Eng.T.v (Go.Value.int Go.IntKind.i64 (5:Int))),(Go.Eng.T.v (Go.Value.bool Bool.false)),(Go.Eng.T.sl 1 []),(Go.Eng.T.sl 1 []),(Go.Eng.T.v (Go.Value.string (ByteArray.mk #[]))),(Go.Eng.T.v (Go.Value.int Go.IntKind.i64 (2:Int))),(Go.Eng.T.sl 7 [])]),(Go.Eng.T.agg [(Go.Eng.T.v (Go.Value.int Go.IntKind.i64 (5:Int))),(Go.Eng.T.v (Go.Value.bool Bool.false)),(Go.Eng.T.sl 1 []),(Go.Eng.T.sl 1 []),(Go.Eng.T.v (Go.Value.string (ByteArray.mk #[]))),(Go.Eng.T.v (Go.Value.int Go.IntKind.i64 (2:Int))),(Go.Eng.T.sl 7 [])])])]),(Go.Eng.T.agg [(Go.Eng.T.v (Go.Value.int Go.IntKind.i64 (2:Int))),(Go.Eng.T.v (Go.Value.string (ByteArray.mk #[67,65,82,84,69,83,73,65,78,95,80,79,73,78,84]))),(Go.Eng.T.sl 7 [(Go.Eng.T.agg [(Go.Eng.T.v (Go.Value.int Go.IntKind.i64 (3:Int))),(Go.Eng.T.v (Go.Value.bool Bool.false)),(Go.Eng.T.sl 1 []),(Go.Eng.T.sl 1 []),(Go.Eng.T.v (Go.Value.string (ByteArray.mk #[]))),(Go.Eng.T.v (Go.Value.int Go.IntKind.i64 (0:Int))),(Go.Eng.T.sl 7 [])]),(Go.Eng.T.agg [(Go.Eng.T.v (Go.Value.int Go.IntKind.i64 (6:Int))),(Go.Eng.T.v (Go.Value.bool Bool.false)),(Go.Eng.T.sl 1 []),(Go.Eng.T.sl 1 []),(Go.Eng.T.v (Go.Value.string (ByteArray.mk #[]))),(Go.Eng.T.v (Go.Value.int Go.IntKind.i64 (0:Int))),(Go.Eng.T.sl 7 [(Go.Eng.T.agg [(Go.Eng.T.v (Go.Value.int Go.IntKind.i64 (1:Int))),(Go.Eng.T.v (Go.Value.bool Bool.false)),(Go.Eng.T.sl 1 []),(Go.Eng.T.sl 1 []),(Go.Eng.T.v (Go.Value.string (ByteArray.mk #[]))),(Go.Eng.T.v (Go.Value.int Go.IntKind.i64 (0:Int))),(Go.Eng.T.sl 7 [])]),(Go.Eng.T.agg [(Go.Eng.T.v (Go.Value.int Go.IntKind.i64 (1:Int))),(Go.Eng.T.v (Go.Value.bool Bool.false)),(Go.Eng.T.sl 1 []),(Go.Eng.T.sl 1 []),(Go.Eng.T.v (Go.Value.string (ByteArray.mk #[]))),(Go.Eng.T.v (Go.Value.int Go.IntKind.i64 (0:Int))),(Go.Eng.T.sl 7 [])]),(Go.Eng.T.agg [(Go.Eng.T.v (Go.Value.int Go.IntKind.i64 (1:Int))),(Go.Eng.T.v (Go.Value.bool Bool.false)),(Go.Eng.T.sl 1 []),(Go.Eng.T.sl 1 []),(Go.Eng.T.v (Go.Value.string (ByteArray.mk #[]))),(Go.Eng.T.v (Go.Value.int Go.IntKind.i64 (0:Int))),(Go.Eng.T.sl 7 [])])])])])])],()))) fun x6=>(bif x1.2.1 then (bif (Go.Eng.eqS x1.1 (ByteArray.mk #[45,48,46,51,55,53])) then (bif x3.2.1 then (bif (Go.Eng.eqS x3.1 (ByteArray.mk #[53,46])) then (bif (Bool.not x5.2.1) then (bif (Go.Eng.eqI (Go.Eng.lenL x6.1) (1:Int)) then (ob (Go.Eng.idxL x6.1 (0:Int)) fun x7=>(ob (Go.Eng.T.int? Go.IntKind.i64 (Go.Eng.T.cell x7 0)) fun x8=>(bif (Go.Eng.eqI x8 (35:Int)) then (ob (Go.Eng.idxL x6.1 (0:Int)) fun x9=>(ob (Go.Eng.T.int? Go.IntKind.i64 (Go.Eng.T.cell x9 1)) fun x10=>(some ((Go.Eng.eqI x10 (1:Int)),())))) else (some (Bool.false,()))))) else (some (Bool.false,()))) else (some (Bool.false,()))) else (some (Bool.false,()))) else (some (Bool.false,()))) else (some (Bool.false,()))) else (some (Bool.false,()))))))))))
def h_brepkernellaw24_sane:HT:=.leaf
theorem ok_brepkernellaw24_sane:TabOK Try.prog [10] g_brepkernellaw24_sane:=(TabOK.cons (fun _=>⟨_,Try.func11,by kernel_rfl,by kernel_rfl⟩) k_ref02_Frac (calleeOf_nat _ _) (fun h=>by cases h) (by kernel_rfl) (fun _=>callK_framed (calleeOf_nat _ _) rfl rfl) (by kernel_rfl) (TabOK.cons (fun _=>⟨_,Try.func10,by kernel_rfl,by kernel_rfl⟩) k_entity_Decimal (calleeOf_nat _ _) (fun _=>(calleeOf_pure (by kernel_rfl))) (by kernel_rfl) (fun _=>callK_framed (calleeOf_nat _ _) rfl rfl) (by kernel_rfl) (TabOK.cons (fun _=>⟨_,Try.func12,by kernel_rfl,by kernel_rfl⟩) k_ref02_Int (calleeOf_nat _ _) (fun h=>by cases h) (by kernel_rfl) (fun _=>callK_framed (calleeOf_nat _ _) rfl rfl) (by kernel_rfl) (TabOK.cons (fun _=>⟨_,Try.func13,by kernel_rfl,by kernel_rfl⟩) k_entity_Typed (calleeOf_nat _ _) (fun h=>by cases h) (by kernel_rfl) (fun _=>callK_framed (calleeOf_nat _ _) rfl rfl) (by kernel_rfl) TabOK.nil))))
theorem e_brepkernellaw24_sane:∀t,bodyG Try.prog g_brepkernellaw24_sane [10] h_brepkernellaw24_sane Try.f5 sg_brepkernellaw24_sane t=u_brepkernellaw24_sane t:=by
 intro t
 kernel_rfl
theorem k_brepkernellaw24_sane:(calleeOf sg_brepkernellaw24_sane u_brepkernellaw24_sane).OK Try.prog 5:=calleeG_ok mixed ok_brepkernellaw24_sane Try.func5 (by kernel_rfl) (by kernel_rfl) e_brepkernellaw24_sane
def sg_brepkernellaw24_EntityOrders:Sig:={ na:=1,np:=0,hin:={ items:=[.slot 0],shapes:=[.sl 1] },nres:=1,kept:=[],nnew:=0,hout:={ items:=[.slot 0],shapes:=[.bool] },nob:=184 }
noncomputable def g_brepkernellaw24_EntityOrders:List (Go.FuncId×Callee):=[(4,(calleeOf sg_brepkernelmade_Light u_brepkernelmade_Light)),(5,(calleeOf sg_brepkernellaw24_sane u_brepkernellaw24_sane)),(6,(calleeOf sg_brepkernelmade_Roll u_brepkernelmade_Roll)),(7,(calleeOf sg___brepkernelmade_Dice__File u___brepkernelmade_Dice__File)),(8,(calleeOf sg_entity_Order u_entity_Order)),(9,(calleeOf sg_ref24_Refs u_ref24_Refs))]
noncomputable def u_brepkernellaw24_EntityOrders_l1(s19:(Unit×List T×List T×T×List T×Int×Int×List T×Int×Int×List T×List T×Unit)):Option ((Unit×List T×List T×T×List T×Int×Int×List T×Int×Int×List T×List T×Unit)⊕((Bool×Unit)⊕((Unit×List T×List T×T×List T×Int×Int×List T×List T×Unit)⊕Empty))):=
 (bif (Go.Eng.ltI s19.2.2.2.2.2.2.2.2.2.1 s19.2.2.2.2.2.2.2.2.1) then (ob (Go.Eng.idxL s19.2.2.2.2.2.2.2.1 s19.2.2.2.2.2.2.2.2.2.1) fun x20=>(ob (Go.Eng.T.int? Go.IntKind.i64 (Go.Eng.T.cell x20 0)) fun x21=>(ob (Go.Eng.T.one? (Go.Eng.mapGetD (Go.Eng.T.v (Go.Value.int Go.IntKind.i64 x21)) s19.2.2.1 (Go.Eng.T.v (Go.Value.bool Bool.false)))) fun x22=>(ob (Go.Eng.T.bool? x22) fun x23=>(bif (Bool.not x23) then (some (Sum.inr (Sum.inl (Bool.false,())))) else (some (Sum.inl ((),(s19.2.1,(s19.2.2.1,(s19.2.2.2.1,(s19.2.2.2.2.1,(s19.2.2.2.2.2.1,(s19.2.2.2.2.2.2.1,(s19.2.2.2.2.2.2.2.1,(s19.2.2.2.2.2.2.2.2.1,((Go.Eng.wr Go.IntKind.i64 (Go.Eng.addI s19.2.2.2.2.2.2.2.2.2.1 (1:Int))),(s19.2.2.2.2.2.2.2.2.2.2.1,(s19.2.2.2.2.2.2.2.2.2.2.2.1,()))))))))))))))))))) else (some (Sum.inr (Sum.inr (Sum.inl ((),(s19.2.1,(s19.2.2.1,(s19.2.2.2.1,(s19.2.2.2.2.1,(s19.2.2.2.2.2.1,(s19.2.2.2.2.2.2.1,(s19.2.2.2.2.2.2.2.2.2.2.1,(s19.2.2.2.2.2.2.2.2.2.2.2.1,()))))))))))))))
noncomputable def u_brepkernellaw24_EntityOrders_l0(s6:(Unit×List T×List T×List T×Int×Int×List T×List T×Unit)):Option ((Unit×List T×List T×List T×Int×Int×List T×List T×Unit)⊕((Bool×Unit)⊕((Unit×List T×List T×List T×Unit)⊕Empty))):=
 (bif (Go.Eng.ltI s6.2.2.2.2.2.1 s6.2.2.2.2.1) then (ob (Go.Eng.idxL s6.2.2.2.1 s6.2.2.2.2.2.1) fun x7=>(ob (Go.Eng.T.int? Go.IntKind.i64 (Go.Eng.T.cell x7 0)) fun x8=>(bif (Go.Eng.ltI x8 (0:Int)) then (some (Sum.inr (Sum.inl (Bool.false,())))) else (ob (Go.Eng.T.int? Go.IntKind.i64 (Go.Eng.T.cell x7 0)) fun x9=>(bif (Go.Eng.leI (Go.Eng.lenL s6.2.2.2.2.2.2.2.1) x9) then (some (Sum.inr (Sum.inl (Bool.false,())))) else (ob (Go.Eng.T.anyInt? (Go.Eng.T.cell x7 0)) fun x10=>(ob (Go.Eng.idxL s6.2.2.2.2.2.2.2.1 x10) fun x11=>(ob (Go.Eng.T.int? Go.IntKind.i64 (Go.Eng.T.cell x11 0)) fun x12=>(ob (Go.Eng.T.one? (Go.Eng.mapGetD (Go.Eng.T.v (Go.Value.int Go.IntKind.i64 x12)) s6.2.2.1 (Go.Eng.T.v (Go.Value.bool Bool.false)))) fun x13=>(ob (Go.Eng.T.bool? x13) fun x14=>(bif x14 then (some (Sum.inr (Sum.inl (Bool.false,())))) else (ob (Go.Eng.T.anyInt? (Go.Eng.T.cell x7 0)) fun x15=>(ob (Go.Eng.idxL s6.2.2.2.2.2.2.2.1 x15) fun x16=>(ob (Go.Eng.T.sl? 7 (Go.Eng.T.cell x16 2)) fun x17=>(ob (Go.Eng.u_ref24_Refs (x17,())) fun x18=>(ob (loopU u_brepkernellaw24_EntityOrders_l1 ((),(s6.2.1,(s6.2.2.1,((Go.Eng.T.cell x7 0),(s6.2.2.2.1,(s6.2.2.2.2.1,(s6.2.2.2.2.2.1,(x18.1,((Go.Eng.lenL x18.1),((0:Int),(s6.2.2.2.2.2.2.1,(s6.2.2.2.2.2.2.2.1,()))))))))))))) fun q24=>onS q24 (fun t25=>(some (Sum.inr (Sum.inl (t25.1,()))))) fun q26=>onS q26 (fun t27=>(ob (Go.Eng.T.anyInt? t27.2.2.2.1) fun x28=>(ob (Go.Eng.idxL t27.2.2.2.2.2.2.2.2.1 x28) fun x29=>(ob (Go.Eng.T.int? Go.IntKind.i64 (Go.Eng.T.cell x29 0)) fun x30=>(some (Sum.inl ((),(t27.2.1,((Go.Eng.mapPut (Go.Eng.T.v (Go.Value.int Go.IntKind.i64 x30)) (Go.Eng.T.v (Go.Value.bool Bool.true)) t27.2.2.1),(t27.2.2.2.2.1,(t27.2.2.2.2.2.1,((Go.Eng.wr Go.IntKind.i64 (Go.Eng.addI t27.2.2.2.2.2.2.1 (1:Int))),(t27.2.2.2.2.2.2.2.1,(t27.2.2.2.2.2.2.2.2.1,())))))))))))))) fun q31=>noS q31)))))))))))))))) else (some (Sum.inr (Sum.inr (Sum.inl ((),(s6.2.1,(s6.2.2.2.2.2.2.1,(s6.2.2.2.2.2.2.2.1,())))))))))
noncomputable def u_brepkernellaw24_EntityOrders(t:((List T)×Unit)):Option (Bool×Unit):=
 (ob (Go.Eng.u_brepkernelmade_Light (t.1,())) fun x0=>(bif (Bool.not x0.1) then (ob (Go.Eng.u_brepkernellaw24_sane ()) fun x1=>(some (x1.1,()))) else (ob (Go.Eng.u_brepkernelmade_Roll (t.1,())) fun x2=>(ob (Go.Eng.u___brepkernelmade_Dice__File ((),((8:Int),(x2.1,(x2.2.1,()))))) fun x3=>(ob (Go.Eng.u_entity_Order (x3.1,(x3.2.1,()))) fun x4=>(bif (Bool.not x4.2.1) then (bif (Go.Eng.eqI (Go.Eng.lenL x4.1) (0:Int)) then (ob (Go.Eng.u_brepkernellaw24_sane ()) fun x5=>(some (x5.1,()))) else (some (Bool.false,()))) else (ob (loopU u_brepkernellaw24_EntityOrders_l0 ((),(x4.1,([],(x4.1,((Go.Eng.lenL x4.1),((0:Int),(x3.1,(x3.2.1,()))))))))) fun q32=>onS q32 (fun t33=>(some (t33.1,()))) fun q34=>onS q34 (fun t35=>(bif (Go.Eng.eqI (Go.Eng.lenL t35.2.1) (Go.Eng.lenL t35.2.2.2.1)) then (ob (Go.Eng.u_brepkernellaw24_sane ()) fun x36=>(some (x36.1,()))) else (some (Bool.false,())))) fun q37=>noS q37)))))))
def h_brepkernellaw24_EntityOrders:HT:=(.seq .leaf (.seq .leaf (.seq .leaf (.seq .leaf (.seq .leaf (.seq .leaf (.seq (.seq .leaf (.one (.loop { items:=[.slot 3,.slot 4,.slot 6,.slot 32,.slot 33,.slot 34,.box 3 2],shapes:=[.lit (Go.Eng.C.box 3 0),.sl 1,.row 34 1000000000 31,.sl 1,.int Go.IntKind.i64,.int Go.IntKind.i64,.sl 2,.sl 3] } [(AEx.ret,{ items:=[.slot 2],shapes:=[.bool] }),((AEx.exit 0),{ items:=[.slot 3,.slot 4,.box 3 2],shapes:=[.lit (Go.Eng.C.box 3 0),.sl 1,.sl 2,.sl 3] })] (.seq .leaf (.seq .leaf (.seq (.one (.seq .leaf (.seq .leaf (.seq (.seq .leaf (.one (.loop { items:=[.slot 3,.slot 4,.slot 6,.slot 8,.slot 32,.slot 33,.slot 34,.slot 64,.slot 65,.slot 66,.box 3 2],shapes:=[.lit (Go.Eng.C.box 3 0),.sl 1,.row 34 1000000000 31,.tree,.sl 1,.int Go.IntKind.i64,.int Go.IntKind.i64,.sl 1,.int Go.IntKind.i64,.int Go.IntKind.i64,.sl 2,.sl 3] } [(AEx.ret,{ items:=[.slot 2],shapes:=[.bool] }),((AEx.exit 2),{ items:=[.slot 3,.slot 4,.slot 6,.slot 8,.slot 32,.slot 33,.slot 34,.box 3 2],shapes:=[.lit (Go.Eng.C.box 3 0),.sl 1,.row 34 1000000000 31,.tree,.sl 1,.int Go.IntKind.i64,.int Go.IntKind.i64,.sl 2,.sl 3] })] .leaf))) .leaf)))) .leaf)))))) .leaf)))))))
theorem ok_brepkernellaw24_EntityOrders:TabOK Try.prog [4,5] g_brepkernellaw24_EntityOrders:=(TabOK.cons (fun _=>⟨_,Try.func4,by kernel_rfl,by kernel_rfl⟩) k_brepkernelmade_Light (calleeOf_nat _ _) (fun _=>(calleeOf_pure (by kernel_rfl))) (by kernel_rfl) (fun _=>callK_framed (calleeOf_nat _ _) rfl rfl) (by kernel_rfl) (TabOK.cons (fun _=>⟨_,Try.func5,by kernel_rfl,by kernel_rfl⟩) k_brepkernellaw24_sane (calleeOf_nat _ _) (fun _=>(calleeOf_pure (by kernel_rfl))) (by kernel_rfl) (fun _=>callK_framed (calleeOf_nat _ _) rfl rfl) (by kernel_rfl) (TabOK.cons (fun _=>⟨_,Try.func6,by kernel_rfl,by kernel_rfl⟩) k_brepkernelmade_Roll (calleeOf_nat _ _) (fun h=>by cases h) (by kernel_rfl) (fun _=>callK_framed (calleeOf_nat _ _) rfl rfl) (by kernel_rfl) (TabOK.cons (fun _=>⟨_,Try.func7,by kernel_rfl,by kernel_rfl⟩) k___brepkernelmade_Dice__File (calleeOf_nat _ _) (fun h=>by cases h) (by kernel_rfl) (fun _=>callK_framed (calleeOf_nat _ _) rfl rfl) (by kernel_rfl) (TabOK.cons (fun _=>⟨_,Try.func8,by kernel_rfl,by kernel_rfl⟩) k_entity_Order (calleeOf_nat _ _) (fun h=>by cases h) (by kernel_rfl) (fun _=>callK_framed (calleeOf_nat _ _) rfl rfl) (by kernel_rfl) (TabOK.cons (fun _=>⟨_,Try.func9,by kernel_rfl,by kernel_rfl⟩) k_ref24_Refs (calleeOf_nat _ _) (fun h=>by cases h) (by kernel_rfl) (fun _=>callK_framed (calleeOf_nat _ _) rfl rfl) (by kernel_rfl) TabOK.nil))))))
theorem e_brepkernellaw24_EntityOrders:∀t,bodyG Try.prog g_brepkernellaw24_EntityOrders [4,5] h_brepkernellaw24_EntityOrders Try.f3 sg_brepkernellaw24_EntityOrders t=u_brepkernellaw24_EntityOrders t:=by
 intro t
 kernel_rfl
theorem k_brepkernellaw24_EntityOrders:(calleeOf sg_brepkernellaw24_EntityOrders u_brepkernellaw24_EntityOrders).OK Try.prog 3:=calleeG_ok mixed ok_brepkernellaw24_EntityOrders Try.func3 (by kernel_rfl) (by kernel_rfl) e_brepkernellaw24_EntityOrders
theorem le_lpr{S E:Type}{F:S→Option (S⊕E)}(n:Nat)(s:S):Le (iter F n s) (loopU F s):=le_loop (fun _=>le_rfl) n s
noncomputable def v_ref01_Trim(n:Nat)(t:((List T)×Unit)):Option ((List T)×Unit):=
 (ob (iter u_ref01_Trim_l0 n (t.1,(Go.Eng.lenL t.1),())) fun q3=>onS q3 (fun t4=>(ob (Go.Eng.cutL t4.1 (0:Int) t4.2.1) fun x5=>(ob (Go.Eng.room [] x5 4) fun x6=>(some (x6,()))))) fun q7=>noS q7)
theorem le_ref01_Trim(n:Nat)(t:((List T)×Unit)):Le (v_ref01_Trim n t) (u_ref01_Trim t):=by
 unfold v_ref01_Trim u_ref01_Trim
 repeat' with_reducible first | exact le_rfl | refine le_cond ?_ ?_ | refine le_onS (fun _=>?_) fun _=>?_ | refine le_ob ?_ fun _=>?_ | refine le_both ?_ ?_ | exact le_lpr _ _
noncomputable def v_ref01_Of(n:Nat)(t:(Int×Unit)):Option ((List T)×Unit):=
 (ob (Go.Eng.nn (32:Int)) fun x0=>(ob (Go.Eng.v_ref01_Trim n ([(Go.Eng.T.v (Go.Value.int Go.IntKind.u32 (Go.Eng.wr Go.IntKind.u32 t.1))),(Go.Eng.T.v (Go.Value.int Go.IntKind.u32 (Go.Eng.wr Go.IntKind.u32 (Go.Eng.shrI Go.IntKind.u64 t.1 x0))))],())) fun x1=>(some (x1.1,()))))
theorem le_ref01_Of(n:Nat)(t:(Int×Unit)):Le (v_ref01_Of n t) (u_ref01_Of t):=by
 unfold v_ref01_Of u_ref01_Of
 repeat' with_reducible first | exact le_rfl | refine le_cond ?_ ?_ | refine le_onS (fun _=>?_) fun _=>?_ | refine le_ob ?_ fun _=>?_ | refine le_both ?_ ?_ | exact le_ref01_Trim n _
noncomputable def v_ref01_Cmp(n:Nat)(t:((List T)×(List T)×Unit)):Option (Int×Unit):=
 (bif (Bool.not (Go.Eng.eqI (Go.Eng.lenL t.1) (Go.Eng.lenL t.2.1))) then (bif (Go.Eng.ltI (Go.Eng.lenL t.1) (Go.Eng.lenL t.2.1)) then (some ((-1:Int),())) else (some ((1:Int),()))) else (ob (iter u_ref01_Cmp_l0 n (t.1,t.2.1,(Go.Eng.wr Go.IntKind.i64 (Go.Eng.subI (Go.Eng.lenL t.1) (1:Int))),())) fun q9=>onS q9 (fun t10=>(some (t10.1,()))) fun q11=>onS q11 (fun t12=>(some ((0:Int),()))) fun q13=>noS q13))
theorem le_ref01_Cmp(n:Nat)(t:((List T)×(List T)×Unit)):Le (v_ref01_Cmp n t) (u_ref01_Cmp t):=by
 unfold v_ref01_Cmp u_ref01_Cmp
 repeat' with_reducible first | exact le_rfl | refine le_cond ?_ ?_ | refine le_onS (fun _=>?_) fun _=>?_ | refine le_ob ?_ fun _=>?_ | refine le_both ?_ ?_ | exact le_lpr _ _
noncomputable def v_ref01_Mul_l0(n:Nat)(s1:(List T×List T×List T×Int×Unit)):Option ((List T×List T×List T×Int×Unit)⊕((List T×Unit)⊕Empty)):=
 (bif (Go.Eng.ltI s1.2.2.2.1 (Go.Eng.lenL s1.1)) then (ob (iter u_ref01_Mul_l1 n (s1.1,s1.2.1,s1.2.2.1,s1.2.2.2.1,(0:Int),(0:Int),())) fun q13=>onS q13 (fun t14=>(ob (Go.Eng.chkI (Go.Eng.lenL t14.2.2.1) (Go.Eng.wr Go.IntKind.i64 (Go.Eng.addI t14.2.2.2.1 (Go.Eng.lenL t14.2.1)))) fun x15=>(ob (Go.Eng.idxN t14.2.2.1 x15) fun x16=>(some (Sum.inl (t14.1,t14.2.1,(List.set t14.2.2.1 x15 (Go.Eng.T.upd 1 x16 0 [(Go.Eng.T.v (Go.Value.int Go.IntKind.u32 (Go.Eng.wr Go.IntKind.u32 t14.2.2.2.2.1)))])),(Go.Eng.wr Go.IntKind.i64 (Go.Eng.addI t14.2.2.2.1 (1:Int))),())))))) fun q17=>noS q17) else (some (Sum.inr (Sum.inl (s1.2.2.1,())))))
theorem le_ref01_Mul_l0(n:Nat)(s1:(List T×List T×List T×Int×Unit)):Le (v_ref01_Mul_l0 n s1) (u_ref01_Mul_l0 s1):=by
 unfold v_ref01_Mul_l0 u_ref01_Mul_l0
 repeat' with_reducible first | exact le_rfl | refine le_cond ?_ ?_ | refine le_onS (fun _=>?_) fun _=>?_ | refine le_ob ?_ fun _=>?_ | refine le_both ?_ ?_ | exact le_lpr _ _
noncomputable def v_ref01_Mul(n:Nat)(t:((List T)×(List T)×Unit)):Option ((List T)×Unit):=
 (ob (Go.Eng.mkLen (Go.Eng.wr Go.IntKind.i64 (Go.Eng.addI (Go.Eng.lenL t.1) (Go.Eng.lenL t.2.1))) (Go.Eng.wr Go.IntKind.i64 (Go.Eng.addI (Go.Eng.lenL t.1) (Go.Eng.lenL t.2.1))) 4) fun x0=>(ob (iter (v_ref01_Mul_l0 n) n (t.1,t.2.1,(Go.Eng.repL x0.1 (Go.Eng.T.v (Go.Value.int Go.IntKind.u32 (0:Int)))),(0:Int),())) fun q18=>onS q18 (fun t19=>(ob (Go.Eng.v_ref01_Trim n (t19.1,())) fun x20=>(some (x20.1,())))) fun q21=>noS q21))
theorem le_ref01_Mul(n:Nat)(t:((List T)×(List T)×Unit)):Le (v_ref01_Mul n t) (u_ref01_Mul t):=by
 unfold v_ref01_Mul u_ref01_Mul
 repeat' with_reducible first | exact le_rfl | refine le_cond ?_ ?_ | refine le_onS (fun _=>?_) fun _=>?_ | refine le_ob ?_ fun _=>?_ | refine le_both ?_ ?_ | exact le_ref01_Trim n _ | exact le_loop (le_ref01_Mul_l0 n) _ _
noncomputable def v_ref01_minus(n:Nat)(t:((List T)×(List T)×Unit)):Option ((List T)×Unit):=
 (ob (Go.Eng.mkLen (Go.Eng.lenL t.1) (Go.Eng.lenL t.1) 4) fun x0=>(ob (iter u_ref01_minus_l0 n (t.1,t.2.1,(Go.Eng.repL x0.1 (Go.Eng.T.v (Go.Value.int Go.IntKind.u32 (0:Int)))),(0:Int),(0:Int),())) fun q14=>onS q14 (fun t15=>(ob (Go.Eng.v_ref01_Trim n (t15.1,())) fun x16=>(some (x16.1,())))) fun q17=>noS q17))
theorem le_ref01_minus(n:Nat)(t:((List T)×(List T)×Unit)):Le (v_ref01_minus n t) (u_ref01_minus t):=by
 unfold v_ref01_minus u_ref01_minus
 repeat' with_reducible first | exact le_rfl | refine le_cond ?_ ?_ | refine le_onS (fun _=>?_) fun _=>?_ | refine le_ob ?_ fun _=>?_ | refine le_both ?_ ?_ | exact le_ref01_Trim n _ | exact le_lpr _ _
noncomputable def v_ref01_Bits(n:Nat)(t:((List T)×Unit)):Option (Int×Unit):=
 (bif (Go.Eng.eqI (Go.Eng.lenL t.1) (0:Int)) then (some ((0:Int),())) else (ob (Go.Eng.idxL t.1 (Go.Eng.wr Go.IntKind.i64 (Go.Eng.subI (Go.Eng.lenL t.1) (1:Int)))) fun x0=>(ob (Go.Eng.T.int? Go.IntKind.u32 (Go.Eng.T.cell x0 0)) fun x3=>(ob (iter u_ref01_Bits_l0 n ((Go.Eng.wr Go.IntKind.i64 (Go.Eng.mulI (32:Int) (Go.Eng.wr Go.IntKind.i64 (Go.Eng.subI (Go.Eng.lenL t.1) (1:Int))))),x3,())) fun q4=>onS q4 (fun t5=>(some (t5.1,()))) fun q6=>noS q6))))
theorem le_ref01_Bits(n:Nat)(t:((List T)×Unit)):Le (v_ref01_Bits n t) (u_ref01_Bits t):=by
 unfold v_ref01_Bits u_ref01_Bits
 repeat' with_reducible first | exact le_rfl | refine le_cond ?_ ?_ | refine le_onS (fun _=>?_) fun _=>?_ | refine le_ob ?_ fun _=>?_ | refine le_both ?_ ?_ | exact le_lpr _ _
noncomputable def v_ref01_up(n:Nat)(t:((List T)×Int×Unit)):Option ((List T)×Unit):=
 (ob (Go.Eng.mkLen (Go.Eng.wr Go.IntKind.i64 (Go.Eng.divI t.2.1 (32:Int))) (Go.Eng.wr Go.IntKind.i64 (Go.Eng.divI t.2.1 (32:Int))) 4) fun x0=>(ob (iter u_ref01_up_l0 n (t.1,t.2.1,(Go.Eng.repL x0.1 (Go.Eng.T.v (Go.Value.int Go.IntKind.u32 (0:Int)))),(0:Int),(0:Int),())) fun q7=>onS q7 (fun t8=>(ob (Go.Eng.room t8.1 [(Go.Eng.T.v (Go.Value.int Go.IntKind.u32 (Go.Eng.wr Go.IntKind.u32 t8.2.1)))] 4) fun x9=>(ob (Go.Eng.v_ref01_Trim n (x9,())) fun x10=>(some (x10.1,()))))) fun q11=>noS q11))
theorem le_ref01_up(n:Nat)(t:((List T)×Int×Unit)):Le (v_ref01_up n t) (u_ref01_up t):=by
 unfold v_ref01_up u_ref01_up
 repeat' with_reducible first | exact le_rfl | refine le_cond ?_ ?_ | refine le_onS (fun _=>?_) fun _=>?_ | refine le_ob ?_ fun _=>?_ | refine le_both ?_ ?_ | exact le_ref01_Trim n _ | exact le_lpr _ _
noncomputable def v_ref01_times(n:Nat)(t:((List T)×Int×Unit)):Option ((List T)×Unit):=
 (ob (Go.Eng.v_ref01_Of n ((Go.Eng.wr Go.IntKind.u64 t.2.1),())) fun x0=>(ob (Go.Eng.v_ref01_Mul n (t.1,x0.1,())) fun x1=>(some (x1.1,()))))
theorem le_ref01_times(n:Nat)(t:((List T)×Int×Unit)):Le (v_ref01_times n t) (u_ref01_times t):=by
 unfold v_ref01_times u_ref01_times
 repeat' with_reducible first | exact le_rfl | refine le_cond ?_ ?_ | refine le_onS (fun _=>?_) fun _=>?_ | refine le_ob ?_ fun _=>?_ | refine le_both ?_ ?_ | exact le_ref01_Of n _ | exact le_ref01_Mul n _
noncomputable def v_ref01_byLimb(n:Nat)(t:((List T)×Int×Unit)):Option ((List T)×Int×Unit):=
 (ob (Go.Eng.mkLen (Go.Eng.lenL t.1) (Go.Eng.lenL t.1) 4) fun x0=>(ob (iter u_ref01_byLimb_l0 n (t.1,t.2.1,(Go.Eng.repL x0.1 (Go.Eng.T.v (Go.Value.int Go.IntKind.u32 (0:Int)))),(0:Int),(Go.Eng.wr Go.IntKind.i64 (Go.Eng.subI (Go.Eng.lenL t.1) (1:Int))),())) fun q9=>onS q9 (fun t10=>(ob (Go.Eng.v_ref01_Trim n (t10.1,())) fun x11=>(some (x11.1,(Go.Eng.wr Go.IntKind.u32 t10.2.1),())))) fun q12=>noS q12))
theorem le_ref01_byLimb(n:Nat)(t:((List T)×Int×Unit)):Le (v_ref01_byLimb n t) (u_ref01_byLimb t):=by
 unfold v_ref01_byLimb u_ref01_byLimb
 repeat' with_reducible first | exact le_rfl | refine le_cond ?_ ?_ | refine le_onS (fun _=>?_) fun _=>?_ | refine le_ob ?_ fun _=>?_ | refine le_both ?_ ?_ | exact le_ref01_Trim n _ | exact le_lpr _ _
noncomputable def v_ref01_down(n:Nat)(t:((List T)×Int×Unit)):Option ((List T)×Unit):=
 (bif (Go.Eng.leI (Go.Eng.lenL t.1) (Go.Eng.wr Go.IntKind.i64 (Go.Eng.divI t.2.1 (32:Int)))) then (some ([],())) else (ob (Go.Eng.cutL t.1 (Go.Eng.wr Go.IntKind.i64 (Go.Eng.divI t.2.1 (32:Int))) (Go.Eng.lenL t.1)) fun x0=>(ob (Go.Eng.mkLen (Go.Eng.lenL x0) (Go.Eng.lenL x0) 4) fun x1=>(ob (iter u_ref01_down_l0 n (x0,t.2.1,(Go.Eng.repL x1.1 (Go.Eng.T.v (Go.Value.int Go.IntKind.u32 (0:Int)))),(0:Int),())) fun q14=>onS q14 (fun t15=>(ob (Go.Eng.v_ref01_Trim n (t15.1,())) fun x16=>(some (x16.1,())))) fun q17=>noS q17))))
theorem le_ref01_down(n:Nat)(t:((List T)×Int×Unit)):Le (v_ref01_down n t) (u_ref01_down t):=by
 unfold v_ref01_down u_ref01_down
 repeat' with_reducible first | exact le_rfl | refine le_cond ?_ ?_ | refine le_onS (fun _=>?_) fun _=>?_ | refine le_ob ?_ fun _=>?_ | refine le_both ?_ ?_ | exact le_ref01_Trim n _ | exact le_lpr _ _
noncomputable def v_ref01_Div_l1(n:Nat)(s33:(List T×List T×List T×Int×Int×Int×Int×List T×Unit)):Option ((List T×List T×List T×Int×Int×Int×Int×List T×Unit)⊕((List T×List T×List T×Int×Int×Int×Int×List T×Unit)⊕Empty)):=
 (ob (Go.Eng.v_ref01_Cmp n (s33.2.2.2.2.2.2.2.1,s33.2.2.1,())) fun x34=>(bif (Go.Eng.ltI (0:Int) x34.1) then (ob (Go.Eng.u_ref01_shifted (s33.1,s33.2.2.2.2.2.1,())) fun x35=>(ob (Go.Eng.v_ref01_minus n (s33.2.2.2.2.2.2.2.1,x35.1,())) fun x36=>(some (Sum.inl (s33.1,s33.2.1,s33.2.2.1,s33.2.2.2.1,s33.2.2.2.2.1,s33.2.2.2.2.2.1,(Go.Eng.wr Go.IntKind.u64 (Go.Eng.subI s33.2.2.2.2.2.2.1 (1:Int))),x36.1,()))))) else (some (Sum.inr (Sum.inl (s33.1,s33.2.1,s33.2.2.1,s33.2.2.2.1,s33.2.2.2.2.1,s33.2.2.2.2.2.1,s33.2.2.2.2.2.2.1,s33.2.2.2.2.2.2.2.1,()))))))
theorem le_ref01_Div_l1(n:Nat)(s33:(List T×List T×List T×Int×Int×Int×Int×List T×Unit)):Le (v_ref01_Div_l1 n s33) (u_ref01_Div_l1 s33):=by
 unfold v_ref01_Div_l1 u_ref01_Div_l1
 repeat' with_reducible first | exact le_rfl | refine le_cond ?_ ?_ | refine le_onS (fun _=>?_) fun _=>?_ | refine le_ob ?_ fun _=>?_ | refine le_both ?_ ?_ | exact le_ref01_Cmp n _ | exact le_ref01_minus n _
noncomputable def v_ref01_Div_l0(n:Nat)(s17:(List T×List T×List T×Int×Int×Int×Unit)):Option ((List T×List T×List T×Int×Int×Int×Unit)⊕((List T×List T×Int×Unit)⊕Empty)):=
 (bif (Go.Eng.leI (0:Int) s17.2.2.2.2.2.1) then (ob (α:=((List T×List T×List T×Int×Int×Int×Int×Unit)⊕Empty)) (bif (Go.Eng.ltI (Go.Eng.wr Go.IntKind.i64 (Go.Eng.addI s17.2.2.2.2.2.1 s17.2.2.2.2.1)) (Go.Eng.lenL s17.2.2.1)) then (ob (Go.Eng.idxL s17.2.2.1 (Go.Eng.wr Go.IntKind.i64 (Go.Eng.addI s17.2.2.2.2.2.1 s17.2.2.2.2.1))) fun x18=>(ob (Go.Eng.T.anyInt? (Go.Eng.T.cell x18 0)) fun x19=>(some (Sum.inl (s17.1,s17.2.1,s17.2.2.1,s17.2.2.2.1,s17.2.2.2.2.1,s17.2.2.2.2.2.1,(Go.Eng.wr Go.IntKind.u64 x19),()))))) else (some (Sum.inl (s17.1,s17.2.1,s17.2.2.1,s17.2.2.2.1,s17.2.2.2.2.1,s17.2.2.2.2.2.1,(0:Int),())))) fun q20=>onS q20 (fun t21=>(ob (α:=((List T×List T×List T×Int×Int×Int×Int×Unit)⊕Empty)) (bif (Go.Eng.ltI (Go.Eng.wr Go.IntKind.i64 (Go.Eng.subI (Go.Eng.wr Go.IntKind.i64 (Go.Eng.addI t21.2.2.2.2.2.1 t21.2.2.2.2.1)) (1:Int))) (Go.Eng.lenL t21.2.2.1)) then (ob (Go.Eng.nn (32:Int)) fun x22=>(ob (Go.Eng.idxL t21.2.2.1 (Go.Eng.wr Go.IntKind.i64 (Go.Eng.subI (Go.Eng.wr Go.IntKind.i64 (Go.Eng.addI t21.2.2.2.2.2.1 t21.2.2.2.2.1)) (1:Int)))) fun x23=>(ob (Go.Eng.T.anyInt? (Go.Eng.T.cell x23 0)) fun x24=>(some (Sum.inl (t21.1,t21.2.1,t21.2.2.1,t21.2.2.2.1,t21.2.2.2.2.1,t21.2.2.2.2.2.1,(Go.Eng.bitI Go.BinOp.or Go.IntKind.u64 (Go.Eng.wr Go.IntKind.u64 (Go.Eng.shlI Go.IntKind.u64 t21.2.2.2.2.2.2.1 x22)) (Go.Eng.wr Go.IntKind.u64 x24)),())))))) else (ob (Go.Eng.nn (32:Int)) fun x25=>(some (Sum.inl (t21.1,t21.2.1,t21.2.2.1,t21.2.2.2.1,t21.2.2.2.2.1,t21.2.2.2.2.2.1,(Go.Eng.wr Go.IntKind.u64 (Go.Eng.shlI Go.IntKind.u64 t21.2.2.2.2.2.2.1 x25)),()))))) fun q26=>onS q26 (fun t27=>(ob (Go.Eng.idxL t27.1 (Go.Eng.wr Go.IntKind.i64 (Go.Eng.subI t27.2.2.2.2.1 (1:Int)))) fun x28=>(ob (Go.Eng.T.anyInt? (Go.Eng.T.cell x28 0)) fun x29=>(ob (Go.Eng.nz (Go.Eng.wr Go.IntKind.u64 x29)) fun x30=>(ob (Go.Eng.v_ref01_times n (t27.1,(Go.Eng.wr Go.IntKind.u32 (Go.Eng.mmI Bool.false (Go.Eng.wr Go.IntKind.u64 (Go.Eng.divI t27.2.2.2.2.2.2.1 x30)) (4294967295:Int))),())) fun x31=>(ob (Go.Eng.u_ref01_shifted (x31.1,t27.2.2.2.2.2.1,())) fun x32=>(ob (iter (v_ref01_Div_l1 n) n (t27.1,t27.2.1,t27.2.2.1,t27.2.2.2.1,t27.2.2.2.2.1,t27.2.2.2.2.2.1,(Go.Eng.mmI Bool.false (Go.Eng.wr Go.IntKind.u64 (Go.Eng.divI t27.2.2.2.2.2.2.1 x30)) (4294967295:Int)),x32.1,())) fun q37=>onS q37 (fun t38=>(ob (Go.Eng.chkI (Go.Eng.lenL t38.2.1) t38.2.2.2.2.2.1) fun x39=>(ob (Go.Eng.idxN t38.2.1 x39) fun x40=>(ob (Go.Eng.v_ref01_minus n (t38.2.2.1,t38.2.2.2.2.2.2.2.1,())) fun x41=>(some (Sum.inl (t38.1,(List.set t38.2.1 x39 (Go.Eng.T.upd 1 x40 0 [(Go.Eng.T.v (Go.Value.int Go.IntKind.u32 (Go.Eng.wr Go.IntKind.u32 t38.2.2.2.2.2.2.1)))])),x41.1,t38.2.2.2.1,t38.2.2.2.2.1,(Go.Eng.wr Go.IntKind.i64 (Go.Eng.subI t38.2.2.2.2.2.1 (1:Int))),()))))))) fun q42=>noS q42))))))) fun q43=>noS q43)) fun q44=>noS q44) else (some (Sum.inr (Sum.inl (s17.2.1,s17.2.2.1,s17.2.2.2.1,())))))
theorem le_ref01_Div_l0(n:Nat)(s17:(List T×List T×List T×Int×Int×Int×Unit)):Le (v_ref01_Div_l0 n s17) (u_ref01_Div_l0 s17):=by
 unfold v_ref01_Div_l0 u_ref01_Div_l0
 repeat' with_reducible first | exact le_rfl | refine le_cond ?_ ?_ | refine le_onS (fun _=>?_) fun _=>?_ | refine le_ob ?_ fun _=>?_ | refine le_both ?_ ?_ | exact le_ref01_times n _ | exact le_ref01_minus n _ | exact le_loop (le_ref01_Div_l1 n) _ _
noncomputable def v_ref01_Div(n:Nat)(t:((List T)×(List T)×Unit)):Option ((List T)×(List T)×Int×Unit):=
 (bif (Go.Eng.eqI (Go.Eng.lenL t.2.1) (0:Int)) then (some ([],[],(3:Int),())) else (ob (Go.Eng.v_ref01_Cmp n (t.1,t.2.1,())) fun x0=>(bif (Go.Eng.ltI x0.1 (0:Int)) then (ob (Go.Eng.v_ref01_Trim n (t.1,())) fun x1=>(some ([],x1.1,(0:Int),()))) else (ob (Go.Eng.u_ref01_small (t.1,())) fun x2=>(bif x2.2.1 then (ob (Go.Eng.u_ref01_small (t.2.1,())) fun x3=>(ob (Go.Eng.nz x3.1) fun x4=>(ob (Go.Eng.v_ref01_Of n ((Go.Eng.wr Go.IntKind.u64 (Go.Eng.divI x2.1 x4)),())) fun x5=>(ob (Go.Eng.nz x3.1) fun x6=>(ob (Go.Eng.v_ref01_Of n ((Go.Eng.modI x2.1 x6),())) fun x7=>(some (x5.1,x7.1,(0:Int),()))))))) else (bif (Go.Eng.eqI (Go.Eng.lenL t.2.1) (1:Int)) then (ob (Go.Eng.idxL t.2.1 (0:Int)) fun x8=>(ob (Go.Eng.T.int? Go.IntKind.u32 (Go.Eng.T.cell x8 0)) fun x9=>(ob (Go.Eng.v_ref01_byLimb n (t.1,x9,())) fun x10=>(ob (Go.Eng.v_ref01_Of n ((Go.Eng.wr Go.IntKind.u64 x10.2.1),())) fun x11=>(some (x10.1,x11.1,(0:Int),())))))) else (ob (Go.Eng.cutL t.2.1 (Go.Eng.wr Go.IntKind.i64 (Go.Eng.subI (Go.Eng.lenL t.2.1) (1:Int))) (Go.Eng.lenL t.2.1)) fun x12=>(ob (Go.Eng.v_ref01_Bits n (x12,())) fun x13=>(ob (Go.Eng.v_ref01_up n (t.2.1,(Go.Eng.wr Go.IntKind.i64 (Go.Eng.subI (32:Int) x13.1)),())) fun x14=>(ob (Go.Eng.v_ref01_up n (t.1,(Go.Eng.wr Go.IntKind.i64 (Go.Eng.subI (32:Int) x13.1)),())) fun x15=>(ob (Go.Eng.mkLen (Go.Eng.wr Go.IntKind.i64 (Go.Eng.addI (Go.Eng.wr Go.IntKind.i64 (Go.Eng.subI (Go.Eng.lenL x15.1) (Go.Eng.lenL x14.1))) (1:Int))) (Go.Eng.wr Go.IntKind.i64 (Go.Eng.addI (Go.Eng.wr Go.IntKind.i64 (Go.Eng.subI (Go.Eng.lenL x15.1) (Go.Eng.lenL x14.1))) (1:Int))) 4) fun x16=>(ob (iter (v_ref01_Div_l0 n) n (x14.1,(Go.Eng.repL x16.1 (Go.Eng.T.v (Go.Value.int Go.IntKind.u32 (0:Int)))),x15.1,(Go.Eng.wr Go.IntKind.i64 (Go.Eng.subI (32:Int) x13.1)),(Go.Eng.lenL x14.1),(Go.Eng.wr Go.IntKind.i64 (Go.Eng.subI (Go.Eng.lenL x15.1) (Go.Eng.lenL x14.1))),())) fun q45=>onS q45 (fun t46=>(ob (Go.Eng.v_ref01_Trim n (t46.1,())) fun x47=>(ob (Go.Eng.v_ref01_down n (t46.2.1,t46.2.2.1,())) fun x48=>(some (x47.1,x48.1,(0:Int),()))))) fun q49=>noS q49))))))))))))
theorem le_ref01_Div(n:Nat)(t:((List T)×(List T)×Unit)):Le (v_ref01_Div n t) (u_ref01_Div t):=by
 unfold v_ref01_Div u_ref01_Div
 repeat' with_reducible first | exact le_rfl | refine le_cond ?_ ?_ | refine le_onS (fun _=>?_) fun _=>?_ | refine le_ob ?_ fun _=>?_ | refine le_both ?_ ?_ | exact le_ref01_Cmp n _ | exact le_ref01_Trim n _ | exact le_ref01_Of n _ | exact le_ref01_byLimb n _ | exact le_ref01_Bits n _ | exact le_ref01_up n _ | exact le_ref01_down n _ | exact le_loop (le_ref01_Div_l0 n) _ _
noncomputable def v_ref01_Gcd_l0(n:Nat)(s2:(List T×List T×Unit)):Option ((List T×List T×Unit)⊕((List T×Unit)⊕((List T×Unit)⊕Empty))):=
 (bif (Go.Eng.ltI (0:Int) (Go.Eng.lenL s2.2.1)) then (ob (Go.Eng.u_ref01_small (s2.1,())) fun x3=>(ob (Go.Eng.u_ref01_small (s2.2.1,())) fun x4=>(bif x3.2.1 then (bif x4.2.1 then (ob (iter u_ref01_Gcd_l1 n (x3.1,x4.1,())) fun q7=>onS q7 (fun t8=>(ob (Go.Eng.v_ref01_Of n (t8.1,())) fun x9=>(some (Sum.inr (Sum.inl (x9.1,())))))) fun q10=>noS q10) else (ob (Go.Eng.v_ref01_Div n (s2.1,s2.2.1,())) fun x11=>(some (Sum.inl (s2.2.1,x11.2.1,()))))) else (ob (Go.Eng.v_ref01_Div n (s2.1,s2.2.1,())) fun x12=>(some (Sum.inl (s2.2.1,x12.2.1,()))))))) else (some (Sum.inr (Sum.inr (Sum.inl (s2.1,()))))))
theorem le_ref01_Gcd_l0(n:Nat)(s2:(List T×List T×Unit)):Le (v_ref01_Gcd_l0 n s2) (u_ref01_Gcd_l0 s2):=by
 unfold v_ref01_Gcd_l0 u_ref01_Gcd_l0
 repeat' with_reducible first | exact le_rfl | refine le_cond ?_ ?_ | refine le_onS (fun _=>?_) fun _=>?_ | refine le_ob ?_ fun _=>?_ | refine le_both ?_ ?_ | exact le_ref01_Of n _ | exact le_ref01_Div n _ | exact le_lpr _ _
noncomputable def v_ref01_Gcd(n:Nat)(t:((List T)×(List T)×Unit)):Option ((List T)×Unit):=
 (ob (Go.Eng.v_ref01_Trim n (t.1,())) fun x0=>(ob (Go.Eng.v_ref01_Trim n (t.2.1,())) fun x1=>(ob (iter (v_ref01_Gcd_l0 n) n (x0.1,x1.1,())) fun q13=>onS q13 (fun t14=>(some (t14.1,()))) fun q15=>onS q15 (fun t16=>(some (t16.1,()))) fun q17=>noS q17)))
theorem le_ref01_Gcd(n:Nat)(t:((List T)×(List T)×Unit)):Le (v_ref01_Gcd n t) (u_ref01_Gcd t):=by
 unfold v_ref01_Gcd u_ref01_Gcd
 repeat' with_reducible first | exact le_rfl | refine le_cond ?_ ?_ | refine le_onS (fun _=>?_) fun _=>?_ | refine le_ob ?_ fun _=>?_ | refine le_both ?_ ?_ | exact le_ref01_Trim n _ | exact le_loop (le_ref01_Gcd_l0 n) _ _
noncomputable def v_ref02_size(n:Nat)(t:(Int×Unit)):Option ((List T)×Bool×Unit):=
 (bif (Go.Eng.ltI t.1 (0:Int)) then (ob (Go.Eng.v_ref01_Of n ((Go.Eng.wr Go.IntKind.u64 (Go.Eng.addI (Go.Eng.wr Go.IntKind.u64 (Go.Eng.wr Go.IntKind.i64 (Go.Eng.subI (0:Int) (Go.Eng.wr Go.IntKind.i64 (Go.Eng.addI t.1 (1:Int)))))) (1:Int))),())) fun x0=>(some (x0.1,Bool.true,()))) else (ob (Go.Eng.v_ref01_Of n ((Go.Eng.wr Go.IntKind.u64 t.1),())) fun x1=>(some (x1.1,Bool.false,()))))
theorem le_ref02_size(n:Nat)(t:(Int×Unit)):Le (v_ref02_size n t) (u_ref02_size t):=by
 unfold v_ref02_size u_ref02_size
 repeat' with_reducible first | exact le_rfl | refine le_cond ?_ ?_ | refine le_onS (fun _=>?_) fun _=>?_ | refine le_ob ?_ fun _=>?_ | refine le_both ?_ ?_ | exact le_ref01_Of n _
noncomputable def v_ref02_reduce(n:Nat)(t:(Bool×(List T)×(List T)×Unit)):Option (Bool×(List T)×(List T)×Unit):=
 (ob (Go.Eng.v_ref01_Trim n (t.2.1,())) fun x0=>(ob (Go.Eng.v_ref01_Trim n (t.2.2.1,())) fun x1=>(bif (Go.Eng.eqI (Go.Eng.lenL x0.1) (0:Int)) then (some (Bool.false,[],[],())) else (ob (Go.Eng.v_ref01_Gcd n (x0.1,x1.1,())) fun x2=>(ob (α:=((Bool×List T×List T×Unit×Bool×T×T×Unit)⊕Empty)) (bif (Bool.not (Go.Eng.eqI (Go.Eng.lenL x2.1) (1:Int))) then (ob (Go.Eng.v_ref01_Div n (x0.1,x2.1,())) fun x3=>(ob (Go.Eng.v_ref01_Div n (x1.1,x2.1,())) fun x4=>(some (Sum.inl (t.1,x3.1,x4.1,(),Bool.false,(Go.Eng.T.v (Go.Value.slice (Option.none) 0 0)),(Go.Eng.T.v (Go.Value.slice (Option.none) 0 0)),()))))) else (ob (Go.Eng.idxL x2.1 (0:Int)) fun x5=>(ob (Go.Eng.T.int? Go.IntKind.u32 (Go.Eng.T.cell x5 0)) fun x6=>(bif (Bool.not (Go.Eng.eqI x6 (1:Int))) then (ob (Go.Eng.v_ref01_Div n (x0.1,x2.1,())) fun x7=>(ob (Go.Eng.v_ref01_Div n (x1.1,x2.1,())) fun x8=>(some (Sum.inl (t.1,x7.1,x8.1,(),Bool.false,(Go.Eng.T.v (Go.Value.slice (Option.none) 0 0)),(Go.Eng.T.v (Go.Value.slice (Option.none) 0 0)),()))))) else (some (Sum.inl (t.1,x0.1,x1.1,(),Bool.false,(Go.Eng.T.v (Go.Value.slice (Option.none) 0 0)),(Go.Eng.T.v (Go.Value.slice (Option.none) 0 0)),()))))))) fun q9=>onS q9 (fun t10=>(ob (α:=((Bool×List T×List T×Unit×Bool×T×T×Unit)⊕Empty)) (bif (Go.Eng.eqI (Go.Eng.lenL t10.2.2.1) (1:Int)) then (ob (Go.Eng.idxL t10.2.2.1 (0:Int)) fun x11=>(ob (Go.Eng.T.int? Go.IntKind.u32 (Go.Eng.T.cell x11 0)) fun x12=>(bif (Go.Eng.eqI x12 (1:Int)) then (some (Sum.inl (t10.1,t10.2.1,[],(),t10.2.2.2.2.1,t10.2.2.2.2.2.1,t10.2.2.2.2.2.2.1,()))) else (some (Sum.inl (t10.1,t10.2.1,t10.2.2.1,(),t10.2.2.2.2.1,t10.2.2.2.2.2.1,t10.2.2.2.2.2.2.1,())))))) else (some (Sum.inl (t10.1,t10.2.1,t10.2.2.1,(),t10.2.2.2.2.1,t10.2.2.2.2.2.1,t10.2.2.2.2.2.2.1,())))) fun q13=>onS q13 (fun t14=>(some (t14.1,t14.2.1,t14.2.2.1,()))) fun q15=>noS q15)) fun q16=>noS q16)))))
theorem le_ref02_reduce(n:Nat)(t:(Bool×(List T)×(List T)×Unit)):Le (v_ref02_reduce n t) (u_ref02_reduce t):=by
 unfold v_ref02_reduce u_ref02_reduce
 repeat' with_reducible first | exact le_rfl | refine le_cond ?_ ?_ | refine le_onS (fun _=>?_) fun _=>?_ | refine le_ob ?_ fun _=>?_ | refine le_both ?_ ?_ | exact le_ref01_Trim n _ | exact le_ref01_Gcd n _ | exact le_ref01_Div n _
noncomputable def v_ref02_Make(n:Nat)(t:(Int×Int×Unit)):Option (Bool×(List T)×(List T)×Int×Unit):=
 (bif (Go.Eng.eqI t.2.1 (0:Int)) then (some (Bool.false,[],[],(3:Int),())) else (ob (Go.Eng.v_ref02_size n (t.1,())) fun x0=>(ob (Go.Eng.v_ref02_size n (t.2.1,())) fun x1=>(ob (Go.Eng.v_ref02_reduce n ((Bool.not (Go.Eng.eqB x0.2.1 x1.2.1)),x0.1,x1.1,())) fun x2=>(some (x2.1,x2.2.1,x2.2.2.1,(0:Int),()))))))
theorem le_ref02_Make(n:Nat)(t:(Int×Int×Unit)):Le (v_ref02_Make n t) (u_ref02_Make t):=by
 unfold v_ref02_Make u_ref02_Make
 repeat' with_reducible first | exact le_rfl | refine le_cond ?_ ?_ | refine le_onS (fun _=>?_) fun _=>?_ | refine le_ob ?_ fun _=>?_ | refine le_both ?_ ?_ | exact le_ref02_size n _ | exact le_ref02_reduce n _
noncomputable def v_ref02_Frac(n:Nat)(t:(Int×Int×Unit)):Option (Bool×(List T)×(List T)×Unit):=
 (ob (Go.Eng.v_ref02_Make n (t.1,t.2.1,())) fun x0=>(some (x0.1,x0.2.1,x0.2.2.1,())))
theorem le_ref02_Frac(n:Nat)(t:(Int×Int×Unit)):Le (v_ref02_Frac n t) (u_ref02_Frac t):=by
 unfold v_ref02_Frac u_ref02_Frac
 repeat' with_reducible first | exact le_rfl | refine le_cond ?_ ?_ | refine le_onS (fun _=>?_) fun _=>?_ | refine le_ob ?_ fun _=>?_ | refine le_both ?_ ?_ | exact le_ref02_Make n _
noncomputable def v_ref02_Int(n:Nat)(t:(Int×Unit)):Option (Bool×(List T)×(List T)×Unit):=
 (ob (Go.Eng.v_ref02_size n (t.1,())) fun x0=>(some (x0.2.1,x0.1,[],())))
theorem le_ref02_Int(n:Nat)(t:(Int×Unit)):Le (v_ref02_Int n t) (u_ref02_Int t):=by
 unfold v_ref02_Int u_ref02_Int
 repeat' with_reducible first | exact le_rfl | refine le_cond ?_ ?_ | refine le_onS (fun _=>?_) fun _=>?_ | refine le_ob ?_ fun _=>?_ | refine le_both ?_ ?_ | exact le_ref02_size n _
noncomputable def v_natural_trim(n:Nat)(t:((List T)×Unit)):Option ((List T)×Unit):=
 (ob (iter u_natural_trim_l0 n (t.1,(Go.Eng.lenL t.1),())) fun q3=>onS q3 (fun t4=>(ob (Go.Eng.cutL t4.1 (0:Int) t4.2.1) fun x5=>(some (x5,())))) fun q6=>noS q6)
theorem le_natural_trim(n:Nat)(t:((List T)×Unit)):Le (v_natural_trim n t) (u_natural_trim t):=by
 unfold v_natural_trim u_natural_trim
 repeat' with_reducible first | exact le_rfl | refine le_cond ?_ ?_ | refine le_onS (fun _=>?_) fun _=>?_ | refine le_ob ?_ fun _=>?_ | refine le_both ?_ ?_ | exact le_lpr _ _
noncomputable def v_natural_Cmp(n:Nat)(t:((List T)×(List T)×Unit)):Option (Int×Unit):=
 (ob (Go.Eng.v_natural_trim n (t.1,())) fun x0=>(ob (Go.Eng.v_natural_trim n (t.2.1,())) fun x1=>(bif (Bool.not (Go.Eng.eqI (Go.Eng.lenL x0.1) (Go.Eng.lenL x1.1))) then (bif (Go.Eng.ltI (Go.Eng.lenL x0.1) (Go.Eng.lenL x1.1)) then (some ((-1:Int),())) else (some ((1:Int),()))) else (ob (iter u_natural_Cmp_l0 n (x0.1,x1.1,(Go.Eng.wr Go.IntKind.i64 (Go.Eng.subI (Go.Eng.lenL x0.1) (1:Int))),())) fun q11=>onS q11 (fun t12=>(some (t12.1,()))) fun q13=>onS q13 (fun t14=>(some ((0:Int),()))) fun q15=>noS q15))))
theorem le_natural_Cmp(n:Nat)(t:((List T)×(List T)×Unit)):Le (v_natural_Cmp n t) (u_natural_Cmp t):=by
 unfold v_natural_Cmp u_natural_Cmp
 repeat' with_reducible first | exact le_rfl | refine le_cond ?_ ?_ | refine le_onS (fun _=>?_) fun _=>?_ | refine le_ob ?_ fun _=>?_ | refine le_both ?_ ?_ | exact le_natural_trim n _ | exact le_lpr _ _
noncomputable def v_natural_Of(n:Nat)(t:(Int×Unit)):Option ((List T)×Unit):=
 (ob (Go.Eng.nn (32:Int)) fun x0=>(ob (Go.Eng.v_natural_trim n ([(Go.Eng.T.v (Go.Value.int Go.IntKind.u32 (Go.Eng.wr Go.IntKind.u32 t.1))),(Go.Eng.T.v (Go.Value.int Go.IntKind.u32 (Go.Eng.wr Go.IntKind.u32 (Go.Eng.shrI Go.IntKind.u64 t.1 x0))))],())) fun x1=>(some (x1.1,()))))
theorem le_natural_Of(n:Nat)(t:(Int×Unit)):Le (v_natural_Of n t) (u_natural_Of t):=by
 unfold v_natural_Of u_natural_Of
 repeat' with_reducible first | exact le_rfl | refine le_cond ?_ ?_ | refine le_onS (fun _=>?_) fun _=>?_ | refine le_ob ?_ fun _=>?_ | refine le_both ?_ ?_ | exact le_natural_trim n _
noncomputable def v_natural_raise(n:Nat)(t:((List T)×Int×Unit)):Option ((List T)×Unit):=
 (ob (Go.Eng.mkLen (Go.Eng.wr Go.IntKind.i64 (Go.Eng.addI (Go.Eng.lenL t.1) (1:Int))) (Go.Eng.wr Go.IntKind.i64 (Go.Eng.addI (Go.Eng.lenL t.1) (1:Int))) 4) fun x0=>(ob (iter u_natural_raise_l0 n (t.1,t.2.1,(Go.Eng.repL x0.1 (Go.Eng.T.v (Go.Value.int Go.IntKind.u32 (0:Int)))),(0:Int),t.1,(Go.Eng.lenL t.1),(0:Int),())) fun q8=>onS q8 (fun t9=>(ob (Go.Eng.chkI (Go.Eng.lenL t9.2.1) (Go.Eng.lenL t9.1)) fun x10=>(ob (Go.Eng.idxN t9.2.1 x10) fun x11=>(some ((List.set t9.2.1 x10 (Go.Eng.T.upd 1 x11 0 [(Go.Eng.T.v (Go.Value.int Go.IntKind.u32 (Go.Eng.wr Go.IntKind.u32 t9.2.2.1)))])),()))))) fun q12=>noS q12))
theorem le_natural_raise(n:Nat)(t:((List T)×Int×Unit)):Le (v_natural_raise n t) (u_natural_raise t):=by
 unfold v_natural_raise u_natural_raise
 repeat' with_reducible first | exact le_rfl | refine le_cond ?_ ?_ | refine le_onS (fun _=>?_) fun _=>?_ | refine le_ob ?_ fun _=>?_ | refine le_both ?_ ?_ | exact le_lpr _ _
noncomputable def v_slices_Clone___uint32_uint32_(n:Nat)(t:((List T)×Unit)):Option ((List T)×Unit):=
 (bif (Go.Eng.nilL t.1) then (bothV (some ([],())) (ob (Go.Eng.room [] t.1 4) fun x0=>(some (x0,())))) else (ob (Go.Eng.room [] t.1 4) fun x1=>(some (x1,()))))
theorem le_slices_Clone___uint32_uint32_(n:Nat)(t:((List T)×Unit)):Le (v_slices_Clone___uint32_uint32_ n t) (u_slices_Clone___uint32_uint32_ t):=by
 unfold v_slices_Clone___uint32_uint32_ u_slices_Clone___uint32_uint32_
 repeat' with_reducible first | exact le_rfl | refine le_cond ?_ ?_ | refine le_onS (fun _=>?_) fun _=>?_ | refine le_ob ?_ fun _=>?_ | refine le_both ?_ ?_
noncomputable def v_slices_Clone___uint32_uint32__r(n:Nat)(t:((List T)×Unit)):Option ((List T)×Unit):=
 (bif (Go.Eng.nilL t.1) then (bothV (some ([],())) (ob (Go.Eng.room [] t.1 4) fun x0=>(some (x0,())))) else (ob (Go.Eng.room [] t.1 4) fun x1=>(some (x1,()))))
theorem le_slices_Clone___uint32_uint32__r(n:Nat)(t:((List T)×Unit)):Le (v_slices_Clone___uint32_uint32__r n t) (u_slices_Clone___uint32_uint32__r t):=by
 unfold v_slices_Clone___uint32_uint32__r u_slices_Clone___uint32_uint32__r
 repeat' with_reducible first | exact le_rfl | refine le_cond ?_ ?_ | refine le_onS (fun _=>?_) fun _=>?_ | refine le_ob ?_ fun _=>?_ | refine le_both ?_ ?_
noncomputable def v_natural_small(n:Nat)(t:((List T)×Int×Unit)):Option ((List T)×Int×Unit):=
 (ob (Go.Eng.mkLen (Go.Eng.lenL t.1) (Go.Eng.lenL t.1) 4) fun x0=>(ob (iter u_natural_small_l0 n (t.1,t.2.1,(Go.Eng.repL x0.1 (Go.Eng.T.v (Go.Value.int Go.IntKind.u32 (0:Int)))),(0:Int),(Go.Eng.wr Go.IntKind.i64 (Go.Eng.subI (Go.Eng.lenL t.1) (1:Int))),())) fun q9=>onS q9 (fun t10=>(ob (Go.Eng.v_natural_trim n (t10.1,())) fun x11=>(some (x11.1,(Go.Eng.wr Go.IntKind.u32 t10.2.1),())))) fun q12=>noS q12))
theorem le_natural_small(n:Nat)(t:((List T)×Int×Unit)):Le (v_natural_small n t) (u_natural_small t):=by
 unfold v_natural_small u_natural_small
 repeat' with_reducible first | exact le_rfl | refine le_cond ?_ ?_ | refine le_onS (fun _=>?_) fun _=>?_ | refine le_ob ?_ fun _=>?_ | refine le_both ?_ ?_ | exact le_natural_trim n _ | exact le_lpr _ _
noncomputable def v_natural_Mul_l0(n:Nat)(s1:(List T×List T×List T×Int×Int×Unit)):Option ((List T×List T×List T×Int×Int×Unit)⊕((List T×Unit)⊕Empty)):=
 (bif (Go.Eng.ltI s1.2.2.2.2.1 s1.2.2.2.1) then (ob (α:=((List T×List T×List T×Int×Int×Unit)⊕Empty)) (ob (Go.Eng.idxL s1.2.2.1 s1.2.2.2.2.1) fun x2=>(ob (Go.Eng.T.int? Go.IntKind.u32 (Go.Eng.T.cell x2 0)) fun x3=>(bif (Go.Eng.eqI x3 (0:Int)) then (some (Sum.inl (s1.1,s1.2.1,s1.2.2.1,s1.2.2.2.1,s1.2.2.2.2.1,()))) else (ob (iter u_natural_Mul_l1 n (s1.1,s1.2.1,s1.2.2.2.2.1,(Go.Eng.T.cell x2 0),(0:Int),s1.2.2.1,s1.2.2.2.1,s1.2.2.2.2.1,s1.1,(Go.Eng.lenL s1.1),(0:Int),())) fun q14=>onS q14 (fun t15=>(ob (Go.Eng.chkI (Go.Eng.lenL t15.2.1) (Go.Eng.wr Go.IntKind.i64 (Go.Eng.addI t15.2.2.1 (Go.Eng.lenL t15.1)))) fun x16=>(ob (Go.Eng.idxN t15.2.1 x16) fun x17=>(some (Sum.inl (t15.1,(List.set t15.2.1 x16 (Go.Eng.T.upd 1 x17 0 [(Go.Eng.T.v (Go.Value.int Go.IntKind.u32 (Go.Eng.wr Go.IntKind.u32 t15.2.2.2.1)))])),t15.2.2.2.2.1,t15.2.2.2.2.2.1,t15.2.2.2.2.2.2.1,())))))) fun q18=>noS q18)))) fun q19=>onS q19 (fun t20=>(some (Sum.inl (t20.1,t20.2.1,t20.2.2.1,t20.2.2.2.1,(Go.Eng.wr Go.IntKind.i64 (Go.Eng.addI t20.2.2.2.2.1 (1:Int))),())))) fun q21=>noS q21) else (some (Sum.inr (Sum.inl (s1.2.1,())))))
theorem le_natural_Mul_l0(n:Nat)(s1:(List T×List T×List T×Int×Int×Unit)):Le (v_natural_Mul_l0 n s1) (u_natural_Mul_l0 s1):=by
 unfold v_natural_Mul_l0 u_natural_Mul_l0
 repeat' with_reducible first | exact le_rfl | refine le_cond ?_ ?_ | refine le_onS (fun _=>?_) fun _=>?_ | refine le_ob ?_ fun _=>?_ | refine le_both ?_ ?_ | exact le_lpr _ _
noncomputable def v_natural_Mul(n:Nat)(t:((List T)×(List T)×Unit)):Option ((List T)×Unit):=
 (ob (Go.Eng.mkLen (Go.Eng.wr Go.IntKind.i64 (Go.Eng.addI (Go.Eng.lenL t.1) (Go.Eng.lenL t.2.1))) (Go.Eng.wr Go.IntKind.i64 (Go.Eng.addI (Go.Eng.lenL t.1) (Go.Eng.lenL t.2.1))) 4) fun x0=>(ob (iter (v_natural_Mul_l0 n) n (t.2.1,(Go.Eng.repL x0.1 (Go.Eng.T.v (Go.Value.int Go.IntKind.u32 (0:Int)))),t.1,(Go.Eng.lenL t.1),(0:Int),())) fun q22=>onS q22 (fun t23=>(ob (Go.Eng.v_natural_trim n (t23.1,())) fun x24=>(some (x24.1,())))) fun q25=>noS q25))
theorem le_natural_Mul(n:Nat)(t:((List T)×(List T)×Unit)):Le (v_natural_Mul n t) (u_natural_Mul t):=by
 unfold v_natural_Mul u_natural_Mul
 repeat' with_reducible first | exact le_rfl | refine le_cond ?_ ?_ | refine le_onS (fun _=>?_) fun _=>?_ | refine le_ob ?_ fun _=>?_ | refine le_both ?_ ?_ | exact le_natural_trim n _ | exact le_loop (le_natural_Mul_l0 n) _ _
noncomputable def v_natural_Div_l0(n:Nat)(s15:(List T×Int×List T×List T×Int×Int×Unit)):Option ((List T×Int×List T×List T×Int×Int×Unit)⊕((List T×Int×List T×Unit)⊕Empty)):=
 (bif (Go.Eng.leI (0:Int) s15.2.2.2.2.2.1) then (ob (Go.Eng.idxL s15.2.2.1 (Go.Eng.wr Go.IntKind.i64 (Go.Eng.addI s15.2.2.2.2.2.1 s15.2.2.2.2.1))) fun x16=>(ob (Go.Eng.T.anyInt? (Go.Eng.T.cell x16 0)) fun x17=>(ob (Go.Eng.nn (32:Int)) fun x18=>(ob (Go.Eng.idxL s15.2.2.1 (Go.Eng.wr Go.IntKind.i64 (Go.Eng.subI (Go.Eng.wr Go.IntKind.i64 (Go.Eng.addI s15.2.2.2.2.2.1 s15.2.2.2.2.1)) (1:Int)))) fun x19=>(ob (Go.Eng.T.anyInt? (Go.Eng.T.cell x19 0)) fun x20=>(ob (Go.Eng.idxL s15.2.2.2.1 (Go.Eng.wr Go.IntKind.i64 (Go.Eng.subI s15.2.2.2.2.1 (1:Int)))) fun x21=>(ob (Go.Eng.T.anyInt? (Go.Eng.T.cell x21 0)) fun x22=>(ob (Go.Eng.nz (Go.Eng.wr Go.IntKind.u64 x22)) fun x23=>(ob (Go.Eng.idxL s15.2.2.2.1 (Go.Eng.wr Go.IntKind.i64 (Go.Eng.subI s15.2.2.2.2.1 (1:Int)))) fun x24=>(ob (Go.Eng.T.anyInt? (Go.Eng.T.cell x24 0)) fun x25=>(ob (Go.Eng.nz (Go.Eng.wr Go.IntKind.u64 x25)) fun x26=>(ob (iter u_natural_Div_l1 n (s15.1,s15.2.1,s15.2.2.1,s15.2.2.2.1,s15.2.2.2.2.1,s15.2.2.2.2.2.1,(Go.Eng.wr Go.IntKind.u64 (Go.Eng.divI (Go.Eng.bitI Go.BinOp.or Go.IntKind.u64 (Go.Eng.wr Go.IntKind.u64 (Go.Eng.shlI Go.IntKind.u64 (Go.Eng.wr Go.IntKind.u64 x17) x18)) (Go.Eng.wr Go.IntKind.u64 x20)) x23)),(Go.Eng.modI (Go.Eng.bitI Go.BinOp.or Go.IntKind.u64 (Go.Eng.wr Go.IntKind.u64 (Go.Eng.shlI Go.IntKind.u64 (Go.Eng.wr Go.IntKind.u64 x17) x18)) (Go.Eng.wr Go.IntKind.u64 x20)) x26),())) fun q37=>onS q37 (fun t38=>(ob (iter u_natural_Div_l2 n (t38.1,t38.2.1,t38.2.2.1,t38.2.2.2.1,t38.2.2.2.2.1,t38.2.2.2.2.2.1,t38.2.2.2.2.2.2.1,(0:Int),(0:Int),t38.2.2.2.1,(Go.Eng.lenL t38.2.2.2.1),(0:Int),())) fun q45=>onS q45 (fun t46=>(ob (Go.Eng.idxL t46.2.2.1 (Go.Eng.wr Go.IntKind.i64 (Go.Eng.addI t46.2.2.2.2.2.1 t46.2.2.2.2.1))) fun x47=>(ob (Go.Eng.T.anyInt? (Go.Eng.T.cell x47 0)) fun x48=>(ob (Go.Eng.idxL t46.2.2.1 (Go.Eng.wr Go.IntKind.i64 (Go.Eng.addI t46.2.2.2.2.2.1 t46.2.2.2.2.1))) fun x49=>none)))) fun q50=>noS q50)) fun q51=>noS q51)))))))))))) else (some (Sum.inr (Sum.inl (s15.1,s15.2.1,s15.2.2.1,())))))
theorem le_natural_Div_l0(n:Nat)(s15:(List T×Int×List T×List T×Int×Int×Unit)):Le (v_natural_Div_l0 n s15) (u_natural_Div_l0 s15):=by
 unfold v_natural_Div_l0 u_natural_Div_l0
 repeat' with_reducible first | exact le_rfl | refine le_cond ?_ ?_ | refine le_onS (fun _=>?_) fun _=>?_ | refine le_ob ?_ fun _=>?_ | refine le_both ?_ ?_ | exact le_lpr _ _ | exact le_lpr _ _
noncomputable def v_natural_Div(n:Nat)(t:((List T)×(List T)×Unit)):Option ((List T)×(List T)×Int×Unit):=
 (ob (Go.Eng.v_natural_trim n (t.1,())) fun x0=>(ob (Go.Eng.v_natural_trim n (t.2.1,())) fun x1=>(bif (Go.Eng.eqI (Go.Eng.lenL x1.1) (0:Int)) then (some ([],[],(3:Int),())) else (ob (Go.Eng.v_natural_Cmp n (x0.1,x1.1,())) fun x2=>(bif (Go.Eng.ltI x2.1 (0:Int)) then (ob (Go.Eng.v_slices_Clone___uint32_uint32_ n (x0.1,())) fun x3=>(some ([],x3.1,(0:Int),()))) else (bif (Go.Eng.eqI (Go.Eng.lenL x1.1) (1:Int)) then (ob (Go.Eng.idxL x1.1 (0:Int)) fun x4=>(ob (Go.Eng.T.int? Go.IntKind.u32 (Go.Eng.T.cell x4 0)) fun x5=>(ob (Go.Eng.v_natural_small n (x0.1,x5,())) fun x6=>(ob (Go.Eng.v_natural_trim n ([(Go.Eng.T.v (Go.Value.int Go.IntKind.u32 x6.2.1))],())) fun x7=>(some (x6.1,x7.1,(0:Int),())))))) else (ob (Go.Eng.idxL x1.1 (Go.Eng.wr Go.IntKind.i64 (Go.Eng.subI (Go.Eng.lenL x1.1) (1:Int)))) fun x8=>(ob (Go.Eng.T.int? Go.IntKind.u32 (Go.Eng.T.cell x8 0)) fun x9=>(ob (Go.Eng.u_math_bits_LeadingZeros32 (x9,())) fun x10=>(ob (Go.Eng.v_natural_raise n (x0.1,x10.1,())) fun x11=>(ob (Go.Eng.v_natural_raise n (x1.1,x10.1,())) fun x12=>(ob (Go.Eng.v_natural_trim n (x12.1,())) fun x13=>(ob (Go.Eng.mkLen (Go.Eng.wr Go.IntKind.i64 (Go.Eng.subI (Go.Eng.lenL x11.1) (Go.Eng.lenL x13.1))) (Go.Eng.wr Go.IntKind.i64 (Go.Eng.subI (Go.Eng.lenL x11.1) (Go.Eng.lenL x13.1))) 4) fun x14=>(ob (iter (v_natural_Div_l0 n) n ((Go.Eng.repL x14.1 (Go.Eng.T.v (Go.Value.int Go.IntKind.u32 (0:Int)))),x10.1,x11.1,x13.1,(Go.Eng.lenL x13.1),(Go.Eng.wr Go.IntKind.i64 (Go.Eng.subI (Go.Eng.lenL (Go.Eng.repL x14.1 (Go.Eng.T.v (Go.Value.int Go.IntKind.u32 (0:Int))))) (1:Int))),())) fun q52=>onS q52 (fun t53=>(ob (Go.Eng.v_natural_trim n (t53.2.2.1,())) fun x54=>(ob (iter u_natural_Div_l5 n (t53.1,x54.1,t53.2.1,(Go.Eng.lenL x54.1),(0:Int),())) fun q61=>onS q61 (fun t62=>(ob (Go.Eng.v_natural_trim n (t62.1,())) fun x63=>(ob (Go.Eng.v_natural_trim n (t62.2.1,())) fun x64=>(some (x63.1,x64.1,(0:Int),()))))) fun q65=>noS q65))) fun q66=>noS q66))))))))))))))
theorem le_natural_Div(n:Nat)(t:((List T)×(List T)×Unit)):Le (v_natural_Div n t) (u_natural_Div t):=by
 unfold v_natural_Div u_natural_Div
 repeat' with_reducible first | exact le_rfl | refine le_cond ?_ ?_ | refine le_onS (fun _=>?_) fun _=>?_ | refine le_ob ?_ fun _=>?_ | refine le_both ?_ ?_ | exact le_natural_trim n _ | exact le_natural_Cmp n _ | exact le_slices_Clone___uint32_uint32_ n _ | exact le_natural_small n _ | exact le_natural_raise n _ | exact le_loop (le_natural_Div_l0 n) _ _ | exact le_lpr _ _
noncomputable def v_natural_Shift(n:Nat)(t:((List T)×Int×Unit)):Option ((List T)×Int×Unit):=
 (ob (Go.Eng.v_natural_trim n (t.1,())) fun x0=>(bif (Go.Eng.ltI (16384:Int) t.2.1) then (some ([],(2:Int),())) else (bif (Go.Eng.leI (0:Int) t.2.1) then (ob (Go.Eng.mkLen (Go.Eng.wr Go.IntKind.i64 (Go.Eng.divI t.2.1 (32:Int))) (Go.Eng.wr Go.IntKind.i64 (Go.Eng.divI t.2.1 (32:Int))) 4) fun x1=>(ob (Go.Eng.v_natural_raise n (x0.1,(Go.Eng.modI t.2.1 (32:Int)),())) fun x2=>(ob (Go.Eng.room (Go.Eng.repL x1.1 (Go.Eng.T.v (Go.Value.int Go.IntKind.u32 (0:Int)))) x2.1 4) fun x3=>(ob (Go.Eng.v_natural_trim n (x3,())) fun x4=>(some (x4.1,(0:Int),())))))) else (bif (Go.Eng.leI t.2.1 (Go.Eng.wr Go.IntKind.i64 (Go.Eng.mulI (-32:Int) (Go.Eng.lenL x0.1)))) then (some ([],(0:Int),())) else (ob (Go.Eng.cutL x0.1 (Go.Eng.wr Go.IntKind.i64 (Go.Eng.divI (Go.Eng.wr Go.IntKind.i64 (Go.Eng.subI (0:Int) t.2.1)) (32:Int))) (Go.Eng.lenL x0.1)) fun x5=>(ob (Go.Eng.v_slices_Clone___uint32_uint32__r n (x5,())) fun x6=>(ob (iter u_natural_Shift_l0 n (x6.1,(Go.Eng.modI (Go.Eng.wr Go.IntKind.i64 (Go.Eng.subI (0:Int) t.2.1)) (32:Int)),(Go.Eng.lenL x6.1),(0:Int),())) fun q26=>onS q26 (fun t27=>(ob (Go.Eng.v_natural_trim n (t27.1,())) fun x28=>(some (x28.1,(0:Int),())))) fun q29=>noS q29)))))))
theorem le_natural_Shift(n:Nat)(t:((List T)×Int×Unit)):Le (v_natural_Shift n t) (u_natural_Shift t):=by
 unfold v_natural_Shift u_natural_Shift
 repeat' with_reducible first | exact le_rfl | refine le_cond ?_ ?_ | refine le_onS (fun _=>?_) fun _=>?_ | refine le_ob ?_ fun _=>?_ | refine le_both ?_ ?_ | exact le_natural_trim n _ | exact le_natural_raise n _ | exact le_slices_Clone___uint32_uint32__r n _ | exact le_lpr _ _
noncomputable def v_slices_Reverse___byte_byte_(n:Nat)(t:((List T)×Unit)):Option ((List T)×Unit):=
 (ob (iter u_slices_Reverse___byte_byte__l0 n (t.1,(0:Int),(Go.Eng.wr Go.IntKind.i64 (Go.Eng.subI (Go.Eng.lenL t.1) (1:Int))),())) fun q11=>onS q11 (fun t12=>(some (t12.1,()))) fun q13=>noS q13)
theorem le_slices_Reverse___byte_byte_(n:Nat)(t:((List T)×Unit)):Le (v_slices_Reverse___byte_byte_ n t) (u_slices_Reverse___byte_byte_ t):=by
 unfold v_slices_Reverse___byte_byte_ u_slices_Reverse___byte_byte_
 repeat' with_reducible first | exact le_rfl | refine le_cond ?_ ?_ | refine le_onS (fun _=>?_) fun _=>?_ | refine le_ob ?_ fun _=>?_ | refine le_both ?_ ?_ | exact le_lpr _ _
noncomputable def v_natural_Text_l0(n:Nat)(s1:(List T×List T×Unit)):Option ((List T×List T×Unit)⊕((List T×Unit)⊕Empty)):=
 (bif (Go.Eng.ltI (0:Int) (Go.Eng.lenL s1.1)) then (ob (Go.Eng.v_natural_small n (s1.1,(1000000000:Int),())) fun x2=>(ob (iter u_natural_Text_l1 n (x2.1,s1.2.1,x2.2.1,(0:Int),())) fun q6=>onS q6 (fun t7=>(some (Sum.inl (t7.1,t7.2.1,())))) fun q8=>noS q8)) else (some (Sum.inr (Sum.inl (s1.2.1,())))))
theorem le_natural_Text_l0(n:Nat)(s1:(List T×List T×Unit)):Le (v_natural_Text_l0 n s1) (u_natural_Text_l0 s1):=by
 unfold v_natural_Text_l0 u_natural_Text_l0
 repeat' with_reducible first | exact le_rfl | refine le_cond ?_ ?_ | refine le_onS (fun _=>?_) fun _=>?_ | refine le_ob ?_ fun _=>?_ | refine le_both ?_ ?_ | exact le_natural_small n _ | exact le_lpr _ _
noncomputable def v_natural_Text(n:Nat)(t:((List T)×Unit)):Option (ByteArray×Unit):=
 (ob (Go.Eng.v_natural_trim n (t.1,())) fun x0=>(bif (Go.Eng.eqI (Go.Eng.lenL x0.1) (0:Int)) then (some ((ByteArray.mk #[48]),())) else (ob (iter (v_natural_Text_l0 n) n (x0.1,[],())) fun q9=>onS q9 (fun t10=>(ob (Go.Eng.v_slices_Reverse___byte_byte_ n (t10.1,())) fun x11=>(ob (Go.Eng.strOf x11.1) fun x12=>(some (x12,()))))) fun q13=>noS q13)))
theorem le_natural_Text(n:Nat)(t:((List T)×Unit)):Le (v_natural_Text n t) (u_natural_Text t):=by
 unfold v_natural_Text u_natural_Text
 repeat' with_reducible first | exact le_rfl | refine le_cond ?_ ?_ | refine le_onS (fun _=>?_) fun _=>?_ | refine le_ob ?_ fun _=>?_ | refine le_both ?_ ?_ | exact le_natural_trim n _ | exact le_slices_Reverse___byte_byte_ n _ | exact le_loop (le_natural_Text_l0 n) _ _
noncomputable def v_entity_power_l0(n:Nat)(s2:(Int×List T×List T×Unit)):Option ((Int×List T×List T×Unit)⊕((List T×Unit)⊕Empty)):=
 (bif (Go.Eng.ltI (0:Int) s2.1) then (ob (α:=((Int×List T×List T×Unit)⊕Empty)) (ob (α:=((Int×List T×List T×Unit)⊕Empty)) (bif (Go.Eng.eqI (Go.Eng.modI s2.1 (2:Int)) (1:Int)) then (ob (Go.Eng.v_natural_Mul n (s2.2.1,s2.2.2.1,())) fun x3=>(some (Sum.inl (s2.1,x3.1,s2.2.2.1,())))) else (some (Sum.inl (s2.1,s2.2.1,s2.2.2.1,())))) fun q4=>onS q4 (fun t5=>(bif (Go.Eng.ltI (1:Int) t5.1) then (ob (Go.Eng.v_natural_Mul n (t5.2.2.1,t5.2.2.1,())) fun x6=>(some (Sum.inl (t5.1,t5.2.1,x6.1,())))) else (some (Sum.inl (t5.1,t5.2.1,t5.2.2.1,()))))) fun q7=>noS q7) fun q8=>onS q8 (fun t9=>(some (Sum.inl ((Go.Eng.wr Go.IntKind.i64 (Go.Eng.divI t9.1 (2:Int))),t9.2.1,t9.2.2.1,())))) fun q10=>noS q10) else (some (Sum.inr (Sum.inl (s2.2.1,())))))
theorem le_entity_power_l0(n:Nat)(s2:(Int×List T×List T×Unit)):Le (v_entity_power_l0 n s2) (u_entity_power_l0 s2):=by
 unfold v_entity_power_l0 u_entity_power_l0
 repeat' with_reducible first | exact le_rfl | refine le_cond ?_ ?_ | refine le_onS (fun _=>?_) fun _=>?_ | refine le_ob ?_ fun _=>?_ | refine le_both ?_ ?_ | exact le_natural_Mul n _
noncomputable def v_entity_power(n:Nat)(t:(Int×Unit)):Option ((List T)×Unit):=
 (ob (Go.Eng.v_natural_Of n ((1:Int),())) fun x0=>(ob (Go.Eng.v_natural_Of n ((10:Int),())) fun x1=>(ob (iter (v_entity_power_l0 n) n (t.1,x0.1,x1.1,())) fun q11=>onS q11 (fun t12=>(some (t12.1,()))) fun q13=>noS q13)))
theorem le_entity_power(n:Nat)(t:(Int×Unit)):Le (v_entity_power n t) (u_entity_power t):=by
 unfold v_entity_power u_entity_power
 repeat' with_reducible first | exact le_rfl | refine le_cond ?_ ?_ | refine le_onS (fun _=>?_) fun _=>?_ | refine le_ob ?_ fun _=>?_ | refine le_both ?_ ?_ | exact le_natural_Of n _ | exact le_loop (le_entity_power_l0 n) _ _
noncomputable def v_entity_factors_l0(n:Nat)(s0:(List T×Int×Unit)):Option ((List T×Int×Unit)⊕((Int×List T×Unit)⊕Empty)):=
 (ob (Go.Eng.v_natural_Of n ((5:Int),())) fun x1=>(ob (Go.Eng.v_natural_Div n (s0.1,x1.1,())) fun x2=>(bif (Bool.not (Go.Eng.eqI x2.2.2.1 (0:Int))) then (some (Sum.inr (Sum.inl (s0.2.1,s0.1,())))) else (bif (Go.Eng.ltI (0:Int) (Go.Eng.lenL x2.2.1)) then (some (Sum.inr (Sum.inl (s0.2.1,s0.1,())))) else (bif (Go.Eng.eqI (Go.Eng.lenL s0.1) (0:Int)) then (some (Sum.inr (Sum.inl (s0.2.1,s0.1,())))) else (some (Sum.inl (x2.1,(Go.Eng.wr Go.IntKind.i64 (Go.Eng.addI s0.2.1 (1:Int))),()))))))))
theorem le_entity_factors_l0(n:Nat)(s0:(List T×Int×Unit)):Le (v_entity_factors_l0 n s0) (u_entity_factors_l0 s0):=by
 unfold v_entity_factors_l0 u_entity_factors_l0
 repeat' with_reducible first | exact le_rfl | refine le_cond ?_ ?_ | refine le_onS (fun _=>?_) fun _=>?_ | refine le_ob ?_ fun _=>?_ | refine le_both ?_ ?_ | exact le_natural_Of n _ | exact le_natural_Div n _
noncomputable def v_entity_factors(n:Nat)(t:((List T)×Unit)):Option (Int×(List T)×Unit):=
 (ob (iter (v_entity_factors_l0 n) n (t.1,(0:Int),())) fun q3=>onS q3 (fun t4=>(some (t4.1,t4.2.1,()))) fun q5=>noS q5)
theorem le_entity_factors(n:Nat)(t:((List T)×Unit)):Le (v_entity_factors n t) (u_entity_factors t):=by
 unfold v_entity_factors u_entity_factors
 repeat' with_reducible first | exact le_rfl | refine le_cond ?_ ?_ | refine le_onS (fun _=>?_) fun _=>?_ | refine le_ob ?_ fun _=>?_ | refine le_both ?_ ?_ | exact le_loop (le_entity_factors_l0 n) _ _
noncomputable def v_entity_Decimal_l0(n:Nat)(s0:(Unit×List T×Int×List T×Bool×List T×List T×Unit)):Option ((Unit×List T×Int×List T×Bool×List T×List T×Unit)⊕((Unit×List T×Int×Bool×List T×List T×Unit)⊕Empty)):=
 (bif (Go.Eng.ltI (0:Int) (Go.Eng.lenL s0.2.2.2.1)) then (ob (Go.Eng.idxL s0.2.2.2.1 (0:Int)) fun x1=>(ob (Go.Eng.T.int? Go.IntKind.u32 (Go.Eng.T.cell x1 0)) fun x2=>(bif (Go.Eng.eqI (Go.Eng.bitI Go.BinOp.and Go.IntKind.u32 x2 (1:Int)) (0:Int)) then (ob (Go.Eng.v_natural_Shift n (s0.2.2.2.1,(-1:Int),())) fun x3=>(some (Sum.inl ((),s0.2.1,(Go.Eng.wr Go.IntKind.i64 (Go.Eng.addI s0.2.2.1 (1:Int))),x3.1,s0.2.2.2.2.1,s0.2.2.2.2.2.1,s0.2.2.2.2.2.2.1,())))) else (some (Sum.inr (Sum.inl ((),s0.2.1,s0.2.2.1,s0.2.2.2.2.1,s0.2.2.2.2.2.1,s0.2.2.2.2.2.2.1,()))))))) else (some (Sum.inr (Sum.inl ((),s0.2.1,s0.2.2.1,s0.2.2.2.2.1,s0.2.2.2.2.2.1,s0.2.2.2.2.2.2.1,())))))
theorem le_entity_Decimal_l0(n:Nat)(s0:(Unit×List T×Int×List T×Bool×List T×List T×Unit)):Le (v_entity_Decimal_l0 n s0) (u_entity_Decimal_l0 s0):=by
 unfold v_entity_Decimal_l0 u_entity_Decimal_l0
 repeat' with_reducible first | exact le_rfl | refine le_cond ?_ ?_ | refine le_onS (fun _=>?_) fun _=>?_ | refine le_ob ?_ fun _=>?_ | refine le_both ?_ ?_ | exact le_natural_Shift n _
noncomputable def v_entity_Decimal(n:Nat)(t:(Bool×(List T)×(List T)×Unit)):Option (ByteArray×Bool×Unit):=
 (ob (α:=((ByteArray×Bool×Unit)⊕((Unit×Int×List T×Bool×List T×List T×Unit)⊕Empty))) (bif (Go.Eng.ltI (0:Int) (Go.Eng.lenL t.2.2.1)) then (ob (iter (v_entity_Decimal_l0 n) n ((),t.2.1,(0:Int),t.2.2.1,t.1,t.2.1,t.2.2.1,())) fun q4=>onS q4 (fun t5=>(ob (Go.Eng.v_natural_Shift n (t5.2.2.2.2.2.1,(Go.Eng.wr Go.IntKind.i64 (Go.Eng.subI (0:Int) t5.2.2.1)),())) fun x6=>(ob (Go.Eng.v_entity_factors n (x6.1,())) fun x7=>(ob (Go.Eng.v_natural_Of n ((1:Int),())) fun x8=>(ob (Go.Eng.v_natural_Cmp n (x7.2.1,x8.1,())) fun x9=>(bif (Bool.not (Go.Eng.eqI x9.1 (0:Int))) then (some (Sum.inl ((ByteArray.mk #[]),Bool.false,()))) else (ob (Go.Eng.v_entity_power n ((Go.Eng.mmI Bool.true t5.2.2.1 x7.1),())) fun x10=>(ob (Go.Eng.v_natural_Mul n (t5.2.1,x10.1,())) fun x11=>(ob (Go.Eng.v_natural_Div n (x11.1,t5.2.2.2.2.2.1,())) fun x12=>(some (Sum.inr (Sum.inl ((),(Go.Eng.mmI Bool.true t5.2.2.1 x7.1),x12.1,t5.2.2.2.1,t5.2.2.2.2.1,t5.2.2.2.2.2.1,()))))))))))))) fun q13=>noS q13) else (some (Sum.inr (Sum.inl ((),(0:Int),t.2.1,t.1,t.2.1,t.2.2.1,()))))) fun q14=>onS q14 (fun t15=>(some (t15.1,t15.2.1,()))) fun q16=>onS q16 (fun t17=>(ob (Go.Eng.v_natural_Text n (t17.2.2.1,())) fun x18=>(ob (α:=((Unit×Int×ByteArray×Bool×List T×List T×Unit)⊕Empty)) (bif (Go.Eng.leI (Go.Eng.lenS x18.1) t17.2.1) then (ob (Go.Eng.u_strings_Repeat ((ByteArray.mk #[48]),(Go.Eng.wr Go.IntKind.i64 (Go.Eng.subI (Go.Eng.wr Go.IntKind.i64 (Go.Eng.addI t17.2.1 (1:Int))) (Go.Eng.lenS x18.1))),())) fun x19=>(ob (Go.Eng.catS x19.1 x18.1) fun x20=>(some (Sum.inl ((),t17.2.1,x20,t17.2.2.2.1,t17.2.2.2.2.1,t17.2.2.2.2.2.1,()))))) else (some (Sum.inl ((),t17.2.1,x18.1,t17.2.2.2.1,t17.2.2.2.2.1,t17.2.2.2.2.2.1,())))) fun q21=>onS q21 (fun t22=>(ob (Go.Eng.subS t22.2.2.1 (0:Int) (Go.Eng.wr Go.IntKind.i64 (Go.Eng.subI (Go.Eng.lenS t22.2.2.1) t22.2.1))) fun x23=>(ob (Go.Eng.catS x23 (ByteArray.mk #[46])) fun x24=>(ob (Go.Eng.subS t22.2.2.1 (Go.Eng.wr Go.IntKind.i64 (Go.Eng.subI (Go.Eng.lenS t22.2.2.1) t22.2.1)) (Go.Eng.lenS t22.2.2.1)) fun x25=>(ob (Go.Eng.catS x24 x25) fun x26=>(ob (α:=((ByteArray×Unit)⊕Empty)) (bif t22.2.2.2.1 then (ob (Go.Eng.catS (ByteArray.mk #[45]) x26) fun x27=>(some (Sum.inl (x27,())))) else (some (Sum.inl (x26,())))) fun q28=>onS q28 (fun t29=>(some (t29.1,Bool.true,()))) fun q30=>noS q30)))))) fun q31=>noS q31))) fun q32=>noS q32)
theorem le_entity_Decimal(n:Nat)(t:(Bool×(List T)×(List T)×Unit)):Le (v_entity_Decimal n t) (u_entity_Decimal t):=by
 unfold v_entity_Decimal u_entity_Decimal
 repeat' with_reducible first | exact le_rfl | refine le_cond ?_ ?_ | refine le_onS (fun _=>?_) fun _=>?_ | refine le_ob ?_ fun _=>?_ | refine le_both ?_ ?_ | exact le_natural_Shift n _ | exact le_entity_factors n _ | exact le_natural_Of n _ | exact le_natural_Cmp n _ | exact le_entity_power n _ | exact le_natural_Mul n _ | exact le_natural_Div n _ | exact le_natural_Text n _ | exact le_loop (le_entity_Decimal_l0 n) _ _
noncomputable def v_slices_Index___int_int_(n:Nat)(t:((List T)×Int×Unit)):Option (Int×Unit):=
 (ob (iter u_slices_Index___int_int__l0 n (t.1,t.2.1,(Go.Eng.lenL t.1),(0:Int),())) fun q3=>onS q3 (fun t4=>(some (t4.1,()))) fun q5=>onS q5 (fun t6=>(some ((-1:Int),()))) fun q7=>noS q7)
theorem le_slices_Index___int_int_(n:Nat)(t:((List T)×Int×Unit)):Le (v_slices_Index___int_int_ n t) (u_slices_Index___int_int_ t):=by
 unfold v_slices_Index___int_int_ u_slices_Index___int_int_
 repeat' with_reducible first | exact le_rfl | refine le_cond ?_ ?_ | refine le_onS (fun _=>?_) fun _=>?_ | refine le_ob ?_ fun _=>?_ | refine le_both ?_ ?_ | exact le_lpr _ _
noncomputable def v_slices_Contains___int_int_(n:Nat)(t:((List T)×Int×Unit)):Option (Bool×Unit):=
 (ob (Go.Eng.v_slices_Index___int_int_ n (t.1,t.2.1,())) fun x0=>(some ((Go.Eng.leI (0:Int) x0.1),())))
theorem le_slices_Contains___int_int_(n:Nat)(t:((List T)×Int×Unit)):Le (v_slices_Contains___int_int_ n t) (u_slices_Contains___int_int_ t):=by
 unfold v_slices_Contains___int_int_ u_slices_Contains___int_int_
 repeat' with_reducible first | exact le_rfl | refine le_cond ?_ ?_ | refine le_onS (fun _=>?_) fun _=>?_ | refine le_ob ?_ fun _=>?_ | refine le_both ?_ ?_ | exact le_slices_Index___int_int_ n _
noncomputable def v_slices_Index___string_string_(n:Nat)(t:((List T)×ByteArray×Unit)):Option (Int×Unit):=
 (ob (iter u_slices_Index___string_string__l0 n (t.1,t.2.1,(Go.Eng.lenL t.1),(0:Int),())) fun q3=>onS q3 (fun t4=>(some (t4.1,()))) fun q5=>onS q5 (fun t6=>(some ((-1:Int),()))) fun q7=>noS q7)
theorem le_slices_Index___string_string_(n:Nat)(t:((List T)×ByteArray×Unit)):Le (v_slices_Index___string_string_ n t) (u_slices_Index___string_string_ t):=by
 unfold v_slices_Index___string_string_ u_slices_Index___string_string_
 repeat' with_reducible first | exact le_rfl | refine le_cond ?_ ?_ | refine le_onS (fun _=>?_) fun _=>?_ | refine le_ob ?_ fun _=>?_ | refine le_both ?_ ?_ | exact le_lpr _ _
noncomputable def v_slices_Contains___string_string_(n:Nat)(t:((List T)×ByteArray×Unit)):Option (Bool×Unit):=
 (ob (Go.Eng.v_slices_Index___string_string_ n (t.1,t.2.1,())) fun x0=>(some ((Go.Eng.leI (0:Int) x0.1),())))
theorem le_slices_Contains___string_string_(n:Nat)(t:((List T)×ByteArray×Unit)):Le (v_slices_Contains___string_string_ n t) (u_slices_Contains___string_string_ t):=by
 unfold v_slices_Contains___string_string_ u_slices_Contains___string_string_
 repeat' with_reducible first | exact le_rfl | refine le_cond ?_ ?_ | refine le_onS (fun _=>?_) fun _=>?_ | refine le_ob ?_ fun _=>?_ | refine le_both ?_ ?_ | exact le_slices_Index___string_string_ n _
noncomputable def v__entity_rule__fits(n:Nat)(t:((List T)×Int×Int×(List T)×Int×Bool×(List T)×(List T)×ByteArray×Int×(List T)×Unit)):Option (Bool×Unit):=
 (ob (Go.Eng.v_slices_Contains___int_int_ n (t.1,t.2.2.2.2.1,())) fun x0=>(bif x0.1 then (bif (Bool.not (Go.Eng.eqI t.2.2.2.2.1 (4:Int))) then (some (Bool.true,())) else (ob (Go.Eng.v_slices_Contains___string_string_ n (t.2.2.2.1,t.2.2.2.2.2.2.2.2.1,())) fun x1=>(some (x1.1,())))) else (some (Bool.false,()))))
theorem le__entity_rule__fits(n:Nat)(t:((List T)×Int×Int×(List T)×Int×Bool×(List T)×(List T)×ByteArray×Int×(List T)×Unit)):Le (v__entity_rule__fits n t) (u__entity_rule__fits t):=by
 unfold v__entity_rule__fits u__entity_rule__fits
 repeat' with_reducible first | exact le_rfl | refine le_cond ?_ ?_ | refine le_onS (fun _=>?_) fun _=>?_ | refine le_ob ?_ fun _=>?_ | refine le_both ?_ ?_ | exact le_slices_Contains___int_int_ n _ | exact le_slices_Contains___string_string_ n _
noncomputable def v_entity_typed_1(n:Nat)(t:(Int×Bool×(List T)×(List T)×ByteArray×Int×(List T)×Unit×(List T)×Int×Int×(List T)×Unit)):Option (Bool×(List T)×Int×Int×(List T)×Unit):=
 (ob (Go.Eng.v__entity_rule__fits n (t.2.2.2.2.2.2.2.2.1,t.2.2.2.2.2.2.2.2.2.1,t.2.2.2.2.2.2.2.2.2.2.1,t.2.2.2.2.2.2.2.2.2.2.2.1,t.1,t.2.1,t.2.2.1,t.2.2.2.1,t.2.2.2.2.1,t.2.2.2.2.2.1,t.2.2.2.2.2.2.1,())) fun x0=>(some ((Bool.not x0.1),t.2.2.2.2.2.2.2.2.1,t.2.2.2.2.2.2.2.2.2.1,t.2.2.2.2.2.2.2.2.2.2.1,t.2.2.2.2.2.2.2.2.2.2.2.1,())))
theorem le_entity_typed_1(n:Nat)(t:(Int×Bool×(List T)×(List T)×ByteArray×Int×(List T)×Unit×(List T)×Int×Int×(List T)×Unit)):Le (v_entity_typed_1 n t) (u_entity_typed_1 t):=by
 unfold v_entity_typed_1 u_entity_typed_1
 repeat' with_reducible first | exact le_rfl | refine le_cond ?_ ?_ | refine le_onS (fun _=>?_) fun _=>?_ | refine le_ob ?_ fun _=>?_ | refine le_both ?_ ?_ | exact le__entity_rule__fits n _
noncomputable def v_slices_IndexFunc___api_Arg_api_Arg__l0(n:Nat)(s0:(List T×Unit×Int×Int×List T×Int×Int×List T×Unit)):Option ((List T×Unit×Int×Int×List T×Int×Int×List T×Unit)⊕((Int×List T×Int×Int×List T×Unit)⊕((List T×Int×Int×List T×Unit)⊕Empty))):=
 (bif (Go.Eng.ltI s0.2.2.2.1 s0.2.2.1) then (ob (Go.Eng.idxL s0.1 s0.2.2.2.1) fun x1=>(ob (Go.Eng.T.int? Go.IntKind.i64 (Go.Eng.T.cell x1 0)) fun x2=>(ob (Go.Eng.T.bool? (Go.Eng.T.cell x1 1)) fun x3=>(ob (Go.Eng.T.sl? 1 (Go.Eng.T.cell x1 2)) fun x4=>(ob (Go.Eng.T.sl? 1 (Go.Eng.T.cell x1 3)) fun x5=>(ob (Go.Eng.T.str? (Go.Eng.T.cell x1 4)) fun x6=>(ob (Go.Eng.T.int? Go.IntKind.i64 (Go.Eng.T.cell x1 5)) fun x7=>(ob (Go.Eng.T.sl? 7 (Go.Eng.T.cell x1 6)) fun x8=>(ob (Go.Eng.v_entity_typed_1 n (x2,x3,x4,x5,x6,x7,x8,(),s0.2.2.2.2.1,s0.2.2.2.2.2.1,s0.2.2.2.2.2.2.1,s0.2.2.2.2.2.2.2.1,())) fun x9=>(bif x9.1 then (some (Sum.inr (Sum.inl (s0.2.2.2.1,x9.2.1,x9.2.2.1,x9.2.2.2.1,x9.2.2.2.2.1,())))) else (some (Sum.inl (s0.1,(),s0.2.2.1,(Go.Eng.wr Go.IntKind.i64 (Go.Eng.addI s0.2.2.2.1 (1:Int))),x9.2.1,x9.2.2.1,x9.2.2.2.1,x9.2.2.2.2.1,()))))))))))))) else (some (Sum.inr (Sum.inr (Sum.inl (s0.2.2.2.2.1,s0.2.2.2.2.2.1,s0.2.2.2.2.2.2.1,s0.2.2.2.2.2.2.2.1,()))))))
theorem le_slices_IndexFunc___api_Arg_api_Arg__l0(n:Nat)(s0:(List T×Unit×Int×Int×List T×Int×Int×List T×Unit)):Le (v_slices_IndexFunc___api_Arg_api_Arg__l0 n s0) (u_slices_IndexFunc___api_Arg_api_Arg__l0 s0):=by
 unfold v_slices_IndexFunc___api_Arg_api_Arg__l0 u_slices_IndexFunc___api_Arg_api_Arg__l0
 repeat' with_reducible first | exact le_rfl | refine le_cond ?_ ?_ | refine le_onS (fun _=>?_) fun _=>?_ | refine le_ob ?_ fun _=>?_ | refine le_both ?_ ?_ | exact le_entity_typed_1 n _
noncomputable def v_slices_IndexFunc___api_Arg_api_Arg_(n:Nat)(t:((List T)×Unit×(List T)×Int×Int×(List T)×Unit)):Option (Int×(List T)×Int×Int×(List T)×Unit):=
 (ob (iter (v_slices_IndexFunc___api_Arg_api_Arg__l0 n) n (t.1,(),(Go.Eng.lenL t.1),(0:Int),t.2.2.1,t.2.2.2.1,t.2.2.2.2.1,t.2.2.2.2.2.1,())) fun q10=>onS q10 (fun t11=>(some (t11.1,t11.2.1,t11.2.2.1,t11.2.2.2.1,t11.2.2.2.2.1,()))) fun q12=>onS q12 (fun t13=>(some ((-1:Int),t13.1,t13.2.1,t13.2.2.1,t13.2.2.2.1,()))) fun q14=>noS q14)
theorem le_slices_IndexFunc___api_Arg_api_Arg_(n:Nat)(t:((List T)×Unit×(List T)×Int×Int×(List T)×Unit)):Le (v_slices_IndexFunc___api_Arg_api_Arg_ n t) (u_slices_IndexFunc___api_Arg_api_Arg_ t):=by
 unfold v_slices_IndexFunc___api_Arg_api_Arg_ u_slices_IndexFunc___api_Arg_api_Arg_
 repeat' with_reducible first | exact le_rfl | refine le_cond ?_ ?_ | refine le_onS (fun _=>?_) fun _=>?_ | refine le_ob ?_ fun _=>?_ | refine le_both ?_ ?_ | exact le_loop (le_slices_IndexFunc___api_Arg_api_Arg__l0 n) _ _
noncomputable def v_slices_ContainsFunc___api_Arg_api_Arg_(n:Nat)(t:((List T)×Unit×(List T)×Int×Int×(List T)×Unit)):Option (Bool×(List T)×Int×Int×(List T)×Unit):=
 (ob (Go.Eng.v_slices_IndexFunc___api_Arg_api_Arg_ n (t.1,(),t.2.2.1,t.2.2.2.1,t.2.2.2.2.1,t.2.2.2.2.2.1,())) fun x0=>(some ((Go.Eng.leI (0:Int) x0.1),x0.2.1,x0.2.2.1,x0.2.2.2.1,x0.2.2.2.2.1,())))
theorem le_slices_ContainsFunc___api_Arg_api_Arg_(n:Nat)(t:((List T)×Unit×(List T)×Int×Int×(List T)×Unit)):Le (v_slices_ContainsFunc___api_Arg_api_Arg_ n t) (u_slices_ContainsFunc___api_Arg_api_Arg_ t):=by
 unfold v_slices_ContainsFunc___api_Arg_api_Arg_ u_slices_ContainsFunc___api_Arg_api_Arg_
 repeat' with_reducible first | exact le_rfl | refine le_cond ?_ ?_ | refine le_onS (fun _=>?_) fun _=>?_ | refine le_ob ?_ fun _=>?_ | refine le_both ?_ ?_ | exact le_slices_IndexFunc___api_Arg_api_Arg_ n _
noncomputable def v_entity_typed_l0(n:Nat)(s1:(List T×Unit×List T×List T×Int×Int×ByteArray×List T×Unit)):Option ((List T×Unit×List T×List T×Int×Int×ByteArray×List T×Unit)⊕((Int×Unit)⊕((List T×Unit×List T×ByteArray×List T×Unit)⊕Empty))):=
 (bif (Go.Eng.ltI s1.2.2.2.2.2.1 s1.2.2.2.2.1) then (ob (Go.Eng.idxL s1.2.2.2.1 s1.2.2.2.2.2.1) fun x2=>(ob (Go.Eng.idxL s1.2.2.2.2.2.2.2.1 s1.2.2.2.2.2.1) fun x3=>(ob (Go.Eng.T.sl? 1 (Go.Eng.T.cell x2 0)) fun x4=>(ob (Go.Eng.T.int? Go.IntKind.i64 (Go.Eng.T.cell x2 1)) fun x5=>(ob (Go.Eng.T.int? Go.IntKind.i64 (Go.Eng.T.cell x2 2)) fun x6=>(ob (Go.Eng.T.sl? 1 (Go.Eng.T.cell x2 3)) fun x7=>(ob (Go.Eng.T.int? Go.IntKind.i64 (Go.Eng.T.cell x3 0)) fun x8=>(ob (Go.Eng.T.bool? (Go.Eng.T.cell x3 1)) fun x9=>(ob (Go.Eng.T.sl? 1 (Go.Eng.T.cell x3 2)) fun x10=>(ob (Go.Eng.T.sl? 1 (Go.Eng.T.cell x3 3)) fun x11=>(ob (Go.Eng.T.str? (Go.Eng.T.cell x3 4)) fun x12=>(ob (Go.Eng.T.int? Go.IntKind.i64 (Go.Eng.T.cell x3 5)) fun x13=>(ob (Go.Eng.T.sl? 7 (Go.Eng.T.cell x3 6)) fun x14=>(ob (Go.Eng.u__entity_rule__elements (x4,x5,x6,x7,x8,x9,x10,x11,x12,x13,x14,())) fun x15=>(bif (Bool.not x15.2.1) then (some (Sum.inr (Sum.inl ((36:Int),())))) else (ob (Go.Eng.T.sl? 1 (Go.Eng.T.cell x2 0)) fun x16=>(ob (Go.Eng.T.int? Go.IntKind.i64 (Go.Eng.T.cell x2 1)) fun x17=>(ob (Go.Eng.T.int? Go.IntKind.i64 (Go.Eng.T.cell x2 2)) fun x18=>(ob (Go.Eng.T.sl? 1 (Go.Eng.T.cell x2 3)) fun x19=>(ob (Go.Eng.v_slices_ContainsFunc___api_Arg_api_Arg_ n (x15.1,(),x16,x17,x18,x19,())) fun x20=>(bif x20.1 then (some (Sum.inr (Sum.inl ((36:Int),())))) else (some (Sum.inl (s1.1,(),s1.2.2.1,s1.2.2.2.1,s1.2.2.2.2.1,(Go.Eng.wr Go.IntKind.i64 (Go.Eng.addI s1.2.2.2.2.2.1 (1:Int))),s1.2.2.2.2.2.2.1,s1.2.2.2.2.2.2.2.1,())))))))))))))))))))))))) else (some (Sum.inr (Sum.inr (Sum.inl (s1.1,(),s1.2.2.1,s1.2.2.2.2.2.2.1,s1.2.2.2.2.2.2.2.1,()))))))
theorem le_entity_typed_l0(n:Nat)(s1:(List T×Unit×List T×List T×Int×Int×ByteArray×List T×Unit)):Le (v_entity_typed_l0 n s1) (u_entity_typed_l0 s1):=by
 unfold v_entity_typed_l0 u_entity_typed_l0
 repeat' with_reducible first | exact le_rfl | refine le_cond ?_ ?_ | refine le_onS (fun _=>?_) fun _=>?_ | refine le_ob ?_ fun _=>?_ | refine le_both ?_ ?_ | exact le_slices_ContainsFunc___api_Arg_api_Arg_ n _
noncomputable def v_entity_typed_l2(n:Nat)(s40:(List T×Unit×Unit×List T×Int×Int×List T×Int×Int×ByteArray×List T×T×T×T×T×Unit)):Option ((List T×Unit×Unit×List T×Int×Int×List T×Int×Int×ByteArray×List T×T×T×T×T×Unit)⊕((Int×Unit)⊕((List T×Unit×List T×Int×Int×ByteArray×List T×Unit)⊕Empty))):=
 (bif (Go.Eng.ltI s40.2.2.2.2.2.2.2.2.1 s40.2.2.2.2.2.2.2.1) then (ob (Go.Eng.idxL s40.2.2.2.2.2.2.1 s40.2.2.2.2.2.2.2.2.1) fun x41=>(ob (Go.Eng.T.int? Go.IntKind.i64 (Go.Eng.T.cell x41 5)) fun x42=>(ob (Go.Eng.T.one? (Go.Eng.mapGetD (Go.Eng.T.v (Go.Value.int Go.IntKind.i64 x42)) s40.1 (Go.Eng.T.v (Go.Value.string (ByteArray.mk #[]))))) fun x43=>(ob (Go.Eng.T.int? Go.IntKind.i64 (Go.Eng.T.cell x41 0)) fun x44=>(bif (Go.Eng.eqI x44 (5:Int)) then (bif (Bool.not (Go.Eng.mapHas (Go.Eng.T.v (Go.Value.int Go.IntKind.i64 x42)) s40.1)) then (some (Sum.inr (Sum.inl ((35:Int),())))) else (ob (Go.Eng.T.sl? 1 s40.2.2.2.2.2.2.2.2.2.2.2.2.2.2.1) fun x45=>(ob (Go.Eng.T.str? x43) fun x46=>(ob (Go.Eng.v_slices_Contains___string_string_ n (x45,x46,())) fun x47=>(bif (Bool.not x47.1) then (some (Sum.inr (Sum.inl ((35:Int),())))) else (some (Sum.inl (s40.1,(),(),s40.2.2.2.1,s40.2.2.2.2.1,s40.2.2.2.2.2.1,s40.2.2.2.2.2.2.1,s40.2.2.2.2.2.2.2.1,(Go.Eng.wr Go.IntKind.i64 (Go.Eng.addI s40.2.2.2.2.2.2.2.2.1 (1:Int))),s40.2.2.2.2.2.2.2.2.2.1,s40.2.2.2.2.2.2.2.2.2.2.1,s40.2.2.2.2.2.2.2.2.2.2.2.1,s40.2.2.2.2.2.2.2.2.2.2.2.2.1,s40.2.2.2.2.2.2.2.2.2.2.2.2.2.1,s40.2.2.2.2.2.2.2.2.2.2.2.2.2.2.1,())))))))) else (some (Sum.inl (s40.1,(),(),s40.2.2.2.1,s40.2.2.2.2.1,s40.2.2.2.2.2.1,s40.2.2.2.2.2.2.1,s40.2.2.2.2.2.2.2.1,(Go.Eng.wr Go.IntKind.i64 (Go.Eng.addI s40.2.2.2.2.2.2.2.2.1 (1:Int))),s40.2.2.2.2.2.2.2.2.2.1,s40.2.2.2.2.2.2.2.2.2.2.1,s40.2.2.2.2.2.2.2.2.2.2.2.1,s40.2.2.2.2.2.2.2.2.2.2.2.2.1,s40.2.2.2.2.2.2.2.2.2.2.2.2.2.1,s40.2.2.2.2.2.2.2.2.2.2.2.2.2.2.1,())))))))) else (some (Sum.inr (Sum.inr (Sum.inl (s40.1,(),s40.2.2.2.1,s40.2.2.2.2.1,s40.2.2.2.2.2.1,s40.2.2.2.2.2.2.2.2.2.1,s40.2.2.2.2.2.2.2.2.2.2.1,()))))))
theorem le_entity_typed_l2(n:Nat)(s40:(List T×Unit×Unit×List T×Int×Int×List T×Int×Int×ByteArray×List T×T×T×T×T×Unit)):Le (v_entity_typed_l2 n s40) (u_entity_typed_l2 s40):=by
 unfold v_entity_typed_l2 u_entity_typed_l2
 repeat' with_reducible first | exact le_rfl | refine le_cond ?_ ?_ | refine le_onS (fun _=>?_) fun _=>?_ | refine le_ob ?_ fun _=>?_ | refine le_both ?_ ?_ | exact le_slices_Contains___string_string_ n _
noncomputable def v_entity_typed_l1(n:Nat)(s25:(List T×Unit×List T×Int×Int×ByteArray×List T×Unit)):Option ((List T×Unit×List T×Int×Int×ByteArray×List T×Unit)⊕((Int×Unit)⊕((Unit)⊕Empty))):=
 (bif (Go.Eng.ltI s25.2.2.2.2.1 s25.2.2.2.1) then (ob (Go.Eng.idxL s25.2.2.1 s25.2.2.2.2.1) fun x26=>(ob (Go.Eng.idxL s25.2.2.2.2.2.2.1 s25.2.2.2.2.1) fun x27=>(ob (Go.Eng.T.sl? 1 (Go.Eng.T.cell x26 0)) fun x28=>(ob (Go.Eng.T.int? Go.IntKind.i64 (Go.Eng.T.cell x26 1)) fun x29=>(ob (Go.Eng.T.int? Go.IntKind.i64 (Go.Eng.T.cell x26 2)) fun x30=>(ob (Go.Eng.T.sl? 1 (Go.Eng.T.cell x26 3)) fun x31=>(ob (Go.Eng.T.int? Go.IntKind.i64 (Go.Eng.T.cell x27 0)) fun x32=>(ob (Go.Eng.T.bool? (Go.Eng.T.cell x27 1)) fun x33=>(ob (Go.Eng.T.sl? 1 (Go.Eng.T.cell x27 2)) fun x34=>(ob (Go.Eng.T.sl? 1 (Go.Eng.T.cell x27 3)) fun x35=>(ob (Go.Eng.T.str? (Go.Eng.T.cell x27 4)) fun x36=>(ob (Go.Eng.T.int? Go.IntKind.i64 (Go.Eng.T.cell x27 5)) fun x37=>(ob (Go.Eng.T.sl? 7 (Go.Eng.T.cell x27 6)) fun x38=>(ob (Go.Eng.u__entity_rule__elements (x28,x29,x30,x31,x32,x33,x34,x35,x36,x37,x38,())) fun x39=>(ob (iter (v_entity_typed_l2 n) n (s25.1,(),(),s25.2.2.1,s25.2.2.2.1,s25.2.2.2.2.1,x39.1,(Go.Eng.lenL x39.1),(0:Int),s25.2.2.2.2.2.1,s25.2.2.2.2.2.2.1,(Go.Eng.T.cell x26 0),(Go.Eng.T.cell x26 1),(Go.Eng.T.cell x26 2),(Go.Eng.T.cell x26 3),())) fun q48=>onS q48 (fun t49=>(some (Sum.inr (Sum.inl (t49.1,()))))) fun q50=>onS q50 (fun t51=>(some (Sum.inl (t51.1,(),t51.2.2.1,t51.2.2.2.1,(Go.Eng.wr Go.IntKind.i64 (Go.Eng.addI t51.2.2.2.2.1 (1:Int))),t51.2.2.2.2.2.1,t51.2.2.2.2.2.2.1,())))) fun q52=>noS q52))))))))))))))) else (some (Sum.inr (Sum.inr (Sum.inl ())))))
theorem le_entity_typed_l1(n:Nat)(s25:(List T×Unit×List T×Int×Int×ByteArray×List T×Unit)):Le (v_entity_typed_l1 n s25) (u_entity_typed_l1 s25):=by
 unfold v_entity_typed_l1 u_entity_typed_l1
 repeat' with_reducible first | exact le_rfl | refine le_cond ?_ ?_ | refine le_onS (fun _=>?_) fun _=>?_ | refine le_ob ?_ fun _=>?_ | refine le_both ?_ ?_ | exact le_loop (le_entity_typed_l2 n) _ _
noncomputable def v_entity_typed(n:Nat)(t:((List T)×ByteArray×(List T)×Unit)):Option (Int×Unit):=
 (ob (Go.Eng.u_entity_rules (t.2.1,())) fun x0=>(bif (Go.Eng.nilL x0.1) then (bothV (some ((38:Int),())) (bif (Bool.not (Go.Eng.eqI (Go.Eng.lenL t.2.2.1) (Go.Eng.lenL x0.1))) then (some ((36:Int),())) else (ob (iter (v_entity_typed_l0 n) n (t.1,(),x0.1,x0.1,(Go.Eng.lenL x0.1),(0:Int),t.2.1,t.2.2.1,())) fun q21=>onS q21 (fun t22=>(some (t22.1,()))) fun q23=>onS q23 (fun t24=>(ob (iter (v_entity_typed_l1 n) n (t24.1,(),t24.2.2.1,(Go.Eng.lenL t24.2.2.1),(0:Int),t24.2.2.2.1,t24.2.2.2.2.1,())) fun q53=>onS q53 (fun t54=>(some (t54.1,()))) fun q55=>onS q55 (fun t56=>(some ((0:Int),()))) fun q57=>noS q57)) fun q58=>noS q58))) else (bif (Bool.not (Go.Eng.eqI (Go.Eng.lenL t.2.2.1) (Go.Eng.lenL x0.1))) then (some ((36:Int),())) else (ob (iter (v_entity_typed_l0 n) n (t.1,(),x0.1,x0.1,(Go.Eng.lenL x0.1),(0:Int),t.2.1,t.2.2.1,())) fun q79=>onS q79 (fun t80=>(some (t80.1,()))) fun q81=>onS q81 (fun t82=>(ob (iter (v_entity_typed_l1 n) n (t82.1,(),t82.2.2.1,(Go.Eng.lenL t82.2.2.1),(0:Int),t82.2.2.2.1,t82.2.2.2.2.1,())) fun q111=>onS q111 (fun t112=>(some (t112.1,()))) fun q113=>onS q113 (fun t114=>(some ((0:Int),()))) fun q115=>noS q115)) fun q116=>noS q116))))
theorem le_entity_typed(n:Nat)(t:((List T)×ByteArray×(List T)×Unit)):Le (v_entity_typed n t) (u_entity_typed t):=by
 unfold v_entity_typed u_entity_typed
 repeat' with_reducible first | exact le_rfl | refine le_cond ?_ ?_ | refine le_onS (fun _=>?_) fun _=>?_ | refine le_ob ?_ fun _=>?_ | refine le_both ?_ ?_ | exact le_loop (le_entity_typed_l0 n) _ _ | exact le_loop (le_entity_typed_l1 n) _ _
end Go.Eng
namespace Go.Eng.En
open Go.Eng
noncomputable def typV(n:Nat)(words:List T):List T→List T→Option (List T)
 | [],out=>some out
 | x::l,out=>ob (T.int? .i64 (T.cell x 0)) fun id=>ob (T.str? (T.cell x 1)) fun nm=>ob (T.sl? 7 (T.cell x 2)) fun args=>ob (v_entity_typed n (words,nm,args,())) fun e=>
  bif eqI e.1 0 then typV n words l out else ob (room out [dT (e.1,id)] 40) fun out=>typV n words l out
theorem le_typV(n:Nat)(words:List T):∀l out,Le (typV n words l out) (typL words l out)
 | [],out=>le_rfl
 | x::l,out=>by
  simp only[typV,typL]
  exact le_ob le_rfl fun _=>le_ob le_rfl fun _=>le_ob le_rfl fun _=>le_ob (le_entity_typed n _) fun _=>le_cond (le_typV n words l _) (le_ob le_rfl fun _=>le_typV n words l _)
end Go.Eng.En
namespace Go.Eng
noncomputable def v_entity_Typed(n:Nat)(t:((List T)×(List T)×Unit)):Option ((List T)×Unit):=ob (En.wordsL t.2.1) fun m=>ob (En.typV n m t.2.1 []) fun out=>some (out,())
theorem le_entity_Typed(n:Nat)(t:((List T)×(List T)×Unit)):Le (v_entity_Typed n t) (u_entity_Typed t):=le_ob le_rfl fun _=>le_ob (En.le_typV n _ _ _) fun _=>le_rfl
noncomputable def v_brepkernellaw24_sane(n:Nat)(t:Unit):Option (Bool×Unit):=
 (ob (Go.Eng.v_ref02_Frac n ((-3:Int),(8:Int),())) fun x0=>(ob (Go.Eng.v_entity_Decimal n (x0.1,x0.2.1,x0.2.2.1,())) fun x1=>(ob (Go.Eng.v_ref02_Int n ((5:Int),())) fun x2=>(ob (Go.Eng.v_entity_Decimal n (x2.1,x2.2.1,x2.2.2.1,())) fun x3=>(ob (Go.Eng.v_ref02_Frac n ((1:Int),(3:Int),())) fun x4=>(ob (Go.Eng.v_entity_Decimal n (x4.1,x4.2.1,x4.2.2.1,())) fun x5=>(ob (Go.Eng.v_entity_Typed n ([],[(Go.Eng.T.agg [(Go.Eng.T.v (Go.Value.int Go.IntKind.i64 (1:Int))),(Go.Eng.T.v (Go.Value.string (ByteArray.mk #[80,76,65,78,69]))),(Go.Eng.T.sl 7 [(Go.Eng.T.agg [(Go.Eng.T.v (Go.Value.int Go.IntKind.i64 (3:Int))),(Go.Eng.T.v (Go.Value.bool Bool.false)),(Go.Eng.T.sl 1 []),(Go.Eng.T.sl 1 []),(Go.Eng.T.v (Go.Value.string (ByteArray.mk #[]))),(Go.Eng.T.v (Go.Value.int Go.IntKind.i64 (0:Int))),(Go.Eng.T.sl 7 [])]),(Go.Eng.T.agg [(Go.Eng.T.v (Go.Value.int Go.IntKind.i64 (5:Int))),(Go.Eng.T.v (Go.Value.bool Bool.false)),(Go.Eng.T.sl 1 []),(Go.Eng.T.sl 1 []),(Go.Eng.T.v (Go.Value.string (ByteArray.mk #[]))),(Go.Eng.T.v (Go.Value.int Go.IntKind.i64 (2:Int))),(Go.Eng.T.sl 7 [])]),(Go.Eng.T.agg [(Go.Eng.T.v (Go.Value.int Go.IntKind.i64 (5:Int))),(Go.Eng.T.v (Go.Value.bool Bool.false)),(Go.Eng.T.sl 1 []),(Go.Eng.T.sl 1 []),(Go.Eng.T.v (Go.Value.string (ByteArray.mk #[]))),(Go.Eng.T.v (Go.Value.int Go.IntKind.i64 (2:Int))),(Go.Eng.T.sl 7 [])])])]),(Go.Eng.T.agg [(Go.Eng.T.v (Go.Value.int Go.IntKind.i64 (2:Int))),(Go.Eng.T.v (Go.Value.string (ByteArray.mk #[67,65,82,84,69,83,73,65,78,95,80,79,73,78,84]))),(Go.Eng.T.sl 7 [(Go.Eng.T.agg [(Go.Eng.T.v (Go.Value.int Go.IntKind.i64 (3:Int))),(Go.Eng.T.v (Go.Value.bool Bool.false)),(Go.Eng.T.sl 1 []),(Go.Eng.T.sl 1 []),(Go.Eng.T.v (Go.Value.string (ByteArray.mk #[]))),(Go.Eng.T.v (Go.Value.int Go.IntKind.i64 (0:Int))),(Go.Eng.T.sl 7 [])]),(Go.Eng.T.agg [(Go.Eng.T.v (Go.Value.int Go.IntKind.i64 (6:Int))),(Go.Eng.T.v (Go.Value.bool Bool.false)),(Go.Eng.T.sl 1 []),(Go.Eng.T.sl 1 []),(Go.Eng.T.v (Go.Value.string (ByteArray.mk #[]))),(Go.Eng.T.v (Go.Value.int Go.IntKind.i64 (0:Int))),(Go.Eng.T.sl 7 [(Go.Eng.T.agg [(Go.Eng.T.v (Go.Value.int Go.IntKind.i64 (1:Int))),(Go.Eng.T.v (Go.Value.bool Bool.false)),(Go.Eng.T.sl 1 []),(Go.Eng.T.sl 1 []),(Go.Eng.T.v (Go.Value.string (ByteArray.mk #[]))),(Go.Eng.T.v (Go.Value.int Go.IntKind.i64 (0:Int))),(Go.Eng.T.sl 7 [])]),(Go.Eng.T.agg [(Go.Eng.T.v (Go.Value.int Go.IntKind.i64 (1:Int))),(Go.Eng.T.v (Go.Value.bool Bool.false)),(Go.Eng.T.sl 1 []),(Go.Eng.T.sl 1 []),(Go.Eng.T.v (Go.Value.string (ByteArray.mk #[]))),(Go.Eng.T.v (Go.Value.int Go.IntKind.i64 (0:Int))),(Go.Eng.T.sl 7 [])]),(Go.Eng.T.agg [(Go.Eng.T.v (Go.Value.int Go.IntKind.i64 (1:Int))),(Go.Eng.T.v (Go.Value.bool Bool.false)),(Go.Eng.T.sl 1 []),(Go.Eng.T.sl 1 []),(Go.Eng.T.v (Go.Value.string (ByteArray.mk #[]))),(Go.Eng.T.v (Go.Value.int Go.IntKind.i64 (0:Int))),(Go.Eng.T.sl 7 [])])])])])])],())) fun x6=>(bif x1.2.1 then (bif (Go.Eng.eqS x1.1 (ByteArray.mk #[45,48,46,51,55,53])) then (bif x3.2.1 then (bif (Go.Eng.eqS x3.1 (ByteArray.mk #[53,46])) then (bif (Bool.not x5.2.1) then (bif (Go.Eng.eqI (Go.Eng.lenL x6.1) (1:Int)) then (ob (Go.Eng.idxL x6.1 (0:Int)) fun x7=>(ob (Go.Eng.T.int? Go.IntKind.i64 (Go.Eng.T.cell x7 0)) fun x8=>(bif (Go.Eng.eqI x8 (35:Int)) then (ob (Go.Eng.idxL x6.1 (0:Int)) fun x9=>(ob (Go.Eng.T.int? Go.IntKind.i64 (Go.Eng.T.cell x9 1)) fun x10=>(some ((Go.Eng.eqI x10 (1:Int)),())))) else (some (Bool.false,()))))) else (some (Bool.false,()))) else (some (Bool.false,()))) else (some (Bool.false,()))) else (some (Bool.false,()))) else (some (Bool.false,()))) else (some (Bool.false,()))))))))))
theorem le_brepkernellaw24_sane(n:Nat)(t:Unit):Le (v_brepkernellaw24_sane n t) (u_brepkernellaw24_sane t):=by
 unfold v_brepkernellaw24_sane u_brepkernellaw24_sane
 repeat' with_reducible first | exact le_rfl | refine le_cond ?_ ?_ | refine le_onS (fun _=>?_) fun _=>?_ | refine le_ob ?_ fun _=>?_ | refine le_both ?_ ?_ | exact le_ref02_Frac n _ | exact le_entity_Decimal n _ | exact le_ref02_Int n _ | exact le_entity_Typed n _
end Go.Eng
namespace Go.Eng.En
open Go.Eng
theorem v_sane:v_brepkernellaw24_sane 40 ()=some (true,()):=by kernel_rfl
theorem e_sane:u_brepkernellaw24_sane ()=some (true,()):=le_brepkernellaw24_sane 40 () _ v_sane
end Go.Eng.En
namespace Go.Eng.Rt
open Go.Eng
abbrev BB:Nat:=4294967296
def val:List Nat→Nat
 | []=>0
 | a::l=>a+BB*val l
def limbs(n:Nat):List Nat:=if h:n=0 then [] else (n%BB)::limbs (n/BB)
termination_by n
decreasing_by exact Nat.div_lt_self (Nat.pos_of_ne_zero h) (by decide)
def Lim(l:List Nat):Prop:=∀x∈l,x<BB
theorem limbs_zero:limbs 0=[]:=by rw[limbs];simp
theorem limbs_pos{n:Nat}(h:n≠0):limbs n=(n%BB)::limbs (n/BB):=by rw[limbs];simp[h]
theorem limbs_one{n:Nat}(h:n≠0)(hn:n<BB):limbs n=[n]:=by
 rw[limbs_pos h,Nat.mod_eq_of_lt hn,Nat.div_eq_of_lt hn,limbs_zero]
theorem val_limbs(n:Nat):val (limbs n)=n:=by
 induction n using Nat.strongRecOn with
 | _ n ih=>
  by_cases h:n=0
  ·subst h;rw[limbs_zero];rfl
  ·rw[limbs_pos h,val,ih _ (Nat.div_lt_self (Nat.pos_of_ne_zero h) (by decide))]
   exact Nat.mod_add_div n BB
theorem lim_limbs(n:Nat):Lim (limbs n):=by
 induction n using Nat.strongRecOn with
 | _ n ih=>
  by_cases h:n=0
  ·subst h;rw[limbs_zero];intro x hx;cases hx
  ·rw[limbs_pos h]
   intro x hx
   rcases List.mem_cons.1 hx with rfl | hx
   ·exact Nat.mod_lt _ (by decide)
   ·exact ih _ (Nat.div_lt_self (Nat.pos_of_ne_zero h) (by decide)) x hx
theorem Lim.nil:Lim []:=fun x h=>by cases h
theorem Lim.cons{a:Nat}{l:List Nat}(h:a<BB)(hl:Lim l):Lim (a::l):=fun x hx=>by
 rcases List.mem_cons.1 hx with rfl | hx
 ·exact h
 ·exact hl x hx
theorem Lim.head{a:Nat}{l:List Nat}(h:Lim (a::l)):a<BB:=h a (by simp)
theorem Lim.tail{a:Nat}{l:List Nat}(h:Lim (a::l)):Lim l:=fun x hx=>h x (by simp[hx])
theorem Lim.append{l m:List Nat}(h:Lim l)(h':Lim m):Lim (l++m):=fun x hx=>(List.mem_append.1 hx).elim (h x) (h' x)
theorem val_lt{l:List Nat}(h:Lim l):val l<BB ^ l.length:=by
 induction l with
 | nil=>simp[val]
 | cons a l ih=>
  have h1:=h.head
  have h2:=ih h.tail
  rw[val,List.length_cons,Nat.pow_succ]
  have h3:val l+1≤BB ^ l.length:=h2
  have h4:BB*(val l+1)≤BB*BB ^ l.length:=Nat.mul_le_mul_left _ h3
  have h5:BB*(val l+1)=BB*val l+BB:=by rw[Nat.mul_add];simp
  rw[Nat.mul_comm (BB ^ l.length)]
  omega
def trimN(l:List Nat):List Nat:=(l.reverse.dropWhile (·==0)).reverse
theorem trimN_snoc0(l:List Nat):trimN (l++[0])=trimN l:=by
 unfold trimN;simp
theorem trimN_snoc{l:List Nat}{a:Nat}(h:a≠0):trimN (l++[a])=l++[a]:=by
 unfold trimN;simp[h]
theorem val_append(l m:List Nat):val (l++m)=val l+BB ^ l.length*val m:=by
 induction l with
 | nil=>simp[val]
 | cons a l ih=>
  rw[List.cons_append,val,val,ih,List.length_cons,Nat.pow_succ,Nat.mul_add,Nat.mul_comm (BB ^ l.length) BB,Nat.mul_assoc]
  omega
theorem limbs_snoc{l:List Nat}{a:Nat}(hl:Lim l)(ha:a<BB)(h0:a≠0):limbs (val (l++[a]))=l++[a]:=by
 induction l with
 | nil=>rw[List.nil_append];show limbs (a+BB*0)=[a];rw[Nat.mul_zero,Nat.add_zero,limbs_one h0 ha]
 | cons b l ih=>
  have h1:=hl.head
  rw[List.cons_append,val]
  have hp:val (l++[a])≠0:=by
   intro h
   have:=ih hl.tail
   rw[h,limbs_zero] at this
   simp at this
  rw[limbs_pos (by simp only[BB];omega),Nat.add_mul_mod_self_left,Nat.mod_eq_of_lt h1,Nat.add_mul_div_left _ _ (by decide),Nat.div_eq_of_lt h1,Nat.zero_add,ih hl.tail]
theorem limbs_val{l:List Nat}(h:Lim l):limbs (val l)=trimN l:=by
 have key:∀k (l:List Nat),l.length=k→Lim l→limbs (val l)=trimN l:=by
  intro k
  induction k with
  | zero=>
   intro l hl _
   have:=List.eq_nil_of_length_eq_zero hl
   subst this
   exact limbs_zero
  | succ k ih=>
   intro l hl h
   have hne:l≠[]:=by intro e;subst e;simp at hl
   obtain⟨m,a,rfl⟩:∃m a,l=m++[a]:=⟨l.dropLast,l.getLast hne,(List.dropLast_concat_getLast hne).symm⟩
   have hm:Lim m:=fun x hx=>h x (List.mem_append.2 (.inl hx))
   have ha:a<BB:=h a (by simp)
   by_cases h0:a=0
   ·subst h0
    rw[trimN_snoc0,val_append,show val [0]=0 from rfl,Nat.mul_zero,Nat.add_zero]
    exact ih m (by simp at hl;exact hl) hm
   ·rw[limbs_snoc hm ha h0,trimN_snoc h0]
 exact key _ l rfl h
theorem limbs_len{n k:Nat}:(limbs n).length≤k↔n<BB ^ k:=by
 constructor
 ·intro h
  have:=val_lt (lim_limbs n)
  rw[val_limbs] at this
  exact Nat.lt_of_lt_of_le this (Nat.pow_le_pow_right (by decide) h)
 ·intro h
  induction k generalizing n with
  | zero=>
   have:n=0:=by simpa using h
   subst this;simp[limbs_zero]
  | succ k ih=>
   by_cases h0:n=0
   ·subst h0;simp[limbs_zero]
   ·rw[limbs_pos h0,List.length_cons]
    have:=ih (n:=n/BB) (Nat.div_lt_of_lt_mul (by rw[Nat.mul_comm,←Nat.pow_succ];exact h))
    omega
def limT(n:Nat):T:=.v (.int .u32 (n:Int))
def lmL(l:List Nat):List T:=l.map limT
def lm(n:Nat):List T:=lmL (limbs n)
def dn(d:Nat):List T:=if d=1 then [] else lm d
theorem lmL_len(l:List Nat):(lmL l).length=l.length:=by simp[lmL]
theorem lm_zero:lm 0=[]:=by rw[lm,limbs_zero];rfl
theorem lm_one{n:Nat}(h:n≠0)(hn:n<BB):lm n=[limT n]:=by rw[lm,limbs_one h hn];rfl
end Go.Eng.Rt
namespace Go.Eng.Rt
open Go.Eng
def rNeg(q:Rat):Bool:=decide (q.num<0)
def rNum(q:Rat):List T:=lm q.num.natAbs
def rDen(q:Rat):List T:=dn q.den
def sg(neg:Bool)(n:Nat):Int:=if neg then -(n:Int) else n
theorem sg_abs(neg:Bool)(n:Nat):(sg neg n).natAbs=n:=by cases neg <;> simp[sg]
theorem mk_den{n:Int}{d:Nat}(hd:d≠0):(mkRat n d).den=d/n.natAbs.gcd d:=by
 rw[Rat.mkRat_def,dif_neg hd,Rat.normalize_eq]
theorem mk_num{n:Int}{d:Nat}(hd:d≠0):(mkRat n d).num=n/(n.natAbs.gcd d:Nat):=by
 rw[Rat.mkRat_def,dif_neg hd,Rat.normalize_eq]
theorem mk_abs(neg:Bool){n d:Nat}(hd:d≠0):(mkRat (sg neg n) d).num.natAbs=n/n.gcd d:=by
 rw[mk_num hd,sg_abs]
 unfold sg
 have hg:0<n.gcd d:=Nat.gcd_pos_of_pos_right _ (Nat.pos_of_ne_zero hd)
 cases neg with
 | false=>simp only[Bool.false_eq_true,if_false];rw[←Int.natCast_ediv];exact Int.natAbs_natCast _
 | true=>
  simp only[if_true]
  rw[Int.neg_ediv_of_dvd (Int.natCast_dvd_natCast.2 (Nat.gcd_dvd_left n d)),Int.natAbs_neg,←Int.natCast_ediv];exact Int.natAbs_natCast _
theorem mk_neg(neg:Bool){n d:Nat}(hd:d≠0)(hn:n≠0):rNeg (mkRat (sg neg n) d)=neg:=by
 unfold rNeg
 rw[mk_num hd,sg_abs]
 have hg:0<n.gcd d:=Nat.gcd_pos_of_pos_right _ (Nat.pos_of_ne_zero hd)
 have hq:0<n/n.gcd d:=Nat.div_pos (Nat.le_of_dvd (Nat.pos_of_ne_zero hn) (Nat.gcd_dvd_left n d)) hg
 unfold sg
 cases neg with
 | false=>
  simp only[Bool.false_eq_true,if_false];rw[←Int.natCast_ediv]
  exact decide_eq_false (by omega)
 | true=>
  simp only[if_true]
  rw[Int.neg_ediv_of_dvd (Int.natCast_dvd_natCast.2 (Nat.gcd_dvd_left n d)),←Int.natCast_ediv]
  exact decide_eq_true (by omega)
theorem mk_zero(neg:Bool)(d:Nat):mkRat (sg neg 0) d=0:=by
 cases neg <;> simp[sg,Rat.zero_mkRat]
theorem rNum_mk(neg:Bool){n d:Nat}(hd:d≠0):rNum (mkRat (sg neg n) d)=lm (n/n.gcd d):=by unfold rNum;rw[mk_abs neg hd]
theorem rDen_mk(neg:Bool){n d:Nat}(hd:d≠0):rDen (mkRat (sg neg n) d)=dn (d/n.gcd d):=by unfold rDen;rw[mk_den hd,sg_abs]
theorem rNeg_zero:rNeg 0=false:=rfl
theorem rNum_zero:rNum 0=[]:=lm_zero
theorem rDen_zero:rDen 0=[]:=rfl
def Sm(q:Rat):Prop:=q.num.natAbs<2147483648∧q.den<2147483648
theorem Sm.zero:Sm 0:=⟨by decide,by decide⟩
end Go.Eng.Rt
namespace Go.Eng.En
open Go.Eng
abbrev tI(z:Int):T:=.v (.int .i64 z)
abbrev tB(b:Bool):T:=.v (.bool b)
theorem find_cons(k t:T)(l:List T):mapFind k (t::l)=if keyB k (entKey t) then some 0 else (mapFind k l).map (·+1):=by
 unfold mapFind;rw[List.findIdx?_cons]
theorem get_cons_pos{k t z:T}{l:List T}(h:keyB k (entKey t)=true):mapGetD k (t::l) z=entVal t:=by
 unfold mapGetD;rw[find_cons,if_pos h];rfl
theorem get_cons_neg{k t z:T}{l:List T}(h:keyB k (entKey t)=false):mapGetD k (t::l) z=mapGetD k l z:=by
 unfold mapGetD;rw[find_cons,if_neg (by simp[h])]
 cases mapFind k l <;> rfl
theorem put_cons_pos{k v t:T}{l:List T}(h:keyB k (entKey t)=true):mapPut k v (t::l)=.agg [k,v]::l:=by
 unfold mapPut;rw[find_cons,if_pos h];rfl
theorem put_cons_neg{k v t:T}{l:List T}(h:keyB k (entKey t)=false):mapPut k v (t::l)=t::mapPut k v l:=by
 unfold mapPut;rw[find_cons,if_neg (by simp[h])]
 cases mapFind k l <;> rfl
theorem get_nil(k z:T):mapGetD k [] z=z:=by unfold mapGetD;rfl
theorem put_nil(k v:T):mapPut k v []=[.agg [k,v]]:=by unfold mapPut;rfl
theorem key_int(i j:Int):keyB (tI i) (tI j)=decide (i=j):=by
 have e:keyB (tI i) (tI j)=(i==j):=rfl
 rw[e,Bool.eq_iff_iff];simp
theorem key_same{i j:Int}{t:T}(h1:keyB (tI i) t=true)(h2:keyB (tI j) t=true):i=j:=by
 cases t with
 | v a=>
  cases a with
  | int k x=>
   cases k <;> first
    | (have e1:(i==x)=true:=h1;have e2:(j==x)=true:=h2;simp at e1 e2;omega)
    | (cases h1)
  | _=>cases h1
 | agg l=>cases h1
 | sl n l=>cases h1
theorem get_put(i j:Int)(v z:T):∀M:List T,mapGetD (tI i) (mapPut (tI j) v M) z=if i=j then v else mapGetD (tI i) M z
 | []=>by
  rw[put_nil]
  by_cases h:i=j
  ·rw[if_pos h,get_cons_pos (by show keyB (tI i) (tI j)=true;rw[key_int];simp[h])];rfl
  ·rw[if_neg h,get_cons_neg (by show keyB (tI i) (tI j)=false;rw[key_int];simp[h])]
 | t::M=>by
  cases hj:keyB (tI j) (entKey t) with
  | true=>
   rw[put_cons_pos hj]
   by_cases h:i=j
   ·rw[if_pos h,get_cons_pos (by show keyB (tI i) (tI j)=true;rw[key_int];simp[h])];rfl
   ·rw[if_neg h,get_cons_neg (by show keyB (tI i) (tI j)=false;rw[key_int];simp[h])]
    cases hi:keyB (tI i) (entKey t) with
    | true=>exact absurd (key_same hi hj) h
    | false=>rw[get_cons_neg hi]
  | false=>
   rw[put_cons_neg hj]
   cases hi:keyB (tI i) (entKey t) with
   | true=>
    rw[get_cons_pos hi,get_cons_pos hi,if_neg]
    intro e;subst e;rw[hi] at hj;cases hj
   | false=>rw[get_cons_neg hi,get_cons_neg hi,get_put i j v z M]
def IsS(M:List T)(S:Int→Bool):Prop:=∀i,mapGetD (tI i) M (tB false)=tB (S i)
theorem IsS.nil:IsS [] fun _=>false:=fun i=>get_nil _ _
theorem IsS.put{M:List T}{S:Int→Bool}(h:IsS M S)(j:Int):IsS (mapPut (tI j) (tB true) M) fun i=>decide (i=j)||S i:=fun i=>by
 rw[get_put]
 by_cases hi:i=j
 ·rw[if_pos hi];simp[hi]
 ·rw[if_neg hi,h i];simp[hi]
def argT(k:Int)(neg:Bool)(num den:List T)(text:ByteArray)(ref:Int)(l:List T):T:=.agg [tI k,tB neg,.sl 1 num,.sl 1 den,.v (.string text),tI ref,.sl 7 l]
def kd(t:T):Int:=(T.int? .i64 (T.cell t 0)).getD 0
def rf(t:T):Int:=(T.int? .i64 (T.cell t 5)).getD 0
def sb(t:T):List T:=(T.sl? 7 (T.cell t 6)).getD []
def refs:Nat→List T→List Int
 | 0,_=>[]
 | n+1,l=>l.flatMap fun t=>if kd t=5 then [rf t] else if kd t=6 then refs n (sb t) else []
def OkA:Nat→T→Prop
 | 0,_=>False
 | n+1,t=>∃k neg num den text ref l,t=argT k neg num den text ref l∧l.length≤4∧(∀x∈l,OkA n x)∧∃q:Rat,Rt.Sm q∧neg=Rt.rNeg q∧num=Rt.rNum q∧den=Rt.rDen q
theorem kd_arg{k:Int}{neg:Bool}{num den:List T}{text:ByteArray}{ref:Int}{l:List T}:kd (argT k neg num den text ref l)=k:=by unfold kd;rw[show T.cell (argT k neg num den text ref l) 0=tI k from rfl,T_int];rfl
theorem rf_arg{k:Int}{neg:Bool}{num den:List T}{text:ByteArray}{ref:Int}{l:List T}:rf (argT k neg num den text ref l)=ref:=by unfold rf;rw[show T.cell (argT k neg num den text ref l) 5=tI ref from rfl,T_int];rfl
theorem sb_arg{k:Int}{neg:Bool}{num den:List T}{text:ByteArray}{ref:Int}{l:List T}:sb (argT k neg num den text ref l)=l:=by unfold sb;rw[show T.cell (argT k neg num den text ref l) 6=.sl 7 l from rfl,T_sl];rfl
theorem refs_len:∀(m n:Nat) (l:List T),(∀x∈l,OkA n x)→(refs m l).length≤l.length*4 ^ n
 | 0,n,l,_=>by simp[refs]
 | m+1,n,[],_=>by simp[refs]
 | m+1,n,t::l,h=>by
  have ih:=refs_len (m+1) n l fun x hx=>h x (List.mem_cons_of_mem _ hx)
  simp only[refs] at ih ⊢
  rw[List.flatMap_cons,List.length_append,List.length_cons,Nat.add_mul,Nat.one_mul]
  have h1:(if kd t=5 then [rf t] else if kd t=6 then refs m (sb t) else []).length≤4 ^ n:=by
   have ht:=h t (List.mem_cons_self ..)
   cases n with
   | zero=>exact ht.elim
   | succ n=>
    obtain⟨k,neg,num,den,text,ref,q,rfl,hq,hs,_⟩:=ht
    rw[kd_arg,rf_arg,sb_arg]
    have hp:0<4 ^ (n+1):=Nat.pow_pos (by decide)
    split
    ·exact hp
    ·split
     ·have:=refs_len m n q hs
      rw[Nat.pow_succ,Nat.mul_comm]
      exact Nat.le_trans this (Nat.mul_le_mul_right _ hq)
     ·exact Nat.zero_le _
  omega
end Go.Eng.En
namespace Go.Eng.En
open Go.Eng
def ref1(m:Nat)(t:T):List Int:=if kd t=5 then [rf t] else if kd t=6 then refs m (sb t) else []
theorem refs_succ(m:Nat)(l:List T):refs (m+1) l=l.flatMap (ref1 m):=rfl
theorem take_flat{m k:Nat}{l:List T}{t:T}(h:l[k]?=some t):(l.take (k+1)).flatMap (ref1 m)=(l.take k).flatMap (ref1 m)++ref1 m t:=by
 rw[List.take_add_one,h,List.flatMap_append];simp
theorem ref1_len{m n:Nat}{l:List T}{k:Nat}(h:∀x∈l,OkA n x):((l.take k).flatMap (ref1 m)).length≤l.length*4 ^ n:=by
 have h1:(refs (m+1) (l.take k)).length≤(l.take k).length*4 ^ n:=refs_len _ _ _ fun x hx=>h x (List.mem_of_mem_take hx)
 rw[List.length_take] at h1
 exact Nat.le_trans h1 (Nat.mul_le_mul_right _ (Nat.min_le_right ..))
theorem ref1_len1{m n:Nat}{t:T}(h:OkA n t):(ref1 m t).length≤4 ^ n:=by
 have:=refs_len (m+1) n [t] fun x hx=>by rw[List.mem_singleton] at hx;exact hx▸h
 simpa[refs,ref1] using this
theorem run_refs:∀(n d:Nat) (l:List T),n≤8→l.length≤8→(∀x∈l,OkA n x)→v_entity_references (n+1+d) (l,())=some ((refs (n+1+d) l).map tI,())
 | n,d,l,hn,hl,h=>by
  have e0:n+1+d=(n+d)+1:=by omega
  rw[e0]
  show b_entity_references (v_entity_references (n+d)) (l,())=_
  unfold b_entity_references
  have hp:4 ^ n≤4 ^ 8:=Nat.pow_le_pow_right (by decide) hn
  have step:∀k,k<l.length→u_entity_references_l0 (v_entity_references (n+d)) ((((l.take k).flatMap (ref1 (n+d))).map tI),l,(l.length:Int),(k:Nat),())=some (.inl ((((l.take (k+1)).flatMap (ref1 (n+d))).map tI),l,(l.length:Int),((k+1:Nat):Int),())):=by
   intro k hk
   obtain⟨t,ht⟩:∃t,l[k]?=some t:=⟨_,List.getElem?_eq_getElem hk⟩
   have hto:=h t (List.mem_of_getElem? ht)
   rw[take_flat ht]
   have hlen:=ref1_len (m:=n+d) (k:=k) h
   have hb:l.length*4 ^ n≤8*4 ^ 8:=Nat.mul_le_mul hl hp
   have hw:wr .i64 ((k:Int)+1)=((k+1:Nat):Int):=by rw[wr64 (by omega) (by omega)];rfl
   have hw2:wr .i64 ((k:Int)+1)=(k:Int)+1:=wr64 (by omega) (by omega)
   have hl1:=ref1_len1 (m:=n+d) hto
   unfold u_entity_references_l0
   simp only[ltI_eq,addI_eq,hw]
   rw[decide_eq_true (by omega),idxL_nat,ht]
   cases n with
   | zero=>exact hto.elim
   | succ n=>
    obtain⟨kk,neg,num,den,text,ref,q,rfl,hq,hs,_⟩:=hto
    have er:ref1 (n+1+d) (argT kk neg num den text ref q)=if kk=5 then [ref] else if kk=6 then refs (n+1+d) q else []:=by unfold ref1;rw[kd_arg,rf_arg,sb_arg]
    rw[er] at hl1 ⊢
    simp only[cond_true,obS,show T.cell (argT kk neg num den text ref q) 0=tI kk from rfl,show T.cell (argT kk neg num den text ref q) 5=tI ref from rfl,show T.cell (argT kk neg num den text ref q) 6=.sl 7 q from rfl,T_int,T_sl,eqI_eq]
    by_cases h5:kk=5
    ·rw[decide_eq_true h5,if_pos h5]
     simp only[cond_true]
     rw[room_ok (by simp only[List.length_map,List.length_cons,List.length_nil];omega) (by decide)]
     simp[hw2]
    ·rw[decide_eq_false h5,if_neg h5]
     rw[if_neg h5] at hl1
     simp only[cond_false]
     by_cases h6:kk=6
     ·rw[decide_eq_true h6,if_pos h6]
      rw[if_pos h6] at hl1
      simp only[cond_true]
      rw[show n+1+d=n+1+d from rfl,run_refs n d q (by omega) (by omega) hs]
      simp only[obS]
      rw[room_ok (by simp only[List.length_map];omega) (by decide)]
      simp[hw2]
     ·rw[decide_eq_false h6,if_neg h6]
      simp[hw2]
  have hfin:u_entity_references_l0 (v_entity_references (n+d)) ((((l.take l.length).flatMap (ref1 (n+d))).map tI),l,(l.length:Int),(l.length:Nat),())=some (.inr (.inl ((((l.take l.length).flatMap (ref1 (n+d))).map tI),()))):=by
   unfold u_entity_references_l0
   simp only[ltI_eq]
   rw[decide_eq_false (by omega)]
   rfl
  have hgo:=loopU_for (F:=u_entity_references_l0 (v_entity_references (n+d))) l.length (fun k=>((((l.take k).flatMap (ref1 (n+d))).map tI),l,(l.length:Int),(k:Nat),())) step
  simp only[lenL_eq]
  rw[show (([]:List T),l,(l.length:Int),(0:Int),())=((((l.take 0).flatMap (ref1 (n+d))).map tI),l,(l.length:Int),((0:Nat):Int),()) from by simp]
  rw[hgo,loopU_out hfin]
  simp[refs_succ]
theorem e_refs{l:List T}(hl:l.length≤8)(h:∀x∈l,OkA 8 x):u_entity_references (l,())=some ((refs 20 l).map tI,()):=run_refs 8 11 l (Nat.le_refl _) hl h
theorem run_Refs:∀(n d:Nat) (l:List T),n≤8→l.length≤8→(∀x∈l,OkA n x)→v_ref24_Refs (n+1+d) (l,())=some ((refs (n+1+d) l).map tI,())
 | n,d,l,hn,hl,h=>by
  have e0:n+1+d=(n+d)+1:=by omega
  rw[e0]
  show b_ref24_Refs (v_ref24_Refs (n+d)) (l,())=_
  unfold b_ref24_Refs
  have hp:4 ^ n≤4 ^ 8:=Nat.pow_le_pow_right (by decide) hn
  have step:∀k,k<l.length→u_ref24_Refs_l0 (v_ref24_Refs (n+d)) (l,(((l.take k).flatMap (ref1 (n+d))).map tI),(k:Nat),())=some (.inl (l,(((l.take (k+1)).flatMap (ref1 (n+d))).map tI),((k+1:Nat):Int),())):=by
   intro k hk
   obtain⟨t,ht⟩:∃t,l[k]?=some t:=⟨_,List.getElem?_eq_getElem hk⟩
   have hto:=h t (List.mem_of_getElem? ht)
   rw[take_flat ht]
   have hlen:=ref1_len (m:=n+d) (k:=k) h
   have hb:l.length*4 ^ n≤8*4 ^ 8:=Nat.mul_le_mul hl hp
   have hw:wr .i64 ((k:Int)+1)=((k+1:Nat):Int):=by rw[wr64 (by omega) (by omega)];rfl
   have hw2:wr .i64 ((k:Int)+1)=(k:Int)+1:=wr64 (by omega) (by omega)
   have hl1:=ref1_len1 (m:=n+d) hto
   unfold u_ref24_Refs_l0
   simp only[ltI_eq,addI_eq,lenL_eq,idxL_nat,ht]
   rw[decide_eq_true (by omega)]
   cases n with
   | zero=>exact hto.elim
   | succ n=>
    obtain⟨kk,neg,num,den,text,ref,q,rfl,hq,hs,_⟩:=hto
    have er:ref1 (n+1+d) (argT kk neg num den text ref q)=if kk=5 then [ref] else if kk=6 then refs (n+1+d) q else []:=by unfold ref1;rw[kd_arg,rf_arg,sb_arg]
    rw[er] at hl1 ⊢
    simp only[cond_true,obS,show T.cell (argT kk neg num den text ref q) 0=tI kk from rfl,show T.cell (argT kk neg num den text ref q) 5=tI ref from rfl,show T.cell (argT kk neg num den text ref q) 6=.sl 7 q from rfl,T_int,T_sl,eqI_eq]
    by_cases h5:kk=5
    ·have h6:¬kk=6:=by omega
     rw[decide_eq_true h5,if_pos h5]
     simp only[cond_true]
     rw[room_ok (by simp only[List.length_map,List.length_cons,List.length_nil];omega) (by decide)]
     simp only[obS,onS_l,idxL_nat,ht,show T.cell (argT kk neg num den text ref q) 0=tI kk from rfl,T_int,decide_eq_false h6,cond_false]
     simp[hw2]
    ·rw[decide_eq_false h5,if_neg h5]
     rw[if_neg h5] at hl1
     simp only[cond_false]
     by_cases h6:kk=6
     ·rw[if_pos h6]
      rw[if_pos h6] at hl1
      simp only[obS,onS_l,idxL_nat,ht,show T.cell (argT kk neg num den text ref q) 0=tI kk from rfl,show T.cell (argT kk neg num den text ref q) 6=.sl 7 q from rfl,T_int,T_sl,decide_eq_true h6,cond_true]
      rw[run_Refs n d q (by omega) (by omega) hs]
      simp only[obS]
      rw[room_ok (by simp only[List.length_map];omega) (by decide)]
      simp[hw2]
     ·rw[if_neg h6]
      simp only[obS,onS_l,idxL_nat,ht,show T.cell (argT kk neg num den text ref q) 0=tI kk from rfl,T_int,decide_eq_false h6,cond_false]
      simp[hw2]
  have hfin:u_ref24_Refs_l0 (v_ref24_Refs (n+d)) (l,(((l.take l.length).flatMap (ref1 (n+d))).map tI),(l.length:Nat),())=some (.inr (.inl ((((l.take l.length).flatMap (ref1 (n+d))).map tI),()))):=by
   unfold u_ref24_Refs_l0
   simp only[ltI_eq,lenL_eq]
   rw[decide_eq_false (by omega)]
   rfl
  have hgo:=loopU_for (F:=u_ref24_Refs_l0 (v_ref24_Refs (n+d))) l.length (fun k=>(l,(((l.take k).flatMap (ref1 (n+d))).map tI),(k:Nat),())) step
  simp only[lenL_eq]
  rw[show (l,([]:List T),(0:Int),())=(l,(((l.take 0).flatMap (ref1 (n+d))).map tI),((0:Nat):Int),()) from by simp]
  rw[hgo,loopU_out hfin]
  simp[refs_succ]
theorem e_Refs{l:List T}(hl:l.length≤8)(h:∀x∈l,OkA 8 x):u_ref24_Refs (l,())=some ((refs 20 l).map tI,()):=run_Refs 8 11 l (Nat.le_refl _) hl h
end Go.Eng.En
namespace Go.Eng.En
open Go.Eng
def entT(id:Int)(name:ByteArray)(args:List T):T:=.agg [tI id,.v (.string name),.sl 7 args]
def OkE(t:T):Prop:=∃id name args,t=entT id name args∧args.length≤8∧∀x∈args,OkA 8 x
def OkD(D:List T):Prop:=D.length≤16∧∀x∈D,OkE x
def idT(t:T):Int:=(T.int? .i64 (T.cell t 0)).getD 0
def rfs(t:T):List Int:=refs 20 ((T.sl? 7 (T.cell t 2)).getD [])
def ids(D:List T):List Int:=D.map idT
theorem id_ent{id:Int}{name:ByteArray}{args:List T}:idT (entT id name args)=id:=by unfold idT;rw[show T.cell (entT id name args) 0=tI id from rfl,T_int];rfl
theorem rfs_ent{id:Int}{name:ByteArray}{args:List T}:rfs (entT id name args)=refs 20 args:=by unfold rfs;rw[show T.cell (entT id name args) 2=.sl 7 args from rfl,T_sl];rfl
theorem rfs_len{t:T}(h:OkE t):(rfs t).length≤524288:=by
 obtain⟨id,name,args,rfl,h1,h2⟩:=h
 rw[rfs_ent]
 exact Nat.le_trans (refs_len 20 8 args h2) (Nat.le_trans (Nat.mul_le_mul_right _ h1) (by decide))
noncomputable def idM(l:List T):List T:=l.foldl (fun m x=>mapPut (tI (idT x)) (tB true) m) []
theorem idM_snoc(l:List T)(x:T):idM (l++[x])=mapPut (tI (idT x)) (tB true) (idM l):=by unfold idM;rw[List.foldl_append];rfl
theorem idM_take{D:List T}{k:Nat}{x:T}(h:D[k]?=some x):idM (D.take (k+1))=mapPut (tI (idT x)) (tB true) (idM (D.take k)):=by
 rw[List.take_add_one,h];exact idM_snoc _ _
theorem idM_has:∀(l:List T),IsS (idM l) fun i=>decide (i∈ids l):=by
 intro l
 induction h:l.length generalizing l with
 | zero=>rw[List.length_eq_zero_iff.1 h];intro i;exact get_nil _ _
 | succ n ih=>
  obtain⟨l',x,rfl⟩:∃l' x,l=l'++[x]:=⟨l.dropLast,l.getLast (by intro e;subst e;cases h),(List.dropLast_concat_getLast _).symm⟩
  have:=(ih l' (by simp at h;omega)).put (idT x)
  rw[←idM_snoc] at this
  intro i
  rw[this i]
  congr 1
  rw[Bool.eq_iff_iff]
  simp[ids,or_comm]
theorem has_id(l:List T)(i:Int):T.one? (mapGetD (tI i) (idM l) (tB false))=some (tB (decide (i∈ids l))):=by rw[idM_has l i];rfl
def chkR(D:List T)(x:T)(l:List Int):List (Int×Int):=(l.filter fun r=>decide (r∉ids D)).map fun _=>(35,idT x)
def chk1(D:List T)(i:Nat)(x:T):List (Int×Int):=(if idT x∈ids (D.take i) then [(37,idT x)] else [])++chkR D x (rfs x)
def chkT(D:List T)(k:Nat):List (Int×Int):=(List.range k).flatMap fun i=>match D[i]? with
 | some x=>chk1 D i x
 | none=>[]
theorem chkT_succ{D:List T}{k:Nat}{x:T}(h:D[k]?=some x):chkT D (k+1)=chkT D k++chk1 D k x:=by
 unfold chkT;rw[List.range_succ,List.flatMap_append];simp[h]
theorem chkR_len(D:List T)(x:T)(l:List Int):(chkR D x l).length≤l.length:=by unfold chkR;rw[List.length_map];exact List.length_filter_le ..
theorem chk1_len{D:List T}{i:Nat}{x:T}(h:OkE x):(chk1 D i x).length≤524289:=by
 unfold chk1
 rw[List.length_append]
 have h1:=chkR_len D x (rfs x)
 have h2:=rfs_len h
 have h3:(if idT x∈ids (D.take i) then [((37:Int),idT x)] else []).length≤1:=by split <;> simp
 omega
theorem chkT_len{D:List T}(h:OkD D):∀k,k≤D.length→(chkT D k).length≤k*524289
 | 0,_=>by simp[chkT]
 | k+1,hk=>by
  obtain⟨x,hx⟩:∃x,D[k]?=some x:=⟨_,List.getElem?_eq_getElem hk⟩
  rw[chkT_succ hx,List.length_append,Nat.add_mul,Nat.one_mul]
  have:=chkT_len h k (by omega)
  have:=chk1_len (D:=D) (i:=k) (h.2 x (List.mem_of_getElem? hx))
  omega
theorem chk_l0{H D:List T}(h:OkD D):loopU u_entity_Check_l0 ((),[],D,(D.length:Int),(0:Int),H,D,())=some (.inl ((),idM D,H,D,())):=by
 have hgo:=loopU_for (F:=u_entity_Check_l0) D.length (fun k=>((),idM (D.take k),D,(D.length:Int),(k:Nat),H,D,())) fun k hk=>by
  obtain⟨x,hx⟩:∃x,D[k]?=some x:=⟨_,List.getElem?_eq_getElem hk⟩
  obtain⟨id,name,args,rfl,_⟩:=h.2 x (List.mem_of_getElem? hx)
  have h16:=h.1
  unfold u_entity_Check_l0
  simp only[ltI_eq,addI_eq]
  rw[decide_eq_true (by omega),idxL_nat,hx,idM_take hx,id_ent]
  simp only[cond_true,obS,show T.cell (entT id name args) 0=tI id from rfl,T_int]
  rw[wr64 (by omega) (by omega)]
  rfl
 rw[show ((),([]:List T),D,(D.length:Int),(0:Int),H,D,())=((),idM (D.take 0),D,(D.length:Int),((0:Nat):Int),H,D,()) from rfl]
 rw[hgo]
 refine loopU_out ?_
 unfold u_entity_Check_l0
 simp only[ltI_eq]
 rw[decide_eq_false (by omega),List.take_length]
 rfl
theorem wrong_eq(e id:Int):u_entity_wrong (e,id,())=some (e,id,(-1:Int),(-1:Int),(-1:Int),()):=rfl
theorem filt_take{D:List T}{x:T}{l:List Int}{j:Nat}{r:Int}(h:l[j]?=some r):chkR D x (l.take (j+1))=chkR D x (l.take j)++(if r∈ids D then [] else [(35,idT x)]):=by
 unfold chkR
 rw[List.take_add_one,h,List.filter_append,List.map_append]
 congr 1
 by_cases hr:r∈ids D <;> simp[hr]
theorem chk_l2{D M:List T}{o:List (Int×Int)}{x:T}{l:List Int}{i:Nat}{c1 c2:T}(hl:l.length≤524288)(ho:o.length≤10000000):
 loopU u_entity_Check_l2 (idM D,M,o.map dT,(),D,(D.length:Int),(i:Int),l.map tI,(l.length:Int),(0:Int),tI (idT x),c1,c2,())=some (.inl (idM D,M,(o++chkR D x l).map dT,D,(D.length:Int),(i:Int),())):=by
 have hgo:=loopU_for (F:=u_entity_Check_l2) l.length (fun k=>(idM D,M,(o++chkR D x (l.take k)).map dT,(),D,(D.length:Int),(i:Int),l.map tI,(l.length:Int),(k:Nat),tI (idT x),c1,c2,())) fun k hk=>by
  obtain⟨r,hr⟩:∃r,l[k]?=some r:=⟨_,List.getElem?_eq_getElem hk⟩
  have hlen:=chkR_len D x (l.take k)
  rw[List.length_take] at hlen
  unfold u_entity_Check_l2
  simp only[ltI_eq,addI_eq]
  rw[decide_eq_true (by omega),idxL_nat,List.getElem?_map,hr,filt_take hr]
  simp only[cond_true,Option.map_some,obS,T_cell_v,T_int,has_id,T_bool]
  have hw:wr .i64 ((k:Int)+1)=(k:Int)+1:=wr64 (by omega) (by omega)
  by_cases hD:r∈ids D
  ·rw[if_pos hD,decide_eq_true hD]
   simp[hw]
  ·rw[if_neg hD,decide_eq_false hD]
   simp only[Bool.not_false,cond_true,wrong_eq,obS]
   rw[room_ok (by simp only[List.length_map,List.length_append,List.length_cons,List.length_nil];omega) (by decide)]
   simp[hw,dT,vI]
 rw[show (idM D,M,o.map dT,(),D,(D.length:Int),(i:Int),l.map tI,(l.length:Int),(0:Int),tI (idT x),c1,c2,())=(idM D,M,(o++chkR D x (l.take 0)).map dT,(),D,(D.length:Int),(i:Int),l.map tI,(l.length:Int),((0:Nat):Int),tI (idT x),c1,c2,()) from by simp[chkR]]
 rw[hgo]
 refine loopU_out ?_
 unfold u_entity_Check_l2
 simp only[ltI_eq]
 rw[decide_eq_false (by omega),List.take_length]
 rfl
theorem e_Check{H D:List T}(h:OkD D):u_entity_Check (H,D,())=some ((chkT D D.length).map dT,()):=by
 unfold u_entity_Check
 simp only[lenL_eq]
 rw[chk_l0 h]
 simp only[obS,onS_l]
 have h16:=h.1
 have hgo:=loopU_for (F:=u_entity_Check_l1) D.length (fun k=>(idM D,idM (D.take k),(chkT D k).map dT,D,(D.length:Int),(k:Nat),())) fun k hk=>by
  obtain⟨x,hx⟩:∃x,D[k]?=some x:=⟨_,List.getElem?_eq_getElem hk⟩
  have hok:=h.2 x (List.mem_of_getElem? hx)
  have hlen:=chkT_len h k (by omega)
  have hrl:=rfs_len hok
  have hkb:k*524289≤16*524289:=Nat.mul_le_mul_right _ (by omega)
  rw[idM_take hx,chkT_succ hx]
  have hxid:idT x=idT x:=rfl
  obtain⟨id,name,args,e,ha1,ha2⟩:=hok
  have hid:idT x=id:=by rw[e,id_ent]
  have hrf:rfs x=refs 20 args:=by rw[e,rfs_ent]
  unfold u_entity_Check_l1
  simp only[ltI_eq,addI_eq]
  rw[decide_eq_true (by omega),idxL_nat,hx]
  simp only[cond_true,obS,show T.cell x 0=tI id from by rw[e];rfl,show T.cell x 1=.v (.string name) from by rw[e];rfl,show T.cell x 2=.sl 7 args from by rw[e];rfl,T_int,has_id,T_bool,hid]
  have hw:wr .i64 ((k:Int)+1)=(k:Int)+1:=wr64 (by omega) (by omega)
  unfold chk1
  rw[hid]
  by_cases hD:id∈ids (D.take k)
  ·rw[if_pos hD,decide_eq_true hD]
   simp only[cond_true,wrong_eq,obS]
   rw[room_ok (by simp only[List.length_map,List.length_cons,List.length_nil];omega) (by decide)]
   simp only[obS,onS_l,T_int,T_sl,e_refs ha1 ha2,lenL_eq,List.length_map]
   have hl2:=chk_l2 (D:=D) (M:=mapPut (tI id) (tB true) (idM (D.take k))) (o:=chkT D k++[(37,id)]) (x:=x) (l:=refs 20 args) (i:=k) (c1:=.v (.string name)) (c2:=.sl 7 args) (by rw[←hrf];exact hrl) (by rw[List.length_append,List.length_singleton];omega)
   rw[hid] at hl2
   rw[List.map_append] at hl2
   rw[show List.map dT (chkT D k)++[T.agg [T.v (Value.int IntKind.i64 37),T.v (Value.int IntKind.i64 id),T.v (Value.int IntKind.i64 (-1)),T.v (Value.int IntKind.i64 (-1)),T.v (Value.int IntKind.i64 (-1))]]=List.map dT (chkT D k)++List.map dT [(37,id)] from rfl,hl2]
   simp[hw,hrf]
  ·rw[if_neg hD,decide_eq_false hD]
   simp only[cond_false,obS,onS_l,T_int,T_sl,e_refs ha1 ha2,lenL_eq,List.length_map]
   have hl2:=chk_l2 (D:=D) (M:=mapPut (tI id) (tB true) (idM (D.take k))) (o:=chkT D k) (x:=x) (l:=refs 20 args) (i:=k) (c1:=.v (.string name)) (c2:=.sl 7 args) (by rw[←hrf];exact hrl) (by omega)
   rw[hid] at hl2
   rw[hl2]
   simp[hw,hrf]
 rw[show (idM D,([]:List T),([]:List T),D,(D.length:Int),(0:Int),())=(idM D,idM (D.take 0),(chkT D 0).map dT,D,(D.length:Int),((0:Nat):Int),()) from rfl]
 rw[hgo,loopU_out (e:=.inl ((chkT D D.length).map dT,())) (by
  unfold u_entity_Check_l1
  simp only[ltI_eq]
  rw[decide_eq_false (by omega)]
  rfl)]
 rfl
end Go.Eng.En
namespace Go.Eng.En
open Go.Eng
theorem order1{r:Int}{M:List T}{S:Int→Bool}(hM:IsS M S):u_entity_Order_1 (r,(),M,())=some (!S r,M,()):=by
 unfold u_entity_Order_1
 simp only[hM r]
 rfl
theorem idx_loop{l:List Int}{M:List T}{S:Int→Bool}(hM:IsS M S)(hl:l.length≤524288):∀j k,k+j=l.length →
 ∃e,loopU u_slices_IndexFunc___int_int__l0 (l.map tI,(),(l.length:Int),(k:Nat),M,())=some e ∧
  (if (l.drop k).any (fun r=>!S r) then ∃q:Nat,e=.inl ((q:Int),M,()) else e=.inr (.inl (M,())))
 | 0,k,hk=>by
  refine⟨.inr (.inl (M,())),loopU_out ?_,?_⟩
  ·unfold u_slices_IndexFunc___int_int__l0
   simp only[ltI_eq]
   rw[decide_eq_false (by omega)]
   rfl
  ·rw[List.drop_of_length_le (by omega)];rfl
 | j+1,k,hk=>by
  obtain⟨r,hr⟩:∃r,l[k]?=some r:=⟨_,List.getElem?_eq_getElem (by omega)⟩
  have hdr:l.drop k=r::l.drop (k+1):=by
   obtain⟨h,rfl⟩:=List.getElem?_eq_some_iff.1 hr
   exact List.drop_eq_getElem_cons h
  have hF:u_slices_IndexFunc___int_int__l0 (l.map tI,(),(l.length:Int),(k:Nat),M,())=if S r then some (.inl (l.map tI,(),(l.length:Int),((k+1:Nat):Int),M,())) else some (.inr (.inl ((k:Int),M,()))):=by
   unfold u_slices_IndexFunc___int_int__l0
   simp only[ltI_eq,addI_eq]
   rw[decide_eq_true (by omega),idxL_nat,List.getElem?_map,hr]
   simp only[cond_true,Option.map_some,obS,T_cell_v,T_int,order1 hM]
   rw[wr64 (by omega) (by omega)]
   cases S r <;> rfl
  rw[hdr,List.any_cons]
  cases hS:S r with
  | false=>
   rw[hS] at hF
   exact⟨_,loopU_out hF,by simp;exact⟨k,rfl⟩⟩
  | true=>
   rw[hS] at hF
   obtain⟨e,h1,h2⟩:=idx_loop hM hl j (k+1) (by omega)
   exact⟨e,(loopU_go hF).trans h1,by simpa using h2⟩
theorem e_Contains{l:List Int}{M:List T}{S:Int→Bool}(hM:IsS M S)(hl:l.length≤524288):u_slices_ContainsFunc___int_int_ (l.map tI,(),M,())=some (l.any (fun r=>!S r),M,()):=by
 unfold u_slices_ContainsFunc___int_int_ u_slices_IndexFunc___int_int_
 simp only[lenL_eq,List.length_map]
 obtain⟨e,h1,h2⟩:=idx_loop hM hl l.length 0 (Nat.zero_add _)
 rw[show ((0:Nat):Int)=0 from rfl] at h1
 rw[h1]
 rw[List.drop_zero] at h2
 cases hb:l.any (fun r=>!S r) with
 | true=>
  rw[hb,if_pos rfl] at h2
  obtain⟨q,rfl⟩:=h2
  simp
 | false=>
  rw[hb] at h2
  simp only[Bool.false_eq_true,if_false] at h2
  subst h2
  simp
def good(D:List T)(S:Int→Bool)(k:Nat):Bool:=match D[k]? with
 | some x=>!S (idT x)&&!(rfs x).any (fun r=>!S r)
 | none=>false
def nxt(D:List T)(S:Int→Bool):Nat→Nat→Nat
 | 0,k=>k
 | j+1,k=>if good D S k then k else nxt D S j (k+1)
def rowsR(D:List T):List T:=D.map fun x=>.sl 1 ((rfs x).map tI)
theorem upd_sl(x:Value)(l:List T):T.upd 1 (.v x) 0 [.sl 1 l]=.sl 1 l:=by unfold T.upd;rfl
theorem ord_l2{D H out M:List T}{S:Int→Bool}(hM:IsS M S)(hD:OkD D):∀j k,k+j=D.length →
 loopU u_entity_Order_l2 ((),rowsR D,(),out,(k:Nat),H,D,M,())=some (.inl ((),rowsR D,(),out,(nxt D S j k:Nat),H,D,M,()))
 | 0,k,hk=>by
  refine loopU_out ?_
  unfold u_entity_Order_l2
  simp only[ltI_eq,lenL_eq]
  rw[decide_eq_false (by omega)]
  rfl
 | j+1,k,hk=>by
  have h16:=hD.1
  obtain⟨x,hx⟩:∃x,D[k]?=some x:=⟨_,List.getElem?_eq_getElem (by omega)⟩
  have hok:=hD.2 x (List.mem_of_getElem? hx)
  have hrl:=rfs_len hok
  obtain⟨id,name,args,e,ha1,ha2⟩:=hok
  have hid:idT x=id:=by rw[e,id_ent]
  have hF:u_entity_Order_l2 ((),rowsR D,(),out,(k:Nat),H,D,M,())=if good D S k then some (.inr (.inl ((),rowsR D,(),out,(k:Nat),H,D,M,()))) else some (.inl ((),rowsR D,(),out,((k+1:Nat):Int),H,D,M,())):=by
   unfold u_entity_Order_l2 good
   simp only[ltI_eq,addI_eq,lenL_eq,hx,hid]
   rw[decide_eq_true (by omega),idxL_nat,hx,wr64 (by omega) (by omega)]
   simp only[cond_true,obS,show T.cell x 0=tI id from by rw[e];rfl,T_int,hM id,show T.one? (tB (S id))=some (tB (S id)) from rfl,T_bool]
   cases hS:S id with
   | true=>simp
   | false=>
    simp only[cond_false,rowsR,List.length_map]
    rw[chkI_nat (by omega)]
    simp only[obS,idxN_eq,List.getElem?_map,hx,Option.map_some,T_cell_sl,T_sl,e_Contains hM hrl]
    cases(rfs x).any (fun r=>!S r) <;> rfl
  simp only[nxt]
  cases hg:good D S k with
  | true=>
   rw[hg] at hF
   exact loopU_out hF
  | false=>
   rw[hg] at hF
   exact(loopU_go hF).trans (ord_l2 hM hD j (k+1) (by omega))
theorem nxt_le(D:List T)(S:Int→Bool):∀j k,k+j=D.length→nxt D S j k≤D.length
 | 0,k,h=>by simp only[nxt];omega
 | j+1,k,h=>by
  simp only[nxt]
  split
  ·omega
  ·exact nxt_le D S j (k+1) (by omega)
theorem nxt_good(D:List T)(S:Int→Bool):∀j k,k+j=D.length→nxt D S j k<D.length→good D S (nxt D S j k)=true
 | 0,k,h,h2=>by simp only[nxt] at h2;omega
 | j+1,k,h,h2=>by
  simp only[nxt] at h2 ⊢
  split
  ·assumption
  ·rename_i hn
   rw[if_neg hn] at h2
   exact nxt_good D S j (k+1) (by omega) h2
def tkn(D:List T)(out:List Nat):List Int:=out.map fun i=>idT (D.getD i (.agg []))
def tS(D:List T)(out:List Nat)(i:Int):Bool:=decide (i∈tkn D out)
noncomputable def tkM(D:List T)(out:List Nat):List T:=out.foldl (fun m i=>mapPut (tI (idT (D.getD i (.agg [])))) (tB true) m) []
theorem tkM_snoc(D:List T)(out:List Nat)(i:Nat):tkM D (out++[i])=mapPut (tI (idT (D.getD i (.agg [])))) (tB true) (tkM D out):=by unfold tkM;rw[List.foldl_append];rfl
theorem tkM_has(D:List T):∀out:List Nat,IsS (tkM D out) (tS D out):=by
 intro l
 induction h:l.length generalizing l with
 | zero=>rw[List.length_eq_zero_iff.1 h];intro i;exact get_nil _ _
 | succ n ih=>
  obtain⟨l',x,rfl⟩:∃l' x,l=l'++[x]:=⟨l.dropLast,l.getLast (by intro e;subst e;cases h),(List.dropLast_concat_getLast _).symm⟩
  have:=(ih l' (by simp at h;omega)).put (idT (D.getD x (.agg [])))
  rw[←tkM_snoc] at this
  intro i
  rw[this i]
  congr 1
  rw[Bool.eq_iff_iff]
  simp[tS,tkn,or_comm]
def ordS(D:List T):Nat→List Nat→Option (List Nat)
 | 0,out=>some out
 | n+1,out=>if nxt D (tS D out) D.length 0=D.length then none else ordS D n (out++[nxt D (tS D out) D.length 0])
theorem ord_l0{H D:List T}(hD:OkD D):loopU u_entity_Order_l0 ((),List.replicate D.length (.v (.slice none 0 0)),D,(D.length:Int),(0:Int),H,D,())=some (.inl ((),rowsR D,H,D,())):=by
 have h16:=hD.1
 have hgo:=loopU_for (F:=u_entity_Order_l0) D.length (fun k=>((),rowsR (D.take k)++List.replicate (D.length-k) (.v (.slice none 0 0)),D,(D.length:Int),(k:Nat),H,D,())) fun k hk=>by
  obtain⟨x,hx⟩:∃x,D[k]?=some x:=⟨_,List.getElem?_eq_getElem hk⟩
  have hok:=hD.2 x (List.mem_of_getElem? hx)
  obtain⟨id,name,args,e,ha1,ha2⟩:=hok
  have hrf:rfs x=refs 20 args:=by rw[e,rfs_ent]
  have hlen:(rowsR (D.take k)).length=k:=by unfold rowsR;rw[List.length_map,List.length_take];omega
  unfold u_entity_Order_l0
  simp only[ltI_eq,addI_eq,lenL_eq,List.length_append,hlen,List.length_replicate]
  rw[decide_eq_true (by omega),idxL_nat,hx,wr64 (by omega) (by omega),chkI_nat (by omega)]
  have hget:(rowsR (D.take k)++List.replicate (D.length-k) (T.v (.slice none 0 0)))[k]?=some (.v (.slice none 0 0)):=by
   rw[List.getElem?_append_right (by omega),hlen,Nat.sub_self,List.getElem?_replicate]
   rw[if_pos (by omega)]
  simp only[cond_true,obS,show T.cell x 2=.sl 7 args from by rw[e];rfl,T_sl,e_refs ha1 ha2,idxN_eq,hget,upd_sl]
  have hset:(rowsR (D.take k)++List.replicate (D.length-k) (T.v (.slice none 0 0))).set k (.sl 1 ((refs 20 args).map tI))=rowsR (D.take (k+1))++List.replicate (D.length-(k+1)) (T.v (.slice none 0 0)):=by
   rw[List.set_append_right _ _ (by omega),hlen,Nat.sub_self,show D.length-k=D.length-(k+1)+1 from by omega,List.replicate_succ,List.set_cons_zero,List.take_add_one,hx]
   unfold rowsR
   rw[List.map_append]
   simp[hrf]
  rw[hset]
  rfl
 rw[show ((),List.replicate D.length (T.v (.slice none 0 0)),D,(D.length:Int),(0:Int),H,D,())=((),rowsR (D.take 0)++List.replicate (D.length-0) (T.v (.slice none 0 0)),D,(D.length:Int),((0:Nat):Int),H,D,()) from rfl]
 rw[hgo]
 refine loopU_out ?_
 unfold u_entity_Order_l0
 simp only[ltI_eq]
 rw[decide_eq_false (by omega),List.take_length,Nat.sub_self,List.replicate_zero,List.append_nil]
 rfl
def tN(i:Nat):T:=tI (i:Int)
theorem ord_l1{D H:List T}(hD:OkD D):∀(n:Nat) (out:List Nat),out.length+n=D.length →
 loopU u_entity_Order_l1 ((),rowsR D,(),out.map tN,H,D,tkM D out,())=some (match ordS D n out with
  | none=>.inl (.v (.slice none 0 0),false,())
  | some o=>.inr (.inl (o.map tN,())))
 | 0,out,h=>by
  refine loopU_out ?_
  unfold u_entity_Order_l1
  simp only[ltI_eq,lenL_eq,List.length_map]
  rw[decide_eq_false (by omega)]
  rfl
 | n+1,out,h=>by
  have h16:=hD.1
  have hl2:=ord_l2 (H:=H) (out:=out.map tN) (tkM_has D out) hD D.length 0 (Nat.zero_add _)
  rw[show ((0:Nat):Int)=0 from rfl] at hl2
  have hle:=nxt_le D (tS D out) D.length 0 (Nat.zero_add _)
  simp only[ordS]
  generalize nxt D (tS D out) D.length 0=q at hl2 hle
  by_cases hq:q=D.length
  ·rw[if_pos hq]
   refine loopU_out ?_
   unfold u_entity_Order_l1
   simp only[ltI_eq,lenL_eq,List.length_map]
   rw[decide_eq_true (by omega),hl2]
   simp only[cond_true,obS,onS_l,eqI_eq]
   rw[decide_eq_true (by omega)]
   rfl
  ·rw[if_neg hq]
   obtain⟨x,hx⟩:∃x,D[q]?=some x:=⟨_,List.getElem?_eq_getElem (by omega)⟩
   obtain⟨id,name,args,e,ha1,ha2⟩:=hD.2 x (List.mem_of_getElem? hx)
   have hF:u_entity_Order_l1 ((),rowsR D,(),out.map tN,H,D,tkM D out,())=some (.inl ((),rowsR D,(),(out++[q]).map tN,H,D,tkM D (out++[q]),())):=by
    unfold u_entity_Order_l1
    simp only[ltI_eq,lenL_eq,List.length_map]
    rw[decide_eq_true (by omega),hl2]
    simp only[cond_true,obS,onS_l,eqI_eq]
    rw[decide_eq_false (by omega)]
    simp only[cond_false,idxL_nat,hx,obS,show T.cell x 0=tI id from by rw[e];rfl,T_int]
    rw[room_ok (by simp only[List.length_map,List.length_cons,List.length_nil];omega) (by decide)]
    rw[tkM_snoc,List.getD_eq_getElem?_getD,hx,Option.getD_some,e,id_ent,List.map_append]
    rfl
   exact(loopU_go hF).trans (ord_l1 hD n (out++[q]) (by rw[List.length_append,List.length_singleton];omega))
theorem e_Order{H D:List T}(hD:OkD D):u_entity_Order (H,D,())=some (if chkT D D.length=[] then (match ordS D D.length [] with
 | none=>([],false,())
 | some o=>(o.map tN,true,())) else ([],false,())):=by
 have h16:=hD.1
 unfold u_entity_Order
 rw[e_Check hD]
 simp only[obS,ltI_eq,lenL_eq,List.length_map]
 by_cases hc:chkT D D.length=[]
 ·rw[if_pos hc,hc]
  simp only[List.length_nil]
  rw[show decide ((0:Int)<((0:Nat):Int))=false from rfl]
  simp only[cond_false]
  rw[mkLen_ok (by omega) (Int.le_refl _) (by omega) (by decide)]
  simp only[obS,repL_eq,Int.toNat_natCast]
  rw[ord_l0 hD]
  simp only[obS,onS_l]
  have h1:=ord_l1 (H:=H) hD D.length [] (by simp)
  rw[show (([]:List Nat).map tN)=[] from rfl,show tkM D []=[] from rfl] at h1
  rw[h1]
  cases ordS D D.length [] with
  | none=>rfl
  | some o=>rfl
 ·rw[if_neg hc]
  rw[decide_eq_true (by have:0<(chkT D D.length).length:=List.length_pos_iff.2 hc;omega)]
  rfl
end Go.Eng.En
namespace Go.Eng.En
open Go.Eng
def GoodO(D:List T)(o:List Nat):Prop:=∀p q,o[p]?=some q→q<D.length∧good D (tS D (o.take p)) q=true
theorem ordS_good{D:List T}:∀(n:Nat) (out o:List Nat),ordS D n out=some o→GoodO D out→GoodO D o∧o.length=out.length+n
 | 0,out,o,h,hg=>by simp only[ordS,Option.some.injEq] at h;subst h;exact⟨hg,rfl⟩
 | n+1,out,o,h,hg=>by
  simp only[ordS] at h
  split at h
  ·cases h
  rename_i hq
  have hle:=nxt_le D (tS D out) D.length 0 (Nat.zero_add _)
  have hgd:=nxt_good D (tS D out) D.length 0 (Nat.zero_add _) (by omega)
  generalize nxt D (tS D out) D.length 0=q at h hq hle hgd
  obtain⟨h1,h2⟩:=ordS_good n (out++[q]) o h fun p r hp=>by
   by_cases hlt:p<out.length
   ·rw[List.getElem?_append_left hlt] at hp
    rw[List.take_append_of_le_length (by omega)]
    exact hg p r hp
   ·rw[List.getElem?_append_right (by omega)] at hp
    obtain⟨h0,_⟩:=List.getElem?_eq_some_iff.1 hp
    have hpe:p=out.length:=by simp at h0;omega
    subst hpe
    rw[Nat.sub_self] at hp
    cases hp
    rw[List.take_left']
    ·exact⟨by omega,hgd⟩
    ·rfl
  exact⟨h1,by rw[h2,List.length_append,List.length_singleton];omega⟩
theorem law_l1{x:List T}{M:List T}{xi:T}{l:List Int}{n i:Int}{H D:List T}{S:Int→Bool}(hM:IsS M S)(hl:l.length≤524288)(hall:l.any (fun r=>!S r)=false):
 loopU u_brepkernellaw24_EntityOrders_l1 ((),x,M,xi,x,n,i,l.map tI,(l.length:Int),(0:Int),H,D,())=some (.inr (.inl ((),x,M,xi,x,n,i,H,D,()))):=by
 have hgo:=loopU_for (F:=u_brepkernellaw24_EntityOrders_l1) l.length (fun k=>((),x,M,xi,x,n,i,l.map tI,(l.length:Int),(k:Nat),H,D,()))  fun k hk=>by
  obtain⟨r,hr⟩:∃r,l[k]?=some r:=⟨_,List.getElem?_eq_getElem hk⟩
  have hS:S r=true:=by
   have:=List.any_eq_false.1 hall r (List.mem_of_getElem? hr)
   simpa using this
  unfold u_brepkernellaw24_EntityOrders_l1
  simp only[ltI_eq,addI_eq]
  rw[decide_eq_true (by omega),idxL_nat,List.getElem?_map,hr,wr64 (by omega) (by omega)]
  simp only[cond_true,Option.map_some,obS,T_cell_v,T_int,hM r,hS,show T.one? (tB true)=some (tB true) from rfl,T_bool]
  rfl
 rw[show (0:Int)=((0:Nat):Int) from rfl,hgo]
 refine loopU_out ?_
 unfold u_brepkernellaw24_EntityOrders_l1
 simp only[ltI_eq]
 rw[decide_eq_false (by omega)]
 rfl
theorem law_l0{H D:List T}{o:List Nat}(hD:OkD D)(ho:GoodO D o)(hn:o.length=D.length):
 loopU u_brepkernellaw24_EntityOrders_l0 ((),o.map tN,[],o.map tN,(o.length:Int),(0:Int),H,D,())=some (.inr (.inl ((),o.map tN,H,D,()))):=by
 have h16:=hD.1
 have hgo:=loopU_for (F:=u_brepkernellaw24_EntityOrders_l0) o.length (fun k=>((),o.map tN,tkM D (o.take k),o.map tN,(o.length:Int),(k:Nat),H,D,())) fun k hk=>by
  obtain⟨q,hq⟩:∃q,o[k]?=some q:=⟨_,List.getElem?_eq_getElem hk⟩
  obtain⟨hq1,hq2⟩:=ho k q hq
  obtain⟨x,hx⟩:∃x,D[q]?=some x:=⟨_,List.getElem?_eq_getElem hq1⟩
  have hok:=hD.2 x (List.mem_of_getElem? hx)
  have hrl:=rfs_len hok
  obtain⟨id,name,args,e,ha1,ha2⟩:=hok
  have hid:idT x=id:=by rw[e,id_ent]
  have hrf:rfs x=refs 20 args:=by rw[e,rfs_ent]
  unfold good at hq2
  rw[hx] at hq2
  simp only[Bool.and_eq_true,Bool.not_eq_true'] at hq2
  obtain⟨g1,g2⟩:=hq2
  rw[hid] at g1
  have hM:=tkM_has D (o.take k)
  have htk:tkM D (o.take (k+1))=mapPut (tI id) (tB true) (tkM D (o.take k)):=by
   rw[List.take_add_one,hq,Option.toList_some,tkM_snoc,List.getD_eq_getElem?_getD,hx,Option.getD_some,hid]
  unfold u_brepkernellaw24_EntityOrders_l0
  simp only[ltI_eq,addI_eq,leI_eq,lenL_eq]
  rw[decide_eq_true (by omega),idxL_nat,List.getElem?_map,hq]
  simp only[cond_true,Option.map_some,obS,tN,T_cell_v,T_int,T_anyInt]
  rw[decide_eq_false (by omega),decide_eq_false (by omega)]
  simp only[cond_false,obS,T_int,T_anyInt,idxL_nat,hx,show T.cell x 0=tI id from by rw[e];rfl,show T.cell x 2=.sl 7 args from by rw[e];rfl,hM id,g1,show T.one? (tB false)=some (tB false) from rfl,T_bool,T_sl,e_Refs ha1 ha2,lenL_eq,List.length_map]
  rw[←hrf,law_l1 hM hrl g2]
  simp only[obS,onS_r,onS_l,T_anyInt,idxL_nat,hx,show T.cell x 0=tI id from by rw[e];rfl,T_int]
  rw[wr64 (by omega) (by omega),htk]
  rfl
 rw[show ((),o.map tN,([]:List T),o.map tN,(o.length:Int),(0:Int),H,D,())=((),o.map tN,tkM D (o.take 0),o.map tN,(o.length:Int),((0:Nat):Int),H,D,()) from rfl,hgo]
 refine loopU_out ?_
 unfold u_brepkernellaw24_EntityOrders_l0
 simp only[ltI_eq]
 rw[decide_eq_false (by omega)]
 rfl
end Go.Eng.En
namespace Go.Eng.Rt
open Go.Eng
def En(D k:Nat)(q:Rat):Prop:=∃m:Nat,m≤k∧q=mkRat (m:Int) D
theorem En.add{D a b:Nat}{p q:Rat}(hD:D≠0)(hp:En D a p)(hq:En D b q):En D (a+b) (p+q):=by
 obtain⟨m,hm,rfl⟩:=hp
 obtain⟨n,hn,rfl⟩:=hq
 refine⟨m+n,by omega,?_⟩
 rw[Rat.mkRat_add_mkRat _ _ hD hD,Rat.mkRat_eq_iff (Nat.mul_ne_zero hD hD) hD]
 push_cast
 rw[←Int.add_mul,Int.mul_assoc]
theorem En.zero{D k:Nat}:En D k 0:=⟨0,Nat.zero_le _,by simp[Rat.zero_mkRat]⟩
theorem En.mono{D a b:Nat}{q:Rat}(h:En D a q)(hab:a≤b):En D b q:=by
 obtain⟨m,hm,e⟩:=h;exact⟨m,by omega,e⟩
theorem En.nn{D k:Nat}{q:Rat}(hD:D≠0)(h:En D k q):rNeg q=false:=by
 obtain⟨m,hm,rfl⟩:=h
 by_cases h0:m=0
 ·subst h0;simp[Rat.zero_mkRat];rfl
 ·exact mk_neg false hD h0
end Go.Eng.Rt
namespace Go.Eng.Rt
open Go.Eng
abbrev B64:Nat:=18446744073709551616
theorem wr32n(n:Nat):wr .u32 (n:Int)=((n%BB:Nat):Int):=by
 unfold wr IntKind.wrap
 simp only[IntKind.bits,IntKind.signed,Bool.false_and,Bool.false_eq_true,if_false]
 rw[show ((2:Int) ^ 32)=((BB:Nat):Int) from rfl]
 omega
theorem wr64n(n:Nat):wr .u64 (n:Int)=((n%B64:Nat):Int):=by
 unfold wr IntKind.wrap
 simp only[IntKind.bits,IntKind.signed,Bool.false_and,Bool.false_eq_true,if_false]
 rw[show ((2:Int) ^ 64)=((B64:Nat):Int) from rfl]
 omega
theorem wr64s{n:Nat}(h:n<B64):wr .u64 (n:Int)=(n:Int):=by rw[wr64n,Nat.mod_eq_of_lt h]
theorem wri{n:Nat}(h:n<4611686018427387904):wr .i64 (n:Int)=(n:Int):=wr64 (by omega) (by omega)
theorem wri'{n:Int}(h0:-4611686018427387904<n)(h:n<4611686018427387904):wr .i64 n=n:=wr64 (by omega) (by omega)
theorem shr32(n:Nat):shrI .u64 (n:Int) 32=((n/BB:Nat):Int):=by
 unfold shrI
 rw[show ((2:Int) ^ (min (Int.toNat 32) (IntKind.bits .u64)))=((BB:Nat):Int) from rfl,Int.fdiv_eq_ediv_of_nonneg _ (by omega)]
 exact(Int.natCast_ediv n BB).symm
theorem shl32(n:Nat):shlI .u64 (n:Int) 32=((n*BB:Nat):Int):=by
 unfold shlI
 rw[show ((2:Int) ^ (min (Int.toNat 32) (IntKind.bits .u64)))=((BB:Nat):Int) from rfl]
 exact(Int.natCast_mul n BB).symm
theorem nn32:nn (32:Int)=some 32:=by unfold nn;rfl
theorem or_disj{a b:Nat}(h:a<BB):a ||| (b*BB)=a+b*BB:=by
 rw[Nat.or_comm,Nat.add_comm,show b*BB=b <<< 32 by rw[Nat.shiftLeft_eq]]
 exact(Nat.shiftLeft_add_eq_or_of_lt (by simpa using h) b).symm
theorem or64{a b:Nat}(ha:a<BB)(hb:b<BB):bitI .or .u64 (a:Int) ((b*BB:Nat):Int)=((a+b*BB:Nat):Int):=by
 have hlt:a+b*BB<B64:=by simp only[BB,B64] at *;omega
 unfold bitI
 have e:∀n:Nat,n<B64→(BitVec.ofInt 64 (n:Int)).toNat=n:=fun n hn=>by
  rw[BitVec.ofInt_natCast,BitVec.toNat_ofNat]
  exact Nat.mod_eq_of_lt (by simp only[B64] at hn;omega)
 show IntKind.wrap .u64 (((BitVec.ofInt 64 (a:Int) ||| BitVec.ofInt 64 ((b*BB:Nat):Int)).toNat:Nat):Int)=_
 rw[BitVec.toNat_or,e a (by simp only[BB,B64] at *;omega),e (b*BB) (by simp only[BB,B64] at *;omega),or_disj ha]
 have:=wr64s hlt
 unfold wr at this
 exact this
theorem lmL_get(l:List Nat)(i:Nat):(lmL l)[i]?=(l[i]?).map limT:=by simp[lmL]
theorem limT_cell(n:Nat):T.cell (limT n) 0=limT n:=rfl
theorem limT_int(n:Nat):T.int? .u32 (limT n)=some (n:Int):=by unfold limT;simp
theorem limT_any(n:Nat):T.anyInt? (limT n)=some (n:Int):=rfl
theorem lmL_take(l:List Nat)(k:Nat):(lmL l).take k=lmL (l.take k):=by unfold lmL;simp
theorem Lim.take{l:List Nat}(h:Lim l)(k:Nat):Lim (l.take k):=fun x hx=>h x (List.mem_of_mem_take hx)
theorem Lim.drop{l:List Nat}(h:Lim l)(k:Nat):Lim (l.drop k):=fun x hx=>h x (List.mem_of_mem_drop hx)
theorem Lim.get{l:List Nat}(h:Lim l){i:Nat}{x:Nat}(hi:l[i]?=some x):x<BB:=h x (List.mem_of_getElem? hi)
theorem Lim.set{l:List Nat}(h:Lim l){x:Nat}(hx:x<BB)(i:Nat):Lim (l.set i x):=fun y hy=>by
 rcases List.mem_or_eq_of_mem_set hy with h1 | h1
 ·exact h y h1
 ·subst h1;exact hx
theorem trimN_pre(l:List Nat):trimN l <+: l:=by
 unfold trimN
 have:=List.dropWhile_suffix (l:=l.reverse) (·==0)
 have h2:=List.reverse_prefix.2 this
 simpa using h2
theorem trimN_take(l:List Nat):l.take (trimN l).length=trimN l:=(List.prefix_iff_eq_take.1 (trimN_pre l)).symm
theorem trimN_le(l:List Nat):(trimN l).length≤l.length:=(trimN_pre l).length_le
theorem lim_trim{l:List Nat}(h:Lim l):lmL (trimN l)=lm (val l):=by rw[lm,limbs_val h]
theorem lm_len(n:Nat):(lm n).length=(limbs n).length:=by simp[lm,lmL]
theorem lm_len0{n:Nat}:(lm n).length=0↔n=0:=by
 rw[lm_len]
 constructor
 ·intro h
  rcases Nat.eq_zero_or_pos n with h0 | h0
  ·exact h0
  ·rw[limbs_pos (by omega)] at h;simp at h
 ·intro h;subst h;rw[limbs_zero];rfl
theorem lm_le1{n:Nat}:(lm n).length≤1↔n<BB:=by rw[lm_len,limbs_len];simp
def cmpN(a b:Nat):Int:=if a<b then -1 else if a=b then 0 else 1
theorem val_split{l:List Nat}{i x:Nat}(hi:l[i]?=some x):val l=val (l.take i)+BB ^ i*(x+BB*val (l.drop (i+1))):=by
 have hlt:i<l.length:=(List.getElem?_eq_some_iff.1 hi).1
 have hx:l[i]=x:=by rw[List.getElem?_eq_getElem hlt] at hi;exact Option.some.inj hi
 have h1:val (l.take i++l.drop i)=val l:=by rw[List.take_append_drop]
 rw[←h1,val_append,List.drop_eq_getElem_cons hlt,hx,val,List.length_take,Nat.min_eq_left (Nat.le_of_lt hlt)]
theorem val_lt_of{a b:List Nat}(ha:Lim a){i x y:Nat}(hx:a[i]?=some x)(hy:b[i]?=some y)(hxy:x<y)(hd:a.drop (i+1)=b.drop (i+1)):val a<val b:=by
 rw[val_split hx,val_split hy,hd]
 have hlt:i<a.length:=(List.getElem?_eq_some_iff.1 hx).1
 have h1:=val_lt (ha.take i)
 rw[List.length_take,Nat.min_eq_left (Nat.le_of_lt hlt)] at h1
 have h2:BB ^ i*(x+1+BB*val (b.drop (i+1)))≤BB ^ i*(y+BB*val (b.drop (i+1))):=Nat.mul_le_mul_left _ (by omega)
 rw[show x+1+BB*val (b.drop (i+1))=(x+BB*val (b.drop (i+1)))+1 by omega,Nat.mul_add] at h2
 omega
end Go.Eng.Rt
namespace Go.Eng.Rt
open Go.Eng
abbrev LM:Nat:=1000000
theorem r_trim_loop(l:List Nat)(hl:l.length<LM):∀n,n≤l.length→loopU u_ref01_Trim_l0 (lmL l,(n:Int),())=some (.inl (lmL l,(((trimN (l.take n)).length:Nat):Int),())):=by
 intro n
 induction n with
 | zero=>intro _;exact loopU_out (by simp[u_ref01_Trim_l0,trimN])
 | succ n ih=>
  intro hn
  have hlt:n<l.length:=hn
  have ht:l.take (n+1)=l.take n++[l[n]]:=List.take_succ_eq_append_getElem hlt
  have step:u_ref01_Trim_l0 (lmL l,((n+1:Nat):Int),())=if l[n]=0 then some (.inl (lmL l,(n:Int),())) else some (.inr (.inl (lmL l,((n+1:Nat):Int),()))):=by
   unfold u_ref01_Trim_l0
   simp only[ltI_eq,subI_eq]
   rw[decide_eq_true (by omega),show ((n+1:Nat):Int)-1=(n:Int) by omega,wri (by simp only[LM] at hl;omega),idxL_nat,lmL_get,List.getElem?_eq_getElem hlt]
   simp only[cond_true,Option.map_some,obS,limT_cell,limT_int,eqI_eq]
   by_cases h0:l[n]=0
   ·rw[if_pos h0,decide_eq_true (by omega)];rfl
   ·rw[if_neg h0,decide_eq_false (by omega)];rfl
  rw[ht]
  by_cases h0:l[n]=0
  ·rw[if_pos h0] at step
   rw[loopU_go step,ih (by omega),h0,trimN_snoc0]
  ·rw[if_neg h0] at step
   rw[loopU_out step,trimN_snoc h0]
   simp only[List.length_append,List.length_take,Nat.min_eq_left (Nat.le_of_lt hlt),List.length_cons,List.length_nil]
theorem lm_val_len{l:List Nat}(h:Lim l):(lm (val l)).length≤l.length:=by rw[←lim_trim h,lmL_len];exact trimN_le l
theorem r_Trim{l:List Nat}(h:Lim l)(hl:l.length<LM):u_ref01_Trim (lmL l,())=some (lm (val l),()):=by
 unfold u_ref01_Trim
 have e:=r_trim_loop l hl l.length (Nat.le_refl _)
 rw[List.take_length] at e
 simp only[lenL_eq,lmL_len,e,obS,onS_l]
 rw[cutL_int (by omega) (by omega) (by rw[lmL_len];have:=trimN_le l;omega)]
 simp only[Int.toNat_natCast,Int.toNat_zero,List.drop_zero,obS,lmL_take,trimN_take,lim_trim h]
 have hlen:=lm_val_len h
 rw[room_ok (by simp only[List.length_nil];simp only[LM] at hl;omega) (by decide)]
 rfl
theorem r_Trim'{n:Nat}(h:(limbs n).length<LM):u_ref01_Trim (lm n,())=some (lm n,()):=by
 have:=r_Trim (lim_limbs n) h
 rw[val_limbs] at this
 exact this
theorem lm_small{n:Nat}(h:n<B64):(limbs n).length<LM:=by
 have:(limbs n).length≤2:=limbs_len.2 h
 simp only[LM];omega
theorem r_Of{n:Nat}(h:n<B64):u_ref01_Of ((n:Int),())=some (lm n,()):=by
 unfold u_ref01_Of
 simp only[nn32,obS,wr32n,shr32]
 have hd:n/BB<BB:=Nat.div_lt_of_lt_mul h
 have e:=r_Trim (l:=[n%BB,n/BB%BB]) (Lim.cons (Nat.mod_lt _ (by decide)) (Lim.cons (Nat.mod_lt _ (by decide)) Lim.nil)) (by simp only[List.length_cons,List.length_nil,LM];omega)
 have hv:val [n%BB,n/BB%BB]=n:=by
  rw[Nat.mod_eq_of_lt hd]
  simp only[val,Nat.mul_zero,Nat.add_zero]
  exact Nat.mod_add_div n BB
 rw[hv] at e
 simp only[lmL,List.map_cons,List.map_nil,limT] at e
 rw[e]
 rfl
theorem r_small{l:List Nat}(h:Lim l):u_ref01_small (lmL l,())=some (if l.length≤2 then (val l:Int) else 0,decide (l.length≤2),()):=by
 match l,h with
 | [],_=>unfold u_ref01_small;simp[lmL,val]
 | [a],h=>
  have ha:=h.head
  unfold u_ref01_small
  simp only[lenL_eq,lmL_len,List.length_cons,List.length_nil,eqI_eq]
  rw[idxL_int _ (by omega)]
  simp[lmL,limT_cell,limT_any,val,wr64s (show a<B64 by simp only[BB,B64] at *;omega)]
 | [a,b],h=>
  have ha:=h.head
  have hb:=h.tail.head
  unfold u_ref01_small
  simp only[lenL_eq,lmL_len,List.length_cons,List.length_nil,eqI_eq]
  rw[idxL_int _ (by omega),idxL_int _ (by omega)]
  have e1:wr .u64 (a:Int)=(a:Int):=wr64s (by simp only[BB,B64] at *;omega)
  have e2:wr .u64 (b:Int)=(b:Int):=wr64s (by simp only[BB,B64] at *;omega)
  have e3:wr .u64 ((b*BB:Nat):Int)=((b*BB:Nat):Int):=wr64s (by simp only[BB,B64] at *;omega)
  have g0:(lmL [a,b])[(0:Int).toNat]?=some (limT a):=rfl
  have g1:(lmL [a,b])[(1:Int).toNat]?=some (limT b):=rfl
  rw[g0,g1,decide_eq_false (by omega),decide_eq_false (by omega),decide_eq_true (by omega)]
  simp only[cond_false,cond_true,obS,limT_cell,limT_any,nn32,e1,e2,shl32,e3,or64 ha hb]
  rw[if_pos (by omega),decide_eq_true (by omega)]
  simp only[val,Nat.mul_zero,Nat.add_zero]
  rw[Nat.mul_comm b BB]
 | a::b::c::l,h=>
  unfold u_ref01_small
  simp only[lenL_eq,lmL_len,List.length_cons,eqI_eq]
  rw[decide_eq_false (by omega),decide_eq_false (by omega),decide_eq_false (by omega),if_neg (by omega),decide_eq_false (by omega)]
  rfl
theorem r_cmp_loop{a b:List Nat}(ha:Lim a)(hb:Lim b)(hl:a.length=b.length)(hm:a.length<LM):∀n,n≤a.length→a.drop n=b.drop n →
 loopU u_ref01_Cmp_l0 (lmL a,lmL b,(n:Int)-1,())=some (if val a=val b then .inr (.inl ()) else .inl (cmpN (val a) (val b),())):=by
 intro n
 induction n with
 | zero=>
  intro _ hd
  have:a=b:=by simpa using hd
  subst this
  rw[if_pos rfl]
  exact loopU_out (by unfold u_ref01_Cmp_l0;simp only[leI_eq];rw[decide_eq_false (by omega)];rfl)
 | succ n ih=>
  intro hn hd
  have h1:n<a.length:=hn
  have h2:n<b.length:=by omega
  have ga:=List.getElem?_eq_getElem h1
  have gb:=List.getElem?_eq_getElem h2
  have step:u_ref01_Cmp_l0 (lmL a,lmL b,((n+1:Nat):Int)-1,())=if a[n]<b[n] then some (.inr (.inl (-1,()))) else if b[n]<a[n] then some (.inr (.inl (1,()))) else some (.inl (lmL a,lmL b,(n:Int)-1,())):=by
   unfold u_ref01_Cmp_l0
   rw[show ((n+1:Nat):Int)-1=(n:Int) by omega]
   simp only[leI_eq,ltI_eq,subI_eq]
   rw[decide_eq_true (by omega),idxL_nat,idxL_nat,lmL_get,lmL_get,ga,gb,wri' (by omega) (by simp only[LM] at hm;omega)]
   simp only[cond_true,Option.map_some,obS,limT_cell,limT_int]
   by_cases c1:a[n]<b[n]
   ·rw[if_pos c1,decide_eq_true (by omega)];rfl
   ·rw[if_neg c1,decide_eq_false (by omega)]
    by_cases c2:b[n]<a[n]
    ·rw[if_pos c2,decide_eq_true (by omega)];rfl
    ·rw[if_neg c2,decide_eq_false (by omega)];rfl
  by_cases c1:a[n]<b[n]
  ·rw[if_pos c1] at step
   have:=val_lt_of ha ga gb c1 hd
   rw[loopU_out step,if_neg (by omega)]
   unfold cmpN
   rw[if_pos this]
  ·rw[if_neg c1] at step
   by_cases c2:b[n]<a[n]
   ·rw[if_pos c2] at step
    have:=val_lt_of hb gb ga c2 hd.symm
    rw[loopU_out step,if_neg (by omega)]
    unfold cmpN
    rw[if_neg (by omega),if_neg (by omega)]
   ·rw[if_neg c2] at step
    rw[loopU_go step]
    refine ih (by omega) ?_
    rw[List.drop_eq_getElem_cons h1,List.drop_eq_getElem_cons h2,hd,show a[n]=b[n] by omega]
theorem len_lt{x y:Nat}(h:(limbs x).length<(limbs y).length):x<y:=by
 have h1:x<BB ^ (limbs x).length:=limbs_len.1 (Nat.le_refl _)
 have h2:¬y<BB ^ (limbs x).length:=fun hh=>by
  have:=limbs_len.2 hh
  omega
 omega
theorem r_Cmp{x y:Nat}(hx:(limbs x).length<LM)(hy:(limbs y).length<LM):u_ref01_Cmp (lm x,lm y,())=some (cmpN x y,()):=by
 unfold u_ref01_Cmp
 simp only[lenL_eq,lm_len,eqI_eq,ltI_eq,subI_eq]
 by_cases hl:(limbs x).length=(limbs y).length
 ·rw[decide_eq_true (by omega),wri' (by omega) (by simp only[LM] at hx;omega)]
  have:=r_cmp_loop (lim_limbs x) (lim_limbs y) hl hx (limbs x).length (Nat.le_refl _) (by rw[List.drop_length,hl,List.drop_length])
  rw[val_limbs,val_limbs] at this
  simp only[lm,Bool.not_true,cond_false,this,obS]
  by_cases he:x=y
  ·subst he;simp[cmpN,onS_r,onS_l]
  ·rw[if_neg he];rfl
 ·rw[decide_eq_false (by omega)]
  simp only[Bool.not_false,cond_true]
  by_cases hc:(limbs x).length<(limbs y).length
  ·have:=len_lt hc
   rw[decide_eq_true (by omega)]
   unfold cmpN
   rw[if_pos this];rfl
  ·have:=len_lt (x:=y) (y:=x) (by omega)
   rw[decide_eq_false (by omega)]
   unfold cmpN
   rw[if_neg (by omega),if_neg (by omega)];rfl
theorem r_smallN{n:Nat}(h:n<B64):u_ref01_small (lm n,())=some ((n:Int),true,()):=by
 have h2:(limbs n).length≤2:=limbs_len.2 h
 have:=r_small (lim_limbs n)
 rw[if_pos h2,decide_eq_true h2,val_limbs] at this
 exact this
theorem tdivN(a b:Nat):(a:Int).tdiv (b:Int)=((a/b:Nat):Int):=rfl
theorem tmodN(a b:Nat):(a:Int).tmod (b:Int)=((a%b:Nat):Int):=rfl
theorem r_Div{a b:Nat}(ha:a<B64)(hb:b<B64)(h0:b≠0):u_ref01_Div (lm a,lm b,())=some (lm (a/b),lm (a%b),0,()):=by
 unfold u_ref01_Div
 simp only[lenL_eq,eqI_eq,ltI_eq]
 have hbl:(lm b).length≠0:=fun h=>h0 (lm_len0.1 h)
 rw[decide_eq_false (by omega)]
 simp only[cond_false,r_Cmp (lm_small ha) (lm_small hb),obS]
 unfold cmpN
 by_cases hlt:a<b
 ·rw[if_pos hlt,decide_eq_true (by omega)]
  simp only[cond_true,r_Trim' (lm_small ha),obS]
  rw[Nat.div_eq_of_lt hlt,Nat.mod_eq_of_lt hlt,lm_zero]
 ·rw[if_neg hlt]
  have:decide ((if a=b then (0:Int) else 1)<0)=false:=decide_eq_false (by split <;> omega)
  rw[this]
  simp only[cond_false,r_smallN ha,r_smallN hb,obS,cond_true,divI_eq,modI_eq,tdivN,tmodN]
  rw[nz_eq (by omega)]
  have hd:a/b<B64:=Nat.lt_of_le_of_lt (Nat.div_le_self _ _) ha
  have hm:a%b<B64:=Nat.lt_of_le_of_lt (Nat.mod_le _ _) ha
  simp only[obS,tdivN,tmodN,wr64s hd,r_Of hd,r_Of hm]
theorem gcd_loop{a b:Nat}:loopU u_ref01_Gcd_l1 ((a:Int),(b:Int),())=some (.inl (((a.gcd b:Nat):Int),())):=by
 induction b using Nat.strongRecOn generalizing a with
 | _ b ih=>
  by_cases h0:b=0
  ·subst h0
   exact loopU_out (by unfold u_ref01_Gcd_l1;simp[Nat.gcd_zero_right,onS_r,onS_l])
  ·have step:u_ref01_Gcd_l1 ((a:Int),(b:Int),())=some (.inl ((b:Int),((a%b:Nat):Int),())):=by
    unfold u_ref01_Gcd_l1
    simp only[eqI_eq,modI_eq]
    rw[decide_eq_false (by omega),nz_eq (by omega)]
    rfl
   rw[loopU_go step,ih (a%b) (Nat.mod_lt _ (Nat.pos_of_ne_zero h0)),Nat.gcd_comm a b,Nat.gcd_rec b a,Nat.gcd_comm]
theorem r_Gcd{a b:Nat}(ha:a<B64)(hb:b<B64):u_ref01_Gcd (lm a,lm b,())=some (lm (a.gcd b),()):=by
 unfold u_ref01_Gcd
 simp only[r_Trim' (lm_small ha),r_Trim' (lm_small hb),obS]
 by_cases h0:b=0
 ·subst h0
  rw[loopU_out (e:=.inr (.inl (lm a,()))) (by unfold u_ref01_Gcd_l0;simp[lm_zero])]
  simp[Nat.gcd_zero_right,onS_r,onS_l]
 ·have hbl:(lm b).length≠0:=fun h=>h0 (lm_len0.1 h)
  have hg:a.gcd b<B64:=Nat.lt_of_le_of_lt (Nat.gcd_le_right _ (Nat.pos_of_ne_zero h0)) hb
  rw[loopU_out (e:=.inl (lm (a.gcd b),())) (by
   unfold u_ref01_Gcd_l0
   simp only[ltI_eq,lenL_eq]
   rw[decide_eq_true (by omega)]
   simp only[cond_true,r_smallN ha,r_smallN hb,obS,gcd_loop,onS_l,r_Of hg])]
  rfl
theorem one_len{d:Nat}(hd:d<B64)(h0:d≠0):(lm d).length=1↔d<BB:=by
 constructor
 ·intro h;exact lm_le1.1 (by omega)
 ·intro h;rw[lm_one h0 h];rfl
theorem r_reduce(neg:Bool){n d:Nat}(hn:n<B64)(hd:d<B64)(h0:d≠0):u_ref02_reduce (neg,lm n,lm d,())=some (rNeg (mkRat (sg neg n) d),rNum (mkRat (sg neg n) d),rDen (mkRat (sg neg n) d),()):=by
 unfold u_ref02_reduce
 simp only[r_Trim' (lm_small hn),r_Trim' (lm_small hd),obS,lenL_eq,eqI_eq]
 by_cases hz:n=0
 ·subst hz
  rw[decide_eq_true (by rw[lm_zero];rfl),mk_zero,rNeg_zero,rNum_zero,rDen_zero]
  rfl
 ·have hnl:(lm n).length≠0:=fun h=>hz (lm_len0.1 h)
  have hg:n.gcd d<B64:=Nat.lt_of_le_of_lt (Nat.gcd_le_right _ (Nat.pos_of_ne_zero h0)) hd
  have hg0:n.gcd d≠0:=Nat.gcd_ne_zero_right h0
  rw[decide_eq_false (by omega),mk_neg neg h0 hz,rNum_mk neg h0,rDen_mk neg h0]
  have hq0:d/n.gcd d≠0:=by
   have:=Nat.div_pos (Nat.le_of_dvd (Nat.pos_of_ne_zero h0) (Nat.gcd_dvd_right n d)) (Nat.pos_of_ne_zero hg0)
   omega
  have hq:d/n.gcd d<B64:=Nat.lt_of_le_of_lt (Nat.div_le_self _ _) hd
  have fin:∀(N:List T) (e:Nat),e<B64→e≠0→(ob (α:=((Bool×List T×List T×Unit×Bool×T×T×Unit)⊕Empty)) (bif (eqI (lenL (lm e)) (1:Int)) then (ob (idxL (lm e) (0:Int)) fun x11=>(ob (T.int? .u32 (T.cell x11 0)) fun x12=>(bif (eqI x12 (1:Int)) then (some (Sum.inl (neg,N,[],(),false,(T.v (.slice none 0 0)),(T.v (.slice none 0 0)),()))) else (some (Sum.inl (neg,N,lm e,(),false,(T.v (.slice none 0 0)),(T.v (.slice none 0 0)),())))))) else (some (Sum.inl (neg,N,lm e,(),false,(T.v (.slice none 0 0)),(T.v (.slice none 0 0)),()))))
   fun q13=>onS q13 (fun t14=>(some (t14.1,t14.2.1,t14.2.2.1,()))) fun q15=>noS q15)=some (neg,N,dn e,()):=by
   intro N e he he0
   simp only[lenL_eq,eqI_eq]
   by_cases h1:e<BB
   ·rw[decide_eq_true (by rw[lm_one he0 h1];rfl)]
    simp only[cond_true]
    rw[lm_one he0 h1,idxL_int _ (by omega)]
    simp only[Int.toNat_zero,List.getElem?_cons_zero,obS,limT_cell,limT_int]
    unfold dn
    by_cases h2:e=1
    ·subst h2;rfl
    ·rw[if_neg h2,decide_eq_false (by omega),lm_one he0 h1];rfl
   ·rw[decide_eq_false (by have:=(one_len he he0).1;omega)]
    unfold dn
    rw[if_neg (by simp only[BB] at h1;omega)]
    rfl
  simp only[cond_false,r_Gcd hn hd,obS,lenL_eq]
  have tail:=fin (lm (n/n.gcd d)) (d/n.gcd d) hq hq0
  simp only[lenL_eq,eqI_eq] at tail
  by_cases h1:n.gcd d=1
  ·have e1:lm (n.gcd d)=[limT 1]:=by rw[h1];exact lm_one (by decide) (by decide)
   rw[e1]
   rw[h1,Nat.div_one,Nat.div_one] at tail ⊢
   simp only[List.length_cons,List.length_nil]
   rw[decide_eq_true (by omega),idxL_int _ (by omega)]
   simp only[Bool.not_true,cond_false,Int.toNat_zero,List.getElem?_cons_zero,obS,limT_cell,limT_int]
   rw[decide_eq_true (by omega)]
   simp only[Bool.not_true,cond_false,obS,onS_l]
   exact tail
  ·by_cases h2:n.gcd d<BB
   ·have e1:lm (n.gcd d)=[limT (n.gcd d)]:=lm_one hg0 h2
    rw[decide_eq_true (by rw[e1];rfl)]
    have e2:idxL (lm (n.gcd d)) 0=some (limT (n.gcd d)):=by rw[e1,idxL_int _ (by omega)];rfl
    simp only[Bool.not_true,cond_false,e2,obS,limT_cell,limT_int]
    rw[decide_eq_false (by omega)]
    simp only[Bool.not_false,cond_true,r_Div hn hg hg0,r_Div hd hg hg0,obS,onS_l]
    exact tail
   ·rw[decide_eq_false (by have:=(one_len hg hg0).1;omega)]
    simp only[Bool.not_false,cond_true,r_Div hn hg hg0,r_Div hd hg hg0,obS,onS_l]
    exact tail
theorem r_size{n:Int}(h1:-4611686018427387904<n)(h2:n<4611686018427387904):u_ref02_size (n,())=some (lm n.natAbs,decide (n<0),()):=by
 unfold u_ref02_size
 simp only[ltI_eq,addI_eq,subI_eq]
 by_cases h:n<0
 ·rw[decide_eq_true h]
  have e:wr .u64 (wr .u64 (wr .i64 (0-wr .i64 (n+1)))+1)=((n.natAbs:Nat):Int):=by
   rw[wri' (n:=n+1) (by omega) (by omega),wri' (by omega) (by omega),show 0-(n+1)=((n.natAbs-1:Nat):Int) by omega,wr64s (by simp only[B64];omega),
    show ((n.natAbs-1:Nat):Int)+1=((n.natAbs:Nat):Int) by omega,wr64s (by simp only[B64];omega)]
  simp only[cond_true,e,r_Of (n:=n.natAbs) (by simp only[B64];omega),obS]
 ·rw[decide_eq_false h]
  have e:wr .u64 n=((n.natAbs:Nat):Int):=by
   rw[show n=((n.natAbs:Nat):Int) by omega,wr64s (by simp only[B64];omega)];rfl
  simp only[cond_false,e,r_Of (n:=n.natAbs) (by simp only[B64];omega),obS]
def fracQ(n d:Int):Rat:=mkRat (sg (decide (n<0) != decide (d<0)) n.natAbs) d.natAbs
theorem bneq(a b:Bool):(!(a==b))=(a != b):=rfl
theorem r_Make{n d:Int}(h1:-4611686018427387904<n)(h2:n<4611686018427387904)(h3:-4611686018427387904<d)(h4:d<4611686018427387904)(h0:d≠0):
 u_ref02_Make (n,d,())=some (rNeg (fracQ n d),rNum (fracQ n d),rDen (fracQ n d),0,()):=by
 unfold u_ref02_Make
 simp only[eqI_eq]
 rw[decide_eq_false h0]
 simp only[cond_false,r_size h1 h2,r_size h3 h4,obS,eqB_eq,bneq]
 rw[r_reduce _ (by simp only[B64];omega) (by simp only[B64];omega) (by omega)]
 rfl
theorem r_Frac{n d:Int}(h1:-4611686018427387904<n)(h2:n<4611686018427387904)(h3:-4611686018427387904<d)(h4:d<4611686018427387904)(h0:d≠0):
 u_ref02_Frac (n,d,())=some (rNeg (fracQ n d),rNum (fracQ n d),rDen (fracQ n d),()):=by
 unfold u_ref02_Frac
 simp only[r_Make h1 h2 h3 h4 h0,obS]
end Go.Eng.Rt
namespace Go.Eng
theorem tmod_lo(a:Int){b:Int}(h:0<b):-b<a.tmod b:=by
 rcases Int.lt_or_le a 0 with ha | ha
 ·have h1:(-(-a)).tmod b=-((-a).tmod b):=Int.neg_tmod (-a) b
  rw[Int.neg_neg] at h1
  have h2:(-a).tmod b<b:=by rw[Int.tmod_eq_emod_of_nonneg (by omega)];exact Int.emod_lt_of_pos _ h
  omega
 ·have:0≤a.tmod b:=by rw[Int.tmod_eq_emod_of_nonneg ha];exact Int.emod_nonneg _ (by omega)
  omega
theorem tmod_hi(a:Int){b:Int}(h:0<b):a.tmod b<b:=by
 rcases Int.lt_or_le a 0 with ha | ha
 ·have h1:(-(-a)).tmod b=-((-a).tmod b):=Int.neg_tmod (-a) b
  rw[Int.neg_neg] at h1
  have h2:0≤(-a).tmod b:=by rw[Int.tmod_eq_emod_of_nonneg (by omega)];exact Int.emod_nonneg _ (by omega)
  omega
 ·rw[Int.tmod_eq_emod_of_nonneg ha];exact Int.emod_lt_of_pos _ h
def modV(a n:Int):Int:=if a.tmod n<0 then a.tmod n+n else a.tmod n
theorem modV_lo(a:Int){n:Int}(h:0<n):0≤modV a n:=by
 unfold modV
 have:=tmod_lo a h
 split <;> omega
theorem modV_hi(a:Int){n:Int}(h:0<n):modV a n<n:=by
 unfold modV
 have:=tmod_hi a h
 split <;> omega
theorem s_Mod(a:Int){n:Int}(h1:0<n)(h2:n≤4611686018427387904):u_brepkernelmade_Mod (a,n,())=some (modV a n,()):=by
 unfold u_brepkernelmade_Mod modV
 have:=tmod_lo a h1
 have:=tmod_hi a h1
 rw[nz_eq (show n≠0 by omega)]
 simp only[obS,modI_eq,ltI_eq,addI_eq]
 by_cases h:a.tmod n<0
 ·rw[decide_eq_true h,if_pos h,wr64 (by omega) (by omega)];rfl
 ·rw[decide_eq_false h,if_neg h];rfl
def intT(z:Int):T:=.v (.int .i64 z)
def DiceOK(L:List T)(a:Int):Prop:=∃zs:List Int,L=zs.map intT∧zs.length≤1000000∧0≤a∧a≤zs.length
theorem s_Next{L:List T}{a:Int}(h:DiceOK L a){n:Int}(h1:0<n)(h2:n≤4611686018427387904):
 ∃v a',u___brepkernelmade_Dice__Next ((),n,L,a,())=some (v,L,a',())∧0≤v∧v<n∧DiceOK L a':=by
 obtain⟨zs,rfl,hz,ha0,ha1⟩:=h
 unfold u___brepkernelmade_Dice__Next
 simp only[leI_eq,lenL_eq,List.length_map,addI_eq,subI_eq]
 by_cases hc:(zs.length:Int)≤a
 ·rw[decide_eq_true hc]
  exact⟨0,a,rfl,Int.le_refl _,h1,zs,rfl,hz,ha0,ha1⟩
 ·rw[decide_eq_false hc]
  obtain⟨i,rfl⟩:=Int.eq_ofNat_of_zero_le ha0
  have hi:i<zs.length:=by omega
  rw[wr64 (n:=(i:Int)+1) (by omega) (by omega),wr64 (n:=(i:Int)+1-1) (by omega) (by omega),Int.add_sub_cancel,idxL_nat,List.getElem?_map,List.getElem?_eq_getElem hi]
  simp only[cond_false,Option.map_some,obS,intT,T_cell_v,T_int,s_Mod _ h1 h2]
  exact⟨_,_,rfl,modV_lo _ h1,modV_hi _ h1,zs,rfl,hz,by omega,by omega⟩
theorem s_Bool{L:List T}{a:Int}(h:DiceOK L a){n:Int}(h1:0<n)(h2:n≤4611686018427387904):
 ∃b a',u___brepkernelmade_Dice__Bool ((),n,L,a,())=some (b,L,a',())∧DiceOK L a':=by
 obtain⟨v,a',e,_,_,hd⟩:=s_Next h h1 h2
 unfold u___brepkernelmade_Dice__Bool
 rw[e]
 exact⟨_,a',rfl,hd⟩
theorem s_Light(L:List T):u_brepkernelmade_Light (L,())=some (decide (L.length≤500),()):=by
 unfold u_brepkernelmade_Light
 simp only[leI_eq,lenL_eq]
 congr 2
 rw[Bool.eq_iff_iff];simp;omega
theorem s_Roll(L:List T):u_brepkernelmade_Roll (L,())=some (L,0,()):=rfl
end Go.Eng
namespace Go.Eng.En
open Go.Eng Go.Eng.Rt
theorem OkA.up:∀{n:Nat} {t:T},OkA n t→OkA (n+1) t
 | 0,_,h=>h.elim
 | n+1,t,⟨k,neg,num,den,text,ref,l,e,hl,hs,hq⟩=>⟨k,neg,num,den,text,ref,l,e,hl,fun x hx=>(hs x hx).up,hq⟩
theorem OkA.le{n m:Nat}{t:T}(h:OkA n t)(hm:n≤m):OkA m t:=by
 induction hm with
 | refl=>exact h
 | step _ ih=>exact ih.up
def ArgR(n:Nat)(L:List T)(r:Option (Int×Bool×(List T)×(List T)×ByteArray×Int×(List T)×(List T)×Int×Unit)):Prop:=
 ∃k neg num den text ref l a',r=some (k,neg,num,den,text,ref,l,L,a',())∧OkA n (argT k neg num den text ref l)∧DiceOK L a'
theorem zero_q:∃q:Rat,Sm q∧false=rNeg q∧([]:List T)=rNum q∧([]:List T)=rDen q:=⟨0,Sm.zero,by decide,by rw[rNum];exact lm_zero.symm,by rw[rDen];rfl⟩
theorem int_q{n:Int}(h:n.natAbs<1000):∃q:Rat,Sm q∧decide (n<0)=rNeg q∧lm n.natAbs=rNum q∧([]:List T)=rDen q:=⟨(n:Rat),⟨by show n.natAbs<_;omega,by show 1<_;omega⟩,rfl,rfl,rfl⟩
theorem s_Int{n:Int}(h:n.natAbs<1000):u_ref02_Int (n,())=some (decide (n<0),lm n.natAbs,[],()):=by
 unfold u_ref02_Int
 rw[r_size (by omega) (by omega)]
 rfl
theorem frac_sm:∀i:Fin 99,∀z∈([1,2,8,5,1,10,3]:List Int),Sm (fracQ (((i:Nat):Int)-40) z):=by unfold Sm;decide +kernel
abbrev nilT:T:=.v (.slice none 0 0)
abbrev noS0:ByteArray:=ByteArray.mk #[]
theorem arg_loop{d:Nat}{L:List T}{self:(Unit×Int×(List T)×Int×Unit)→Option (Int×Bool×(List T)×(List T)×ByteArray×Int×(List T)×(List T)×Int×Unit)}(hd:d≤100)
 (hself:∀a,DiceOK L a→ArgR d L (self ((),(d:Int)-1,L,a,()))) {c a:Int} (hc0:0≤c) (hc:c≤3) (ha:DiceOK L a):
 ∃l a',loopU (u___brepkernelmade_Dice__Arg_l0 self) ((),(d:Int),(),(),c,L,a,(0:Int),Bool.false,nilT,nilT,noS0,(0:Int),nilT,(6:Int),Bool.false,nilT,nilT,noS0,(0:Int),[],()) =
  some (.inl ((),(),L,a',(0:Int),Bool.false,nilT,nilT,noS0,(0:Int),nilT,(6:Int),Bool.false,nilT,nilT,noS0,(0:Int),l,()))∧l.length≤3∧(∀x∈l,OkA d x)∧DiceOK L a':=by
 obtain⟨e,h1,l,a',h2,h3,h4,h5⟩:=loopU_inv (F:=u___brepkernelmade_Dice__Arg_l0 self)
  (fun s=>∃c a l,s=((),(d:Int),(),(),c,L,a,(0:Int),Bool.false,nilT,nilT,noS0,(0:Int),nilT,(6:Int),Bool.false,nilT,nilT,noS0,(0:Int),l,())∧0≤c∧(l.length:Int)+c≤3∧(∀x∈l,OkA d x)∧DiceOK L a)
  (fun s=>s.2.2.2.2.1.toNat)
  (fun e=>∃l a',e=.inl ((),(),L,a',(0:Int),Bool.false,nilT,nilT,noS0,(0:Int),nilT,(6:Int),Bool.false,nilT,nilT,noS0,(0:Int),l,())∧l.length≤3∧(∀x∈l,OkA d x)∧DiceOK L a')
  (fun s hs=>by
   obtain⟨c,a,l,rfl,hc0,hcl,hl,ha⟩:=hs
   by_cases h:0<c
   ·left
    obtain⟨k,neg,num,den,text,ref,q,a2,hr,hok,ha2⟩:=hself a ha
    refine⟨_,?_,⟨c-1,a2,l++[argT k neg num den text ref q],rfl,by omega,by simp;omega,fun x hx=>?_,ha2⟩,?_⟩
    ·unfold u___brepkernelmade_Dice__Arg_l0
     simp only[ltI_eq,subI_eq]
     rw[decide_eq_true h,wr64 (n:=(d:Int)-1) (by omega) (by omega),wr64 (n:=c-1) (by omega) (by omega),hr]
     simp only[cond_true,obS]
     rw[room_ok (by simp;omega) (by decide)]
     rfl
    ·rcases List.mem_append.1 hx with hx | hx
     ·exact hl x hx
     ·rw[List.mem_singleton] at hx;exact hx▸hok
    ·show (c-1).toNat<c.toNat
     omega
   ·right
    refine⟨_,?_,l,a,rfl,by omega,hl,ha⟩
    unfold u___brepkernelmade_Dice__Arg_l0
    simp only[ltI_eq]
    rw[decide_eq_false h]
    rfl) _ ⟨c,a,[],rfl,hc0,by simp;omega,fun x hx=>by simp at hx,ha⟩
 exact⟨l,a',h2▸h1,h3,h4,h5⟩
theorem pick_str{l:List T}{i:Int}(h0:0≤i)(h1:i<l.length)(hs:∀x∈l,∃s,x=.v (.string s)):∃s,(ob (chkI (lenL l) i) fun x1=>ob (idxN l x1) fun x2=>T.str? (T.cell x2 0))=some s:=by
 rw[lenL_eq,chkI_int h0 h1]
 obtain⟨x,hx⟩:∃x,l[i.toNat]?=some x:=⟨_,List.getElem?_eq_getElem (by omega)⟩
 obtain⟨s,rfl⟩:=hs x (List.mem_of_getElem? hx)
 exact⟨s,by simp[hx]⟩
theorem pick_get{R:Type}{l:List T}{i:Int}{k:ByteArray→Option R}(h0:0≤i)(h1:i<l.length)(hs:∀x∈l,∃s,x=.v (.string s)):∃s,(ob (chkI (lenL l) i) fun x1=>ob (idxN l x1) fun x2=>ob (T.str? (T.cell x2 0)) k)=k s:=by
 rw[lenL_eq,chkI_int h0 h1]
 obtain⟨x,hx⟩:∃x,l[i.toNat]?=some x:=⟨_,List.getElem?_eq_getElem (by omega)⟩
 obtain⟨s,rfl⟩:=hs x (List.mem_of_getElem? hx)
 exact⟨s,by simp[hx]⟩
theorem pick_int{R:Type}{l:List T}{i:Int}{k:Int→Option R}{P:Int→Prop}(h0:0≤i)(h1:i<l.length)(hs:∀x∈l,∃z,x=tI z∧P z):∃z,P z∧(ob (chkI (lenL l) i) fun x1=>ob (idxN l x1) fun x2=>ob (T.int? .i64 (T.cell x2 0)) k)=k z:=by
 rw[lenL_eq,chkI_int h0 h1]
 obtain⟨x,hx⟩:∃x,l[i.toNat]?=some x:=⟨_,List.getElem?_eq_getElem (by omega)⟩
 obtain⟨z,rfl,hz⟩:=hs x (List.mem_of_getElem? hx)
 exact⟨z,hz,by simp[hx]⟩
theorem s_Word{L:List T}{a:Int}(h:DiceOK L a):∃s a',u___brepkernelmade_Dice__Word ((),L,a,())=some (s,L,a',())∧DiceOK L a':=by
 obtain⟨v,a',e,h0,h1,hd⟩:=s_Next h (n:=12) (by decide) (by decide)
 unfold u___brepkernelmade_Dice__Word
 rw[e]
 simp only[obS]
 obtain⟨s,hs⟩:=pick_get (k:=fun x3=>some (x3,L,a',())) h0 (l:=[(T.v (.string (ByteArray.mk #[97]))),(T.v (.string (ByteArray.mk #[98]))),(T.v (.string (ByteArray.mk #[120,48]))),(T.v (.string (ByteArray.mk #[115,48,46,49]))),(T.v (.string (ByteArray.mk #[]))),(T.v (.string (ByteArray.mk #[102,46,120,48]))),(T.v (.string (ByteArray.mk #[103,46,122,49]))),(T.v (.string (ByteArray.mk #[102,46,120,48,43,103,46,122,49]))),(T.v (.string (ByteArray.mk #[65,43]))),(T.v (.string (ByteArray.mk #[97,39,98]))),(T.v (.string (ByteArray.mk #[99,32,100]))),(T.v (.string (ByteArray.mk #[195,169])))]) (by simpa using h1) (fun x hx=>by
  simp only[List.mem_cons,List.not_mem_nil,or_false] at hx
  rcases hx with rfl | rfl | rfl | rfl | rfl | rfl | rfl | rfl | rfl | rfl | rfl | rfl <;> exact⟨_,rfl⟩)
 exact⟨s,a',hs,hd⟩
theorem arg_plain{n:Nat}{k:Int}{text:ByteArray}{ref:Int}:OkA (n+1) (argT k false [] [] text ref []):=⟨k,false,[],[],text,ref,[],rfl,by simp,fun x hx=>by simp at hx,zero_q⟩
set_option maxHeartbeats 4000000 in
theorem s_Arg1{d:Nat}{L:List T}{a:Int}{self:(Unit×Int×(List T)×Int×Unit)→Option (Int×Bool×(List T)×(List T)×ByteArray×Int×(List T)×(List T)×Int×Unit)}(hd:d≤100)
 (hself:0<d→∀a,DiceOK L a→ArgR d L (self ((),(d:Int)-1,L,a,()))) (ha:DiceOK L a):ArgR (d+1) L (b___brepkernelmade_Dice__Arg self ((),(d:Int),L,a,())):=by
 unfold b___brepkernelmade_Dice__Arg
 obtain⟨v,a1,e,h0,h1,ha1⟩:=s_Next ha (n:=9) (by decide) (by decide)
 rw[e]
 simp only[obS,eqI_eq]
 by_cases v0:v=0
 ·rw[decide_eq_true v0]
  obtain⟨u,a2,e,g0,g1,ha2⟩:=s_Next ha1 (n:=50) (by decide) (by decide)
  simp only[cond_true,e,obS,subI_eq]
  rw[wr64 (by omega) (by omega),s_Int (by omega)]
  exact⟨_,_,_,_,_,_,_,a2,rfl,⟨_,_,_,_,_,_,_,rfl,by simp,fun x hx=>by simp at hx,int_q (by omega)⟩,ha2⟩
 rw[decide_eq_false v0]
 by_cases v1:v=1
 ·rw[decide_eq_true v1]
  obtain⟨u,a2,e,g0,g1,ha2⟩:=s_Next ha1 (n:=99) (by decide) (by decide)
  obtain⟨u3,a3,e3,p0,p1,ha3⟩:=s_Next ha2 (n:=7) (by decide) (by decide)
  simp only[cond_true,cond_false,e,e3,obS,subI_eq]
  obtain⟨z,hz,hk⟩:=pick_int (P:=fun z=>z∈([1,2,8,5,1,10,3]:List Int)) (k:=fun x7=>ob (u_ref02_Frac ((wr .i64 (u-40)),x7,())) fun x8=>some ((2:Int),x8.1,x8.2.1,x8.2.2.1,(ByteArray.mk #[]),(0:Int),([]:List T),L,a3,()))
   p0 (l:=[(T.v (.int .i64 (1:Int))),(T.v (.int .i64 (2:Int))),(T.v (.int .i64 (8:Int))),(T.v (.int .i64 (5:Int))),(T.v (.int .i64 (1:Int))),(T.v (.int .i64 (10:Int))),(T.v (.int .i64 (3:Int)))]) (by simpa using p1) (fun x hx=>by
    simp only[List.mem_cons,List.not_mem_nil,or_false] at hx
    rcases hx with rfl | rfl | rfl | rfl | rfl | rfl | rfl <;> exact⟨_,rfl,by simp⟩)
  rw[hk]
  have hzp:0<z∧z≤10:=by
   simp only[List.mem_cons,List.not_mem_nil,or_false] at hz
   omega
  have hsm:=frac_sm ⟨u.toNat,by omega⟩ z hz
  rw[show (((⟨u.toNat,by omega⟩:Fin 99):Nat):Int)=u from by show ((u.toNat:Nat):Int)=u;omega] at hsm
  rw[wr64 (by omega) (by omega),r_Frac (by omega) (by omega) (by omega) (by omega) (by omega)]
  exact⟨_,_,_,_,_,_,_,a3,rfl,⟨_,_,_,_,_,_,_,rfl,by simp,fun x hx=>by simp at hx,⟨fracQ (u-40) z,hsm,rfl,rfl,rfl⟩⟩,ha3⟩
 rw[decide_eq_false v1]
 by_cases v2:v=2
 ·rw[decide_eq_true v2]
  obtain⟨s,a2,e,ha2⟩:=s_Word ha1
  simp only[cond_true,cond_false,e,obS]
  exact⟨_,_,_,_,_,_,_,a2,rfl,arg_plain,ha2⟩
 rw[decide_eq_false v2]
 by_cases v3:v=3
 ·rw[decide_eq_true v3]
  obtain⟨u,a2,e,g0,g1,ha2⟩:=s_Next ha1 (n:=4) (by decide) (by decide)
  simp only[cond_true,cond_false,e,obS]
  obtain⟨s,hs⟩:=pick_get (k:=fun x13=>some ((4:Int),Bool.false,([]:List T),([]:List T),x13,(0:Int),([]:List T),L,a2,())) g0 (l:=[(T.v (.string (ByteArray.mk #[84]))),(T.v (.string (ByteArray.mk #[70]))),(T.v (.string (ByteArray.mk #[65,66,95,49]))),(T.v (.string (ByteArray.mk #[116])))]) (by simpa using g1) (fun x hx=>by
   simp only[List.mem_cons,List.not_mem_nil,or_false] at hx
   rcases hx with rfl | rfl | rfl | rfl <;> exact⟨_,rfl⟩)
  rw[hs]
  exact⟨_,_,_,_,_,_,_,a2,rfl,arg_plain,ha2⟩
 rw[decide_eq_false v3]
 by_cases v4:v=4
 ·rw[decide_eq_true v4]
  obtain⟨u,a2,e,g0,g1,ha2⟩:=s_Next ha1 (n:=6) (by decide) (by decide)
  simp only[cond_true,cond_false,e,obS]
  exact⟨_,_,_,_,_,_,_,a2,rfl,arg_plain,ha2⟩
 rw[decide_eq_false v4]
 by_cases v5:v=5
 ·rw[decide_eq_true v5]
  obtain⟨u,a2,e,g0,g1,ha2⟩:=s_Next ha1 (n:=4) (by decide) (by decide)
  simp only[cond_true,cond_false,e,obS]
  obtain⟨z,_,hs⟩:=pick_int (P:=fun _=>True) (k:=fun x18=>some (x18,Bool.false,([]:List T),([]:List T),(ByteArray.mk #[]),(0:Int),([]:List T),L,a2,())) g0 (l:=[(T.v (.int .i64 (7:Int))),(T.v (.int .i64 (8:Int))),(T.v (.int .i64 (0:Int))),(T.v (.int .i64 (9:Int)))]) (by simpa using g1) (fun x hx=>by
   simp only[List.mem_cons,List.not_mem_nil,or_false] at hx
   rcases hx with rfl | rfl | rfl | rfl <;> exact⟨_,rfl,trivial⟩)
  rw[hs]
  exact⟨_,_,_,_,_,_,_,a2,rfl,arg_plain,ha2⟩
 rw[decide_eq_false v5]
 by_cases v6:v=6
 ·rw[decide_eq_true v6]
  obtain⟨u,a2,e,g0,g1,ha2⟩:=s_Next ha1 (n:=2) (by decide) (by decide)
  simp only[cond_true,cond_false,e,obS]
  exact⟨_,_,_,_,_,_,_,a2,rfl,arg_plain,ha2⟩
 rw[decide_eq_false v6]
 simp only[cond_false,ltI_eq]
 by_cases hd0:0<d
 ·rw[decide_eq_true (by omega)]
  obtain⟨u,a2,e,g0,g1,ha2⟩:=s_Next ha1 (n:=4) (by decide) (by decide)
  obtain⟨l,a3,hl,hl3,hls,ha3⟩:=arg_loop hd (hself hd0) g0 (by omega) ha2
  simp only[cond_true,e,obS]
  rw[hl]
  simp only[obS,onS_l,T_sl_nil 1 (by decide)]
  exact⟨_,_,_,_,_,_,_,a3,rfl,⟨_,_,_,_,_,_,_,rfl,by omega,hls,zero_q⟩,ha3⟩
 ·rw[decide_eq_false (by omega)]
  simp only[cond_false,obS,onS_l,T_sl_nil 1 (by decide)]
  exact⟨_,_,_,_,_,_,_,a1,rfl,arg_plain,ha1⟩
theorem s_Arg:∀(d m:Nat),d≤7→∀{L:List T} {a:Int},DiceOK L a→ArgR (d+1) L (v___brepkernelmade_Dice__Arg (d+1+m) ((),(d:Int),L,a,())):=by
 intro d
 induction d with
 | zero=>
  intro m _ L a ha
  rw[show 0+1+m=m+1 from by omega]
  exact s_Arg1 (d:=0) (by omega) (fun h=>by omega) ha
 | succ d ih=>
  intro m hd L a ha
  rw[show d+1+1+m=(d+1+m)+1 from by omega]
  exact s_Arg1 (d:=d+1) (by omega) (fun _ a ha=>by rw[show ((d+1:Nat):Int)-1=(d:Int) from by omega];exact ih m (by omega) ha) ha
end Go.Eng.En
namespace Go.Eng.En
open Go.Eng Go.Eng.Rt
def OkR(args:List T):Prop:=args.length≤3∧∀x∈args,OkA 3 x
theorem rec_loop{L:List T}{c a:Int}{n1:ByteArray}{t1 t2:T}(hc0:0≤c)(hc:c≤3)(ha:DiceOK L a):
 ∃l a',loopU u___brepkernelmade_Dice__record_l0 ((),(),(),c,L,a,n1,t1,t2,[],())=some (.inl ((),(),L,a',n1,t1,t2,l,()))∧OkR l∧DiceOK L a':=by
 obtain⟨e,h1,l,a',h2,h3,h4⟩:=loopU_inv (F:=u___brepkernelmade_Dice__record_l0)
  (fun s=>∃c a l,s=((),(),(),c,L,a,n1,t1,t2,l,())∧0≤c∧(l.length:Int)+c≤3∧(∀x∈l,OkA 3 x)∧DiceOK L a)
  (fun s=>s.2.2.2.1.toNat)
  (fun e=>∃l a',e=.inl ((),(),L,a',n1,t1,t2,l,())∧OkR l∧DiceOK L a')
  (fun s hs=>by
   obtain⟨c,a,l,rfl,hc0,hcl,hl,ha⟩:=hs
   by_cases h:0<c
   ·left
    obtain⟨k,neg,num,den,text,ref,q,a2,hr,hok,ha2⟩:=s_Arg 2 17 (by decide) ha
    have hr':u___brepkernelmade_Dice__Arg ((),(2:Int),L,a,())=some (k,neg,num,den,text,ref,q,L,a2,()):=hr
    refine⟨_,?_,⟨c-1,a2,l++[argT k neg num den text ref q],rfl,by omega,by simp;omega,fun x hx=>?_,ha2⟩,?_⟩
    ·unfold u___brepkernelmade_Dice__record_l0
     simp only[ltI_eq,subI_eq]
     rw[decide_eq_true h,wr64 (n:=c-1) (by omega) (by omega),hr']
     simp only[cond_true,obS]
     rw[room_ok (by simp;omega) (by decide)]
     rfl
    ·rcases List.mem_append.1 hx with hx | hx
     ·exact hl x hx
     ·rw[List.mem_singleton] at hx;exact hx▸hok
    ·show (c-1).toNat<c.toNat
     omega
   ·right
    refine⟨_,?_,l,a,rfl,⟨by omega,hl⟩,ha⟩
    unfold u___brepkernelmade_Dice__record_l0
    simp only[ltI_eq]
    rw[decide_eq_false h]
    rfl) _ ⟨c,a,[],rfl,hc0,by simp;omega,fun x hx=>by simp at hx,ha⟩
 exact⟨l,a',h2▸h1,h3,h4⟩
theorem s_record{L:List T}{a:Int}(ha:DiceOK L a):∃name args a',u___brepkernelmade_Dice__record ((),L,a,())=some (name,args,L,a',())∧OkR args∧DiceOK L a':=by
 unfold u___brepkernelmade_Dice__record
 obtain⟨v,a1,e,h0,h1,ha1⟩:=s_Next ha (n:=12) (by decide) (by decide)
 obtain⟨u,a2,e2,g0,g1,ha2⟩:=s_Next ha1 (n:=4) (by decide) (by decide)
 rw[e]
 simp only[obS,lenL_eq,List.length_cons,List.length_nil]
 rw[chkI_int h0 (by omega)]
 obtain⟨i,rfl⟩:=Int.eq_ofNat_of_zero_le h0
 have hi:i<12:=by omega
 simp only[obS,Int.toNat_natCast,idxN_eq,e2]
 generalize hl:([_,_,_,_,_,_,_,_,_,_,_,_]:List T)=names
 obtain⟨x,hx⟩:∃x,names[i]?=some x:=⟨_,List.getElem?_eq_getElem (by rw[←hl];exact hi)⟩
 obtain⟨s,rfl⟩:∃s,x=.v (.string s):=by
  have:=List.mem_of_getElem? hx
  rw[←hl] at this
  simp only[List.mem_cons,List.not_mem_nil,or_false] at this
  rcases this with rfl | rfl | rfl | rfl | rfl | rfl | rfl | rfl | rfl | rfl | rfl | rfl <;> exact⟨_,rfl⟩
 rw[hx]
 simp only[obS,T_cell_v]
 obtain⟨l,a3,hlo,hok,ha3⟩:=rec_loop (n1:=ByteArray.mk #[]) (t1:=.v (.slice none 0 0)) (t2:=.v (.string s)) g0 (by omega) ha2
 rw[hlo]
 simp only[obS,onS_l,T_str]
 exact⟨s,l,a3,rfl,hok,ha3⟩
theorem OkR.ent{id:Int}{name:ByteArray}{args:List T}(h:OkR args):OkE (entT id name args):=⟨id,name,args,rfl,by have:=h.1;omega,fun x hx=>(h.2 x hx).le (by decide)⟩
theorem file_l0{L:List T}{n c a:Int}{t1 t2:T}{d:List T}(hc0:0≤c)(hc:c≤2)(ha:DiceOK L a):
 ∃l a',loopU u___brepkernelmade_Dice__File_l0 ((),n,(),(),c,L,a,t1,t2,[],d,())=some (.inl ((),n,(),(),L,a',t1,t2,l,d,()))∧l.length≤2∧DiceOK L a':=by
 obtain⟨e,h1,l,a',h2,h3,h4⟩:=loopU_inv (F:=u___brepkernelmade_Dice__File_l0)
  (fun s=>∃c a l,s=((),n,(),(),c,L,a,t1,t2,l,d,())∧0≤c∧(l.length:Int)+c≤2∧DiceOK L a)
  (fun s=>s.2.2.2.2.1.toNat)
  (fun e=>∃l a',e=.inl ((),n,(),(),L,a',t1,t2,l,d,())∧l.length≤2∧DiceOK L a')
  (fun s hs=>by
   obtain⟨c,a,l,rfl,hc0,hcl,ha⟩:=hs
   by_cases h:0<c
   ·left
    obtain⟨name,args,a2,hr,hok,ha2⟩:=s_record ha
    refine⟨_,?_,⟨c-1,a2,l++[.agg [.v (.string name),.sl 7 args]],rfl,by omega,by simp;omega,ha2⟩,?_⟩
    ·unfold u___brepkernelmade_Dice__File_l0
     simp only[ltI_eq,subI_eq]
     rw[decide_eq_true h,wr64 (n:=c-1) (by omega) (by omega),hr]
     simp only[cond_true,obS]
     rw[room_ok (by simp;omega) (by decide)]
     rfl
    ·show (c-1).toNat<c.toNat
     omega
   ·right
    refine⟨_,?_,l,a,rfl,by omega,ha⟩
    unfold u___brepkernelmade_Dice__File_l0
    simp only[ltI_eq]
    rw[decide_eq_false h]
    rfl) _ ⟨c,a,[],rfl,hc0,by simp;omega,ha⟩
 exact⟨l,a',h2▸h1,h3,h4⟩
theorem file_l1{L:List T}{c a:Int}{t1 t2:T}{d:List T}(hc0:0≤c)(hc:c≤16)(ha:DiceOK L a):
 ∃l a',loopU u___brepkernelmade_Dice__File_l1 ((),(),(),c,L,a,t1,t2,d,[],())=some (.inl ((),(),L,a',t1,t2,d,l,()))∧OkD l∧DiceOK L a':=by
 obtain⟨e,h1,l,a',h2,h3,h4⟩:=loopU_inv (F:=u___brepkernelmade_Dice__File_l1)
  (fun s=>∃c a l,s=((),(),(),c,L,a,t1,t2,d,l,())∧0≤c∧(l.length:Int)+c≤16∧(∀x∈l,OkE x)∧DiceOK L a)
  (fun s=>s.2.2.2.1.toNat)
  (fun e=>∃l a',e=.inl ((),(),L,a',t1,t2,d,l,())∧OkD l∧DiceOK L a')
  (fun s hs=>by
   obtain⟨c,a,l,rfl,hc0,hcl,hl,ha⟩:=hs
   by_cases h:0<c
   ·left
    obtain⟨b,a1,hb,ha1⟩:=s_Bool ha (n:=8) (by decide) (by decide)
    have main:∀(id:Int) (a2:Int),DiceOK L a2→∃name args a3,OkR args∧DiceOK L a3 ∧
     (ob (u___brepkernelmade_Dice__record ((),L,a2,())) fun x12=>(ob (room l [(T.agg [(T.v (.int .i64 id)),(T.v (.string x12.1)),(T.sl 7 x12.2.1)])] 48) fun x13=>(some (Sum.inl ((),(),(),(wr .i64 (c-1)),x12.2.2.1,x12.2.2.2.1,t1,t2,d,x13,())):Option ((Unit×Unit×Unit×Int×List T×Int×T×T×List T×List T×Unit)⊕((Unit×Unit×List T×Int×T×T×List T×List T×Unit)⊕Empty))))) =
     some (Sum.inl ((),(),(),c-1,L,a3,t1,t2,d,l++[entT id name args],())):=fun id a2 ha2=>by
     obtain⟨name,args,a3,hr,hok,ha3⟩:=s_record ha2
     refine⟨name,args,a3,hok,ha3,?_⟩
     rw[hr,wr64 (n:=c-1) (by omega) (by omega)]
     simp only[obS]
     rw[room_ok (by simp;omega) (by decide)]
     rfl
    cases b with
    | true=>
     obtain⟨v,a2,e,h0,h1,ha2⟩:=s_Next ha1 (n:=5) (by decide) (by decide)
     obtain⟨name,args,a3,hok,ha3,hm⟩:=main v a2 ha2
     refine⟨_,?_,⟨c-1,a3,l++[entT v name args],rfl,by omega,by simp;omega,fun x hx=>?_,ha3⟩,?_⟩
     ·unfold u___brepkernelmade_Dice__File_l1
      simp only[ltI_eq,subI_eq]
      rw[decide_eq_true h,hb]
      simp only[cond_true,obS,e,onS_l]
      exact hm
     ·rcases List.mem_append.1 hx with hx | hx
      ·exact hl x hx
      ·rw[List.mem_singleton] at hx;exact hx▸hok.ent
     ·show (c-1).toNat<c.toNat
      omega
    | false=>
     obtain⟨name,args,a3,hok,ha3,hm⟩:=main ((l.length:Int)+1) a1 ha1
     refine⟨_,?_,⟨c-1,a3,l++[entT ((l.length:Int)+1) name args],rfl,by omega,by simp;omega,fun x hx=>?_,ha3⟩,?_⟩
     ·unfold u___brepkernelmade_Dice__File_l1
      simp only[ltI_eq,subI_eq,addI_eq,lenL_eq]
      rw[decide_eq_true h,hb,wr64 (n:=(l.length:Int)+1) (by omega) (by omega)]
      simp only[cond_true,cond_false,obS,onS_l]
      exact hm
     ·rcases List.mem_append.1 hx with hx | hx
      ·exact hl x hx
      ·rw[List.mem_singleton] at hx;exact hx▸hok.ent
     ·show (c-1).toNat<c.toNat
      omega
   ·right
    refine⟨_,?_,l,a,rfl,⟨by omega,hl⟩,ha⟩
    unfold u___brepkernelmade_Dice__File_l1
    simp only[ltI_eq]
    rw[decide_eq_false h]
    rfl) _ ⟨c,a,[],rfl,hc0,by simp;omega,fun x hx=>by simp at hx,ha⟩
 exact⟨l,a',h2▸h1,h3,h4⟩
theorem s_File{L:List T}{a n:Int}(hn0:0≤n)(hn:n≤15)(ha:DiceOK L a):∃H D a',u___brepkernelmade_Dice__File ((),n,L,a,())=some (H,D,L,a',())∧OkD D∧DiceOK L a':=by
 unfold u___brepkernelmade_Dice__File
 obtain⟨v,a1,e,h0,h1,ha1⟩:=s_Next ha (n:=3) (by decide) (by decide)
 rw[e]
 simp only[obS]
 obtain⟨H,a2,hH,_,ha2⟩:=file_l0 (n:=n) (t1:=.v (.slice none 0 0)) (t2:=.v (.slice none 0 0)) (d:=[]) h0 (by omega) ha1
 rw[hH]
 simp only[obS,onS_l,addI_eq]
 rw[wr64 (by omega) (by omega)]
 obtain⟨u,a3,e3,g0,g1,ha3⟩:=s_Next ha2 (n:=n+1) (by omega) (by omega)
 rw[e3]
 simp only[obS]
 obtain⟨D,a4,hD,hok,ha4⟩:=file_l1 (t1:=.v (.slice none 0 0)) (t2:=.v (.slice none 0 0)) (d:=H) g0 (by omega) ha3
 rw[hD]
 simp only[obS,onS_l]
 exact⟨H,D,a4,rfl,hok,ha4⟩
end Go.Eng.En
namespace Go.Eng.En
open Go.Eng
theorem law_orders(zs:List Int):u_brepkernellaw24_EntityOrders (zs.map intT,())=some (true,()):=by
 unfold u_brepkernellaw24_EntityOrders
 rw[s_Light,List.length_map,e_sane]
 simp only[obS]
 by_cases hl:zs.length≤500
 ·rw[decide_eq_true hl,s_Roll]
  simp only[Bool.not_true,cond_false,obS]
  obtain⟨H,D,a',hf,hD,_⟩:=s_File (n:=8) (by decide) (by decide) (show DiceOK (zs.map intT) 0 from⟨zs,rfl,by omega,by omega,by omega⟩)
  rw[hf]
  simp only[obS]
  rw[e_Order hD]
  simp only[obS]
  by_cases hc:chkT D D.length=[]
  ·rw[if_pos hc]
   cases ho:ordS D D.length [] with
   | none=>simp
   | some o=>
    simp only[Bool.not_true,cond_false]
    obtain⟨h1,h2⟩:=ordS_good D.length [] o ho fun p q hp=>by simp at hp
    have h2':o.length=D.length:=by simpa using h2
    simp only[lenL_eq,List.length_map]
    rw[law_l0 hD h1 h2']
    simp only[obS,onS_r,onS_l,lenL_eq,List.length_map,eqI_eq]
    rw[decide_eq_true (by omega)]
    rfl
  ·rw[if_neg hc]
   simp
 ·rw[decide_eq_false hl]
  rfl
end Go.Eng.En
