/- The functions and the laws of this seat in plain words; each statement names its conditions. -/
import Derived.Deep.WholeRow
import Derived.Test.YtlfdplabancdcaaEng4
import Derived.Test.YtlfdplabancdcaaEng3
import Derived.Test.YtlfdplabancdcaaProg
set_option linter.unusedSimpArgs false
set_option linter.unusedVariables false
namespace Go.Eng
open Go.Proofs
theorem mixed:Try.prog.follows .mixedOrders=true:=by kernel_rfl
def sg_brepkernelmade_Mod:Sig:={ na:=2,np:=0,hin:={ items:=[.slot 0,.slot 1],shapes:=[.int Go.IntKind.i64,.int Go.IntKind.i64] },nres:=1,kept:=[],nnew:=0,hout:={ items:=[.slot 0],shapes:=[.int Go.IntKind.i64] },nob:=28 }
noncomputable def g_brepkernelmade_Mod:List (Go.FuncId×Callee):=[]
noncomputable def u_brepkernelmade_Mod(t:(Int×(Int×Unit))):Option (Int×Unit):=
 (ob (Go.Eng.nz t.2.1) fun x0=>(ob (α:=((Int×Unit)⊕Empty)) (bif (Go.Eng.ltI (Go.Eng.modI t.1 x0) (0:Int)) then (some (Sum.inl ((Go.Eng.wr Go.IntKind.i64 (Go.Eng.addI (Go.Eng.modI t.1 x0) t.2.1)),()))) else (some (Sum.inl ((Go.Eng.modI t.1 x0),())))) fun q1=>onS q1 (fun t2=>(some (t2.1,()))) fun q3=>noS q3))
def h_brepkernelmade_Mod:HT:=(.seq .leaf (.seq .leaf (.seq (.join [(AEx.normal,{ items:=[.slot 0],shapes:=[.int Go.IntKind.i64] })] .leaf) .leaf)))
theorem ok_brepkernelmade_Mod:TabOK Try.prog [] g_brepkernelmade_Mod:=TabOK.nil
theorem e_brepkernelmade_Mod:∀t,bodyG Try.prog g_brepkernelmade_Mod [] h_brepkernelmade_Mod Try.f35 sg_brepkernelmade_Mod t=u_brepkernelmade_Mod t:=by
 intro t
 kernel_rfl
theorem k_brepkernelmade_Mod:(calleeOf sg_brepkernelmade_Mod u_brepkernelmade_Mod).OK Try.prog 35:=calleeG_ok mixed ok_brepkernelmade_Mod Try.func35 (by kernel_rfl) (by kernel_rfl) e_brepkernelmade_Mod
def sg___brepkernelmade_Dice__Next:Sig:={ na:=2,np:=1,hin:={ items:=[.slot 0,.slot 1,.box 0 2],shapes:=[.lit (.box 0 0),.int Go.IntKind.i64,.sl 1,.int Go.IntKind.i64] },nres:=1,kept:=[],nnew:=0,hout:={ items:=[.slot 0,.box 0 2],shapes:=[.int Go.IntKind.i64,.sl 1,.int Go.IntKind.i64] },nob:=70 }
noncomputable def g___brepkernelmade_Dice__Next:List (Go.FuncId×Callee):=[(35,(calleeOf sg_brepkernelmade_Mod u_brepkernelmade_Mod))]
noncomputable def u___brepkernelmade_Dice__Next(t:(Unit×(Int×((List T)×(Int×Unit))))):Option (Int×((List T)×(Int×Unit))):=
 (bif (Go.Eng.leI (Go.Eng.lenL t.2.2.1) t.2.2.2.1) then (some ((0:Int),(t.2.2.1,(t.2.2.2.1,())))) else (ob (Go.Eng.idxL t.2.2.1 (Go.Eng.wr Go.IntKind.i64 (Go.Eng.subI (Go.Eng.wr Go.IntKind.i64 (Go.Eng.addI t.2.2.2.1 (1:Int))) (1:Int)))) fun x0=>(ob (Go.Eng.T.int? Go.IntKind.i64 (Go.Eng.T.cell x0 0)) fun x1=>(ob (Go.Eng.u_brepkernelmade_Mod (x1,(t.2.1,()))) fun x2=>(some (x2.1,(t.2.2.1,((Go.Eng.wr Go.IntKind.i64 (Go.Eng.addI t.2.2.2.1 (1:Int))),()))))))))
def h___brepkernelmade_Dice__Next:HT:=.leaf
theorem ok___brepkernelmade_Dice__Next:TabOK Try.prog [35] g___brepkernelmade_Dice__Next:=(TabOK.cons (fun _=>⟨_,Try.func35,by kernel_rfl,by kernel_rfl⟩) k_brepkernelmade_Mod (calleeOf_nat _ _) (fun _=>(calleeOf_pure (by kernel_rfl))) (by kernel_rfl) (fun _=>callK_framed (calleeOf_nat _ _) rfl rfl) (by kernel_rfl) TabOK.nil)
theorem e___brepkernelmade_Dice__Next:∀t,bodyG Try.prog g___brepkernelmade_Dice__Next [35] h___brepkernelmade_Dice__Next Try.f14 sg___brepkernelmade_Dice__Next t=u___brepkernelmade_Dice__Next t:=by
 intro t
 kernel_rfl
theorem k___brepkernelmade_Dice__Next:(calleeOf sg___brepkernelmade_Dice__Next u___brepkernelmade_Dice__Next).OK Try.prog 14:=calleeG_ok mixed ok___brepkernelmade_Dice__Next Try.func14 (by kernel_rfl) (by kernel_rfl) e___brepkernelmade_Dice__Next
def sg___brepkernelmade_Dice__Bool:Sig:={ na:=2,np:=1,hin:={ items:=[.slot 0,.slot 1,.box 0 2],shapes:=[.lit (.box 0 0),.int Go.IntKind.i64,.sl 1,.int Go.IntKind.i64] },nres:=1,kept:=[],nnew:=0,hout:={ items:=[.slot 0,.box 0 2],shapes:=[.bool,.sl 1,.int Go.IntKind.i64] },nob:=22 }
noncomputable def g___brepkernelmade_Dice__Bool:List (Go.FuncId×Callee):=[(14,(calleeOf sg___brepkernelmade_Dice__Next u___brepkernelmade_Dice__Next))]
noncomputable def u___brepkernelmade_Dice__Bool(t:(Unit×(Int×((List T)×(Int×Unit))))):Option (Bool×((List T)×(Int×Unit))):=
 (ob (Go.Eng.u___brepkernelmade_Dice__Next ((),(t.2.1,(t.2.2.1,(t.2.2.2.1,()))))) fun x0=>(some ((Go.Eng.eqI x0.1 (Go.Eng.wr Go.IntKind.i64 (Go.Eng.subI t.2.1 (1:Int)))),(x0.2.1,(x0.2.2.1,())))))
def h___brepkernelmade_Dice__Bool:HT:=.leaf
theorem ok___brepkernelmade_Dice__Bool:TabOK Try.prog [] g___brepkernelmade_Dice__Bool:=(TabOK.cons (fun _=>⟨_,Try.func14,by kernel_rfl,by kernel_rfl⟩) k___brepkernelmade_Dice__Next (calleeOf_nat _ _) (fun h=>by cases h) (by kernel_rfl) (fun _=>callK_framed (calleeOf_nat _ _) rfl rfl) (by kernel_rfl) TabOK.nil)
theorem e___brepkernelmade_Dice__Bool:∀t,bodyG Try.prog g___brepkernelmade_Dice__Bool [] h___brepkernelmade_Dice__Bool Try.f16 sg___brepkernelmade_Dice__Bool t=u___brepkernelmade_Dice__Bool t:=by
 intro t
 kernel_rfl
theorem k___brepkernelmade_Dice__Bool:(calleeOf sg___brepkernelmade_Dice__Bool u___brepkernelmade_Dice__Bool).OK Try.prog 16:=calleeG_ok mixed ok___brepkernelmade_Dice__Bool Try.func16 (by kernel_rfl) (by kernel_rfl) e___brepkernelmade_Dice__Bool
def sg_brepkernelmade_Light:Sig:={ na:=1,np:=0,hin:={ items:=[.slot 0],shapes:=[.sl 1] },nres:=1,kept:=[],nnew:=0,hout:={ items:=[.slot 0],shapes:=[.bool] },nob:=12 }
noncomputable def g_brepkernelmade_Light:List (Go.FuncId×Callee):=[]
noncomputable def u_brepkernelmade_Light(t:((List T)×Unit)):Option (Bool×Unit):=
 (some ((Go.Eng.leI (Go.Eng.lenL t.1) (500:Int)),()))
def h_brepkernelmade_Light:HT:=.leaf
theorem ok_brepkernelmade_Light:TabOK Try.prog [] g_brepkernelmade_Light:=TabOK.nil
theorem e_brepkernelmade_Light:∀t,bodyG Try.prog g_brepkernelmade_Light [] h_brepkernelmade_Light Try.f4 sg_brepkernelmade_Light t=u_brepkernelmade_Light t:=by
 intro t
 kernel_rfl
theorem k_brepkernelmade_Light:(calleeOf sg_brepkernelmade_Light u_brepkernelmade_Light).OK Try.prog 4:=calleeG_ok mixed ok_brepkernelmade_Light Try.func4 (by kernel_rfl) (by kernel_rfl) e_brepkernelmade_Light
def sg_brepkernelmade_Roll:Sig:={ na:=1,np:=0,hin:={ items:=[.slot 0],shapes:=[.sl 1] },nres:=1,kept:=[],nnew:=1,hout:={ items:=[.boxr 0 0 2],shapes:=[.sl 1,.int Go.IntKind.i64] },nob:=12 }
noncomputable def g_brepkernelmade_Roll:List (Go.FuncId×Callee):=[]
noncomputable def u_brepkernelmade_Roll(t:((List T)×Unit)):Option ((List T)×(Int×Unit)):=
 (some (t.1,((0:Int),())))
def h_brepkernelmade_Roll:HT:=.leaf
theorem ok_brepkernelmade_Roll:TabOK Try.prog [] g_brepkernelmade_Roll:=TabOK.nil
theorem e_brepkernelmade_Roll:∀t,bodyG Try.prog g_brepkernelmade_Roll [] h_brepkernelmade_Roll Try.f6 sg_brepkernelmade_Roll t=u_brepkernelmade_Roll t:=by
 intro t
 kernel_rfl
theorem k_brepkernelmade_Roll:(calleeOf sg_brepkernelmade_Roll u_brepkernelmade_Roll).OK Try.prog 6:=calleeG_ok mixed ok_brepkernelmade_Roll Try.func6 (by kernel_rfl) (by kernel_rfl) e_brepkernelmade_Roll
def sg_ref01_small:Sig:={ na:=1,np:=0,hin:={ items:=[.slot 0],shapes:=[.sl 1] },nres:=2,kept:=[],nnew:=0,hout:={ items:=[.slot 0,.slot 1],shapes:=[.int Go.IntKind.u64,.bool] },nob:=52 }
noncomputable def g_ref01_small:List (Go.FuncId×Callee):=[]
noncomputable def u_ref01_small(t:((List T)×Unit)):Option (Int×(Bool×Unit)):=
 (bif (Go.Eng.eqI (Go.Eng.lenL t.1) (0:Int)) then (some ((0:Int),(Bool.true,()))) else (bif (Go.Eng.eqI (Go.Eng.lenL t.1) (1:Int)) then (ob (Go.Eng.idxL t.1 (0:Int)) fun x0=>(ob (Go.Eng.T.anyInt? (Go.Eng.T.cell x0 0)) fun x1=>(some ((Go.Eng.wr Go.IntKind.u64 x1),(Bool.true,()))))) else (bif (Go.Eng.eqI (Go.Eng.lenL t.1) (2:Int)) then (ob (Go.Eng.idxL t.1 (0:Int)) fun x2=>(ob (Go.Eng.T.anyInt? (Go.Eng.T.cell x2 0)) fun x3=>(ob (Go.Eng.idxL t.1 (1:Int)) fun x4=>(ob (Go.Eng.T.anyInt? (Go.Eng.T.cell x4 0)) fun x5=>(ob (Go.Eng.nn (32:Int)) fun x6=>(some ((Go.Eng.bitI Go.BinOp.or Go.IntKind.u64 (Go.Eng.wr Go.IntKind.u64 x3) (Go.Eng.wr Go.IntKind.u64 (Go.Eng.shlI Go.IntKind.u64 (Go.Eng.wr Go.IntKind.u64 x5) x6))),(Bool.true,())))))))) else (some ((0:Int),(Bool.false,()))))))
def h_ref01_small:HT:=.leaf
theorem ok_ref01_small:TabOK Try.prog [] g_ref01_small:=TabOK.nil
theorem e_ref01_small:∀t,bodyG Try.prog g_ref01_small [] h_ref01_small Try.f77 sg_ref01_small t=u_ref01_small t:=by
 intro t
 kernel_rfl
theorem k_ref01_small:(calleeOf sg_ref01_small u_ref01_small).OK Try.prog 77:=calleeG_ok mixed ok_ref01_small Try.func77 (by kernel_rfl) (by kernel_rfl) e_ref01_small
def sg_ref01_Trim:Sig:={ na:=1,np:=0,hin:={ items:=[.slot 0],shapes:=[.sl 1] },nres:=1,kept:=[],nnew:=0,hout:={ items:=[.slot 0],shapes:=[.sl 1] },nob:=46 }
noncomputable def g_ref01_Trim:List (Go.FuncId×Callee):=[]
noncomputable def u_ref01_Trim_l0(s0:(List T×Int×Unit)):Option ((List T×Int×Unit)⊕((List T×Int×Unit)⊕Empty)):=
 (bif (Go.Eng.ltI (0:Int) s0.2.1) then (ob (Go.Eng.idxL s0.1 (Go.Eng.wr Go.IntKind.i64 (Go.Eng.subI s0.2.1 (1:Int)))) fun x1=>(ob (Go.Eng.T.int? Go.IntKind.u32 (Go.Eng.T.cell x1 0)) fun x2=>(bif (Go.Eng.eqI x2 (0:Int)) then (some (Sum.inl (s0.1,((Go.Eng.wr Go.IntKind.i64 (Go.Eng.subI s0.2.1 (1:Int))),())))) else (some (Sum.inr (Sum.inl (s0.1,(s0.2.1,())))))))) else (some (Sum.inr (Sum.inl (s0.1,(s0.2.1,()))))))
noncomputable def u_ref01_Trim(t:((List T)×Unit)):Option ((List T)×Unit):=
 (ob (loopU u_ref01_Trim_l0 (t.1,((Go.Eng.lenL t.1),()))) fun q3=>onS q3 (fun t4=>(ob (Go.Eng.cutL t4.1 (0:Int) t4.2.1) fun x5=>(ob (Go.Eng.room [] x5 4) fun x6=>(some (x6,()))))) fun q7=>noS q7)
def h_ref01_Trim:HT:=(.seq .leaf (.seq .leaf (.seq (.one (.loop { items:=[.slot 0,.slot 3],shapes:=[.sl 1,.int Go.IntKind.i64] } [((AEx.exit 0),{ items:=[.slot 0,.slot 3],shapes:=[.sl 1,.int Go.IntKind.i64] })] .leaf)) .leaf)))
theorem ok_ref01_Trim:TabOK Try.prog [] g_ref01_Trim:=TabOK.nil
theorem e_ref01_Trim:∀t,bodyG Try.prog g_ref01_Trim [] h_ref01_Trim Try.f66 sg_ref01_Trim t=u_ref01_Trim t:=by
 intro t
 kernel_rfl
theorem k_ref01_Trim:(calleeOf sg_ref01_Trim u_ref01_Trim).OK Try.prog 66:=calleeG_ok mixed ok_ref01_Trim Try.func66 (by kernel_rfl) (by kernel_rfl) e_ref01_Trim
def sg_ref01_Of:Sig:={ na:=1,np:=0,hin:={ items:=[.slot 0],shapes:=[.int Go.IntKind.u64] },nres:=1,kept:=[],nnew:=0,hout:={ items:=[.slot 0],shapes:=[.sl 1] },nob:=20 }
noncomputable def g_ref01_Of:List (Go.FuncId×Callee):=[(66,(calleeOf sg_ref01_Trim u_ref01_Trim))]
noncomputable def u_ref01_Of(t:(Int×Unit)):Option ((List T)×Unit):=
 (ob (Go.Eng.nn (32:Int)) fun x0=>(ob (Go.Eng.u_ref01_Trim ([(Go.Eng.T.v (Go.Value.int Go.IntKind.u32 (Go.Eng.wr Go.IntKind.u32 t.1))),(Go.Eng.T.v (Go.Value.int Go.IntKind.u32 (Go.Eng.wr Go.IntKind.u32 (Go.Eng.shrI Go.IntKind.u64 t.1 x0))))],())) fun x1=>(some (x1.1,()))))
def h_ref01_Of:HT:=.leaf
theorem ok_ref01_Of:TabOK Try.prog [] g_ref01_Of:=(TabOK.cons (fun _=>⟨_,Try.func66,by kernel_rfl,by kernel_rfl⟩) k_ref01_Trim (calleeOf_nat _ _) (fun h=>by cases h) (by kernel_rfl) (fun _=>callK_framed (calleeOf_nat _ _) rfl rfl) (by kernel_rfl) TabOK.nil)
theorem e_ref01_Of:∀t,bodyG Try.prog g_ref01_Of [] h_ref01_Of Try.f51 sg_ref01_Of t=u_ref01_Of t:=by
 intro t
 kernel_rfl
theorem k_ref01_Of:(calleeOf sg_ref01_Of u_ref01_Of).OK Try.prog 51:=calleeG_ok mixed ok_ref01_Of Try.func51 (by kernel_rfl) (by kernel_rfl) e_ref01_Of
def sg_ref01_Cmp:Sig:={ na:=2,np:=0,hin:={ items:=[.slot 0,.slot 1],shapes:=[.sl 1,.sl 1] },nres:=1,kept:=[],nnew:=0,hout:={ items:=[.slot 0],shapes:=[.int Go.IntKind.i64] },nob:=82 }
noncomputable def g_ref01_Cmp:List (Go.FuncId×Callee):=[]
noncomputable def u_ref01_Cmp_l0(s0:(List T×List T×Int×Unit)):Option ((List T×List T×Int×Unit)⊕((Int×Unit)⊕((Unit)⊕Empty))):=
 (bif (Go.Eng.leI (0:Int) s0.2.2.1) then (ob (Go.Eng.idxL s0.1 s0.2.2.1) fun x1=>(ob (Go.Eng.idxL s0.2.1 s0.2.2.1) fun x2=>(ob (Go.Eng.T.int? Go.IntKind.u32 (Go.Eng.T.cell x1 0)) fun x3=>(ob (Go.Eng.T.int? Go.IntKind.u32 (Go.Eng.T.cell x2 0)) fun x4=>(bif (Go.Eng.ltI x3 x4) then (some (Sum.inr (Sum.inl ((-1:Int),())))) else (ob (Go.Eng.idxL s0.1 s0.2.2.1) fun x5=>(ob (Go.Eng.idxL s0.2.1 s0.2.2.1) fun x6=>(ob (Go.Eng.T.int? Go.IntKind.u32 (Go.Eng.T.cell x5 0)) fun x7=>(ob (Go.Eng.T.int? Go.IntKind.u32 (Go.Eng.T.cell x6 0)) fun x8=>(bif (Go.Eng.ltI x8 x7) then (some (Sum.inr (Sum.inl ((1:Int),())))) else (some (Sum.inl (s0.1,(s0.2.1,((Go.Eng.wr Go.IntKind.i64 (Go.Eng.subI s0.2.2.1 (1:Int))),()))))))))))))))) else (some (Sum.inr (Sum.inr (Sum.inl ())))))
noncomputable def u_ref01_Cmp(t:((List T)×((List T)×Unit))):Option (Int×Unit):=
 (bif (Bool.not (Go.Eng.eqI (Go.Eng.lenL t.1) (Go.Eng.lenL t.2.1))) then (bif (Go.Eng.ltI (Go.Eng.lenL t.1) (Go.Eng.lenL t.2.1)) then (some ((-1:Int),())) else (some ((1:Int),()))) else (ob (loopU u_ref01_Cmp_l0 (t.1,(t.2.1,((Go.Eng.wr Go.IntKind.i64 (Go.Eng.subI (Go.Eng.lenL t.1) (1:Int))),())))) fun q9=>onS q9 (fun t10=>(some (t10.1,()))) fun q11=>onS q11 (fun t12=>(some ((0:Int),()))) fun q13=>noS q13))
def h_ref01_Cmp:HT:=(.seq .leaf (.seq .leaf (.seq (.seq .leaf (.one (.loop { items:=[.slot 0,.slot 1,.slot 5],shapes:=[.sl 1,.sl 1,.int Go.IntKind.i64] } [(AEx.ret,{ items:=[.slot 4],shapes:=[.int Go.IntKind.i64] }),((AEx.exit 0),{ items:=[],shapes:=[] })] .leaf))) .leaf)))
theorem ok_ref01_Cmp:TabOK Try.prog [] g_ref01_Cmp:=TabOK.nil
theorem e_ref01_Cmp:∀t,bodyG Try.prog g_ref01_Cmp [] h_ref01_Cmp Try.f78 sg_ref01_Cmp t=u_ref01_Cmp t:=by
 intro t
 kernel_rfl
theorem k_ref01_Cmp:(calleeOf sg_ref01_Cmp u_ref01_Cmp).OK Try.prog 78:=calleeG_ok mixed ok_ref01_Cmp Try.func78 (by kernel_rfl) (by kernel_rfl) e_ref01_Cmp
def sg_ref01_Mul:Sig:={ na:=2,np:=0,hin:={ items:=[.slot 0,.slot 1],shapes:=[.sl 1,.sl 1] },nres:=1,kept:=[],nnew:=0,hout:={ items:=[.slot 0],shapes:=[.sl 1] },nob:=134 }
noncomputable def g_ref01_Mul:List (Go.FuncId×Callee):=[(66,(calleeOf sg_ref01_Trim u_ref01_Trim))]
noncomputable def u_ref01_Mul_l1(s2:(List T×List T×List T×Int×Int×Int×Unit)):Option ((List T×List T×List T×Int×Int×Int×Unit)⊕((List T×List T×List T×Int×Int×Unit)⊕Empty)):=
 (bif (Go.Eng.ltI s2.2.2.2.2.2.1 (Go.Eng.lenL s2.2.1)) then (ob (Go.Eng.idxL s2.1 s2.2.2.2.1) fun x3=>(ob (Go.Eng.T.anyInt? (Go.Eng.T.cell x3 0)) fun x4=>(ob (Go.Eng.idxL s2.2.1 s2.2.2.2.2.2.1) fun x5=>(ob (Go.Eng.T.anyInt? (Go.Eng.T.cell x5 0)) fun x6=>(ob (Go.Eng.chkI (Go.Eng.lenL s2.2.2.1) (Go.Eng.wr Go.IntKind.i64 (Go.Eng.addI s2.2.2.2.1 s2.2.2.2.2.2.1))) fun x7=>(ob (Go.Eng.idxN s2.2.2.1 x7) fun x8=>(ob (Go.Eng.T.anyInt? (Go.Eng.T.cell x8 0)) fun x9=>(ob (Go.Eng.chkI (Go.Eng.lenL s2.2.2.1) (Go.Eng.wr Go.IntKind.i64 (Go.Eng.addI s2.2.2.2.1 s2.2.2.2.2.2.1))) fun x10=>(ob (Go.Eng.idxN s2.2.2.1 x10) fun x11=>(ob (Go.Eng.nn (32:Int)) fun x12=>(some (Sum.inl (s2.1,(s2.2.1,((List.set s2.2.2.1 x10 (Go.Eng.T.upd 1 x11 0 [(Go.Eng.T.v (Go.Value.int Go.IntKind.u32 (Go.Eng.wr Go.IntKind.u32 (Go.Eng.wr Go.IntKind.u64 (Go.Eng.addI s2.2.2.2.2.1 (Go.Eng.wr Go.IntKind.u64 (Go.Eng.addI (Go.Eng.wr Go.IntKind.u64 (Go.Eng.mulI (Go.Eng.wr Go.IntKind.u64 x4) (Go.Eng.wr Go.IntKind.u64 x6))) (Go.Eng.wr Go.IntKind.u64 x9))))))))])),(s2.2.2.2.1,((Go.Eng.shrI Go.IntKind.u64 (Go.Eng.wr Go.IntKind.u64 (Go.Eng.addI s2.2.2.2.2.1 (Go.Eng.wr Go.IntKind.u64 (Go.Eng.addI (Go.Eng.wr Go.IntKind.u64 (Go.Eng.mulI (Go.Eng.wr Go.IntKind.u64 x4) (Go.Eng.wr Go.IntKind.u64 x6))) (Go.Eng.wr Go.IntKind.u64 x9))))) x12),((Go.Eng.wr Go.IntKind.i64 (Go.Eng.addI s2.2.2.2.2.2.1 (1:Int))),())))))))))))))))))) else (some (Sum.inr (Sum.inl (s2.1,(s2.2.1,(s2.2.2.1,(s2.2.2.2.1,(s2.2.2.2.2.1,())))))))))
noncomputable def u_ref01_Mul_l0(s1:(List T×List T×List T×Int×Unit)):Option ((List T×List T×List T×Int×Unit)⊕((List T×Unit)⊕Empty)):=
 (bif (Go.Eng.ltI s1.2.2.2.1 (Go.Eng.lenL s1.1)) then (ob (loopU u_ref01_Mul_l1 (s1.1,(s1.2.1,(s1.2.2.1,(s1.2.2.2.1,((0:Int),((0:Int),()))))))) fun q13=>onS q13 (fun t14=>(ob (Go.Eng.chkI (Go.Eng.lenL t14.2.2.1) (Go.Eng.wr Go.IntKind.i64 (Go.Eng.addI t14.2.2.2.1 (Go.Eng.lenL t14.2.1)))) fun x15=>(ob (Go.Eng.idxN t14.2.2.1 x15) fun x16=>(some (Sum.inl (t14.1,(t14.2.1,((List.set t14.2.2.1 x15 (Go.Eng.T.upd 1 x16 0 [(Go.Eng.T.v (Go.Value.int Go.IntKind.u32 (Go.Eng.wr Go.IntKind.u32 t14.2.2.2.2.1)))])),((Go.Eng.wr Go.IntKind.i64 (Go.Eng.addI t14.2.2.2.1 (1:Int))),()))))))))) fun q17=>noS q17) else (some (Sum.inr (Sum.inl (s1.2.2.1,())))))
noncomputable def u_ref01_Mul(t:((List T)×((List T)×Unit))):Option ((List T)×Unit):=
 (ob (Go.Eng.mkLen (Go.Eng.wr Go.IntKind.i64 (Go.Eng.addI (Go.Eng.lenL t.1) (Go.Eng.lenL t.2.1))) (Go.Eng.wr Go.IntKind.i64 (Go.Eng.addI (Go.Eng.lenL t.1) (Go.Eng.lenL t.2.1))) 4) fun x0=>(ob (loopU u_ref01_Mul_l0 (t.1,(t.2.1,((Go.Eng.repL x0.1 (Go.Eng.T.v (Go.Value.int Go.IntKind.u32 (0:Int)))),((0:Int),()))))) fun q18=>onS q18 (fun t19=>(ob (Go.Eng.u_ref01_Trim (t19.1,())) fun x20=>(some (x20.1,())))) fun q21=>noS q21))
def h_ref01_Mul:HT:=(.seq .leaf (.seq .leaf (.seq (.seq .leaf (.one (.loop { items:=[.slot 0,.slot 1,.slot 5,.slot 6],shapes:=[.sl 1,.sl 1,.row 62 1 14,.int Go.IntKind.i64] } [((AEx.exit 0),{ items:=[.slot 5],shapes:=[.row 62 1 14] })] (.seq .leaf (.seq (.one (.seq .leaf (.seq (.seq .leaf (.one (.loop { items:=[.slot 0,.slot 1,.slot 5,.slot 6,.slot 7,.slot 8],shapes:=[.sl 1,.sl 1,.row 62 1 14,.int Go.IntKind.i64,.int Go.IntKind.u64,.int Go.IntKind.i64] } [((AEx.exit 2),{ items:=[.slot 0,.slot 1,.slot 5,.slot 6,.slot 7],shapes:=[.sl 1,.sl 1,.row 62 1 14,.int Go.IntKind.i64,.int Go.IntKind.u64] })] .leaf))) .leaf))) .leaf))))) .leaf)))
theorem ok_ref01_Mul:TabOK Try.prog [] g_ref01_Mul:=(TabOK.cons (fun _=>⟨_,Try.func66,by kernel_rfl,by kernel_rfl⟩) k_ref01_Trim (calleeOf_nat _ _) (fun h=>by cases h) (by kernel_rfl) (fun _=>callK_framed (calleeOf_nat _ _) rfl rfl) (by kernel_rfl) TabOK.nil)
theorem e_ref01_Mul:∀t,bodyG Try.prog g_ref01_Mul [] h_ref01_Mul Try.f87 sg_ref01_Mul t=u_ref01_Mul t:=by
 intro t
 kernel_rfl
theorem k_ref01_Mul:(calleeOf sg_ref01_Mul u_ref01_Mul).OK Try.prog 87:=calleeG_ok mixed ok_ref01_Mul Try.func87 (by kernel_rfl) (by kernel_rfl) e_ref01_Mul
def sg_ref01_minus:Sig:={ na:=2,np:=0,hin:={ items:=[.slot 0,.slot 1],shapes:=[.sl 1,.sl 1] },nres:=1,kept:=[],nnew:=0,hout:={ items:=[.slot 0],shapes:=[.sl 1] },nob:=100 }
noncomputable def g_ref01_minus:List (Go.FuncId×Callee):=[(66,(calleeOf sg_ref01_Trim u_ref01_Trim))]
noncomputable def u_ref01_minus_l0(s1:(List T×List T×List T×Int×Int×Unit)):Option ((List T×List T×List T×Int×Int×Unit)⊕((List T×Unit)⊕Empty)):=
 (bif (Go.Eng.ltI s1.2.2.2.2.1 (Go.Eng.lenL s1.1)) then (ob (α:=((List T×List T×List T×Int×Int×Unit)⊕Empty)) (bif (Go.Eng.ltI s1.2.2.2.2.1 (Go.Eng.lenL s1.2.1)) then (ob (Go.Eng.idxL s1.2.1 s1.2.2.2.2.1) fun x2=>(ob (Go.Eng.T.anyInt? (Go.Eng.T.cell x2 0)) fun x3=>(some (Sum.inl (s1.1,(s1.2.1,(s1.2.2.1,(s1.2.2.2.2.1,((Go.Eng.wr Go.IntKind.u64 (Go.Eng.addI s1.2.2.2.1 (Go.Eng.wr Go.IntKind.u64 x3))),()))))))))) else (some (Sum.inl (s1.1,(s1.2.1,(s1.2.2.1,(s1.2.2.2.2.1,(s1.2.2.2.1,())))))))) fun q4=>onS q4 (fun t5=>(ob (Go.Eng.idxL t5.1 t5.2.2.2.1) fun x6=>(ob (Go.Eng.T.anyInt? (Go.Eng.T.cell x6 0)) fun x7=>(ob (α:=((List T×List T×List T×Int×Int×Int×Int×Unit)⊕Empty)) (bif (Go.Eng.ltI (Go.Eng.wr Go.IntKind.u64 x7) t5.2.2.2.2.1) then (some (Sum.inl (t5.1,(t5.2.1,(t5.2.2.1,((1:Int),(t5.2.2.2.1,(t5.2.2.2.2.1,((Go.Eng.wr Go.IntKind.u64 (Go.Eng.addI (Go.Eng.wr Go.IntKind.u64 x7) (4294967296:Int))),()))))))))) else (some (Sum.inl (t5.1,(t5.2.1,(t5.2.2.1,((0:Int),(t5.2.2.2.1,(t5.2.2.2.2.1,((Go.Eng.wr Go.IntKind.u64 x7),())))))))))) fun q8=>onS q8 (fun t9=>(ob (Go.Eng.chkI (Go.Eng.lenL t9.2.2.1) t9.2.2.2.2.1) fun x10=>(ob (Go.Eng.idxN t9.2.2.1 x10) fun x11=>(some (Sum.inl (t9.1,(t9.2.1,((List.set t9.2.2.1 x10 (Go.Eng.T.upd 1 x11 0 [(Go.Eng.T.v (Go.Value.int Go.IntKind.u32 (Go.Eng.wr Go.IntKind.u32 (Go.Eng.wr Go.IntKind.u64 (Go.Eng.subI t9.2.2.2.2.2.2.1 t9.2.2.2.2.2.1)))))])),(t9.2.2.2.1,((Go.Eng.wr Go.IntKind.i64 (Go.Eng.addI t9.2.2.2.2.1 (1:Int))),())))))))))) fun q12=>noS q12)))) fun q13=>noS q13) else (some (Sum.inr (Sum.inl (s1.2.2.1,())))))
noncomputable def u_ref01_minus(t:((List T)×((List T)×Unit))):Option ((List T)×Unit):=
 (ob (Go.Eng.mkLen (Go.Eng.lenL t.1) (Go.Eng.lenL t.1) 4) fun x0=>(ob (loopU u_ref01_minus_l0 (t.1,(t.2.1,((Go.Eng.repL x0.1 (Go.Eng.T.v (Go.Value.int Go.IntKind.u32 (0:Int)))),((0:Int),((0:Int),())))))) fun q14=>onS q14 (fun t15=>(ob (Go.Eng.u_ref01_Trim (t15.1,())) fun x16=>(some (x16.1,())))) fun q17=>noS q17))
def h_ref01_minus:HT:=(.seq .leaf (.seq .leaf (.seq .leaf (.seq (.seq .leaf (.one (.loop { items:=[.slot 0,.slot 1,.slot 5,.slot 6,.slot 7],shapes:=[.sl 1,.sl 1,.row 62 1 12,.int Go.IntKind.u64,.int Go.IntKind.i64] } [((AEx.exit 0),{ items:=[.slot 5],shapes:=[.row 62 1 12] })] (.seq .leaf (.seq (.one (.seq .leaf (.seq (.join [(AEx.normal,{ items:=[.slot 0,.slot 1,.slot 5,.slot 7,.slot 8],shapes:=[.sl 1,.sl 1,.row 62 1 12,.int Go.IntKind.i64,.int Go.IntKind.u64] })] .leaf) (.seq .leaf (.seq .leaf (.seq (.join [(AEx.normal,{ items:=[.slot 0,.slot 1,.slot 5,.slot 6,.slot 7,.slot 8,.slot 9],shapes:=[.sl 1,.sl 1,.row 62 1 12,.int Go.IntKind.u64,.int Go.IntKind.i64,.int Go.IntKind.u64,.int Go.IntKind.u64] })] .leaf) .leaf)))))) .leaf))))) .leaf))))
theorem ok_ref01_minus:TabOK Try.prog [] g_ref01_minus:=(TabOK.cons (fun _=>⟨_,Try.func66,by kernel_rfl,by kernel_rfl⟩) k_ref01_Trim (calleeOf_nat _ _) (fun h=>by cases h) (by kernel_rfl) (fun _=>callK_framed (calleeOf_nat _ _) rfl rfl) (by kernel_rfl) TabOK.nil)
theorem e_ref01_minus:∀t,bodyG Try.prog g_ref01_minus [] h_ref01_minus Try.f84 sg_ref01_minus t=u_ref01_minus t:=by
 intro t
 kernel_rfl
theorem k_ref01_minus:(calleeOf sg_ref01_minus u_ref01_minus).OK Try.prog 84:=calleeG_ok mixed ok_ref01_minus Try.func84 (by kernel_rfl) (by kernel_rfl) e_ref01_minus
def sg_ref01_Bits:Sig:={ na:=1,np:=0,hin:={ items:=[.slot 0],shapes:=[.sl 1] },nres:=1,kept:=[],nnew:=0,hout:={ items:=[.slot 0],shapes:=[.int Go.IntKind.i64] },nob:=50 }
noncomputable def g_ref01_Bits:List (Go.FuncId×Callee):=[]
noncomputable def u_ref01_Bits_l0(s1:(Int×Int×Unit)):Option ((Int×Int×Unit)⊕((Int×Unit)⊕Empty)):=
 (bif (Bool.not (Go.Eng.eqI s1.2.1 (0:Int))) then (ob (Go.Eng.nn (1:Int)) fun x2=>(some (Sum.inl ((Go.Eng.wr Go.IntKind.i64 (Go.Eng.addI s1.1 (1:Int))),((Go.Eng.shrI Go.IntKind.u32 s1.2.1 x2),()))))) else (some (Sum.inr (Sum.inl (s1.1,())))))
noncomputable def u_ref01_Bits(t:((List T)×Unit)):Option (Int×Unit):=
 (bif (Go.Eng.eqI (Go.Eng.lenL t.1) (0:Int)) then (some ((0:Int),())) else (ob (Go.Eng.idxL t.1 (Go.Eng.wr Go.IntKind.i64 (Go.Eng.subI (Go.Eng.lenL t.1) (1:Int)))) fun x0=>(ob (Go.Eng.T.int? Go.IntKind.u32 (Go.Eng.T.cell x0 0)) fun x3=>(ob (loopU u_ref01_Bits_l0 ((Go.Eng.wr Go.IntKind.i64 (Go.Eng.mulI (32:Int) (Go.Eng.wr Go.IntKind.i64 (Go.Eng.subI (Go.Eng.lenL t.1) (1:Int))))),(x3,()))) fun q4=>onS q4 (fun t5=>(some (t5.1,()))) fun q6=>noS q6))))
def h_ref01_Bits:HT:=(.seq .leaf (.seq .leaf (.seq .leaf (.seq (.seq .leaf (.one (.loop { items:=[.slot 3,.slot 4],shapes:=[.int Go.IntKind.i64,.int Go.IntKind.u32] } [((AEx.exit 0),{ items:=[.slot 3],shapes:=[.int Go.IntKind.i64] })] .leaf))) .leaf))))
theorem ok_ref01_Bits:TabOK Try.prog [] g_ref01_Bits:=TabOK.nil
theorem e_ref01_Bits:∀t,bodyG Try.prog g_ref01_Bits [] h_ref01_Bits Try.f80 sg_ref01_Bits t=u_ref01_Bits t:=by
 intro t
 kernel_rfl
theorem k_ref01_Bits:(calleeOf sg_ref01_Bits u_ref01_Bits).OK Try.prog 80:=calleeG_ok mixed ok_ref01_Bits Try.func80 (by kernel_rfl) (by kernel_rfl) e_ref01_Bits
def sg_ref01_up:Sig:={ na:=2,np:=0,hin:={ items:=[.slot 0,.slot 1],shapes:=[.sl 1,.int Go.IntKind.i64] },nres:=1,kept:=[],nnew:=0,hout:={ items:=[.slot 0],shapes:=[.sl 1] },nob:=80 }
noncomputable def g_ref01_up:List (Go.FuncId×Callee):=[(66,(calleeOf sg_ref01_Trim u_ref01_Trim))]
noncomputable def u_ref01_up_l0(s1:(List T×Int×List T×Int×Int×Unit)):Option ((List T×Int×List T×Int×Int×Unit)⊕((List T×Int×Unit)⊕Empty)):=
 (bif (Go.Eng.ltI s1.2.2.2.2.1 (Go.Eng.lenL s1.1)) then (ob (Go.Eng.idxL s1.1 s1.2.2.2.2.1) fun x2=>(ob (Go.Eng.T.anyInt? (Go.Eng.T.cell x2 0)) fun x3=>(ob (Go.Eng.nn (Go.Eng.modI s1.2.1 (32:Int))) fun x4=>(ob (Go.Eng.room s1.2.2.1 [(Go.Eng.T.v (Go.Value.int Go.IntKind.u32 (Go.Eng.wr Go.IntKind.u32 (Go.Eng.bitI Go.BinOp.or Go.IntKind.u64 s1.2.2.2.1 (Go.Eng.wr Go.IntKind.u64 (Go.Eng.shlI Go.IntKind.u64 (Go.Eng.wr Go.IntKind.u64 x3) x4))))))] 4) fun x5=>(ob (Go.Eng.nn (32:Int)) fun x6=>(some (Sum.inl (s1.1,(s1.2.1,(x5,((Go.Eng.shrI Go.IntKind.u64 (Go.Eng.bitI Go.BinOp.or Go.IntKind.u64 s1.2.2.2.1 (Go.Eng.wr Go.IntKind.u64 (Go.Eng.shlI Go.IntKind.u64 (Go.Eng.wr Go.IntKind.u64 x3) x4))) x6),((Go.Eng.wr Go.IntKind.i64 (Go.Eng.addI s1.2.2.2.2.1 (1:Int))),())))))))))))) else (some (Sum.inr (Sum.inl (s1.2.2.1,(s1.2.2.2.1,()))))))
noncomputable def u_ref01_up(t:((List T)×(Int×Unit))):Option ((List T)×Unit):=
 (ob (Go.Eng.mkLen (Go.Eng.wr Go.IntKind.i64 (Go.Eng.divI t.2.1 (32:Int))) (Go.Eng.wr Go.IntKind.i64 (Go.Eng.divI t.2.1 (32:Int))) 4) fun x0=>(ob (loopU u_ref01_up_l0 (t.1,(t.2.1,((Go.Eng.repL x0.1 (Go.Eng.T.v (Go.Value.int Go.IntKind.u32 (0:Int)))),((0:Int),((0:Int),())))))) fun q7=>onS q7 (fun t8=>(ob (Go.Eng.room t8.1 [(Go.Eng.T.v (Go.Value.int Go.IntKind.u32 (Go.Eng.wr Go.IntKind.u32 t8.2.1)))] 4) fun x9=>(ob (Go.Eng.u_ref01_Trim (x9,())) fun x10=>(some (x10.1,()))))) fun q11=>noS q11))
def h_ref01_up:HT:=(.seq .leaf (.seq .leaf (.seq .leaf (.seq (.seq .leaf (.one (.loop { items:=[.slot 0,.slot 1,.slot 5,.slot 6,.slot 7],shapes:=[.sl 1,.int Go.IntKind.i64,.row 62 1 10,.int Go.IntKind.u64,.int Go.IntKind.i64] } [((AEx.exit 0),{ items:=[.slot 5,.slot 6],shapes:=[.row 62 1 10,.int Go.IntKind.u64] })] .leaf))) .leaf))))
theorem ok_ref01_up:TabOK Try.prog [] g_ref01_up:=(TabOK.cons (fun _=>⟨_,Try.func66,by kernel_rfl,by kernel_rfl⟩) k_ref01_Trim (calleeOf_nat _ _) (fun h=>by cases h) (by kernel_rfl) (fun _=>callK_framed (calleeOf_nat _ _) rfl rfl) (by kernel_rfl) TabOK.nil)
theorem e_ref01_up:∀t,bodyG Try.prog g_ref01_up [] h_ref01_up Try.f81 sg_ref01_up t=u_ref01_up t:=by
 intro t
 kernel_rfl
theorem k_ref01_up:(calleeOf sg_ref01_up u_ref01_up).OK Try.prog 81:=calleeG_ok mixed ok_ref01_up Try.func81 (by kernel_rfl) (by kernel_rfl) e_ref01_up
def sg_ref01_shifted:Sig:={ na:=2,np:=0,hin:={ items:=[.slot 0,.slot 1],shapes:=[.sl 1,.int Go.IntKind.i64] },nres:=1,kept:=[],nnew:=0,hout:={ items:=[.slot 0],shapes:=[.sl 1] },nob:=24 }
noncomputable def g_ref01_shifted:List (Go.FuncId×Callee):=[]
noncomputable def u_ref01_shifted(t:((List T)×(Int×Unit))):Option ((List T)×Unit):=
 (bif (Go.Eng.eqI (Go.Eng.lenL t.1) (0:Int)) then (some ([],())) else (ob (Go.Eng.mkLen t.2.1 t.2.1 4) fun x0=>(ob (Go.Eng.room (Go.Eng.repL x0.1 (Go.Eng.T.v (Go.Value.int Go.IntKind.u32 (0:Int)))) t.1 4) fun x1=>(some (x1,())))))
def h_ref01_shifted:HT:=.leaf
theorem ok_ref01_shifted:TabOK Try.prog [] g_ref01_shifted:=TabOK.nil
theorem e_ref01_shifted:∀t,bodyG Try.prog g_ref01_shifted [] h_ref01_shifted Try.f82 sg_ref01_shifted t=u_ref01_shifted t:=by
 intro t
 kernel_rfl
theorem k_ref01_shifted:(calleeOf sg_ref01_shifted u_ref01_shifted).OK Try.prog 82:=calleeG_ok mixed ok_ref01_shifted Try.func82 (by kernel_rfl) (by kernel_rfl) e_ref01_shifted
def sg_ref01_times:Sig:={ na:=2,np:=0,hin:={ items:=[.slot 0,.slot 1],shapes:=[.sl 1,.int Go.IntKind.u32] },nres:=1,kept:=[],nnew:=0,hout:={ items:=[.slot 0],shapes:=[.sl 1] },nob:=20 }
noncomputable def g_ref01_times:List (Go.FuncId×Callee):=[(51,(calleeOf sg_ref01_Of u_ref01_Of)),(87,(calleeOf sg_ref01_Mul u_ref01_Mul))]
noncomputable def u_ref01_times(t:((List T)×(Int×Unit))):Option ((List T)×Unit):=
 (ob (Go.Eng.u_ref01_Of ((Go.Eng.wr Go.IntKind.u64 t.2.1),())) fun x0=>(ob (Go.Eng.u_ref01_Mul (t.1,(x0.1,()))) fun x1=>(some (x1.1,()))))
def h_ref01_times:HT:=.leaf
theorem ok_ref01_times:TabOK Try.prog [] g_ref01_times:=(TabOK.cons (fun _=>⟨_,Try.func51,by kernel_rfl,by kernel_rfl⟩) k_ref01_Of (calleeOf_nat _ _) (fun h=>by cases h) (by kernel_rfl) (fun _=>callK_framed (calleeOf_nat _ _) rfl rfl) (by kernel_rfl) (TabOK.cons (fun _=>⟨_,Try.func87,by kernel_rfl,by kernel_rfl⟩) k_ref01_Mul (calleeOf_nat _ _) (fun h=>by cases h) (by kernel_rfl) (fun _=>callK_framed (calleeOf_nat _ _) rfl rfl) (by kernel_rfl) TabOK.nil))
theorem e_ref01_times:∀t,bodyG Try.prog g_ref01_times [] h_ref01_times Try.f83 sg_ref01_times t=u_ref01_times t:=by
 intro t
 kernel_rfl
theorem k_ref01_times:(calleeOf sg_ref01_times u_ref01_times).OK Try.prog 83:=calleeG_ok mixed ok_ref01_times Try.func83 (by kernel_rfl) (by kernel_rfl) e_ref01_times
def sg_ref01_byLimb:Sig:={ na:=2,np:=0,hin:={ items:=[.slot 0,.slot 1],shapes:=[.sl 1,.int Go.IntKind.u32] },nres:=2,kept:=[],nnew:=0,hout:={ items:=[.slot 0,.slot 1],shapes:=[.sl 1,.int Go.IntKind.u32] },nob:=86 }
noncomputable def g_ref01_byLimb:List (Go.FuncId×Callee):=[(66,(calleeOf sg_ref01_Trim u_ref01_Trim))]
noncomputable def u_ref01_byLimb_l0(s1:(List T×Int×List T×Int×Int×Unit)):Option ((List T×Int×List T×Int×Int×Unit)⊕((List T×Int×Unit)⊕Empty)):=
 (bif (Go.Eng.leI (0:Int) s1.2.2.2.2.1) then (ob (Go.Eng.nn (32:Int)) fun x2=>(ob (Go.Eng.idxL s1.1 s1.2.2.2.2.1) fun x3=>(ob (Go.Eng.T.anyInt? (Go.Eng.T.cell x3 0)) fun x4=>(ob (Go.Eng.nz (Go.Eng.wr Go.IntKind.u64 s1.2.1)) fun x5=>(ob (Go.Eng.chkI (Go.Eng.lenL s1.2.2.1) s1.2.2.2.2.1) fun x6=>(ob (Go.Eng.idxN s1.2.2.1 x6) fun x7=>(ob (Go.Eng.nz (Go.Eng.wr Go.IntKind.u64 s1.2.1)) fun x8=>(some (Sum.inl (s1.1,(s1.2.1,((List.set s1.2.2.1 x6 (Go.Eng.T.upd 1 x7 0 [(Go.Eng.T.v (Go.Value.int Go.IntKind.u32 (Go.Eng.wr Go.IntKind.u32 (Go.Eng.wr Go.IntKind.u64 (Go.Eng.divI (Go.Eng.bitI Go.BinOp.or Go.IntKind.u64 (Go.Eng.wr Go.IntKind.u64 (Go.Eng.shlI Go.IntKind.u64 s1.2.2.2.1 x2)) (Go.Eng.wr Go.IntKind.u64 x4)) x5)))))])),((Go.Eng.modI (Go.Eng.bitI Go.BinOp.or Go.IntKind.u64 (Go.Eng.wr Go.IntKind.u64 (Go.Eng.shlI Go.IntKind.u64 s1.2.2.2.1 x2)) (Go.Eng.wr Go.IntKind.u64 x4)) x8),((Go.Eng.wr Go.IntKind.i64 (Go.Eng.subI s1.2.2.2.2.1 (1:Int))),())))))))))))))) else (some (Sum.inr (Sum.inl (s1.2.2.1,(s1.2.2.2.1,()))))))
noncomputable def u_ref01_byLimb(t:((List T)×(Int×Unit))):Option ((List T)×(Int×Unit)):=
 (ob (Go.Eng.mkLen (Go.Eng.lenL t.1) (Go.Eng.lenL t.1) 4) fun x0=>(ob (loopU u_ref01_byLimb_l0 (t.1,(t.2.1,((Go.Eng.repL x0.1 (Go.Eng.T.v (Go.Value.int Go.IntKind.u32 (0:Int)))),((0:Int),((Go.Eng.wr Go.IntKind.i64 (Go.Eng.subI (Go.Eng.lenL t.1) (1:Int))),())))))) fun q9=>onS q9 (fun t10=>(ob (Go.Eng.u_ref01_Trim (t10.1,())) fun x11=>(some (x11.1,((Go.Eng.wr Go.IntKind.u32 t10.2.1),()))))) fun q12=>noS q12))
def h_ref01_byLimb:HT:=(.seq .leaf (.seq .leaf (.seq .leaf (.seq (.seq .leaf (.one (.loop { items:=[.slot 0,.slot 1,.slot 6,.slot 7,.slot 8],shapes:=[.sl 1,.int Go.IntKind.u32,.row 62 1 11,.int Go.IntKind.u64,.int Go.IntKind.i64] } [((AEx.exit 0),{ items:=[.slot 6,.slot 7],shapes:=[.row 62 1 11,.int Go.IntKind.u64] })] .leaf))) .leaf))))
theorem ok_ref01_byLimb:TabOK Try.prog [] g_ref01_byLimb:=(TabOK.cons (fun _=>⟨_,Try.func66,by kernel_rfl,by kernel_rfl⟩) k_ref01_Trim (calleeOf_nat _ _) (fun h=>by cases h) (by kernel_rfl) (fun _=>callK_framed (calleeOf_nat _ _) rfl rfl) (by kernel_rfl) TabOK.nil)
theorem e_ref01_byLimb:∀t,bodyG Try.prog g_ref01_byLimb [] h_ref01_byLimb Try.f79 sg_ref01_byLimb t=u_ref01_byLimb t:=by
 intro t
 kernel_rfl
theorem k_ref01_byLimb:(calleeOf sg_ref01_byLimb u_ref01_byLimb).OK Try.prog 79:=calleeG_ok mixed ok_ref01_byLimb Try.func79 (by kernel_rfl) (by kernel_rfl) e_ref01_byLimb
def sg_ref01_down:Sig:={ na:=2,np:=0,hin:={ items:=[.slot 0,.slot 1],shapes:=[.sl 1,.int Go.IntKind.i64] },nres:=1,kept:=[],nnew:=0,hout:={ items:=[.slot 0],shapes:=[.sl 1] },nob:=110 }
noncomputable def g_ref01_down:List (Go.FuncId×Callee):=[(66,(calleeOf sg_ref01_Trim u_ref01_Trim))]
noncomputable def u_ref01_down_l0(s2:(List T×Int×List T×Int×Unit)):Option ((List T×Int×List T×Int×Unit)⊕((List T×Unit)⊕Empty)):=
 (bif (Go.Eng.ltI s2.2.2.2.1 (Go.Eng.lenL s2.1)) then (ob (Go.Eng.idxL s2.1 s2.2.2.2.1) fun x3=>(ob (Go.Eng.T.anyInt? (Go.Eng.T.cell x3 0)) fun x4=>(ob (α:=((List T×Int×List T×Int×Int×Unit)⊕Empty)) (bif (Go.Eng.ltI (Go.Eng.wr Go.IntKind.i64 (Go.Eng.addI s2.2.2.2.1 (1:Int))) (Go.Eng.lenL s2.1)) then (ob (Go.Eng.idxL s2.1 (Go.Eng.wr Go.IntKind.i64 (Go.Eng.addI s2.2.2.2.1 (1:Int)))) fun x5=>(ob (Go.Eng.T.anyInt? (Go.Eng.T.cell x5 0)) fun x6=>(ob (Go.Eng.nn (32:Int)) fun x7=>(some (Sum.inl (s2.1,(s2.2.1,(s2.2.2.1,(s2.2.2.2.1,((Go.Eng.bitI Go.BinOp.or Go.IntKind.u64 (Go.Eng.wr Go.IntKind.u64 x4) (Go.Eng.wr Go.IntKind.u64 (Go.Eng.shlI Go.IntKind.u64 (Go.Eng.wr Go.IntKind.u64 x6) x7))),())))))))))) else (some (Sum.inl (s2.1,(s2.2.1,(s2.2.2.1,(s2.2.2.2.1,((Go.Eng.wr Go.IntKind.u64 x4),())))))))) fun q8=>onS q8 (fun t9=>(ob (Go.Eng.nn (Go.Eng.modI t9.2.1 (32:Int))) fun x10=>(ob (Go.Eng.chkI (Go.Eng.lenL t9.2.2.1) t9.2.2.2.1) fun x11=>(ob (Go.Eng.idxN t9.2.2.1 x11) fun x12=>(some (Sum.inl (t9.1,(t9.2.1,((List.set t9.2.2.1 x11 (Go.Eng.T.upd 1 x12 0 [(Go.Eng.T.v (Go.Value.int Go.IntKind.u32 (Go.Eng.wr Go.IntKind.u32 (Go.Eng.shrI Go.IntKind.u64 t9.2.2.2.2.1 x10))))])),((Go.Eng.wr Go.IntKind.i64 (Go.Eng.addI t9.2.2.2.1 (1:Int))),())))))))))) fun q13=>noS q13))) else (some (Sum.inr (Sum.inl (s2.2.2.1,())))))
noncomputable def u_ref01_down(t:((List T)×(Int×Unit))):Option ((List T)×Unit):=
 (bif (Go.Eng.leI (Go.Eng.lenL t.1) (Go.Eng.wr Go.IntKind.i64 (Go.Eng.divI t.2.1 (32:Int)))) then (some ([],())) else (ob (Go.Eng.cutL t.1 (Go.Eng.wr Go.IntKind.i64 (Go.Eng.divI t.2.1 (32:Int))) (Go.Eng.lenL t.1)) fun x0=>(ob (Go.Eng.mkLen (Go.Eng.lenL x0) (Go.Eng.lenL x0) 4) fun x1=>(ob (loopU u_ref01_down_l0 (x0,(t.2.1,((Go.Eng.repL x1.1 (Go.Eng.T.v (Go.Value.int Go.IntKind.u32 (0:Int)))),((0:Int),()))))) fun q14=>onS q14 (fun t15=>(ob (Go.Eng.u_ref01_Trim (t15.1,())) fun x16=>(some (x16.1,())))) fun q17=>noS q17))))
def h_ref01_down:HT:=(.seq .leaf (.seq .leaf (.seq .leaf (.seq .leaf (.seq (.seq .leaf (.one (.loop { items:=[.slot 0,.slot 1,.slot 5,.slot 6],shapes:=[.sl 1,.int Go.IntKind.i64,.row 62 1 19,.int Go.IntKind.i64] } [((AEx.exit 0),{ items:=[.slot 5],shapes:=[.row 62 1 19] })] (.seq .leaf (.seq (.one (.seq .leaf (.seq (.join [(AEx.normal,{ items:=[.slot 0,.slot 1,.slot 5,.slot 6,.slot 7],shapes:=[.sl 1,.int Go.IntKind.i64,.row 62 1 19,.int Go.IntKind.i64,.int Go.IntKind.u64] })] .leaf) .leaf))) .leaf))))) .leaf)))))
theorem ok_ref01_down:TabOK Try.prog [] g_ref01_down:=(TabOK.cons (fun _=>⟨_,Try.func66,by kernel_rfl,by kernel_rfl⟩) k_ref01_Trim (calleeOf_nat _ _) (fun h=>by cases h) (by kernel_rfl) (fun _=>callK_framed (calleeOf_nat _ _) rfl rfl) (by kernel_rfl) TabOK.nil)
theorem e_ref01_down:∀t,bodyG Try.prog g_ref01_down [] h_ref01_down Try.f85 sg_ref01_down t=u_ref01_down t:=by
 intro t
 kernel_rfl
theorem k_ref01_down:(calleeOf sg_ref01_down u_ref01_down).OK Try.prog 85:=calleeG_ok mixed ok_ref01_down Try.func85 (by kernel_rfl) (by kernel_rfl) e_ref01_down
def sg_ref01_Div:Sig:={ na:=2,np:=0,hin:={ items:=[.slot 0,.slot 1],shapes:=[.sl 1,.sl 1] },nres:=3,kept:=[],nnew:=0,hout:={ items:=[.slot 0,.slot 1,.slot 2],shapes:=[.sl 1,.sl 1,.int Go.IntKind.i64] },nob:=326 }
noncomputable def g_ref01_Div:List (Go.FuncId×Callee):=[(78,(calleeOf sg_ref01_Cmp u_ref01_Cmp)),(66,(calleeOf sg_ref01_Trim u_ref01_Trim)),(77,(calleeOf sg_ref01_small u_ref01_small)),(51,(calleeOf sg_ref01_Of u_ref01_Of)),(79,(calleeOf sg_ref01_byLimb u_ref01_byLimb)),(80,(calleeOf sg_ref01_Bits u_ref01_Bits)),(81,(calleeOf sg_ref01_up u_ref01_up)),(83,(calleeOf sg_ref01_times u_ref01_times)),(82,(calleeOf sg_ref01_shifted u_ref01_shifted)),(84,(calleeOf sg_ref01_minus u_ref01_minus)),(85,(calleeOf sg_ref01_down u_ref01_down))]
noncomputable def u_ref01_Div_l1(s33:(List T×List T×List T×Int×Int×Int×Int×List T×Unit)):Option ((List T×List T×List T×Int×Int×Int×Int×List T×Unit)⊕((List T×List T×List T×Int×Int×Int×Int×List T×Unit)⊕Empty)):=
 (ob (Go.Eng.u_ref01_Cmp (s33.2.2.2.2.2.2.2.1,(s33.2.2.1,()))) fun x34=>(bif (Go.Eng.ltI (0:Int) x34.1) then (ob (Go.Eng.u_ref01_shifted (s33.1,(s33.2.2.2.2.2.1,()))) fun x35=>(ob (Go.Eng.u_ref01_minus (s33.2.2.2.2.2.2.2.1,(x35.1,()))) fun x36=>(some (Sum.inl (s33.1,(s33.2.1,(s33.2.2.1,(s33.2.2.2.1,(s33.2.2.2.2.1,(s33.2.2.2.2.2.1,((Go.Eng.wr Go.IntKind.u64 (Go.Eng.subI s33.2.2.2.2.2.2.1 (1:Int))),(x36.1,())))))))))))) else (some (Sum.inr (Sum.inl (s33.1,(s33.2.1,(s33.2.2.1,(s33.2.2.2.1,(s33.2.2.2.2.1,(s33.2.2.2.2.2.1,(s33.2.2.2.2.2.2.1,(s33.2.2.2.2.2.2.2.1,())))))))))))))
noncomputable def u_ref01_Div_l0(s17:(List T×List T×List T×Int×Int×Int×Unit)):Option ((List T×List T×List T×Int×Int×Int×Unit)⊕((List T×List T×Int×Unit)⊕Empty)):=
 (bif (Go.Eng.leI (0:Int) s17.2.2.2.2.2.1) then (ob (α:=((List T×List T×List T×Int×Int×Int×Int×Unit)⊕Empty)) (bif (Go.Eng.ltI (Go.Eng.wr Go.IntKind.i64 (Go.Eng.addI s17.2.2.2.2.2.1 s17.2.2.2.2.1)) (Go.Eng.lenL s17.2.2.1)) then (ob (Go.Eng.idxL s17.2.2.1 (Go.Eng.wr Go.IntKind.i64 (Go.Eng.addI s17.2.2.2.2.2.1 s17.2.2.2.2.1))) fun x18=>(ob (Go.Eng.T.anyInt? (Go.Eng.T.cell x18 0)) fun x19=>(some (Sum.inl (s17.1,(s17.2.1,(s17.2.2.1,(s17.2.2.2.1,(s17.2.2.2.2.1,(s17.2.2.2.2.2.1,((Go.Eng.wr Go.IntKind.u64 x19),()))))))))))) else (some (Sum.inl (s17.1,(s17.2.1,(s17.2.2.1,(s17.2.2.2.1,(s17.2.2.2.2.1,(s17.2.2.2.2.2.1,((0:Int),())))))))))) fun q20=>onS q20 (fun t21=>(ob (α:=((List T×List T×List T×Int×Int×Int×Int×Unit)⊕Empty)) (bif (Go.Eng.ltI (Go.Eng.wr Go.IntKind.i64 (Go.Eng.subI (Go.Eng.wr Go.IntKind.i64 (Go.Eng.addI t21.2.2.2.2.2.1 t21.2.2.2.2.1)) (1:Int))) (Go.Eng.lenL t21.2.2.1)) then (ob (Go.Eng.nn (32:Int)) fun x22=>(ob (Go.Eng.idxL t21.2.2.1 (Go.Eng.wr Go.IntKind.i64 (Go.Eng.subI (Go.Eng.wr Go.IntKind.i64 (Go.Eng.addI t21.2.2.2.2.2.1 t21.2.2.2.2.1)) (1:Int)))) fun x23=>(ob (Go.Eng.T.anyInt? (Go.Eng.T.cell x23 0)) fun x24=>(some (Sum.inl (t21.1,(t21.2.1,(t21.2.2.1,(t21.2.2.2.1,(t21.2.2.2.2.1,(t21.2.2.2.2.2.1,((Go.Eng.bitI Go.BinOp.or Go.IntKind.u64 (Go.Eng.wr Go.IntKind.u64 (Go.Eng.shlI Go.IntKind.u64 t21.2.2.2.2.2.2.1 x22)) (Go.Eng.wr Go.IntKind.u64 x24)),())))))))))))) else (ob (Go.Eng.nn (32:Int)) fun x25=>(some (Sum.inl (t21.1,(t21.2.1,(t21.2.2.1,(t21.2.2.2.1,(t21.2.2.2.2.1,(t21.2.2.2.2.2.1,((Go.Eng.wr Go.IntKind.u64 (Go.Eng.shlI Go.IntKind.u64 t21.2.2.2.2.2.2.1 x25)),()))))))))))) fun q26=>onS q26 (fun t27=>(ob (Go.Eng.idxL t27.1 (Go.Eng.wr Go.IntKind.i64 (Go.Eng.subI t27.2.2.2.2.1 (1:Int)))) fun x28=>(ob (Go.Eng.T.anyInt? (Go.Eng.T.cell x28 0)) fun x29=>(ob (Go.Eng.nz (Go.Eng.wr Go.IntKind.u64 x29)) fun x30=>(ob (Go.Eng.u_ref01_times (t27.1,((Go.Eng.wr Go.IntKind.u32 (Go.Eng.mmI Bool.false (Go.Eng.wr Go.IntKind.u64 (Go.Eng.divI t27.2.2.2.2.2.2.1 x30)) (4294967295:Int))),()))) fun x31=>(ob (Go.Eng.u_ref01_shifted (x31.1,(t27.2.2.2.2.2.1,()))) fun x32=>(ob (loopU u_ref01_Div_l1 (t27.1,(t27.2.1,(t27.2.2.1,(t27.2.2.2.1,(t27.2.2.2.2.1,(t27.2.2.2.2.2.1,((Go.Eng.mmI Bool.false (Go.Eng.wr Go.IntKind.u64 (Go.Eng.divI t27.2.2.2.2.2.2.1 x30)) (4294967295:Int)),(x32.1,()))))))))) fun q37=>onS q37 (fun t38=>(ob (Go.Eng.chkI (Go.Eng.lenL t38.2.1) t38.2.2.2.2.2.1) fun x39=>(ob (Go.Eng.idxN t38.2.1 x39) fun x40=>(ob (Go.Eng.u_ref01_minus (t38.2.2.1,(t38.2.2.2.2.2.2.2.1,()))) fun x41=>(some (Sum.inl (t38.1,((List.set t38.2.1 x39 (Go.Eng.T.upd 1 x40 0 [(Go.Eng.T.v (Go.Value.int Go.IntKind.u32 (Go.Eng.wr Go.IntKind.u32 t38.2.2.2.2.2.2.1)))])),(x41.1,(t38.2.2.2.1,(t38.2.2.2.2.1,((Go.Eng.wr Go.IntKind.i64 (Go.Eng.subI t38.2.2.2.2.2.1 (1:Int))),())))))))))))) fun q42=>noS q42))))))) fun q43=>noS q43)) fun q44=>noS q44) else (some (Sum.inr (Sum.inl (s17.2.1,(s17.2.2.1,(s17.2.2.2.1,())))))))
noncomputable def u_ref01_Div(t:((List T)×((List T)×Unit))):Option ((List T)×((List T)×(Int×Unit))):=
 (bif (Go.Eng.eqI (Go.Eng.lenL t.2.1) (0:Int)) then (some ([],([],((3:Int),())))) else (ob (Go.Eng.u_ref01_Cmp (t.1,(t.2.1,()))) fun x0=>(bif (Go.Eng.ltI x0.1 (0:Int)) then (ob (Go.Eng.u_ref01_Trim (t.1,())) fun x1=>(some ([],(x1.1,((0:Int),()))))) else (ob (Go.Eng.u_ref01_small (t.1,())) fun x2=>(bif x2.2.1 then (ob (Go.Eng.u_ref01_small (t.2.1,())) fun x3=>(ob (Go.Eng.nz x3.1) fun x4=>(ob (Go.Eng.u_ref01_Of ((Go.Eng.wr Go.IntKind.u64 (Go.Eng.divI x2.1 x4)),())) fun x5=>(ob (Go.Eng.nz x3.1) fun x6=>(ob (Go.Eng.u_ref01_Of ((Go.Eng.modI x2.1 x6),())) fun x7=>(some (x5.1,(x7.1,((0:Int),()))))))))) else (bif (Go.Eng.eqI (Go.Eng.lenL t.2.1) (1:Int)) then (ob (Go.Eng.idxL t.2.1 (0:Int)) fun x8=>(ob (Go.Eng.T.int? Go.IntKind.u32 (Go.Eng.T.cell x8 0)) fun x9=>(ob (Go.Eng.u_ref01_byLimb (t.1,(x9,()))) fun x10=>(ob (Go.Eng.u_ref01_Of ((Go.Eng.wr Go.IntKind.u64 x10.2.1),())) fun x11=>(some (x10.1,(x11.1,((0:Int),())))))))) else (ob (Go.Eng.cutL t.2.1 (Go.Eng.wr Go.IntKind.i64 (Go.Eng.subI (Go.Eng.lenL t.2.1) (1:Int))) (Go.Eng.lenL t.2.1)) fun x12=>(ob (Go.Eng.u_ref01_Bits (x12,())) fun x13=>(ob (Go.Eng.u_ref01_up (t.2.1,((Go.Eng.wr Go.IntKind.i64 (Go.Eng.subI (32:Int) x13.1)),()))) fun x14=>(ob (Go.Eng.u_ref01_up (t.1,((Go.Eng.wr Go.IntKind.i64 (Go.Eng.subI (32:Int) x13.1)),()))) fun x15=>(ob (Go.Eng.mkLen (Go.Eng.wr Go.IntKind.i64 (Go.Eng.addI (Go.Eng.wr Go.IntKind.i64 (Go.Eng.subI (Go.Eng.lenL x15.1) (Go.Eng.lenL x14.1))) (1:Int))) (Go.Eng.wr Go.IntKind.i64 (Go.Eng.addI (Go.Eng.wr Go.IntKind.i64 (Go.Eng.subI (Go.Eng.lenL x15.1) (Go.Eng.lenL x14.1))) (1:Int))) 4) fun x16=>(ob (loopU u_ref01_Div_l0 (x14.1,((Go.Eng.repL x16.1 (Go.Eng.T.v (Go.Value.int Go.IntKind.u32 (0:Int)))),(x15.1,((Go.Eng.wr Go.IntKind.i64 (Go.Eng.subI (32:Int) x13.1)),((Go.Eng.lenL x14.1),((Go.Eng.wr Go.IntKind.i64 (Go.Eng.subI (Go.Eng.lenL x15.1) (Go.Eng.lenL x14.1))),()))))))) fun q45=>onS q45 (fun t46=>(ob (Go.Eng.u_ref01_Trim (t46.1,())) fun x47=>(ob (Go.Eng.u_ref01_down (t46.2.1,(t46.2.2.1,()))) fun x48=>(some (x47.1,(x48.1,((0:Int),()))))))) fun q49=>noS q49))))))))))))
def h_ref01_Div:HT:=(.seq .leaf (.seq .leaf (.seq .leaf (.seq .leaf (.seq .leaf (.seq .leaf (.seq .leaf (.seq .leaf (.seq .leaf (.seq (.seq .leaf (.one (.loop { items:=[.slot 1,.slot 4,.slot 5,.slot 13,.slot 14,.slot 15],shapes:=[.sl 1,.row 62 1 82,.sl 1,.int Go.IntKind.i64,.int Go.IntKind.i64,.int Go.IntKind.i64] } [((AEx.exit 0),{ items:=[.slot 4,.slot 5,.slot 13],shapes:=[.row 62 1 82,.sl 1,.int Go.IntKind.i64] })] (.seq .leaf (.seq (.one (.seq .leaf (.seq (.join [(AEx.normal,{ items:=[.slot 1,.slot 4,.slot 5,.slot 13,.slot 14,.slot 15,.slot 16],shapes:=[.sl 1,.row 62 1 82,.sl 1,.int Go.IntKind.i64,.int Go.IntKind.i64,.int Go.IntKind.i64,.int Go.IntKind.u64] })] .leaf) (.seq (.join [(AEx.normal,{ items:=[.slot 1,.slot 4,.slot 5,.slot 13,.slot 14,.slot 15,.slot 16],shapes:=[.sl 1,.row 62 1 82,.sl 1,.int Go.IntKind.i64,.int Go.IntKind.i64,.int Go.IntKind.i64,.int Go.IntKind.u64] })] .leaf) (.seq .leaf (.seq .leaf (.seq (.one (.loop { items:=[.slot 1,.slot 4,.slot 5,.slot 13,.slot 14,.slot 15,.slot 17,.slot 18],shapes:=[.sl 1,.row 62 1 82,.sl 1,.int Go.IntKind.i64,.int Go.IntKind.i64,.int Go.IntKind.i64,.int Go.IntKind.u64,.sl 1] } [((AEx.exit 2),{ items:=[.slot 1,.slot 4,.slot 5,.slot 13,.slot 14,.slot 15,.slot 17,.slot 18],shapes:=[.sl 1,.row 62 1 82,.sl 1,.int Go.IntKind.i64,.int Go.IntKind.i64,.int Go.IntKind.i64,.int Go.IntKind.u64,.sl 1] })] .leaf)) .leaf))))))) .leaf))))) .leaf))))))))))
theorem ok_ref01_Div:TabOK Try.prog [78,77,80] g_ref01_Div:=(TabOK.cons (fun _=>⟨_,Try.func78,by kernel_rfl,by kernel_rfl⟩) k_ref01_Cmp (calleeOf_nat _ _) (fun _=>(calleeOf_pure (by kernel_rfl))) (by kernel_rfl) (fun _=>callK_framed (calleeOf_nat _ _) rfl rfl) (by kernel_rfl) (TabOK.cons (fun _=>⟨_,Try.func66,by kernel_rfl,by kernel_rfl⟩) k_ref01_Trim (calleeOf_nat _ _) (fun h=>by cases h) (by kernel_rfl) (fun _=>callK_framed (calleeOf_nat _ _) rfl rfl) (by kernel_rfl) (TabOK.cons (fun _=>⟨_,Try.func77,by kernel_rfl,by kernel_rfl⟩) k_ref01_small (calleeOf_nat _ _) (fun _=>(calleeOf_pure (by kernel_rfl))) (by kernel_rfl) (fun _=>callK_framed (calleeOf_nat _ _) rfl rfl) (by kernel_rfl) (TabOK.cons (fun _=>⟨_,Try.func51,by kernel_rfl,by kernel_rfl⟩) k_ref01_Of (calleeOf_nat _ _) (fun h=>by cases h) (by kernel_rfl) (fun _=>callK_framed (calleeOf_nat _ _) rfl rfl) (by kernel_rfl) (TabOK.cons (fun _=>⟨_,Try.func79,by kernel_rfl,by kernel_rfl⟩) k_ref01_byLimb (calleeOf_nat _ _) (fun h=>by cases h) (by kernel_rfl) (fun _=>callK_framed (calleeOf_nat _ _) rfl rfl) (by kernel_rfl) (TabOK.cons (fun _=>⟨_,Try.func80,by kernel_rfl,by kernel_rfl⟩) k_ref01_Bits (calleeOf_nat _ _) (fun _=>(calleeOf_pure (by kernel_rfl))) (by kernel_rfl) (fun _=>callK_framed (calleeOf_nat _ _) rfl rfl) (by kernel_rfl) (TabOK.cons (fun _=>⟨_,Try.func81,by kernel_rfl,by kernel_rfl⟩) k_ref01_up (calleeOf_nat _ _) (fun h=>by cases h) (by kernel_rfl) (fun _=>callK_framed (calleeOf_nat _ _) rfl rfl) (by kernel_rfl) (TabOK.cons (fun _=>⟨_,Try.func83,by kernel_rfl,by kernel_rfl⟩) k_ref01_times (calleeOf_nat _ _) (fun h=>by cases h) (by kernel_rfl) (fun _=>callK_framed (calleeOf_nat _ _) rfl rfl) (by kernel_rfl) (TabOK.cons (fun _=>⟨_,Try.func82,by kernel_rfl,by kernel_rfl⟩) k_ref01_shifted (calleeOf_nat _ _) (fun h=>by cases h) (by kernel_rfl) (fun _=>callK_framed (calleeOf_nat _ _) rfl rfl) (by kernel_rfl) (TabOK.cons (fun _=>⟨_,Try.func84,by kernel_rfl,by kernel_rfl⟩) k_ref01_minus (calleeOf_nat _ _) (fun h=>by cases h) (by kernel_rfl) (fun _=>callK_framed (calleeOf_nat _ _) rfl rfl) (by kernel_rfl) (TabOK.cons (fun _=>⟨_,Try.func85,by kernel_rfl,by kernel_rfl⟩) k_ref01_down (calleeOf_nat _ _) (fun h=>by cases h) (by kernel_rfl) (fun _=>callK_framed (calleeOf_nat _ _) rfl rfl) (by kernel_rfl) TabOK.nil)))))))))))
theorem e_ref01_Div:∀t,bodyG Try.prog g_ref01_Div [78,77,80] h_ref01_Div Try.f68 sg_ref01_Div t=u_ref01_Div t:=by
 intro t
 kernel_rfl
theorem k_ref01_Div:(calleeOf sg_ref01_Div u_ref01_Div).OK Try.prog 68:=calleeG_ok mixed ok_ref01_Div Try.func68 (by kernel_rfl) (by kernel_rfl) e_ref01_Div
def sg_ref01_Gcd:Sig:={ na:=2,np:=0,hin:={ items:=[.slot 0,.slot 1],shapes:=[.sl 1,.sl 1] },nres:=1,kept:=[],nnew:=0,hout:={ items:=[.slot 0],shapes:=[.sl 1] },nob:=102 }
noncomputable def g_ref01_Gcd:List (Go.FuncId×Callee):=[(66,(calleeOf sg_ref01_Trim u_ref01_Trim)),(77,(calleeOf sg_ref01_small u_ref01_small)),(51,(calleeOf sg_ref01_Of u_ref01_Of)),(68,(calleeOf sg_ref01_Div u_ref01_Div))]
noncomputable def u_ref01_Gcd_l1(s5:(Int×Int×Unit)):Option ((Int×Int×Unit)⊕((Int×Unit)⊕Empty)):=
 (bif (Bool.not (Go.Eng.eqI s5.2.1 (0:Int))) then (ob (Go.Eng.nz s5.2.1) fun x6=>(some (Sum.inl (s5.2.1,((Go.Eng.modI s5.1 x6),()))))) else (some (Sum.inr (Sum.inl (s5.1,())))))
noncomputable def u_ref01_Gcd_l0(s2:(List T×List T×Unit)):Option ((List T×List T×Unit)⊕((List T×Unit)⊕((List T×Unit)⊕Empty))):=
 (bif (Go.Eng.ltI (0:Int) (Go.Eng.lenL s2.2.1)) then (ob (Go.Eng.u_ref01_small (s2.1,())) fun x3=>(ob (Go.Eng.u_ref01_small (s2.2.1,())) fun x4=>(bif x3.2.1 then (bif x4.2.1 then (ob (loopU u_ref01_Gcd_l1 (x3.1,(x4.1,()))) fun q7=>onS q7 (fun t8=>(ob (Go.Eng.u_ref01_Of (t8.1,())) fun x9=>(some (Sum.inr (Sum.inl (x9.1,())))))) fun q10=>noS q10) else (ob (Go.Eng.u_ref01_Div (s2.1,(s2.2.1,()))) fun x11=>(some (Sum.inl (s2.2.1,(x11.2.1,())))))) else (ob (Go.Eng.u_ref01_Div (s2.1,(s2.2.1,()))) fun x12=>(some (Sum.inl (s2.2.1,(x12.2.1,())))))))) else (some (Sum.inr (Sum.inr (Sum.inl (s2.1,()))))))
noncomputable def u_ref01_Gcd(t:((List T)×((List T)×Unit))):Option ((List T)×Unit):=
 (ob (Go.Eng.u_ref01_Trim (t.1,())) fun x0=>(ob (Go.Eng.u_ref01_Trim (t.2.1,())) fun x1=>(ob (loopU u_ref01_Gcd_l0 (x0.1,(x1.1,()))) fun q13=>onS q13 (fun t14=>(some (t14.1,()))) fun q15=>onS q15 (fun t16=>(some (t16.1,()))) fun q17=>noS q17)))
def h_ref01_Gcd:HT:=(.seq .leaf (.seq .leaf (.seq (.one (.loop { items:=[.slot 0,.slot 1],shapes:=[.sl 1,.sl 1] } [(AEx.ret,{ items:=[.slot 4],shapes:=[.sl 1] }),((AEx.exit 0),{ items:=[.slot 0],shapes:=[.sl 1] })] (.seq .leaf (.one (.seq .leaf (.seq .leaf (.seq (.seq .leaf (.cond (.seq (.one (.loop { items:=[.slot 5,.slot 7],shapes:=[.int Go.IntKind.u64,.int Go.IntKind.u64] } [((AEx.exit 2),{ items:=[.slot 5],shapes:=[.int Go.IntKind.u64] })] .leaf)) .leaf) .leaf)) .leaf))))))) .leaf)))
theorem ok_ref01_Gcd:TabOK Try.prog [77] g_ref01_Gcd:=(TabOK.cons (fun _=>⟨_,Try.func66,by kernel_rfl,by kernel_rfl⟩) k_ref01_Trim (calleeOf_nat _ _) (fun h=>by cases h) (by kernel_rfl) (fun _=>callK_framed (calleeOf_nat _ _) rfl rfl) (by kernel_rfl) (TabOK.cons (fun _=>⟨_,Try.func77,by kernel_rfl,by kernel_rfl⟩) k_ref01_small (calleeOf_nat _ _) (fun _=>(calleeOf_pure (by kernel_rfl))) (by kernel_rfl) (fun _=>callK_framed (calleeOf_nat _ _) rfl rfl) (by kernel_rfl) (TabOK.cons (fun _=>⟨_,Try.func51,by kernel_rfl,by kernel_rfl⟩) k_ref01_Of (calleeOf_nat _ _) (fun h=>by cases h) (by kernel_rfl) (fun _=>callK_framed (calleeOf_nat _ _) rfl rfl) (by kernel_rfl) (TabOK.cons (fun _=>⟨_,Try.func68,by kernel_rfl,by kernel_rfl⟩) k_ref01_Div (calleeOf_nat _ _) (fun h=>by cases h) (by kernel_rfl) (fun _=>callK_framed (calleeOf_nat _ _) rfl rfl) (by kernel_rfl) TabOK.nil))))
theorem e_ref01_Gcd:∀t,bodyG Try.prog g_ref01_Gcd [77] h_ref01_Gcd Try.f67 sg_ref01_Gcd t=u_ref01_Gcd t:=by
 intro t
 kernel_rfl
theorem k_ref01_Gcd:(calleeOf sg_ref01_Gcd u_ref01_Gcd).OK Try.prog 67:=calleeG_ok mixed ok_ref01_Gcd Try.func67 (by kernel_rfl) (by kernel_rfl) e_ref01_Gcd
def sg_ref02_size:Sig:={ na:=1,np:=0,hin:={ items:=[.slot 0],shapes:=[.int Go.IntKind.i64] },nres:=2,kept:=[],nnew:=0,hout:={ items:=[.slot 0,.slot 1],shapes:=[.sl 1,.bool] },nob:=30 }
noncomputable def g_ref02_size:List (Go.FuncId×Callee):=[(51,(calleeOf sg_ref01_Of u_ref01_Of))]
noncomputable def u_ref02_size(t:(Int×Unit)):Option ((List T)×(Bool×Unit)):=
 (bif (Go.Eng.ltI t.1 (0:Int)) then (ob (Go.Eng.u_ref01_Of ((Go.Eng.wr Go.IntKind.u64 (Go.Eng.addI (Go.Eng.wr Go.IntKind.u64 (Go.Eng.wr Go.IntKind.i64 (Go.Eng.subI (0:Int) (Go.Eng.wr Go.IntKind.i64 (Go.Eng.addI t.1 (1:Int)))))) (1:Int))),())) fun x0=>(some (x0.1,(Bool.true,())))) else (ob (Go.Eng.u_ref01_Of ((Go.Eng.wr Go.IntKind.u64 t.1),())) fun x1=>(some (x1.1,(Bool.false,())))))
def h_ref02_size:HT:=.leaf
theorem ok_ref02_size:TabOK Try.prog [] g_ref02_size:=(TabOK.cons (fun _=>⟨_,Try.func51,by kernel_rfl,by kernel_rfl⟩) k_ref01_Of (calleeOf_nat _ _) (fun h=>by cases h) (by kernel_rfl) (fun _=>callK_framed (calleeOf_nat _ _) rfl rfl) (by kernel_rfl) TabOK.nil)
theorem e_ref02_size:∀t,bodyG Try.prog g_ref02_size [] h_ref02_size Try.f31 sg_ref02_size t=u_ref02_size t:=by
 intro t
 kernel_rfl
theorem k_ref02_size:(calleeOf sg_ref02_size u_ref02_size).OK Try.prog 31:=calleeG_ok mixed ok_ref02_size Try.func31 (by kernel_rfl) (by kernel_rfl) e_ref02_size
def sg_ref02_reduce:Sig:={ na:=3,np:=0,hin:={ items:=[.slot 0,.slot 1,.slot 2],shapes:=[.bool,.sl 1,.sl 1] },nres:=1,kept:=[],nnew:=0,hout:={ items:=[.aggs 0 3],shapes:=[.bool,.sl 1,.sl 1] },nob:=110 }
noncomputable def g_ref02_reduce:List (Go.FuncId×Callee):=[(66,(calleeOf sg_ref01_Trim u_ref01_Trim)),(67,(calleeOf sg_ref01_Gcd u_ref01_Gcd)),(68,(calleeOf sg_ref01_Div u_ref01_Div))]
noncomputable def u_ref02_reduce(t:(Bool×((List T)×((List T)×Unit)))):Option (Bool×((List T)×((List T)×Unit))):=
 (ob (Go.Eng.u_ref01_Trim (t.2.1,())) fun x0=>(ob (Go.Eng.u_ref01_Trim (t.2.2.1,())) fun x1=>(bif (Go.Eng.eqI (Go.Eng.lenL x0.1) (0:Int)) then (some (Bool.false,([],([],())))) else (ob (Go.Eng.u_ref01_Gcd (x0.1,(x1.1,()))) fun x2=>(ob (α:=((Bool×List T×List T×Unit×Bool×T×T×Unit)⊕Empty)) (bif (Bool.not (Go.Eng.eqI (Go.Eng.lenL x2.1) (1:Int))) then (ob (Go.Eng.u_ref01_Div (x0.1,(x2.1,()))) fun x3=>(ob (Go.Eng.u_ref01_Div (x1.1,(x2.1,()))) fun x4=>(some (Sum.inl (t.1,(x3.1,(x4.1,((),(Bool.false,((Go.Eng.T.v (Go.Value.slice (Option.none) 0 0)),((Go.Eng.T.v (Go.Value.slice (Option.none) 0 0)),()))))))))))) else (ob (Go.Eng.idxL x2.1 (0:Int)) fun x5=>(ob (Go.Eng.T.int? Go.IntKind.u32 (Go.Eng.T.cell x5 0)) fun x6=>(bif (Bool.not (Go.Eng.eqI x6 (1:Int))) then (ob (Go.Eng.u_ref01_Div (x0.1,(x2.1,()))) fun x7=>(ob (Go.Eng.u_ref01_Div (x1.1,(x2.1,()))) fun x8=>(some (Sum.inl (t.1,(x7.1,(x8.1,((),(Bool.false,((Go.Eng.T.v (Go.Value.slice (Option.none) 0 0)),((Go.Eng.T.v (Go.Value.slice (Option.none) 0 0)),()))))))))))) else (some (Sum.inl (t.1,(x0.1,(x1.1,((),(Bool.false,((Go.Eng.T.v (Go.Value.slice (Option.none) 0 0)),((Go.Eng.T.v (Go.Value.slice (Option.none) 0 0)),()))))))))))))) fun q9=>onS q9 (fun t10=>(ob (α:=((Bool×List T×List T×Unit×Bool×T×T×Unit)⊕Empty)) (bif (Go.Eng.eqI (Go.Eng.lenL t10.2.2.1) (1:Int)) then (ob (Go.Eng.idxL t10.2.2.1 (0:Int)) fun x11=>(ob (Go.Eng.T.int? Go.IntKind.u32 (Go.Eng.T.cell x11 0)) fun x12=>(bif (Go.Eng.eqI x12 (1:Int)) then (some (Sum.inl (t10.1,(t10.2.1,([],((),(t10.2.2.2.2.1,(t10.2.2.2.2.2.1,(t10.2.2.2.2.2.2.1,()))))))))) else (some (Sum.inl (t10.1,(t10.2.1,(t10.2.2.1,((),(t10.2.2.2.2.1,(t10.2.2.2.2.2.1,(t10.2.2.2.2.2.2.1,())))))))))))) else (some (Sum.inl (t10.1,(t10.2.1,(t10.2.2.1,((),(t10.2.2.2.2.1,(t10.2.2.2.2.2.1,(t10.2.2.2.2.2.2.1,())))))))))) fun q13=>onS q13 (fun t14=>(some (t14.1,(t14.2.1,(t14.2.2.1,()))))) fun q15=>noS q15)) fun q16=>noS q16)))))
def h_ref02_reduce:HT:=(.seq .leaf (.seq .leaf (.seq .leaf (.seq .leaf (.seq (.join [(AEx.normal,{ items:=[.slot 0,.slot 1,.slot 2,.slot 6,.box 6 3],shapes:=[.bool,.sl 1,.sl 1,.lit (Go.Eng.C.box 6 0),.bool,.tree,.tree] })] .leaf) (.seq (.join [(AEx.normal,{ items:=[.slot 0,.slot 1,.slot 2,.slot 6,.box 6 3],shapes:=[.bool,.sl 1,.sl 1,.lit (Go.Eng.C.box 6 0),.bool,.tree,.tree] })] .leaf) .leaf))))))
theorem ok_ref02_reduce:TabOK Try.prog [] g_ref02_reduce:=(TabOK.cons (fun _=>⟨_,Try.func66,by kernel_rfl,by kernel_rfl⟩) k_ref01_Trim (calleeOf_nat _ _) (fun h=>by cases h) (by kernel_rfl) (fun _=>callK_framed (calleeOf_nat _ _) rfl rfl) (by kernel_rfl) (TabOK.cons (fun _=>⟨_,Try.func67,by kernel_rfl,by kernel_rfl⟩) k_ref01_Gcd (calleeOf_nat _ _) (fun h=>by cases h) (by kernel_rfl) (fun _=>callK_framed (calleeOf_nat _ _) rfl rfl) (by kernel_rfl) (TabOK.cons (fun _=>⟨_,Try.func68,by kernel_rfl,by kernel_rfl⟩) k_ref01_Div (calleeOf_nat _ _) (fun h=>by cases h) (by kernel_rfl) (fun _=>callK_framed (calleeOf_nat _ _) rfl rfl) (by kernel_rfl) TabOK.nil)))
theorem e_ref02_reduce:∀t,bodyG Try.prog g_ref02_reduce [] h_ref02_reduce Try.f50 sg_ref02_reduce t=u_ref02_reduce t:=by
 intro t
 kernel_rfl
theorem k_ref02_reduce:(calleeOf sg_ref02_reduce u_ref02_reduce).OK Try.prog 50:=calleeG_ok mixed ok_ref02_reduce Try.func50 (by kernel_rfl) (by kernel_rfl) e_ref02_reduce
def sg_ref02_Make:Sig:={ na:=2,np:=0,hin:={ items:=[.slot 0,.slot 1],shapes:=[.int Go.IntKind.i64,.int Go.IntKind.i64] },nres:=2,kept:=[],nnew:=0,hout:={ items:=[.aggs 0 3,.slot 1],shapes:=[.bool,.sl 1,.sl 1,.int Go.IntKind.i64] },nob:=58 }
noncomputable def g_ref02_Make:List (Go.FuncId×Callee):=[(31,(calleeOf sg_ref02_size u_ref02_size)),(50,(calleeOf sg_ref02_reduce u_ref02_reduce))]
noncomputable def u_ref02_Make(t:(Int×(Int×Unit))):Option (Bool×((List T)×((List T)×(Int×Unit)))):=
 (bif (Go.Eng.eqI t.2.1 (0:Int)) then (some (Bool.false,([],([],((3:Int),()))))) else (ob (Go.Eng.u_ref02_size (t.1,())) fun x0=>(ob (Go.Eng.u_ref02_size (t.2.1,())) fun x1=>(ob (Go.Eng.u_ref02_reduce ((Bool.not (Go.Eng.eqB x0.2.1 x1.2.1)),(x0.1,(x1.1,())))) fun x2=>(some (x2.1,(x2.2.1,(x2.2.2.1,((0:Int),())))))))))
def h_ref02_Make:HT:=.leaf
theorem ok_ref02_Make:TabOK Try.prog [] g_ref02_Make:=(TabOK.cons (fun _=>⟨_,Try.func31,by kernel_rfl,by kernel_rfl⟩) k_ref02_size (calleeOf_nat _ _) (fun h=>by cases h) (by kernel_rfl) (fun _=>callK_framed (calleeOf_nat _ _) rfl rfl) (by kernel_rfl) (TabOK.cons (fun _=>⟨_,Try.func50,by kernel_rfl,by kernel_rfl⟩) k_ref02_reduce (calleeOf_nat _ _) (fun h=>by cases h) (by kernel_rfl) (fun _=>callK_framed (calleeOf_nat _ _) rfl rfl) (by kernel_rfl) TabOK.nil))
theorem e_ref02_Make:∀t,bodyG Try.prog g_ref02_Make [] h_ref02_Make Try.f30 sg_ref02_Make t=u_ref02_Make t:=by
 intro t
 kernel_rfl
theorem k_ref02_Make:(calleeOf sg_ref02_Make u_ref02_Make).OK Try.prog 30:=calleeG_ok mixed ok_ref02_Make Try.func30 (by kernel_rfl) (by kernel_rfl) e_ref02_Make
def sg_ref02_Frac:Sig:={ na:=2,np:=0,hin:={ items:=[.slot 0,.slot 1],shapes:=[.int Go.IntKind.i64,.int Go.IntKind.i64] },nres:=1,kept:=[],nnew:=0,hout:={ items:=[.aggs 0 3],shapes:=[.bool,.sl 1,.sl 1] },nob:=28 }
noncomputable def g_ref02_Frac:List (Go.FuncId×Callee):=[(30,(calleeOf sg_ref02_Make u_ref02_Make))]
noncomputable def u_ref02_Frac(t:(Int×(Int×Unit))):Option (Bool×((List T)×((List T)×Unit))):=
 (ob (Go.Eng.u_ref02_Make (t.1,(t.2.1,()))) fun x0=>(some (x0.1,(x0.2.1,(x0.2.2.1,())))))
def h_ref02_Frac:HT:=.leaf
theorem ok_ref02_Frac:TabOK Try.prog [] g_ref02_Frac:=(TabOK.cons (fun _=>⟨_,Try.func30,by kernel_rfl,by kernel_rfl⟩) k_ref02_Make (calleeOf_nat _ _) (fun h=>by cases h) (by kernel_rfl) (fun _=>callK_framed (calleeOf_nat _ _) rfl rfl) (by kernel_rfl) TabOK.nil)
theorem e_ref02_Frac:∀t,bodyG Try.prog g_ref02_Frac [] h_ref02_Frac Try.f11 sg_ref02_Frac t=u_ref02_Frac t:=by
 intro t
 kernel_rfl
theorem k_ref02_Frac:(calleeOf sg_ref02_Frac u_ref02_Frac).OK Try.prog 11:=calleeG_ok mixed ok_ref02_Frac Try.func11 (by kernel_rfl) (by kernel_rfl) e_ref02_Frac
def sg_ref02_Int:Sig:={ na:=1,np:=0,hin:={ items:=[.slot 0],shapes:=[.int Go.IntKind.i64] },nres:=1,kept:=[],nnew:=0,hout:={ items:=[.aggs 0 3],shapes:=[.bool,.sl 1,.sl 1] },nob:=26 }
noncomputable def g_ref02_Int:List (Go.FuncId×Callee):=[(31,(calleeOf sg_ref02_size u_ref02_size))]
noncomputable def u_ref02_Int(t:(Int×Unit)):Option (Bool×((List T)×((List T)×Unit))):=
 (ob (Go.Eng.u_ref02_size (t.1,())) fun x0=>(some (x0.2.1,(x0.1,([],())))))
def h_ref02_Int:HT:=.leaf
theorem ok_ref02_Int:TabOK Try.prog [] g_ref02_Int:=(TabOK.cons (fun _=>⟨_,Try.func31,by kernel_rfl,by kernel_rfl⟩) k_ref02_size (calleeOf_nat _ _) (fun h=>by cases h) (by kernel_rfl) (fun _=>callK_framed (calleeOf_nat _ _) rfl rfl) (by kernel_rfl) TabOK.nil)
theorem e_ref02_Int:∀t,bodyG Try.prog g_ref02_Int [] h_ref02_Int Try.f12 sg_ref02_Int t=u_ref02_Int t:=by
 intro t
 kernel_rfl
theorem k_ref02_Int:(calleeOf sg_ref02_Int u_ref02_Int).OK Try.prog 12:=calleeG_ok mixed ok_ref02_Int Try.func12 (by kernel_rfl) (by kernel_rfl) e_ref02_Int
def sg_math_bits_Len32:Sig:={ na:=1,np:=0,hin:={ items:=[.slot 0],shapes:=[.int Go.IntKind.u32] },nres:=1,kept:=[],nnew:=0,hout:={ items:=[.slot 0],shapes:=[.int Go.IntKind.i64] },nob:=38 }
noncomputable def g_math_bits_Len32:List (Go.FuncId×Callee):=[]
noncomputable def u_math_bits_Len32(t:(Int×Unit)):Option (Int×Unit):=
 (ob (α:=((Int×Int×Unit)⊕Empty)) (bif (Go.Eng.leI (65536:Int) t.1) then (ob (Go.Eng.nn (16:Int)) fun x0=>(some (Sum.inl ((Go.Eng.shrI Go.IntKind.u32 t.1 x0),((16:Int),()))))) else (some (Sum.inl (t.1,((0:Int),()))))) fun q1=>onS q1 (fun t2=>(ob (α:=((Int×Int×Unit)⊕Empty)) (bif (Go.Eng.leI (256:Int) t2.1) then (ob (Go.Eng.nn (8:Int)) fun x3=>(some (Sum.inl ((Go.Eng.shrI Go.IntKind.u32 t2.1 x3),((Go.Eng.wr Go.IntKind.i64 (Go.Eng.addI t2.2.1 (8:Int))),()))))) else (some (Sum.inl (t2.1,(t2.2.1,()))))) fun q4=>onS q4 (fun t5=>(ob (Go.Eng.idxS (ByteArray.mk #[0,1,2,2,3,3,3,3,4,4,4,4,4,4,4,4,5,5,5,5,5,5,5,5,5,5,5,5,5,5,5,5,6,6,6,6,6,6,6,6,6,6,6,6,6,6,6,6,6,6,6,6,6,6,6,6,6,6,6,6,6,6,6,6,7,7,7,7,7,7,7,7,7,7,7,7,7,7,7,7,7,7,7,7,7,7,7,7,7,7,7,7,7,7,7,7,7,7,7,7,7,7,7,7,7,7,7,7,7,7,7,7,7,7,7,7,7,7,7,7,7,7,7,7,7,7,7,7,8,8,8,8,8,8,8,8,8,8,8,8,8,8,8,8,8,8,8,8,8,8,8,8,8,8,8,8,8,8,8,8,8,8,8,8,8,8,8,8,8,8,8,8,8,8,8,8,8,8,8,8,8,8,8,8,8,8,8,8,8,8,8,8,8,8,8,8,8,8,8,8,8,8,8,8,8,8,8,8,8,8,8,8,8,8,8,8,8,8,8,8,8,8,8,8,8,8,8,8,8,8,8,8,8,8,8,8,8,8,8,8,8,8,8,8,8,8,8,8,8,8,8,8,8,8,8,8]) (Go.Eng.wr Go.IntKind.u8 t5.1)) fun x6=>(some ((Go.Eng.wr Go.IntKind.i64 (Go.Eng.addI t5.2.1 (Go.Eng.wr Go.IntKind.i64 x6))),())))) fun q7=>noS q7)) fun q8=>noS q8)
def h_math_bits_Len32:HT:=(.seq .leaf (.seq (.join [(AEx.normal,{ items:=[.slot 0,.slot 2],shapes:=[.int Go.IntKind.u32,.int Go.IntKind.i64] })] .leaf) (.seq (.join [(AEx.normal,{ items:=[.slot 0,.slot 2],shapes:=[.int Go.IntKind.u32,.int Go.IntKind.i64] })] .leaf) .leaf)))
theorem ok_math_bits_Len32:TabOK Try.prog [] g_math_bits_Len32:=TabOK.nil
theorem e_math_bits_Len32:∀t,bodyG Try.prog g_math_bits_Len32 [] h_math_bits_Len32 Try.f60 sg_math_bits_Len32 t=u_math_bits_Len32 t:=by
 intro t
 kernel_rfl
theorem k_math_bits_Len32:(calleeOf sg_math_bits_Len32 u_math_bits_Len32).OK Try.prog 60:=calleeG_ok mixed ok_math_bits_Len32 Try.func60 (by kernel_rfl) (by kernel_rfl) e_math_bits_Len32
def sg_math_bits_LeadingZeros32:Sig:={ na:=1,np:=0,hin:={ items:=[.slot 0],shapes:=[.int Go.IntKind.u32] },nres:=1,kept:=[],nnew:=0,hout:={ items:=[.slot 0],shapes:=[.int Go.IntKind.i64] },nob:=12 }
noncomputable def g_math_bits_LeadingZeros32:List (Go.FuncId×Callee):=[(60,(calleeOf sg_math_bits_Len32 u_math_bits_Len32))]
noncomputable def u_math_bits_LeadingZeros32(t:(Int×Unit)):Option (Int×Unit):=
 (ob (Go.Eng.u_math_bits_Len32 (t.1,())) fun x0=>(some ((Go.Eng.wr Go.IntKind.i64 (Go.Eng.subI (32:Int) x0.1)),())))
def h_math_bits_LeadingZeros32:HT:=.leaf
theorem ok_math_bits_LeadingZeros32:TabOK Try.prog [60] g_math_bits_LeadingZeros32:=(TabOK.cons (fun _=>⟨_,Try.func60,by kernel_rfl,by kernel_rfl⟩) k_math_bits_Len32 (calleeOf_nat _ _) (fun _=>(calleeOf_pure (by kernel_rfl))) (by kernel_rfl) (fun _=>callK_framed (calleeOf_nat _ _) rfl rfl) (by kernel_rfl) TabOK.nil)
theorem e_math_bits_LeadingZeros32:∀t,bodyG Try.prog g_math_bits_LeadingZeros32 [60] h_math_bits_LeadingZeros32 Try.f42 sg_math_bits_LeadingZeros32 t=u_math_bits_LeadingZeros32 t:=by
 intro t
 kernel_rfl
theorem k_math_bits_LeadingZeros32:(calleeOf sg_math_bits_LeadingZeros32 u_math_bits_LeadingZeros32).OK Try.prog 42:=calleeG_ok mixed ok_math_bits_LeadingZeros32 Try.func42 (by kernel_rfl) (by kernel_rfl) e_math_bits_LeadingZeros32
def sg_natural_trim:Sig:={ na:=1,np:=0,hin:={ items:=[.slot 0],shapes:=[.sl 1] },nres:=1,kept:=[],nnew:=0,hout:={ items:=[.slot 0],shapes:=[.sl 1] },nob:=42 }
noncomputable def g_natural_trim:List (Go.FuncId×Callee):=[]
noncomputable def u_natural_trim_l0(s0:(List T×Int×Unit)):Option ((List T×Int×Unit)⊕((List T×Int×Unit)⊕Empty)):=
 (bif (Go.Eng.ltI (0:Int) s0.2.1) then (ob (Go.Eng.idxL s0.1 (Go.Eng.wr Go.IntKind.i64 (Go.Eng.subI s0.2.1 (1:Int)))) fun x1=>(ob (Go.Eng.T.int? Go.IntKind.u32 (Go.Eng.T.cell x1 0)) fun x2=>(bif (Go.Eng.eqI x2 (0:Int)) then (some (Sum.inl (s0.1,((Go.Eng.wr Go.IntKind.i64 (Go.Eng.subI s0.2.1 (1:Int))),())))) else (some (Sum.inr (Sum.inl (s0.1,(s0.2.1,())))))))) else (some (Sum.inr (Sum.inl (s0.1,(s0.2.1,()))))))
noncomputable def u_natural_trim(t:((List T)×Unit)):Option ((List T)×Unit):=
 (ob (loopU u_natural_trim_l0 (t.1,((Go.Eng.lenL t.1),()))) fun q3=>onS q3 (fun t4=>(ob (Go.Eng.cutL t4.1 (0:Int) t4.2.1) fun x5=>(some (x5,())))) fun q6=>noS q6)
def h_natural_trim:HT:=(.seq .leaf (.seq .leaf (.seq (.one (.loop { items:=[.slot 0,.slot 3],shapes:=[.sl 1,.int Go.IntKind.i64] } [((AEx.exit 0),{ items:=[.slot 0,.slot 3],shapes:=[.sl 1,.int Go.IntKind.i64] })] .leaf)) .leaf)))
theorem ok_natural_trim:TabOK Try.prog [] g_natural_trim:=TabOK.nil
theorem e_natural_trim:∀t,bodyG Try.prog g_natural_trim [] h_natural_trim Try.f38 sg_natural_trim t=u_natural_trim t:=by
 intro t
 kernel_rfl
theorem k_natural_trim:(calleeOf sg_natural_trim u_natural_trim).OK Try.prog 38:=calleeG_ok mixed ok_natural_trim Try.func38 (by kernel_rfl) (by kernel_rfl) e_natural_trim
def sg_natural_Cmp:Sig:={ na:=2,np:=0,hin:={ items:=[.slot 0,.slot 1],shapes:=[.sl 1,.sl 1] },nres:=1,kept:=[],nnew:=0,hout:={ items:=[.slot 0],shapes:=[.int Go.IntKind.i64] },nob:=90 }
noncomputable def g_natural_Cmp:List (Go.FuncId×Callee):=[(38,(calleeOf sg_natural_trim u_natural_trim))]
noncomputable def u_natural_Cmp_l0(s2:(List T×List T×Int×Unit)):Option ((List T×List T×Int×Unit)⊕((Int×Unit)⊕((Unit)⊕Empty))):=
 (bif (Go.Eng.leI (0:Int) s2.2.2.1) then (ob (Go.Eng.idxL s2.1 s2.2.2.1) fun x3=>(ob (Go.Eng.idxL s2.2.1 s2.2.2.1) fun x4=>(ob (Go.Eng.T.int? Go.IntKind.u32 (Go.Eng.T.cell x3 0)) fun x5=>(ob (Go.Eng.T.int? Go.IntKind.u32 (Go.Eng.T.cell x4 0)) fun x6=>(bif (Bool.not (Go.Eng.eqI x5 x6)) then (ob (Go.Eng.idxL s2.1 s2.2.2.1) fun x7=>(ob (Go.Eng.idxL s2.2.1 s2.2.2.1) fun x8=>(ob (Go.Eng.T.int? Go.IntKind.u32 (Go.Eng.T.cell x7 0)) fun x9=>(ob (Go.Eng.T.int? Go.IntKind.u32 (Go.Eng.T.cell x8 0)) fun x10=>(bif (Go.Eng.ltI x9 x10) then (some (Sum.inr (Sum.inl ((-1:Int),())))) else (some (Sum.inr (Sum.inl ((1:Int),()))))))))) else (some (Sum.inl (s2.1,(s2.2.1,((Go.Eng.wr Go.IntKind.i64 (Go.Eng.subI s2.2.2.1 (1:Int))),())))))))))) else (some (Sum.inr (Sum.inr (Sum.inl ())))))
noncomputable def u_natural_Cmp(t:((List T)×((List T)×Unit))):Option (Int×Unit):=
 (ob (Go.Eng.u_natural_trim (t.1,())) fun x0=>(ob (Go.Eng.u_natural_trim (t.2.1,())) fun x1=>(bif (Bool.not (Go.Eng.eqI (Go.Eng.lenL x0.1) (Go.Eng.lenL x1.1))) then (bif (Go.Eng.ltI (Go.Eng.lenL x0.1) (Go.Eng.lenL x1.1)) then (some ((-1:Int),())) else (some ((1:Int),()))) else (ob (loopU u_natural_Cmp_l0 (x0.1,(x1.1,((Go.Eng.wr Go.IntKind.i64 (Go.Eng.subI (Go.Eng.lenL x0.1) (1:Int))),())))) fun q11=>onS q11 (fun t12=>(some (t12.1,()))) fun q13=>onS q13 (fun t14=>(some ((0:Int),()))) fun q15=>noS q15))))
def h_natural_Cmp:HT:=(.seq .leaf (.seq .leaf (.seq .leaf (.seq (.seq .leaf (.one (.loop { items:=[.slot 0,.slot 1,.slot 5],shapes:=[.sl 1,.sl 1,.int Go.IntKind.i64] } [(AEx.ret,{ items:=[.slot 4],shapes:=[.int Go.IntKind.i64] }),((AEx.exit 0),{ items:=[],shapes:=[] })] .leaf))) .leaf))))
theorem ok_natural_Cmp:TabOK Try.prog [] g_natural_Cmp:=(TabOK.cons (fun _=>⟨_,Try.func38,by kernel_rfl,by kernel_rfl⟩) k_natural_trim (calleeOf_nat _ _) (fun h=>by cases h) (by kernel_rfl) (fun _=>callK_framed (calleeOf_nat _ _) rfl rfl) (by kernel_rfl) TabOK.nil)
theorem e_natural_Cmp:∀t,bodyG Try.prog g_natural_Cmp [] h_natural_Cmp Try.f23 sg_natural_Cmp t=u_natural_Cmp t:=by
 intro t
 kernel_rfl
theorem k_natural_Cmp:(calleeOf sg_natural_Cmp u_natural_Cmp).OK Try.prog 23:=calleeG_ok mixed ok_natural_Cmp Try.func23 (by kernel_rfl) (by kernel_rfl) e_natural_Cmp
def sg_natural_Of:Sig:={ na:=1,np:=0,hin:={ items:=[.slot 0],shapes:=[.int Go.IntKind.u64] },nres:=1,kept:=[],nnew:=0,hout:={ items:=[.slot 0],shapes:=[.sl 1] },nob:=20 }
noncomputable def g_natural_Of:List (Go.FuncId×Callee):=[(38,(calleeOf sg_natural_trim u_natural_trim))]
noncomputable def u_natural_Of(t:(Int×Unit)):Option ((List T)×Unit):=
 (ob (Go.Eng.nn (32:Int)) fun x0=>(ob (Go.Eng.u_natural_trim ([(Go.Eng.T.v (Go.Value.int Go.IntKind.u32 (Go.Eng.wr Go.IntKind.u32 t.1))),(Go.Eng.T.v (Go.Value.int Go.IntKind.u32 (Go.Eng.wr Go.IntKind.u32 (Go.Eng.shrI Go.IntKind.u64 t.1 x0))))],())) fun x1=>(some (x1.1,()))))
def h_natural_Of:HT:=.leaf
theorem ok_natural_Of:TabOK Try.prog [] g_natural_Of:=(TabOK.cons (fun _=>⟨_,Try.func38,by kernel_rfl,by kernel_rfl⟩) k_natural_trim (calleeOf_nat _ _) (fun h=>by cases h) (by kernel_rfl) (fun _=>callK_framed (calleeOf_nat _ _) rfl rfl) (by kernel_rfl) TabOK.nil)
theorem e_natural_Of:∀t,bodyG Try.prog g_natural_Of [] h_natural_Of Try.f24 sg_natural_Of t=u_natural_Of t:=by
 intro t
 kernel_rfl
theorem k_natural_Of:(calleeOf sg_natural_Of u_natural_Of).OK Try.prog 24:=calleeG_ok mixed ok_natural_Of Try.func24 (by kernel_rfl) (by kernel_rfl) e_natural_Of
def sg_natural_raise:Sig:={ na:=2,np:=0,hin:={ items:=[.slot 0,.slot 1],shapes:=[.sl 1,.int Go.IntKind.i64] },nres:=1,kept:=[],nnew:=0,hout:={ items:=[.slot 0],shapes:=[.sl 1] },nob:=82 }
noncomputable def g_natural_raise:List (Go.FuncId×Callee):=[]
noncomputable def u_natural_raise_l0(s1:(List T×Int×List T×Int×List T×Int×Int×Unit)):Option ((List T×Int×List T×Int×List T×Int×Int×Unit)⊕((List T×List T×Int×Unit)⊕Empty)):=
 (bif (Go.Eng.ltI s1.2.2.2.2.2.2.1 s1.2.2.2.2.2.1) then (ob (Go.Eng.idxL s1.2.2.2.2.1 s1.2.2.2.2.2.2.1) fun x2=>(ob (Go.Eng.T.anyInt? (Go.Eng.T.cell x2 0)) fun x3=>(ob (Go.Eng.nn s1.2.1) fun x4=>(ob (Go.Eng.chkI (Go.Eng.lenL s1.2.2.1) s1.2.2.2.2.2.2.1) fun x5=>(ob (Go.Eng.idxN s1.2.2.1 x5) fun x6=>(ob (Go.Eng.nn (32:Int)) fun x7=>(some (Sum.inl (s1.1,(s1.2.1,((List.set s1.2.2.1 x5 (Go.Eng.T.upd 1 x6 0 [(Go.Eng.T.v (Go.Value.int Go.IntKind.u32 (Go.Eng.wr Go.IntKind.u32 (Go.Eng.bitI Go.BinOp.or Go.IntKind.u64 s1.2.2.2.1 (Go.Eng.wr Go.IntKind.u64 (Go.Eng.shlI Go.IntKind.u64 (Go.Eng.wr Go.IntKind.u64 x3) x4))))))])),((Go.Eng.shrI Go.IntKind.u64 (Go.Eng.bitI Go.BinOp.or Go.IntKind.u64 s1.2.2.2.1 (Go.Eng.wr Go.IntKind.u64 (Go.Eng.shlI Go.IntKind.u64 (Go.Eng.wr Go.IntKind.u64 x3) x4))) x7),(s1.2.2.2.2.1,(s1.2.2.2.2.2.1,((Go.Eng.wr Go.IntKind.i64 (Go.Eng.addI s1.2.2.2.2.2.2.1 (1:Int))),()))))))))))))))) else (some (Sum.inr (Sum.inl (s1.1,(s1.2.2.1,(s1.2.2.2.1,())))))))
noncomputable def u_natural_raise(t:((List T)×(Int×Unit))):Option ((List T)×Unit):=
 (ob (Go.Eng.mkLen (Go.Eng.wr Go.IntKind.i64 (Go.Eng.addI (Go.Eng.lenL t.1) (1:Int))) (Go.Eng.wr Go.IntKind.i64 (Go.Eng.addI (Go.Eng.lenL t.1) (1:Int))) 4) fun x0=>(ob (loopU u_natural_raise_l0 (t.1,(t.2.1,((Go.Eng.repL x0.1 (Go.Eng.T.v (Go.Value.int Go.IntKind.u32 (0:Int)))),((0:Int),(t.1,((Go.Eng.lenL t.1),((0:Int),())))))))) fun q8=>onS q8 (fun t9=>(ob (Go.Eng.chkI (Go.Eng.lenL t9.2.1) (Go.Eng.lenL t9.1)) fun x10=>(ob (Go.Eng.idxN t9.2.1 x10) fun x11=>(some ((List.set t9.2.1 x10 (Go.Eng.T.upd 1 x11 0 [(Go.Eng.T.v (Go.Value.int Go.IntKind.u32 (Go.Eng.wr Go.IntKind.u32 t9.2.2.1)))])),()))))) fun q12=>noS q12))
def h_natural_raise:HT:=(.seq .leaf (.seq .leaf (.seq .leaf (.seq (.seq .leaf (.one (.loop { items:=[.slot 0,.slot 1,.slot 5,.slot 6,.slot 13,.slot 14,.slot 15],shapes:=[.sl 1,.int Go.IntKind.i64,.row 62 1 12,.int Go.IntKind.u64,.sl 1,.int Go.IntKind.i64,.int Go.IntKind.i64] } [((AEx.exit 0),{ items:=[.slot 0,.slot 5,.slot 6],shapes:=[.sl 1,.row 62 1 12,.int Go.IntKind.u64] })] .leaf))) .leaf))))
theorem ok_natural_raise:TabOK Try.prog [] g_natural_raise:=TabOK.nil
theorem e_natural_raise:∀t,bodyG Try.prog g_natural_raise [] h_natural_raise Try.f39 sg_natural_raise t=u_natural_raise t:=by
 intro t
 kernel_rfl
theorem k_natural_raise:(calleeOf sg_natural_raise u_natural_raise).OK Try.prog 39:=calleeG_ok mixed ok_natural_raise Try.func39 (by kernel_rfl) (by kernel_rfl) e_natural_raise
def sg_slices_Clone___uint32_uint32_:Sig:={ na:=1,np:=0,hin:={ items:=[.slot 0],shapes:=[.sl 1] },nres:=1,kept:=[],nnew:=0,hout:={ items:=[.slot 0],shapes:=[.sl 1] },nob:=16 }
noncomputable def g_slices_Clone___uint32_uint32_:List (Go.FuncId×Callee):=[]
noncomputable def u_slices_Clone___uint32_uint32_(t:((List T)×Unit)):Option ((List T)×Unit):=
 (bif (Go.Eng.nilL t.1) then (bothU (some ([],())) (ob (Go.Eng.room [] t.1 4) fun x0=>(some (x0,())))) else (ob (Go.Eng.room [] t.1 4) fun x1=>(some (x1,()))))
def h_slices_Clone___uint32_uint32_:HT:=.leaf
theorem ok_slices_Clone___uint32_uint32_:TabOK Try.prog [] g_slices_Clone___uint32_uint32_:=TabOK.nil
theorem e_slices_Clone___uint32_uint32_:∀t,bodyG Try.prog g_slices_Clone___uint32_uint32_ [] h_slices_Clone___uint32_uint32_ Try.f40 sg_slices_Clone___uint32_uint32_ t=u_slices_Clone___uint32_uint32_ t:=by
 intro t
 kernel_rfl
theorem k_slices_Clone___uint32_uint32_:(calleeOf sg_slices_Clone___uint32_uint32_ u_slices_Clone___uint32_uint32_).OK Try.prog 40:=calleeG_ok mixed ok_slices_Clone___uint32_uint32_ Try.func40 (by kernel_rfl) (by kernel_rfl) e_slices_Clone___uint32_uint32_
def sg_slices_Clone___uint32_uint32__r:Sig:={ na:=1,np:=0,hin:={ items:=[.slot 0],shapes:=[.sl 1] },nres:=1,kept:=[],nnew:=1,hout:={ items:=[.slot 0],shapes:=[.row 62 1 0] },nob:=16 }
noncomputable def g_slices_Clone___uint32_uint32__r:List (Go.FuncId×Callee):=[]
noncomputable def u_slices_Clone___uint32_uint32__r(t:((List T)×Unit)):Option ((List T)×Unit):=
 (bif (Go.Eng.nilL t.1) then (bothU (some ([],())) (ob (Go.Eng.room [] t.1 4) fun x0=>(some (x0,())))) else (ob (Go.Eng.room [] t.1 4) fun x1=>(some (x1,()))))
def h_slices_Clone___uint32_uint32__r:HT:=.leaf
theorem ok_slices_Clone___uint32_uint32__r:TabOK Try.prog [] g_slices_Clone___uint32_uint32__r:=TabOK.nil
theorem e_slices_Clone___uint32_uint32__r:∀t,bodyG Try.prog g_slices_Clone___uint32_uint32__r [] h_slices_Clone___uint32_uint32__r Try.f40 sg_slices_Clone___uint32_uint32__r t=u_slices_Clone___uint32_uint32__r t:=by
 intro t
 kernel_rfl
theorem k_slices_Clone___uint32_uint32__r:(calleeOf sg_slices_Clone___uint32_uint32__r u_slices_Clone___uint32_uint32__r).OK Try.prog 40:=calleeG_ok mixed ok_slices_Clone___uint32_uint32__r Try.func40 (by kernel_rfl) (by kernel_rfl) e_slices_Clone___uint32_uint32__r
def sg_natural_small:Sig:={ na:=2,np:=0,hin:={ items:=[.slot 0,.slot 1],shapes:=[.sl 1,.int Go.IntKind.u32] },nres:=2,kept:=[],nnew:=0,hout:={ items:=[.slot 0,.slot 1],shapes:=[.sl 1,.int Go.IntKind.u32] },nob:=86 }
noncomputable def g_natural_small:List (Go.FuncId×Callee):=[(38,(calleeOf sg_natural_trim u_natural_trim))]
noncomputable def u_natural_small_l0(s1:(List T×Int×List T×Int×Int×Unit)):Option ((List T×Int×List T×Int×Int×Unit)⊕((List T×Int×Unit)⊕Empty)):=
 (bif (Go.Eng.leI (0:Int) s1.2.2.2.2.1) then (ob (Go.Eng.nn (32:Int)) fun x2=>(ob (Go.Eng.idxL s1.1 s1.2.2.2.2.1) fun x3=>(ob (Go.Eng.T.anyInt? (Go.Eng.T.cell x3 0)) fun x4=>(ob (Go.Eng.nz (Go.Eng.wr Go.IntKind.u64 s1.2.1)) fun x5=>(ob (Go.Eng.chkI (Go.Eng.lenL s1.2.2.1) s1.2.2.2.2.1) fun x6=>(ob (Go.Eng.idxN s1.2.2.1 x6) fun x7=>(ob (Go.Eng.nz (Go.Eng.wr Go.IntKind.u64 s1.2.1)) fun x8=>(some (Sum.inl (s1.1,(s1.2.1,((List.set s1.2.2.1 x6 (Go.Eng.T.upd 1 x7 0 [(Go.Eng.T.v (Go.Value.int Go.IntKind.u32 (Go.Eng.wr Go.IntKind.u32 (Go.Eng.wr Go.IntKind.u64 (Go.Eng.divI (Go.Eng.bitI Go.BinOp.or Go.IntKind.u64 (Go.Eng.wr Go.IntKind.u64 (Go.Eng.shlI Go.IntKind.u64 s1.2.2.2.1 x2)) (Go.Eng.wr Go.IntKind.u64 x4)) x5)))))])),((Go.Eng.modI (Go.Eng.bitI Go.BinOp.or Go.IntKind.u64 (Go.Eng.wr Go.IntKind.u64 (Go.Eng.shlI Go.IntKind.u64 s1.2.2.2.1 x2)) (Go.Eng.wr Go.IntKind.u64 x4)) x8),((Go.Eng.wr Go.IntKind.i64 (Go.Eng.subI s1.2.2.2.2.1 (1:Int))),())))))))))))))) else (some (Sum.inr (Sum.inl (s1.2.2.1,(s1.2.2.2.1,()))))))
noncomputable def u_natural_small(t:((List T)×(Int×Unit))):Option ((List T)×(Int×Unit)):=
 (ob (Go.Eng.mkLen (Go.Eng.lenL t.1) (Go.Eng.lenL t.1) 4) fun x0=>(ob (loopU u_natural_small_l0 (t.1,(t.2.1,((Go.Eng.repL x0.1 (Go.Eng.T.v (Go.Value.int Go.IntKind.u32 (0:Int)))),((0:Int),((Go.Eng.wr Go.IntKind.i64 (Go.Eng.subI (Go.Eng.lenL t.1) (1:Int))),())))))) fun q9=>onS q9 (fun t10=>(ob (Go.Eng.u_natural_trim (t10.1,())) fun x11=>(some (x11.1,((Go.Eng.wr Go.IntKind.u32 t10.2.1),()))))) fun q12=>noS q12))
def h_natural_small:HT:=(.seq .leaf (.seq .leaf (.seq .leaf (.seq (.seq .leaf (.one (.loop { items:=[.slot 0,.slot 1,.slot 6,.slot 7,.slot 8],shapes:=[.sl 1,.int Go.IntKind.u32,.row 62 1 11,.int Go.IntKind.u64,.int Go.IntKind.i64] } [((AEx.exit 0),{ items:=[.slot 6,.slot 7],shapes:=[.row 62 1 11,.int Go.IntKind.u64] })] .leaf))) .leaf))))
theorem ok_natural_small:TabOK Try.prog [] g_natural_small:=(TabOK.cons (fun _=>⟨_,Try.func38,by kernel_rfl,by kernel_rfl⟩) k_natural_trim (calleeOf_nat _ _) (fun h=>by cases h) (by kernel_rfl) (fun _=>callK_framed (calleeOf_nat _ _) rfl rfl) (by kernel_rfl) TabOK.nil)
theorem e_natural_small:∀t,bodyG Try.prog g_natural_small [] h_natural_small Try.f41 sg_natural_small t=u_natural_small t:=by
 intro t
 kernel_rfl
theorem k_natural_small:(calleeOf sg_natural_small u_natural_small).OK Try.prog 41:=calleeG_ok mixed ok_natural_small Try.func41 (by kernel_rfl) (by kernel_rfl) e_natural_small
def sg_natural_Mul:Sig:={ na:=2,np:=0,hin:={ items:=[.slot 0,.slot 1],shapes:=[.sl 1,.sl 1] },nres:=1,kept:=[],nnew:=0,hout:={ items:=[.slot 0],shapes:=[.sl 1] },nob:=138 }
noncomputable def g_natural_Mul:List (Go.FuncId×Callee):=[(38,(calleeOf sg_natural_trim u_natural_trim))]
noncomputable def u_natural_Mul_l1(s4:(List T×List T×Int×T×Int×List T×Int×Int×List T×Int×Int×Unit)):Option ((List T×List T×Int×T×Int×List T×Int×Int×List T×Int×Int×Unit)⊕((List T×List T×Int×Int×List T×Int×Int×Unit)⊕Empty)):=
 (bif (Go.Eng.ltI s4.2.2.2.2.2.2.2.2.2.2.1 s4.2.2.2.2.2.2.2.2.2.1) then (ob (Go.Eng.idxL s4.2.2.2.2.2.2.2.2.1 s4.2.2.2.2.2.2.2.2.2.2.1) fun x5=>(ob (Go.Eng.T.anyInt? s4.2.2.2.1) fun x6=>(ob (Go.Eng.T.anyInt? (Go.Eng.T.cell x5 0)) fun x7=>(ob (Go.Eng.chkI (Go.Eng.lenL s4.2.1) (Go.Eng.wr Go.IntKind.i64 (Go.Eng.addI s4.2.2.1 s4.2.2.2.2.2.2.2.2.2.2.1))) fun x8=>(ob (Go.Eng.idxN s4.2.1 x8) fun x9=>(ob (Go.Eng.T.anyInt? (Go.Eng.T.cell x9 0)) fun x10=>(ob (Go.Eng.chkI (Go.Eng.lenL s4.2.1) (Go.Eng.wr Go.IntKind.i64 (Go.Eng.addI s4.2.2.1 s4.2.2.2.2.2.2.2.2.2.2.1))) fun x11=>(ob (Go.Eng.idxN s4.2.1 x11) fun x12=>(ob (Go.Eng.nn (32:Int)) fun x13=>(some (Sum.inl (s4.1,((List.set s4.2.1 x11 (Go.Eng.T.upd 1 x12 0 [(Go.Eng.T.v (Go.Value.int Go.IntKind.u32 (Go.Eng.wr Go.IntKind.u32 (Go.Eng.wr Go.IntKind.u64 (Go.Eng.addI s4.2.2.2.2.1 (Go.Eng.wr Go.IntKind.u64 (Go.Eng.addI (Go.Eng.wr Go.IntKind.u64 (Go.Eng.mulI (Go.Eng.wr Go.IntKind.u64 x6) (Go.Eng.wr Go.IntKind.u64 x7))) (Go.Eng.wr Go.IntKind.u64 x10))))))))])),(s4.2.2.1,(s4.2.2.2.1,((Go.Eng.shrI Go.IntKind.u64 (Go.Eng.wr Go.IntKind.u64 (Go.Eng.addI s4.2.2.2.2.1 (Go.Eng.wr Go.IntKind.u64 (Go.Eng.addI (Go.Eng.wr Go.IntKind.u64 (Go.Eng.mulI (Go.Eng.wr Go.IntKind.u64 x6) (Go.Eng.wr Go.IntKind.u64 x7))) (Go.Eng.wr Go.IntKind.u64 x10))))) x13),(s4.2.2.2.2.2.1,(s4.2.2.2.2.2.2.1,(s4.2.2.2.2.2.2.2.1,(s4.2.2.2.2.2.2.2.2.1,(s4.2.2.2.2.2.2.2.2.2.1,((Go.Eng.wr Go.IntKind.i64 (Go.Eng.addI s4.2.2.2.2.2.2.2.2.2.2.1 (1:Int))),())))))))))))))))))))))) else (some (Sum.inr (Sum.inl (s4.1,(s4.2.1,(s4.2.2.1,(s4.2.2.2.2.1,(s4.2.2.2.2.2.1,(s4.2.2.2.2.2.2.1,(s4.2.2.2.2.2.2.2.1,())))))))))))
noncomputable def u_natural_Mul_l0(s1:(List T×List T×List T×Int×Int×Unit)):Option ((List T×List T×List T×Int×Int×Unit)⊕((List T×Unit)⊕Empty)):=
 (bif (Go.Eng.ltI s1.2.2.2.2.1 s1.2.2.2.1) then (ob (α:=((List T×List T×List T×Int×Int×Unit)⊕Empty)) (ob (Go.Eng.idxL s1.2.2.1 s1.2.2.2.2.1) fun x2=>(ob (Go.Eng.T.int? Go.IntKind.u32 (Go.Eng.T.cell x2 0)) fun x3=>(bif (Go.Eng.eqI x3 (0:Int)) then (some (Sum.inl (s1.1,(s1.2.1,(s1.2.2.1,(s1.2.2.2.1,(s1.2.2.2.2.1,()))))))) else (ob (loopU u_natural_Mul_l1 (s1.1,(s1.2.1,(s1.2.2.2.2.1,((Go.Eng.T.cell x2 0),((0:Int),(s1.2.2.1,(s1.2.2.2.1,(s1.2.2.2.2.1,(s1.1,((Go.Eng.lenL s1.1),((0:Int),())))))))))))) fun q14=>onS q14 (fun t15=>(ob (Go.Eng.chkI (Go.Eng.lenL t15.2.1) (Go.Eng.wr Go.IntKind.i64 (Go.Eng.addI t15.2.2.1 (Go.Eng.lenL t15.1)))) fun x16=>(ob (Go.Eng.idxN t15.2.1 x16) fun x17=>(some (Sum.inl (t15.1,((List.set t15.2.1 x16 (Go.Eng.T.upd 1 x17 0 [(Go.Eng.T.v (Go.Value.int Go.IntKind.u32 (Go.Eng.wr Go.IntKind.u32 t15.2.2.2.1)))])),(t15.2.2.2.2.1,(t15.2.2.2.2.2.1,(t15.2.2.2.2.2.2.1,())))))))))) fun q18=>noS q18)))) fun q19=>onS q19 (fun t20=>(some (Sum.inl (t20.1,(t20.2.1,(t20.2.2.1,(t20.2.2.2.1,((Go.Eng.wr Go.IntKind.i64 (Go.Eng.addI t20.2.2.2.2.1 (1:Int))),())))))))) fun q21=>noS q21) else (some (Sum.inr (Sum.inl (s1.2.1,())))))
noncomputable def u_natural_Mul(t:((List T)×((List T)×Unit))):Option ((List T)×Unit):=
 (ob (Go.Eng.mkLen (Go.Eng.wr Go.IntKind.i64 (Go.Eng.addI (Go.Eng.lenL t.1) (Go.Eng.lenL t.2.1))) (Go.Eng.wr Go.IntKind.i64 (Go.Eng.addI (Go.Eng.lenL t.1) (Go.Eng.lenL t.2.1))) 4) fun x0=>(ob (loopU u_natural_Mul_l0 (t.2.1,((Go.Eng.repL x0.1 (Go.Eng.T.v (Go.Value.int Go.IntKind.u32 (0:Int)))),(t.1,((Go.Eng.lenL t.1),((0:Int),())))))) fun q22=>onS q22 (fun t23=>(ob (Go.Eng.u_natural_trim (t23.1,())) fun x24=>(some (x24.1,())))) fun q25=>noS q25))
def h_natural_Mul:HT:=(.seq .leaf (.seq .leaf (.seq (.seq .leaf (.one (.loop { items:=[.slot 1,.slot 5,.slot 17,.slot 18,.slot 19],shapes:=[.sl 1,.row 62 1 16,.sl 1,.int Go.IntKind.i64,.int Go.IntKind.i64] } [((AEx.exit 0),{ items:=[.slot 5],shapes:=[.row 62 1 16] })] (.seq .leaf (.seq .leaf (.seq (.join [(AEx.normal,{ items:=[.slot 1,.slot 5,.slot 17,.slot 18,.slot 19],shapes:=[.sl 1,.row 62 1 16,.sl 1,.int Go.IntKind.i64,.int Go.IntKind.i64] })] (.one (.seq .leaf (.seq .leaf (.seq .leaf (.seq (.seq .leaf (.one (.loop { items:=[.slot 1,.slot 5,.slot 6,.slot 7,.slot 8,.slot 17,.slot 18,.slot 19,.slot 26,.slot 27,.slot 28],shapes:=[.sl 1,.row 62 1 16,.int Go.IntKind.i64,.tree,.int Go.IntKind.u64,.sl 1,.int Go.IntKind.i64,.int Go.IntKind.i64,.sl 1,.int Go.IntKind.i64,.int Go.IntKind.i64] } [((AEx.exit 2),{ items:=[.slot 1,.slot 5,.slot 6,.slot 8,.slot 17,.slot 18,.slot 19],shapes:=[.sl 1,.row 62 1 16,.int Go.IntKind.i64,.int Go.IntKind.u64,.sl 1,.int Go.IntKind.i64,.int Go.IntKind.i64] })] .leaf))) .leaf)))))) .leaf)))))) .leaf)))
theorem ok_natural_Mul:TabOK Try.prog [] g_natural_Mul:=(TabOK.cons (fun _=>⟨_,Try.func38,by kernel_rfl,by kernel_rfl⟩) k_natural_trim (calleeOf_nat _ _) (fun h=>by cases h) (by kernel_rfl) (fun _=>callK_framed (calleeOf_nat _ _) rfl rfl) (by kernel_rfl) TabOK.nil)
theorem e_natural_Mul:∀t,bodyG Try.prog g_natural_Mul [] h_natural_Mul Try.f26 sg_natural_Mul t=u_natural_Mul t:=by
 intro t
 kernel_rfl
theorem k_natural_Mul:(calleeOf sg_natural_Mul u_natural_Mul).OK Try.prog 26:=calleeG_ok mixed ok_natural_Mul Try.func26 (by kernel_rfl) (by kernel_rfl) e_natural_Mul
def sg_natural_Div:Sig:={ na:=2,np:=0,hin:={ items:=[.slot 0,.slot 1],shapes:=[.sl 1,.sl 1] },nres:=3,kept:=[],nnew:=0,hout:={ items:=[.slot 0,.slot 1,.slot 2],shapes:=[.sl 1,.sl 1,.int Go.IntKind.i64] },nob:=600 }
noncomputable def g_natural_Div:List (Go.FuncId×Callee):=[(38,(calleeOf sg_natural_trim u_natural_trim)),(23,(calleeOf sg_natural_Cmp u_natural_Cmp)),(40,(calleeOf sg_slices_Clone___uint32_uint32_ u_slices_Clone___uint32_uint32_)),(41,(calleeOf sg_natural_small u_natural_small)),(42,(calleeOf sg_math_bits_LeadingZeros32 u_math_bits_LeadingZeros32)),(39,(calleeOf sg_natural_raise u_natural_raise))]
noncomputable def u_natural_Div_l1(s27:(List T×Int×List T×List T×Int×Int×Int×Int×Unit)):Option ((List T×Int×List T×List T×Int×Int×Int×Int×Unit)⊕((List T×Int×List T×List T×Int×Int×Int×Unit)⊕Empty)):=
 (bif (Go.Eng.leI (4294967296:Int) s27.2.2.2.2.2.2.1) then (ob (Go.Eng.idxL s27.2.2.2.1 (Go.Eng.wr Go.IntKind.i64 (Go.Eng.subI s27.2.2.2.2.1 (1:Int)))) fun x28=>(ob (Go.Eng.T.anyInt? (Go.Eng.T.cell x28 0)) fun x29=>(bif (Go.Eng.leI (4294967296:Int) (Go.Eng.wr Go.IntKind.u64 (Go.Eng.addI s27.2.2.2.2.2.2.2.1 (Go.Eng.wr Go.IntKind.u64 x29)))) then (some (Sum.inr (Sum.inl (s27.1,(s27.2.1,(s27.2.2.1,(s27.2.2.2.1,(s27.2.2.2.2.1,(s27.2.2.2.2.2.1,((Go.Eng.wr Go.IntKind.u64 (Go.Eng.subI s27.2.2.2.2.2.2.1 (1:Int))),())))))))))) else (some (Sum.inl (s27.1,(s27.2.1,(s27.2.2.1,(s27.2.2.2.1,(s27.2.2.2.2.1,(s27.2.2.2.2.2.1,((Go.Eng.wr Go.IntKind.u64 (Go.Eng.subI s27.2.2.2.2.2.2.1 (1:Int))),((Go.Eng.wr Go.IntKind.u64 (Go.Eng.addI s27.2.2.2.2.2.2.2.1 (Go.Eng.wr Go.IntKind.u64 x29))),()))))))))))))) else (ob (Go.Eng.idxL s27.2.2.2.1 (Go.Eng.wr Go.IntKind.i64 (Go.Eng.subI s27.2.2.2.2.1 (2:Int)))) fun x30=>(ob (Go.Eng.T.anyInt? (Go.Eng.T.cell x30 0)) fun x31=>(ob (Go.Eng.nn (32:Int)) fun x32=>(ob (Go.Eng.idxL s27.2.2.1 (Go.Eng.wr Go.IntKind.i64 (Go.Eng.subI (Go.Eng.wr Go.IntKind.i64 (Go.Eng.addI s27.2.2.2.2.2.1 s27.2.2.2.2.1)) (2:Int)))) fun x33=>(ob (Go.Eng.T.anyInt? (Go.Eng.T.cell x33 0)) fun x34=>(bif (Go.Eng.ltI (Go.Eng.bitI Go.BinOp.or Go.IntKind.u64 (Go.Eng.wr Go.IntKind.u64 (Go.Eng.shlI Go.IntKind.u64 s27.2.2.2.2.2.2.2.1 x32)) (Go.Eng.wr Go.IntKind.u64 x34)) (Go.Eng.wr Go.IntKind.u64 (Go.Eng.mulI s27.2.2.2.2.2.2.1 (Go.Eng.wr Go.IntKind.u64 x31)))) then (ob (Go.Eng.idxL s27.2.2.2.1 (Go.Eng.wr Go.IntKind.i64 (Go.Eng.subI s27.2.2.2.2.1 (1:Int)))) fun x35=>(ob (Go.Eng.T.anyInt? (Go.Eng.T.cell x35 0)) fun x36=>(bif (Go.Eng.leI (4294967296:Int) (Go.Eng.wr Go.IntKind.u64 (Go.Eng.addI s27.2.2.2.2.2.2.2.1 (Go.Eng.wr Go.IntKind.u64 x36)))) then (some (Sum.inr (Sum.inl (s27.1,(s27.2.1,(s27.2.2.1,(s27.2.2.2.1,(s27.2.2.2.2.1,(s27.2.2.2.2.2.1,((Go.Eng.wr Go.IntKind.u64 (Go.Eng.subI s27.2.2.2.2.2.2.1 (1:Int))),())))))))))) else (some (Sum.inl (s27.1,(s27.2.1,(s27.2.2.1,(s27.2.2.2.1,(s27.2.2.2.2.1,(s27.2.2.2.2.2.1,((Go.Eng.wr Go.IntKind.u64 (Go.Eng.subI s27.2.2.2.2.2.2.1 (1:Int))),((Go.Eng.wr Go.IntKind.u64 (Go.Eng.addI s27.2.2.2.2.2.2.2.1 (Go.Eng.wr Go.IntKind.u64 x36))),()))))))))))))) else (some (Sum.inr (Sum.inl (s27.1,(s27.2.1,(s27.2.2.1,(s27.2.2.2.1,(s27.2.2.2.2.1,(s27.2.2.2.2.2.1,(s27.2.2.2.2.2.2.1,())))))))))))))))))
noncomputable def u_natural_Div_l2(s39:(List T×Int×List T×List T×Int×Int×Int×Int×Int×List T×Int×Int×Unit)):Option ((List T×Int×List T×List T×Int×Int×Int×Int×Int×List T×Int×Int×Unit)⊕((List T×Int×List T×List T×Int×Int×Int×Int×Int×Unit)⊕Empty)):=
 (bif (Go.Eng.ltI s39.2.2.2.2.2.2.2.2.2.2.2.1 s39.2.2.2.2.2.2.2.2.2.2.1) then (ob (Go.Eng.idxL s39.2.2.2.2.2.2.2.2.2.1 s39.2.2.2.2.2.2.2.2.2.2.2.1) fun x40=>(ob (Go.Eng.T.anyInt? (Go.Eng.T.cell x40 0)) fun x41=>(ob (Go.Eng.idxL s39.2.2.1 (Go.Eng.wr Go.IntKind.i64 (Go.Eng.addI s39.2.2.2.2.2.2.2.2.2.2.2.1 s39.2.2.2.2.2.1))) fun x42=>(ob (Go.Eng.T.anyInt? (Go.Eng.T.cell x42 0)) fun x43=>(ob (Go.Eng.idxL s39.2.2.1 (Go.Eng.wr Go.IntKind.i64 (Go.Eng.addI s39.2.2.2.2.2.2.2.2.2.2.2.1 s39.2.2.2.2.2.1))) fun x44=>none))))) else (some (Sum.inr (Sum.inl (s39.1,(s39.2.1,(s39.2.2.1,(s39.2.2.2.1,(s39.2.2.2.2.1,(s39.2.2.2.2.2.1,(s39.2.2.2.2.2.2.1,(s39.2.2.2.2.2.2.2.1,(s39.2.2.2.2.2.2.2.2.1,())))))))))))))
noncomputable def u_natural_Div_l0(s15:(List T×Int×List T×List T×Int×Int×Unit)):Option ((List T×Int×List T×List T×Int×Int×Unit)⊕((List T×Int×List T×Unit)⊕Empty)):=
 (bif (Go.Eng.leI (0:Int) s15.2.2.2.2.2.1) then (ob (Go.Eng.idxL s15.2.2.1 (Go.Eng.wr Go.IntKind.i64 (Go.Eng.addI s15.2.2.2.2.2.1 s15.2.2.2.2.1))) fun x16=>(ob (Go.Eng.T.anyInt? (Go.Eng.T.cell x16 0)) fun x17=>(ob (Go.Eng.nn (32:Int)) fun x18=>(ob (Go.Eng.idxL s15.2.2.1 (Go.Eng.wr Go.IntKind.i64 (Go.Eng.subI (Go.Eng.wr Go.IntKind.i64 (Go.Eng.addI s15.2.2.2.2.2.1 s15.2.2.2.2.1)) (1:Int)))) fun x19=>(ob (Go.Eng.T.anyInt? (Go.Eng.T.cell x19 0)) fun x20=>(ob (Go.Eng.idxL s15.2.2.2.1 (Go.Eng.wr Go.IntKind.i64 (Go.Eng.subI s15.2.2.2.2.1 (1:Int)))) fun x21=>(ob (Go.Eng.T.anyInt? (Go.Eng.T.cell x21 0)) fun x22=>(ob (Go.Eng.nz (Go.Eng.wr Go.IntKind.u64 x22)) fun x23=>(ob (Go.Eng.idxL s15.2.2.2.1 (Go.Eng.wr Go.IntKind.i64 (Go.Eng.subI s15.2.2.2.2.1 (1:Int)))) fun x24=>(ob (Go.Eng.T.anyInt? (Go.Eng.T.cell x24 0)) fun x25=>(ob (Go.Eng.nz (Go.Eng.wr Go.IntKind.u64 x25)) fun x26=>(ob (loopU u_natural_Div_l1 (s15.1,(s15.2.1,(s15.2.2.1,(s15.2.2.2.1,(s15.2.2.2.2.1,(s15.2.2.2.2.2.1,((Go.Eng.wr Go.IntKind.u64 (Go.Eng.divI (Go.Eng.bitI Go.BinOp.or Go.IntKind.u64 (Go.Eng.wr Go.IntKind.u64 (Go.Eng.shlI Go.IntKind.u64 (Go.Eng.wr Go.IntKind.u64 x17) x18)) (Go.Eng.wr Go.IntKind.u64 x20)) x23)),((Go.Eng.modI (Go.Eng.bitI Go.BinOp.or Go.IntKind.u64 (Go.Eng.wr Go.IntKind.u64 (Go.Eng.shlI Go.IntKind.u64 (Go.Eng.wr Go.IntKind.u64 x17) x18)) (Go.Eng.wr Go.IntKind.u64 x20)) x26),()))))))))) fun q37=>onS q37 (fun t38=>(ob (loopU u_natural_Div_l2 (t38.1,(t38.2.1,(t38.2.2.1,(t38.2.2.2.1,(t38.2.2.2.2.1,(t38.2.2.2.2.2.1,(t38.2.2.2.2.2.2.1,((0:Int),((0:Int),(t38.2.2.2.1,((Go.Eng.lenL t38.2.2.2.1),((0:Int),()))))))))))))) fun q45=>onS q45 (fun t46=>(ob (Go.Eng.idxL t46.2.2.1 (Go.Eng.wr Go.IntKind.i64 (Go.Eng.addI t46.2.2.2.2.2.1 t46.2.2.2.2.1))) fun x47=>(ob (Go.Eng.T.anyInt? (Go.Eng.T.cell x47 0)) fun x48=>(ob (Go.Eng.idxL t46.2.2.1 (Go.Eng.wr Go.IntKind.i64 (Go.Eng.addI t46.2.2.2.2.2.1 t46.2.2.2.2.1))) fun x49=>none)))) fun q50=>noS q50)) fun q51=>noS q51)))))))))))) else (some (Sum.inr (Sum.inl (s15.1,(s15.2.1,(s15.2.2.1,())))))))
noncomputable def u_natural_Div_l5(s55:(List T×List T×Int×Int×Int×Unit)):Option ((List T×List T×Int×Int×Int×Unit)⊕((List T×List T×Unit)⊕Empty)):=
 (bif (Go.Eng.ltI s55.2.2.2.2.1 s55.2.2.2.1) then (ob (α:=Empty) (ob (Go.Eng.idxL s55.2.1 s55.2.2.2.2.1) fun x56=>(ob (Go.Eng.T.int? Go.IntKind.u32 (Go.Eng.T.cell x56 0)) fun x57=>(ob (Go.Eng.nn s55.2.2.1) fun x58=>(ob (Go.Eng.idxL s55.2.1 s55.2.2.2.2.1) fun x59=>none)))) fun q60=>noS q60) else (some (Sum.inr (Sum.inl (s55.1,(s55.2.1,()))))))
noncomputable def u_natural_Div(t:((List T)×((List T)×Unit))):Option ((List T)×((List T)×(Int×Unit))):=
 (ob (Go.Eng.u_natural_trim (t.1,())) fun x0=>(ob (Go.Eng.u_natural_trim (t.2.1,())) fun x1=>(bif (Go.Eng.eqI (Go.Eng.lenL x1.1) (0:Int)) then (some ([],([],((3:Int),())))) else (ob (Go.Eng.u_natural_Cmp (x0.1,(x1.1,()))) fun x2=>(bif (Go.Eng.ltI x2.1 (0:Int)) then (ob (Go.Eng.u_slices_Clone___uint32_uint32_ (x0.1,())) fun x3=>(some ([],(x3.1,((0:Int),()))))) else (bif (Go.Eng.eqI (Go.Eng.lenL x1.1) (1:Int)) then (ob (Go.Eng.idxL x1.1 (0:Int)) fun x4=>(ob (Go.Eng.T.int? Go.IntKind.u32 (Go.Eng.T.cell x4 0)) fun x5=>(ob (Go.Eng.u_natural_small (x0.1,(x5,()))) fun x6=>(ob (Go.Eng.u_natural_trim ([(Go.Eng.T.v (Go.Value.int Go.IntKind.u32 x6.2.1))],())) fun x7=>(some (x6.1,(x7.1,((0:Int),())))))))) else (ob (Go.Eng.idxL x1.1 (Go.Eng.wr Go.IntKind.i64 (Go.Eng.subI (Go.Eng.lenL x1.1) (1:Int)))) fun x8=>(ob (Go.Eng.T.int? Go.IntKind.u32 (Go.Eng.T.cell x8 0)) fun x9=>(ob (Go.Eng.u_math_bits_LeadingZeros32 (x9,())) fun x10=>(ob (Go.Eng.u_natural_raise (x0.1,(x10.1,()))) fun x11=>(ob (Go.Eng.u_natural_raise (x1.1,(x10.1,()))) fun x12=>(ob (Go.Eng.u_natural_trim (x12.1,())) fun x13=>(ob (Go.Eng.mkLen (Go.Eng.wr Go.IntKind.i64 (Go.Eng.subI (Go.Eng.lenL x11.1) (Go.Eng.lenL x13.1))) (Go.Eng.wr Go.IntKind.i64 (Go.Eng.subI (Go.Eng.lenL x11.1) (Go.Eng.lenL x13.1))) 4) fun x14=>(ob (loopU u_natural_Div_l0 ((Go.Eng.repL x14.1 (Go.Eng.T.v (Go.Value.int Go.IntKind.u32 (0:Int)))),(x10.1,(x11.1,(x13.1,((Go.Eng.lenL x13.1),((Go.Eng.wr Go.IntKind.i64 (Go.Eng.subI (Go.Eng.lenL (Go.Eng.repL x14.1 (Go.Eng.T.v (Go.Value.int Go.IntKind.u32 (0:Int))))) (1:Int))),()))))))) fun q52=>onS q52 (fun t53=>(ob (Go.Eng.u_natural_trim (t53.2.2.1,())) fun x54=>(ob (loopU u_natural_Div_l5 (t53.1,(x54.1,(t53.2.1,((Go.Eng.lenL x54.1),((0:Int),())))))) fun q61=>onS q61 (fun t62=>(ob (Go.Eng.u_natural_trim (t62.1,())) fun x63=>(ob (Go.Eng.u_natural_trim (t62.2.1,())) fun x64=>(some (x63.1,(x64.1,((0:Int),()))))))) fun q65=>noS q65))) fun q66=>noS q66))))))))))))))
def h_natural_Div:HT:=(.seq .leaf (.seq .leaf (.seq .leaf (.seq .leaf (.seq .leaf (.seq .leaf (.seq .leaf (.seq (.seq .leaf (.one (.loop { items:=[.slot 4,.slot 9,.slot 10,.slot 11,.slot 12,.slot 13],shapes:=[.row 62 1 77,.int Go.IntKind.i64,.sl 1,.sl 1,.int Go.IntKind.i64,.int Go.IntKind.i64] } [((AEx.exit 1),{ items:=[.slot 4,.slot 9,.slot 10],shapes:=[.row 62 1 77,.int Go.IntKind.i64,.sl 1] })] (.seq .leaf (.seq (.one (.seq .leaf (.seq .leaf (.seq (.one (.loop { items:=[.slot 4,.slot 9,.slot 10,.slot 11,.slot 12,.slot 13,.slot 15,.slot 16],shapes:=[.row 62 1 77,.int Go.IntKind.i64,.sl 1,.sl 1,.int Go.IntKind.i64,.int Go.IntKind.i64,.int Go.IntKind.u64,.int Go.IntKind.u64] } [((AEx.exit 3),{ items:=[.slot 4,.slot 9,.slot 10,.slot 11,.slot 12,.slot 13,.slot 15],shapes:=[.row 62 1 77,.int Go.IntKind.i64,.sl 1,.sl 1,.int Go.IntKind.i64,.int Go.IntKind.i64,.int Go.IntKind.u64] })] .leaf)) (.seq .leaf (.seq (.seq .leaf (.one (.loop { items:=[.slot 4,.slot 9,.slot 10,.slot 11,.slot 12,.slot 13,.slot 15,.slot 17,.slot 18,.slot 154,.slot 155,.slot 156],shapes:=[.row 62 1 77,.int Go.IntKind.i64,.sl 1,.sl 1,.int Go.IntKind.i64,.int Go.IntKind.i64,.int Go.IntKind.u64,.int Go.IntKind.u64,.int Go.IntKind.u64,.sl 1,.int Go.IntKind.i64,.int Go.IntKind.i64] } [((AEx.exit 5),{ items:=[.slot 4,.slot 9,.slot 10,.slot 11,.slot 12,.slot 13,.slot 15,.slot 17,.slot 18],shapes:=[.row 62 1 77,.int Go.IntKind.i64,.sl 1,.sl 1,.int Go.IntKind.i64,.int Go.IntKind.i64,.int Go.IntKind.u64,.int Go.IntKind.u64,.int Go.IntKind.u64] })] .leaf))) (.seq .leaf (.seq .leaf (.seq (.join [] (.seq .leaf (.cond (.seq .leaf (.seq .leaf (.seq (.seq .leaf (.one (.loop { items:=[],shapes:=[] } [] .leaf))) .leaf))) .leaf))) .leaf))))))))) .leaf))))) (.seq .leaf (.seq (.seq .leaf (.one (.loop { items:=[.slot 4,.slot 5,.slot 9,.slot 261,.slot 262],shapes:=[.row 62 1 77,.sl 1,.int Go.IntKind.i64,.int Go.IntKind.i64,.int Go.IntKind.i64] } [((AEx.exit 9),{ items:=[.slot 4,.slot 5],shapes:=[.row 62 1 77,.sl 1] })] (.seq .leaf (.seq .leaf (.seq (.join [] .leaf) .leaf)))))) .leaf))))))))))
theorem ok_natural_Div:TabOK Try.prog [23,42] g_natural_Div:=(TabOK.cons (fun _=>⟨_,Try.func38,by kernel_rfl,by kernel_rfl⟩) k_natural_trim (calleeOf_nat _ _) (fun h=>by cases h) (by kernel_rfl) (fun _=>callK_framed (calleeOf_nat _ _) rfl rfl) (by kernel_rfl) (TabOK.cons (fun _=>⟨_,Try.func23,by kernel_rfl,by kernel_rfl⟩) k_natural_Cmp (calleeOf_nat _ _) (fun _=>(calleeOf_pure (by kernel_rfl))) (by kernel_rfl) (fun _=>callK_framed (calleeOf_nat _ _) rfl rfl) (by kernel_rfl) (TabOK.cons (fun _=>⟨_,Try.func40,by kernel_rfl,by kernel_rfl⟩) k_slices_Clone___uint32_uint32_ (calleeOf_nat _ _) (fun h=>by cases h) (by kernel_rfl) (fun _=>callK_framed (calleeOf_nat _ _) rfl rfl) (by kernel_rfl) (TabOK.cons (fun _=>⟨_,Try.func41,by kernel_rfl,by kernel_rfl⟩) k_natural_small (calleeOf_nat _ _) (fun h=>by cases h) (by kernel_rfl) (fun _=>callK_framed (calleeOf_nat _ _) rfl rfl) (by kernel_rfl) (TabOK.cons (fun _=>⟨_,Try.func42,by kernel_rfl,by kernel_rfl⟩) k_math_bits_LeadingZeros32 (calleeOf_nat _ _) (fun _=>(calleeOf_pure (by kernel_rfl))) (by kernel_rfl) (fun _=>callK_framed (calleeOf_nat _ _) rfl rfl) (by kernel_rfl) (TabOK.cons (fun _=>⟨_,Try.func39,by kernel_rfl,by kernel_rfl⟩) k_natural_raise (calleeOf_nat _ _) (fun h=>by cases h) (by kernel_rfl) (fun _=>callK_framed (calleeOf_nat _ _) rfl rfl) (by kernel_rfl) TabOK.nil))))))
theorem e_natural_Div:∀t,bodyG Try.prog g_natural_Div [23,42] h_natural_Div Try.f25 sg_natural_Div t=u_natural_Div t:=by
 intro t
 kernel_rfl
theorem k_natural_Div:(calleeOf sg_natural_Div u_natural_Div).OK Try.prog 25:=calleeG_ok mixed ok_natural_Div Try.func25 (by kernel_rfl) (by kernel_rfl) e_natural_Div
def sg_natural_Shift:Sig:={ na:=2,np:=0,hin:={ items:=[.slot 0,.slot 1],shapes:=[.sl 1,.int Go.IntKind.i64] },nres:=2,kept:=[],nnew:=0,hout:={ items:=[.slot 0,.slot 1],shapes:=[.sl 1,.int Go.IntKind.i64] },nob:=158 }
noncomputable def g_natural_Shift:List (Go.FuncId×Callee):=[(38,(calleeOf sg_natural_trim u_natural_trim)),(39,trC (calleeOf sg_natural_raise u_natural_raise)),(40,(calleeOf sg_slices_Clone___uint32_uint32__r u_slices_Clone___uint32_uint32__r))]
noncomputable def u_natural_Shift_l0(s7:(List T×Int×Int×Int×Unit)):Option ((List T×Int×Int×Int×Unit)⊕((List T×Unit)⊕Empty)):=
 (bif (Go.Eng.ltI s7.2.2.2.1 s7.2.2.1) then (ob (α:=((List T×Int×Int×Int×Unit)⊕Empty)) (ob (Go.Eng.chkI (Go.Eng.lenL s7.1) s7.2.2.2.1) fun x8=>(ob (Go.Eng.idxN s7.1 x8) fun x9=>(ob (Go.Eng.T.int? Go.IntKind.u32 (Go.Eng.T.cell x9 0)) fun x10=>(ob (Go.Eng.nn s7.2.1) fun x11=>(ob (Go.Eng.chkI (Go.Eng.lenL s7.1) s7.2.2.2.1) fun x12=>(ob (Go.Eng.idxN s7.1 x12) fun x13=>(bif (Go.Eng.ltI (0:Int) s7.2.1) then (bif (Go.Eng.ltI (Go.Eng.wr Go.IntKind.i64 (Go.Eng.addI s7.2.2.2.1 (1:Int))) (Go.Eng.lenL (List.set s7.1 x12 (Go.Eng.T.upd 1 x13 0 [(Go.Eng.T.v (Go.Value.int Go.IntKind.u32 (Go.Eng.shrI Go.IntKind.u32 x10 x11)))])))) then (ob (Go.Eng.chkI (Go.Eng.lenL (List.set s7.1 x12 (Go.Eng.T.upd 1 x13 0 [(Go.Eng.T.v (Go.Value.int Go.IntKind.u32 (Go.Eng.shrI Go.IntKind.u32 x10 x11)))]))) s7.2.2.2.1) fun x14=>(ob (Go.Eng.idxN (List.set s7.1 x12 (Go.Eng.T.upd 1 x13 0 [(Go.Eng.T.v (Go.Value.int Go.IntKind.u32 (Go.Eng.shrI Go.IntKind.u32 x10 x11)))])) x14) fun x15=>(ob (Go.Eng.chkI (Go.Eng.lenL (List.set s7.1 x12 (Go.Eng.T.upd 1 x13 0 [(Go.Eng.T.v (Go.Value.int Go.IntKind.u32 (Go.Eng.shrI Go.IntKind.u32 x10 x11)))]))) (Go.Eng.wr Go.IntKind.i64 (Go.Eng.addI s7.2.2.2.1 (1:Int)))) fun x16=>(ob (Go.Eng.idxN (List.set s7.1 x12 (Go.Eng.T.upd 1 x13 0 [(Go.Eng.T.v (Go.Value.int Go.IntKind.u32 (Go.Eng.shrI Go.IntKind.u32 x10 x11)))])) x16) fun x17=>(ob (Go.Eng.T.int? Go.IntKind.u32 (Go.Eng.T.cell x17 0)) fun x18=>(ob (Go.Eng.nn (Go.Eng.wr Go.IntKind.i64 (Go.Eng.subI (32:Int) s7.2.1))) fun x19=>(ob (Go.Eng.T.int? Go.IntKind.u32 (Go.Eng.T.cell x15 0)) fun x20=>(ob (Go.Eng.chkI (Go.Eng.lenL (List.set s7.1 x12 (Go.Eng.T.upd 1 x13 0 [(Go.Eng.T.v (Go.Value.int Go.IntKind.u32 (Go.Eng.shrI Go.IntKind.u32 x10 x11)))]))) s7.2.2.2.1) fun x21=>(ob (Go.Eng.idxN (List.set s7.1 x12 (Go.Eng.T.upd 1 x13 0 [(Go.Eng.T.v (Go.Value.int Go.IntKind.u32 (Go.Eng.shrI Go.IntKind.u32 x10 x11)))])) x21) fun x22=>(some (Sum.inl ((List.set (List.set s7.1 x12 (Go.Eng.T.upd 1 x13 0 [(Go.Eng.T.v (Go.Value.int Go.IntKind.u32 (Go.Eng.shrI Go.IntKind.u32 x10 x11)))])) x21 (Go.Eng.T.upd 1 x22 0 [(Go.Eng.T.v (Go.Value.int Go.IntKind.u32 (Go.Eng.bitI Go.BinOp.or Go.IntKind.u32 x20 (Go.Eng.wr Go.IntKind.u32 (Go.Eng.shlI Go.IntKind.u32 x18 x19)))))])),(s7.2.1,(s7.2.2.1,(s7.2.2.2.1,()))))))))))))))) else (some (Sum.inl ((List.set s7.1 x12 (Go.Eng.T.upd 1 x13 0 [(Go.Eng.T.v (Go.Value.int Go.IntKind.u32 (Go.Eng.shrI Go.IntKind.u32 x10 x11)))])),(s7.2.1,(s7.2.2.1,(s7.2.2.2.1,()))))))) else (some (Sum.inl ((List.set s7.1 x12 (Go.Eng.T.upd 1 x13 0 [(Go.Eng.T.v (Go.Value.int Go.IntKind.u32 (Go.Eng.shrI Go.IntKind.u32 x10 x11)))])),(s7.2.1,(s7.2.2.1,(s7.2.2.2.1,()))))))))))))) fun q23=>onS q23 (fun t24=>(some (Sum.inl (t24.1,(t24.2.1,(t24.2.2.1,((Go.Eng.wr Go.IntKind.i64 (Go.Eng.addI t24.2.2.2.1 (1:Int))),()))))))) fun q25=>noS q25) else (some (Sum.inr (Sum.inl (s7.1,())))))
noncomputable def u_natural_Shift(t:((List T)×(Int×Unit))):Option ((List T)×(Int×Unit)):=
 (ob (Go.Eng.u_natural_trim (t.1,())) fun x0=>(bif (Go.Eng.ltI (16384:Int) t.2.1) then (some ([],((2:Int),()))) else (bif (Go.Eng.leI (0:Int) t.2.1) then (ob (Go.Eng.mkLen (Go.Eng.wr Go.IntKind.i64 (Go.Eng.divI t.2.1 (32:Int))) (Go.Eng.wr Go.IntKind.i64 (Go.Eng.divI t.2.1 (32:Int))) 4) fun x1=>(ob (Go.Eng.u_natural_raise (x0.1,((Go.Eng.modI t.2.1 (32:Int)),()))) fun x2=>(ob (Go.Eng.room (Go.Eng.repL x1.1 (Go.Eng.T.v (Go.Value.int Go.IntKind.u32 (0:Int)))) x2.1 4) fun x3=>(ob (Go.Eng.u_natural_trim (x3,())) fun x4=>(some (x4.1,((0:Int),()))))))) else (bif (Go.Eng.leI t.2.1 (Go.Eng.wr Go.IntKind.i64 (Go.Eng.mulI (-32:Int) (Go.Eng.lenL x0.1)))) then (some ([],((0:Int),()))) else (ob (Go.Eng.cutL x0.1 (Go.Eng.wr Go.IntKind.i64 (Go.Eng.divI (Go.Eng.wr Go.IntKind.i64 (Go.Eng.subI (0:Int) t.2.1)) (32:Int))) (Go.Eng.lenL x0.1)) fun x5=>(ob (Go.Eng.u_slices_Clone___uint32_uint32__r (x5,())) fun x6=>(ob (loopU u_natural_Shift_l0 (x6.1,((Go.Eng.modI (Go.Eng.wr Go.IntKind.i64 (Go.Eng.subI (0:Int) t.2.1)) (32:Int)),((Go.Eng.lenL x6.1),((0:Int),()))))) fun q26=>onS q26 (fun t27=>(ob (Go.Eng.u_natural_trim (t27.1,())) fun x28=>(some (x28.1,((0:Int),()))))) fun q29=>noS q29)))))))
def h_natural_Shift:HT:=(.seq .leaf (.seq .leaf (.seq .leaf (.seq .leaf (.seq .leaf (.seq (.seq .leaf (.one (.loop { items:=[.slot 6,.slot 7,.slot 42,.slot 43],shapes:=[.row 62 1 37,.int Go.IntKind.i64,.int Go.IntKind.i64,.int Go.IntKind.i64] } [((AEx.exit 1),{ items:=[.slot 6],shapes:=[.row 62 1 37] })] (.seq .leaf (.seq .leaf (.seq (.join [(AEx.normal,{ items:=[.slot 6,.slot 7,.slot 42,.slot 43],shapes:=[.row 62 1 37,.int Go.IntKind.i64,.int Go.IntKind.i64,.int Go.IntKind.i64] })] .leaf) .leaf)))))) .leaf))))))
theorem ok_natural_Shift:TabOK Try.prog [1000039] g_natural_Shift:=(TabOK.cons (fun _=>⟨_,Try.func38,by kernel_rfl,by kernel_rfl⟩) k_natural_trim (calleeOf_nat _ _) (fun h=>by cases h) (by kernel_rfl) (fun _=>callK_framed (calleeOf_nat _ _) rfl rfl) (by kernel_rfl) (TabOK.consP (fun _=>⟨_,Try.func39,by kernel_rfl,by kernel_rfl⟩) (trC_ok k_natural_raise) (trC_nat (calleeOf_nat _ _)) (fun h=>by cases h) (fun _=>trC_pureP (calleeOf_nat _ _)) (fun _=>(trC_pureP (calleeOf_nat _ _)).framed) (by kernel_rfl) (TabOK.cons (fun _=>⟨_,Try.func40,by kernel_rfl,by kernel_rfl⟩) k_slices_Clone___uint32_uint32__r (calleeOf_nat _ _) (fun h=>by cases h) (by kernel_rfl) (fun _=>callK_framed (calleeOf_nat _ _) rfl rfl) (by kernel_rfl) TabOK.nil)))
theorem e_natural_Shift:∀t,bodyG Try.prog g_natural_Shift [1000039] h_natural_Shift Try.f21 sg_natural_Shift t=u_natural_Shift t:=by
 intro t
 kernel_rfl
theorem k_natural_Shift:(calleeOf sg_natural_Shift u_natural_Shift).OK Try.prog 21:=calleeG_ok mixed ok_natural_Shift Try.func21 (by kernel_rfl) (by kernel_rfl) e_natural_Shift
def sg_slices_Reverse___byte_byte_:Sig:={ na:=1,np:=1,hin:={ items:=[.slot 0],shapes:=[.row 5 1 0] },nres:=0,kept:=[0],nnew:=0,hout:={ items:=[.slot 0],shapes:=[.row 5 1 0] },nob:=56 }
noncomputable def g_slices_Reverse___byte_byte_:List (Go.FuncId×Callee):=[]
noncomputable def u_slices_Reverse___byte_byte__l0(s0:(List T×Int×Int×Unit)):Option ((List T×Int×Int×Unit)⊕((List T×Unit)⊕Empty)):=
 (bif (Go.Eng.ltI s0.2.1 s0.2.2.1) then (ob (Go.Eng.chkI (Go.Eng.lenL s0.1) s0.2.2.1) fun x1=>(ob (Go.Eng.idxN s0.1 x1) fun x2=>(ob (Go.Eng.chkI (Go.Eng.lenL s0.1) s0.2.1) fun x3=>(ob (Go.Eng.idxN s0.1 x3) fun x4=>(ob (Go.Eng.chkI (Go.Eng.lenL s0.1) s0.2.1) fun x5=>(ob (Go.Eng.T.int? Go.IntKind.u8 (Go.Eng.T.cell x2 0)) fun x6=>(ob (Go.Eng.idxN s0.1 x5) fun x7=>(ob (Go.Eng.chkI (Go.Eng.lenL (List.set s0.1 x5 (Go.Eng.T.upd 1 x7 0 [(Go.Eng.T.v (Go.Value.int Go.IntKind.u8 x6))]))) s0.2.2.1) fun x8=>(ob (Go.Eng.T.int? Go.IntKind.u8 (Go.Eng.T.cell x4 0)) fun x9=>(ob (Go.Eng.idxN (List.set s0.1 x5 (Go.Eng.T.upd 1 x7 0 [(Go.Eng.T.v (Go.Value.int Go.IntKind.u8 x6))])) x8) fun x10=>(some (Sum.inl ((List.set (List.set s0.1 x5 (Go.Eng.T.upd 1 x7 0 [(Go.Eng.T.v (Go.Value.int Go.IntKind.u8 x6))])) x8 (Go.Eng.T.upd 1 x10 0 [(Go.Eng.T.v (Go.Value.int Go.IntKind.u8 x9))])),((Go.Eng.wr Go.IntKind.i64 (Go.Eng.addI s0.2.1 (1:Int))),((Go.Eng.wr Go.IntKind.i64 (Go.Eng.subI s0.2.2.1 (1:Int))),()))))))))))))))) else (some (Sum.inr (Sum.inl (s0.1,())))))
noncomputable def u_slices_Reverse___byte_byte_(t:((List T)×Unit)):Option ((List T)×Unit):=
 (ob (loopU u_slices_Reverse___byte_byte__l0 (t.1,((0:Int),((Go.Eng.wr Go.IntKind.i64 (Go.Eng.subI (Go.Eng.lenL t.1) (1:Int))),())))) fun q11=>onS q11 (fun t12=>(some (t12.1,()))) fun q13=>noS q13)
def h_slices_Reverse___byte_byte_:HT:=(.seq .leaf (.one (.loop { items:=[.slot 0,.slot 2,.slot 3],shapes:=[.row 5 1 0,.int Go.IntKind.i64,.int Go.IntKind.i64] } [((AEx.exit 0),{ items:=[.slot 0],shapes:=[.row 5 1 0] })] .leaf)))
theorem ok_slices_Reverse___byte_byte_:TabOK Try.prog [] g_slices_Reverse___byte_byte_:=TabOK.nil
theorem e_slices_Reverse___byte_byte_:∀t,bodyG Try.prog g_slices_Reverse___byte_byte_ [] h_slices_Reverse___byte_byte_ Try.f43 sg_slices_Reverse___byte_byte_ t=u_slices_Reverse___byte_byte_ t:=by
 intro t
 kernel_rfl
theorem k_slices_Reverse___byte_byte_:(calleeOf sg_slices_Reverse___byte_byte_ u_slices_Reverse___byte_byte_).OK Try.prog 43:=calleeG_ok mixed ok_slices_Reverse___byte_byte_ Try.func43 (by kernel_rfl) (by kernel_rfl) e_slices_Reverse___byte_byte_
def sg_natural_Text:Sig:={ na:=1,np:=0,hin:={ items:=[.slot 0],shapes:=[.sl 1] },nres:=1,kept:=[],nnew:=0,hout:={ items:=[.slot 0],shapes:=[.str] },nob:=90 }
noncomputable def g_natural_Text:List (Go.FuncId×Callee):=[(38,(calleeOf sg_natural_trim u_natural_trim)),(41,(calleeOf sg_natural_small u_natural_small)),(43,(calleeOf sg_slices_Reverse___byte_byte_ u_slices_Reverse___byte_byte_))]
noncomputable def u_natural_Text_l1(s3:(List T×List T×Int×Int×Unit)):Option ((List T×List T×Int×Int×Unit)⊕((List T×List T×Unit)⊕Empty)):=
 (bif (Go.Eng.ltI s3.2.2.2.1 (9:Int)) then (bif (Go.Eng.ltI (0:Int) s3.2.2.1) then (ob (Go.Eng.room s3.2.1 [(Go.Eng.T.v (Go.Value.int Go.IntKind.u8 (Go.Eng.wr Go.IntKind.u8 (Go.Eng.wr Go.IntKind.u32 (Go.Eng.addI (48:Int) (Go.Eng.modI s3.2.2.1 (10:Int)))))))] 1) fun x4=>(some (Sum.inl (s3.1,(x4,((Go.Eng.wr Go.IntKind.u32 (Go.Eng.divI s3.2.2.1 (10:Int))),((Go.Eng.wr Go.IntKind.i64 (Go.Eng.addI s3.2.2.2.1 (1:Int))),()))))))) else (bif (Go.Eng.ltI (0:Int) (Go.Eng.lenL s3.1)) then (ob (Go.Eng.room s3.2.1 [(Go.Eng.T.v (Go.Value.int Go.IntKind.u8 (Go.Eng.wr Go.IntKind.u8 (Go.Eng.wr Go.IntKind.u32 (Go.Eng.addI (48:Int) (Go.Eng.modI s3.2.2.1 (10:Int)))))))] 1) fun x5=>(some (Sum.inl (s3.1,(x5,((Go.Eng.wr Go.IntKind.u32 (Go.Eng.divI s3.2.2.1 (10:Int))),((Go.Eng.wr Go.IntKind.i64 (Go.Eng.addI s3.2.2.2.1 (1:Int))),()))))))) else (some (Sum.inr (Sum.inl (s3.1,(s3.2.1,()))))))) else (some (Sum.inr (Sum.inl (s3.1,(s3.2.1,()))))))
noncomputable def u_natural_Text_l0(s1:(List T×List T×Unit)):Option ((List T×List T×Unit)⊕((List T×Unit)⊕Empty)):=
 (bif (Go.Eng.ltI (0:Int) (Go.Eng.lenL s1.1)) then (ob (Go.Eng.u_natural_small (s1.1,((1000000000:Int),()))) fun x2=>(ob (loopU u_natural_Text_l1 (x2.1,(s1.2.1,(x2.2.1,((0:Int),()))))) fun q6=>onS q6 (fun t7=>(some (Sum.inl (t7.1,(t7.2.1,()))))) fun q8=>noS q8)) else (some (Sum.inr (Sum.inl (s1.2.1,())))))
noncomputable def u_natural_Text(t:((List T)×Unit)):Option (ByteArray×Unit):=
 (ob (Go.Eng.u_natural_trim (t.1,())) fun x0=>(bif (Go.Eng.eqI (Go.Eng.lenL x0.1) (0:Int)) then (some ((ByteArray.mk #[48]),())) else (ob (loopU u_natural_Text_l0 (x0.1,([],()))) fun q9=>onS q9 (fun t10=>(ob (Go.Eng.u_slices_Reverse___byte_byte_ (t10.1,())) fun x11=>(ob (Go.Eng.strOf x11.1) fun x12=>(some (x12,()))))) fun q13=>noS q13)))
def h_natural_Text:HT:=(.seq .leaf (.seq .leaf (.seq .leaf (.seq .leaf (.seq (.one (.loop { items:=[.slot 0,.slot 3],shapes:=[.sl 1,.row 5 1 38] } [((AEx.exit 0),{ items:=[.slot 3],shapes:=[.row 5 1 38] })] (.seq .leaf (.one (.seq .leaf (.seq .leaf (.seq .leaf (.one (.loop { items:=[.slot 0,.slot 3,.slot 4,.slot 5],shapes:=[.sl 1,.row 5 1 38,.int Go.IntKind.u32,.int Go.IntKind.i64] } [((AEx.exit 2),{ items:=[.slot 0,.slot 3],shapes:=[.sl 1,.row 5 1 38] })] .leaf))))))))) .leaf)))))
theorem ok_natural_Text:TabOK Try.prog [] g_natural_Text:=(TabOK.cons (fun _=>⟨_,Try.func38,by kernel_rfl,by kernel_rfl⟩) k_natural_trim (calleeOf_nat _ _) (fun h=>by cases h) (by kernel_rfl) (fun _=>callK_framed (calleeOf_nat _ _) rfl rfl) (by kernel_rfl) (TabOK.cons (fun _=>⟨_,Try.func41,by kernel_rfl,by kernel_rfl⟩) k_natural_small (calleeOf_nat _ _) (fun h=>by cases h) (by kernel_rfl) (fun _=>callK_framed (calleeOf_nat _ _) rfl rfl) (by kernel_rfl) (TabOK.cons (fun _=>⟨_,Try.func43,by kernel_rfl,by kernel_rfl⟩) k_slices_Reverse___byte_byte_ (calleeOf_nat _ _) (fun h=>by cases h) (by kernel_rfl) (fun _=>callK_framed (calleeOf_nat _ _) rfl rfl) (by kernel_rfl) TabOK.nil)))
theorem e_natural_Text:∀t,bodyG Try.prog g_natural_Text [] h_natural_Text Try.f28 sg_natural_Text t=u_natural_Text t:=by
 intro t
 kernel_rfl
theorem k_natural_Text:(calleeOf sg_natural_Text u_natural_Text).OK Try.prog 28:=calleeG_ok mixed ok_natural_Text Try.func28 (by kernel_rfl) (by kernel_rfl) e_natural_Text
def sg_entity_power:Sig:={ na:=1,np:=0,hin:={ items:=[.slot 0],shapes:=[.int Go.IntKind.i64] },nres:=1,kept:=[],nnew:=0,hout:={ items:=[.slot 0],shapes:=[.sl 1] },nob:=46 }
noncomputable def g_entity_power:List (Go.FuncId×Callee):=[(24,(calleeOf sg_natural_Of u_natural_Of)),(26,(calleeOf sg_natural_Mul u_natural_Mul))]
noncomputable def u_entity_power_l0(s2:(Int×List T×List T×Unit)):Option ((Int×List T×List T×Unit)⊕((List T×Unit)⊕Empty)):=
 (bif (Go.Eng.ltI (0:Int) s2.1) then (ob (α:=((Int×List T×List T×Unit)⊕Empty)) (ob (α:=((Int×List T×List T×Unit)⊕Empty)) (bif (Go.Eng.eqI (Go.Eng.modI s2.1 (2:Int)) (1:Int)) then (ob (Go.Eng.u_natural_Mul (s2.2.1,(s2.2.2.1,()))) fun x3=>(some (Sum.inl (s2.1,(x3.1,(s2.2.2.1,())))))) else (some (Sum.inl (s2.1,(s2.2.1,(s2.2.2.1,())))))) fun q4=>onS q4 (fun t5=>(bif (Go.Eng.ltI (1:Int) t5.1) then (ob (Go.Eng.u_natural_Mul (t5.2.2.1,(t5.2.2.1,()))) fun x6=>(some (Sum.inl (t5.1,(t5.2.1,(x6.1,())))))) else (some (Sum.inl (t5.1,(t5.2.1,(t5.2.2.1,()))))))) fun q7=>noS q7) fun q8=>onS q8 (fun t9=>(some (Sum.inl ((Go.Eng.wr Go.IntKind.i64 (Go.Eng.divI t9.1 (2:Int))),(t9.2.1,(t9.2.2.1,())))))) fun q10=>noS q10) else (some (Sum.inr (Sum.inl (s2.2.1,())))))
noncomputable def u_entity_power(t:(Int×Unit)):Option ((List T)×Unit):=
 (ob (Go.Eng.u_natural_Of ((1:Int),())) fun x0=>(ob (Go.Eng.u_natural_Of ((10:Int),())) fun x1=>(ob (loopU u_entity_power_l0 (t.1,(x0.1,(x1.1,())))) fun q11=>onS q11 (fun t12=>(some (t12.1,()))) fun q13=>noS q13)))
def h_entity_power:HT:=(.seq .leaf (.seq .leaf (.seq (.one (.loop { items:=[.slot 0,.slot 3,.slot 4],shapes:=[.int Go.IntKind.i64,.sl 1,.sl 1] } [((AEx.exit 0),{ items:=[.slot 3],shapes:=[.sl 1] })] (.seq .leaf (.seq (.join [(AEx.normal,{ items:=[.slot 0,.slot 3,.slot 4],shapes:=[.int Go.IntKind.i64,.sl 1,.sl 1] })] (.one (.seq (.join [(AEx.normal,{ items:=[.slot 0,.slot 3,.slot 4],shapes:=[.int Go.IntKind.i64,.sl 1,.sl 1] })] .leaf) .leaf))) .leaf)))) .leaf)))
theorem ok_entity_power:TabOK Try.prog [] g_entity_power:=(TabOK.cons (fun _=>⟨_,Try.func24,by kernel_rfl,by kernel_rfl⟩) k_natural_Of (calleeOf_nat _ _) (fun h=>by cases h) (by kernel_rfl) (fun _=>callK_framed (calleeOf_nat _ _) rfl rfl) (by kernel_rfl) (TabOK.cons (fun _=>⟨_,Try.func26,by kernel_rfl,by kernel_rfl⟩) k_natural_Mul (calleeOf_nat _ _) (fun h=>by cases h) (by kernel_rfl) (fun _=>callK_framed (calleeOf_nat _ _) rfl rfl) (by kernel_rfl) TabOK.nil))
theorem e_entity_power:∀t,bodyG Try.prog g_entity_power [] h_entity_power Try.f27 sg_entity_power t=u_entity_power t:=by
 intro t
 kernel_rfl
theorem k_entity_power:(calleeOf sg_entity_power u_entity_power).OK Try.prog 27:=calleeG_ok mixed ok_entity_power Try.func27 (by kernel_rfl) (by kernel_rfl) e_entity_power
def sg_entity_factors:Sig:={ na:=1,np:=0,hin:={ items:=[.slot 0],shapes:=[.sl 1] },nres:=2,kept:=[],nnew:=0,hout:={ items:=[.slot 0,.slot 1],shapes:=[.int Go.IntKind.i64,.sl 1] },nob:=64 }
noncomputable def g_entity_factors:List (Go.FuncId×Callee):=[(24,(calleeOf sg_natural_Of u_natural_Of)),(25,(calleeOf sg_natural_Div u_natural_Div))]
noncomputable def u_entity_factors_l0(s0:(List T×Int×Unit)):Option ((List T×Int×Unit)⊕((Int×List T×Unit)⊕Empty)):=
 (ob (Go.Eng.u_natural_Of ((5:Int),())) fun x1=>(ob (Go.Eng.u_natural_Div (s0.1,(x1.1,()))) fun x2=>(bif (Bool.not (Go.Eng.eqI x2.2.2.1 (0:Int))) then (some (Sum.inr (Sum.inl (s0.2.1,(s0.1,()))))) else (bif (Go.Eng.ltI (0:Int) (Go.Eng.lenL x2.2.1)) then (some (Sum.inr (Sum.inl (s0.2.1,(s0.1,()))))) else (bif (Go.Eng.eqI (Go.Eng.lenL s0.1) (0:Int)) then (some (Sum.inr (Sum.inl (s0.2.1,(s0.1,()))))) else (some (Sum.inl (x2.1,((Go.Eng.wr Go.IntKind.i64 (Go.Eng.addI s0.2.1 (1:Int))),())))))))))
noncomputable def u_entity_factors(t:((List T)×Unit)):Option (Int×((List T)×Unit)):=
 (ob (loopU u_entity_factors_l0 (t.1,((0:Int),()))) fun q3=>onS q3 (fun t4=>(some (t4.1,(t4.2.1,())))) fun q5=>noS q5)
def h_entity_factors:HT:=(.seq .leaf (.seq .leaf (.one (.loop { items:=[.slot 0,.slot 4],shapes:=[.sl 1,.int Go.IntKind.i64] } [(AEx.ret,{ items:=[.slot 2,.slot 3],shapes:=[.int Go.IntKind.i64,.sl 1] })] .leaf))))
theorem ok_entity_factors:TabOK Try.prog [] g_entity_factors:=(TabOK.cons (fun _=>⟨_,Try.func24,by kernel_rfl,by kernel_rfl⟩) k_natural_Of (calleeOf_nat _ _) (fun h=>by cases h) (by kernel_rfl) (fun _=>callK_framed (calleeOf_nat _ _) rfl rfl) (by kernel_rfl) (TabOK.cons (fun _=>⟨_,Try.func25,by kernel_rfl,by kernel_rfl⟩) k_natural_Div (calleeOf_nat _ _) (fun h=>by cases h) (by kernel_rfl) (fun _=>callK_framed (calleeOf_nat _ _) rfl rfl) (by kernel_rfl) TabOK.nil))
theorem e_entity_factors:∀t,bodyG Try.prog g_entity_factors [] h_entity_factors Try.f22 sg_entity_factors t=u_entity_factors t:=by
 intro t
 kernel_rfl
theorem k_entity_factors:(calleeOf sg_entity_factors u_entity_factors).OK Try.prog 22:=calleeG_ok mixed ok_entity_factors Try.func22 (by kernel_rfl) (by kernel_rfl) e_entity_factors
def sg_strings_Repeat:Sig:={ na:=2,np:=0,hin:={ items:=[.slot 0,.slot 1],shapes:=[.str,.int Go.IntKind.i64] },nres:=1,kept:=[],nnew:=0,hout:={ items:=[.slot 0],shapes:=[.str] },nob:=250 }
noncomputable def g_strings_Repeat:List (Go.FuncId×Callee):=[]
noncomputable def u_strings_Repeat(t:(ByteArray×(Int×Unit))):Option (ByteArray×Unit):=
 (bif (Go.Eng.eqI t.2.1 (0:Int)) then (some ((ByteArray.mk #[]),())) else (bif (Go.Eng.eqI t.2.1 (1:Int)) then (some (t.1,())) else (ob (α:=((ByteArray×Int×Unit)⊕Empty)) (bif (Go.Eng.ltI t.2.1 (0:Int)) then none else (some (Sum.inl (t.1,(t.2.1,()))))) fun q0=>onS q0 (fun t1=>none) fun q2=>noS q2)))
def h_strings_Repeat:HT:=(.seq .leaf (.seq .leaf (.seq (.join [(AEx.normal,{ items:=[.slot 0,.slot 1],shapes:=[.str,.int Go.IntKind.i64] })] .leaf) (.seq .leaf (.seq (.join [] .leaf) (.seq .leaf (.seq .leaf (.seq (.join [] (.seq .leaf (.one (.seq (.join [] .leaf) .leaf)))) (.seq .leaf (.seq (.join [] .leaf) (.seq .leaf (.seq .leaf (.seq .leaf (.seq (.one (.loop { items:=[],shapes:=[] } [] .leaf)) .leaf))))))))))))))
theorem ok_strings_Repeat:TabOK Try.prog [] g_strings_Repeat:=TabOK.nil
theorem e_strings_Repeat:∀t,bodyG Try.prog g_strings_Repeat [] h_strings_Repeat Try.f29 sg_strings_Repeat t=u_strings_Repeat t:=by
 intro t
 kernel_rfl
theorem k_strings_Repeat:(calleeOf sg_strings_Repeat u_strings_Repeat).OK Try.prog 29:=calleeG_ok mixed ok_strings_Repeat Try.func29 (by kernel_rfl) (by kernel_rfl) e_strings_Repeat
def sg_entity_Decimal:Sig:={ na:=1,np:=0,hin:={ items:=[.aggs 0 3],shapes:=[.bool,.sl 1,.sl 1] },nres:=2,kept:=[],nnew:=0,hout:={ items:=[.slot 0,.slot 1],shapes:=[.str,.bool] },nob:=204 }
noncomputable def g_entity_Decimal:List (Go.FuncId×Callee):=[(21,(calleeOf sg_natural_Shift u_natural_Shift)),(22,(calleeOf sg_entity_factors u_entity_factors)),(24,(calleeOf sg_natural_Of u_natural_Of)),(23,(calleeOf sg_natural_Cmp u_natural_Cmp)),(27,trC (calleeOf sg_entity_power u_entity_power)),(26,trC (calleeOf sg_natural_Mul u_natural_Mul)),(25,trC (calleeOf sg_natural_Div u_natural_Div)),(28,(calleeOf sg_natural_Text u_natural_Text)),(29,(calleeOf sg_strings_Repeat u_strings_Repeat))]
noncomputable def u_entity_Decimal_l0(s0:(Unit×List T×Int×List T×Bool×List T×List T×Unit)):Option ((Unit×List T×Int×List T×Bool×List T×List T×Unit)⊕((Unit×List T×Int×Bool×List T×List T×Unit)⊕Empty)):=
 (bif (Go.Eng.ltI (0:Int) (Go.Eng.lenL s0.2.2.2.1)) then (ob (Go.Eng.idxL s0.2.2.2.1 (0:Int)) fun x1=>(ob (Go.Eng.T.int? Go.IntKind.u32 (Go.Eng.T.cell x1 0)) fun x2=>(bif (Go.Eng.eqI (Go.Eng.bitI Go.BinOp.and Go.IntKind.u32 x2 (1:Int)) (0:Int)) then (ob (Go.Eng.u_natural_Shift (s0.2.2.2.1,((-1:Int),()))) fun x3=>(some (Sum.inl ((),(s0.2.1,((Go.Eng.wr Go.IntKind.i64 (Go.Eng.addI s0.2.2.1 (1:Int))),(x3.1,(s0.2.2.2.2.1,(s0.2.2.2.2.2.1,(s0.2.2.2.2.2.2.1,())))))))))) else (some (Sum.inr (Sum.inl ((),(s0.2.1,(s0.2.2.1,(s0.2.2.2.2.1,(s0.2.2.2.2.2.1,(s0.2.2.2.2.2.2.1,())))))))))))) else (some (Sum.inr (Sum.inl ((),(s0.2.1,(s0.2.2.1,(s0.2.2.2.2.1,(s0.2.2.2.2.2.1,(s0.2.2.2.2.2.2.1,()))))))))))
noncomputable def u_entity_Decimal(t:(Bool×((List T)×((List T)×Unit)))):Option (ByteArray×(Bool×Unit)):=
 (ob (α:=((ByteArray×Bool×Unit)⊕((Unit×Int×List T×Bool×List T×List T×Unit)⊕Empty))) (bif (Go.Eng.ltI (0:Int) (Go.Eng.lenL t.2.2.1)) then (ob (loopU u_entity_Decimal_l0 ((),(t.2.1,((0:Int),(t.2.2.1,(t.1,(t.2.1,(t.2.2.1,())))))))) fun q4=>onS q4 (fun t5=>(ob (Go.Eng.u_natural_Shift (t5.2.2.2.2.2.1,((Go.Eng.wr Go.IntKind.i64 (Go.Eng.subI (0:Int) t5.2.2.1)),()))) fun x6=>(ob (Go.Eng.u_entity_factors (x6.1,())) fun x7=>(ob (Go.Eng.u_natural_Of ((1:Int),())) fun x8=>(ob (Go.Eng.u_natural_Cmp (x7.2.1,(x8.1,()))) fun x9=>(bif (Bool.not (Go.Eng.eqI x9.1 (0:Int))) then (some (Sum.inl ((ByteArray.mk #[]),(Bool.false,())))) else (ob (Go.Eng.u_entity_power ((Go.Eng.mmI Bool.true t5.2.2.1 x7.1),())) fun x10=>(ob (Go.Eng.u_natural_Mul (t5.2.1,(x10.1,()))) fun x11=>(ob (Go.Eng.u_natural_Div (x11.1,(t5.2.2.2.2.2.1,()))) fun x12=>(some (Sum.inr (Sum.inl ((),((Go.Eng.mmI Bool.true t5.2.2.1 x7.1),(x12.1,(t5.2.2.2.1,(t5.2.2.2.2.1,(t5.2.2.2.2.2.1,())))))))))))))))))) fun q13=>noS q13) else (some (Sum.inr (Sum.inl ((),((0:Int),(t.2.1,(t.1,(t.2.1,(t.2.2.1,())))))))))) fun q14=>onS q14 (fun t15=>(some (t15.1,(t15.2.1,())))) fun q16=>onS q16 (fun t17=>(ob (Go.Eng.u_natural_Text (t17.2.2.1,())) fun x18=>(ob (α:=((Unit×Int×ByteArray×Bool×List T×List T×Unit)⊕Empty)) (bif (Go.Eng.leI (Go.Eng.lenS x18.1) t17.2.1) then (ob (Go.Eng.u_strings_Repeat ((ByteArray.mk #[48]),((Go.Eng.wr Go.IntKind.i64 (Go.Eng.subI (Go.Eng.wr Go.IntKind.i64 (Go.Eng.addI t17.2.1 (1:Int))) (Go.Eng.lenS x18.1))),()))) fun x19=>(ob (Go.Eng.catS x19.1 x18.1) fun x20=>(some (Sum.inl ((),(t17.2.1,(x20,(t17.2.2.2.1,(t17.2.2.2.2.1,(t17.2.2.2.2.2.1,())))))))))) else (some (Sum.inl ((),(t17.2.1,(x18.1,(t17.2.2.2.1,(t17.2.2.2.2.1,(t17.2.2.2.2.2.1,()))))))))) fun q21=>onS q21 (fun t22=>(ob (Go.Eng.subS t22.2.2.1 (0:Int) (Go.Eng.wr Go.IntKind.i64 (Go.Eng.subI (Go.Eng.lenS t22.2.2.1) t22.2.1))) fun x23=>(ob (Go.Eng.catS x23 (ByteArray.mk #[46])) fun x24=>(ob (Go.Eng.subS t22.2.2.1 (Go.Eng.wr Go.IntKind.i64 (Go.Eng.subI (Go.Eng.lenS t22.2.2.1) t22.2.1)) (Go.Eng.lenS t22.2.2.1)) fun x25=>(ob (Go.Eng.catS x24 x25) fun x26=>(ob (α:=((ByteArray×Unit)⊕Empty)) (bif t22.2.2.2.1 then (ob (Go.Eng.catS (ByteArray.mk #[45]) x26) fun x27=>(some (Sum.inl (x27,())))) else (some (Sum.inl (x26,())))) fun q28=>onS q28 (fun t29=>(some (t29.1,(Bool.true,())))) fun q30=>noS q30)))))) fun q31=>noS q31))) fun q32=>noS q32)
def h_entity_Decimal:HT:=(.seq .leaf (.seq .leaf (.seq .leaf (.seq (.join [(AEx.ret,{ items:=[.slot 2,.slot 3],shapes:=[.str,.bool] }),(AEx.normal,{ items:=[.slot 1,.slot 4,.slot 5,.box 1 3],shapes:=[.lit (Go.Eng.C.box 1 0),.int Go.IntKind.i64,.sl 1,.bool,.sl 1,.sl 1] })] (.seq .leaf (.cond (.seq .leaf (.seq (.seq .leaf (.one (.loop { items:=[.slot 1,.slot 5,.slot 6,.slot 7,.box 1 3],shapes:=[.lit (Go.Eng.C.box 1 0),.sl 1,.int Go.IntKind.i64,.sl 1,.bool,.sl 1,.sl 1] } [((AEx.exit 0),{ items:=[.slot 1,.slot 5,.slot 6,.box 1 3],shapes:=[.lit (Go.Eng.C.box 1 0),.sl 1,.int Go.IntKind.i64,.bool,.sl 1,.sl 1] })] .leaf))) .leaf)) .leaf))) (.seq .leaf (.seq (.join [(AEx.normal,{ items:=[.slot 1,.slot 4,.slot 12,.box 1 3],shapes:=[.lit (Go.Eng.C.box 1 0),.int Go.IntKind.i64,.str,.bool,.sl 1,.sl 1] })] .leaf) (.seq .leaf (.seq (.join [(AEx.normal,{ items:=[.slot 12],shapes:=[.str] })] .leaf) .leaf))))))))
theorem ok_entity_Decimal:TabOK Try.prog [23,1000027,1000026,1000025,28,29] g_entity_Decimal:=(TabOK.cons (fun _=>⟨_,Try.func21,by kernel_rfl,by kernel_rfl⟩) k_natural_Shift (calleeOf_nat _ _) (fun h=>by cases h) (by kernel_rfl) (fun _=>callK_framed (calleeOf_nat _ _) rfl rfl) (by kernel_rfl) (TabOK.cons (fun _=>⟨_,Try.func22,by kernel_rfl,by kernel_rfl⟩) k_entity_factors (calleeOf_nat _ _) (fun h=>by cases h) (by kernel_rfl) (fun _=>callK_framed (calleeOf_nat _ _) rfl rfl) (by kernel_rfl) (TabOK.cons (fun _=>⟨_,Try.func24,by kernel_rfl,by kernel_rfl⟩) k_natural_Of (calleeOf_nat _ _) (fun h=>by cases h) (by kernel_rfl) (fun _=>callK_framed (calleeOf_nat _ _) rfl rfl) (by kernel_rfl) (TabOK.cons (fun _=>⟨_,Try.func23,by kernel_rfl,by kernel_rfl⟩) k_natural_Cmp (calleeOf_nat _ _) (fun _=>(calleeOf_pure (by kernel_rfl))) (by kernel_rfl) (fun _=>callK_framed (calleeOf_nat _ _) rfl rfl) (by kernel_rfl) (TabOK.consP (fun _=>⟨_,Try.func27,by kernel_rfl,by kernel_rfl⟩) (trC_ok k_entity_power) (trC_nat (calleeOf_nat _ _)) (fun h=>by cases h) (fun _=>trC_pureP (calleeOf_nat _ _)) (fun _=>(trC_pureP (calleeOf_nat _ _)).framed) (by kernel_rfl) (TabOK.consP (fun _=>⟨_,Try.func26,by kernel_rfl,by kernel_rfl⟩) (trC_ok k_natural_Mul) (trC_nat (calleeOf_nat _ _)) (fun h=>by cases h) (fun _=>trC_pureP (calleeOf_nat _ _)) (fun _=>(trC_pureP (calleeOf_nat _ _)).framed) (by kernel_rfl) (TabOK.consP (fun _=>⟨_,Try.func25,by kernel_rfl,by kernel_rfl⟩) (trC_ok k_natural_Div) (trC_nat (calleeOf_nat _ _)) (fun h=>by cases h) (fun _=>trC_pureP (calleeOf_nat _ _)) (fun _=>(trC_pureP (calleeOf_nat _ _)).framed) (by kernel_rfl) (TabOK.cons (fun _=>⟨_,Try.func28,by kernel_rfl,by kernel_rfl⟩) k_natural_Text (calleeOf_nat _ _) (fun _=>(calleeOf_pure (by kernel_rfl))) (by kernel_rfl) (fun _=>callK_framed (calleeOf_nat _ _) rfl rfl) (by kernel_rfl) (TabOK.cons (fun _=>⟨_,Try.func29,by kernel_rfl,by kernel_rfl⟩) k_strings_Repeat (calleeOf_nat _ _) (fun _=>(calleeOf_pure (by kernel_rfl))) (by kernel_rfl) (fun _=>callK_framed (calleeOf_nat _ _) rfl rfl) (by kernel_rfl) TabOK.nil)))))))))
theorem e_entity_Decimal:∀t,bodyG Try.prog g_entity_Decimal [23,1000027,1000026,1000025,28,29] h_entity_Decimal Try.f10 sg_entity_Decimal t=u_entity_Decimal t:=by
 intro t
 kernel_rfl
theorem k_entity_Decimal:(calleeOf sg_entity_Decimal u_entity_Decimal).OK Try.prog 10:=calleeG_ok mixed ok_entity_Decimal Try.func10 (by kernel_rfl) (by kernel_rfl) e_entity_Decimal
def sg_entity_wrong:Sig:={ na:=2,np:=0,hin:={ items:=[.slot 0,.slot 1],shapes:=[.int Go.IntKind.i64,.int Go.IntKind.i64] },nres:=1,kept:=[],nnew:=0,hout:={ items:=[.aggs 0 5],shapes:=[.int Go.IntKind.i64,.int Go.IntKind.i64,.int Go.IntKind.i64,.int Go.IntKind.i64,.int Go.IntKind.i64] },nob:=16 }
noncomputable def g_entity_wrong:List (Go.FuncId×Callee):=[]
noncomputable def u_entity_wrong(t:(Int×(Int×Unit))):Option (Int×(Int×(Int×(Int×(Int×Unit))))):=
 (some (t.1,(t.2.1,((-1:Int),((-1:Int),((-1:Int),()))))))
def h_entity_wrong:HT:=.leaf
theorem ok_entity_wrong:TabOK Try.prog [] g_entity_wrong:=TabOK.nil
theorem e_entity_wrong:∀t,bodyG Try.prog g_entity_wrong [] h_entity_wrong Try.f34 sg_entity_wrong t=u_entity_wrong t:=by
 intro t
 kernel_rfl
theorem k_entity_wrong:(calleeOf sg_entity_wrong u_entity_wrong).OK Try.prog 34:=calleeG_ok mixed ok_entity_wrong Try.func34 (by kernel_rfl) (by kernel_rfl) e_entity_wrong
def sg_entity_references:Sig:={ na:=1,np:=0,hin:={ items:=[.slot 0],shapes:=[.sl 7] },nres:=1,kept:=[],nnew:=0,hout:={ items:=[.slot 0],shapes:=[.sl 1] },nob:=60 }
noncomputable def g_entity_references(self:((List T)×Unit)→Option ((List T)×Unit)):List (Go.FuncId×Callee):=[(18,(calleeOf sg_entity_references self))]
noncomputable def u_entity_references_l0(self:((List T)×Unit)→Option ((List T)×Unit))(s0:(List T×List T×Int×Int×Unit)):Option ((List T×List T×Int×Int×Unit)⊕((List T×Unit)⊕Empty)):=
 (bif (Go.Eng.ltI s0.2.2.2.1 s0.2.2.1) then (ob (α:=((List T×List T×Int×Int×Unit)⊕Empty)) (ob (Go.Eng.idxL s0.2.1 s0.2.2.2.1) fun x1=>(ob (Go.Eng.T.int? Go.IntKind.i64 (Go.Eng.T.cell x1 0)) fun x2=>(bif (Go.Eng.eqI x2 (5:Int)) then (ob (Go.Eng.T.int? Go.IntKind.i64 (Go.Eng.T.cell x1 5)) fun x3=>(ob (Go.Eng.room s0.1 [(Go.Eng.T.v (Go.Value.int Go.IntKind.i64 x3))] 8) fun x4=>(some (Sum.inl (x4,(s0.2.1,(s0.2.2.1,(s0.2.2.2.1,())))))))) else (ob (Go.Eng.T.int? Go.IntKind.i64 (Go.Eng.T.cell x1 0)) fun x5=>(bif (Go.Eng.eqI x5 (6:Int)) then (ob (Go.Eng.T.sl? 7 (Go.Eng.T.cell x1 6)) fun x6=>(ob (self (x6,())) fun x7=>(ob (Go.Eng.room s0.1 x7.1 8) fun x8=>(some (Sum.inl (x8,(s0.2.1,(s0.2.2.1,(s0.2.2.2.1,()))))))))) else (some (Sum.inl (s0.1,(s0.2.1,(s0.2.2.1,(s0.2.2.2.1,()))))))))))) fun q9=>onS q9 (fun t10=>(some (Sum.inl (t10.1,(t10.2.1,(t10.2.2.1,((Go.Eng.wr Go.IntKind.i64 (Go.Eng.addI t10.2.2.2.1 (1:Int))),()))))))) fun q11=>noS q11) else (some (Sum.inr (Sum.inl (s0.1,())))))
noncomputable def b_entity_references(self:((List T)×Unit)→Option ((List T)×Unit))(t:((List T)×Unit)):Option ((List T)×Unit):=
 (ob (loopU (u_entity_references_l0 self) ([],(t.1,((Go.Eng.lenL t.1),((0:Int),()))))) fun q12=>onS q12 (fun t13=>(some (t13.1,()))) fun q14=>noS q14)
def h_entity_references:HT:=(.seq .leaf (.seq .leaf (.seq (.seq .leaf (.one (.loop { items:=[.slot 3,.slot 6,.slot 7,.slot 8],shapes:=[.row 3 1 20,.sl 7,.int Go.IntKind.i64,.int Go.IntKind.i64] } [((AEx.exit 0),{ items:=[.slot 3],shapes:=[.row 3 1 20] })] (.seq .leaf (.seq .leaf (.seq (.join [(AEx.normal,{ items:=[.slot 3,.slot 6,.slot 7,.slot 8],shapes:=[.row 3 1 20,.sl 7,.int Go.IntKind.i64,.int Go.IntKind.i64] })] .leaf) .leaf)))))) .leaf)))
theorem ok_entity_references(self:((List T)×Unit)→Option ((List T)×Unit))(hs:(calleeOf sg_entity_references self).OK Try.prog 18):TabOK Try.prog [] (g_entity_references self):=(TabOK.cons (fun _=>⟨_,Try.func18,by kernel_rfl,by kernel_rfl⟩) hs (calleeOf_nat _ _) (fun h=>by cases h) (by kernel_rfl) (fun _=>callK_framed (calleeOf_nat _ _) rfl rfl) (by kernel_rfl) TabOK.nil)
theorem e_entity_references(self:((List T)×Unit)→Option ((List T)×Unit)):∀t,bodyG Try.prog (g_entity_references self) [] h_entity_references Try.f18 sg_entity_references t=b_entity_references self t:=by
 intro t
 kernel_rfl
noncomputable def v_entity_references(n:Nat):((List T)×Unit)→Option ((List T)×Unit):=Nat.rec (motive:=fun _=>((List T)×Unit)→Option ((List T)×Unit)) (fun _=>none) (fun _ ih=>b_entity_references ih) n
theorem kv_entity_references(n:Nat):(calleeOf sg_entity_references (v_entity_references n)).OK Try.prog 18:=by
 induction n with
 | zero=>exact calleeOf_none _
 | succ n ih=>exact calleeG_ok mixed (ok_entity_references _ ih) Try.func18 (by kernel_rfl) (by kernel_rfl) (e_entity_references (v_entity_references n))
noncomputable def u_entity_references:((List T)×Unit)→Option ((List T)×Unit):=v_entity_references 20
theorem k_entity_references:(calleeOf sg_entity_references u_entity_references).OK Try.prog 18:=kv_entity_references 20
def sg_entity_Check:Sig:={ na:=1,np:=0,hin:={ items:=[.aggs 0 2],shapes:=[.sl 2,.sl 3] },nres:=1,kept:=[],nnew:=0,hout:={ items:=[.slot 0],shapes:=[.sl 5] },nob:=134 }
noncomputable def g_entity_Check:List (Go.FuncId×Callee):=[(34,(calleeOf sg_entity_wrong u_entity_wrong)),(18,(calleeOf sg_entity_references u_entity_references))]
noncomputable def u_entity_Check_l0(s0:(Unit×List T×List T×Int×Int×List T×List T×Unit)):Option ((Unit×List T×List T×Int×Int×List T×List T×Unit)⊕((Unit×List T×List T×List T×Unit)⊕Empty)):=
 (bif (Go.Eng.ltI s0.2.2.2.2.1 s0.2.2.2.1) then (ob (Go.Eng.idxL s0.2.2.1 s0.2.2.2.2.1) fun x1=>(ob (Go.Eng.T.int? Go.IntKind.i64 (Go.Eng.T.cell x1 0)) fun x2=>(some (Sum.inl ((),((Go.Eng.mapPut (Go.Eng.T.v (Go.Value.int Go.IntKind.i64 x2)) (Go.Eng.T.v (Go.Value.bool Bool.true)) s0.2.1),(s0.2.2.1,(s0.2.2.2.1,((Go.Eng.wr Go.IntKind.i64 (Go.Eng.addI s0.2.2.2.2.1 (1:Int))),(s0.2.2.2.2.2.1,(s0.2.2.2.2.2.2.1,()))))))))))) else (some (Sum.inr (Sum.inl ((),(s0.2.1,(s0.2.2.2.2.2.1,(s0.2.2.2.2.2.2.1,()))))))))
noncomputable def u_entity_Check_l2(s18:(List T×List T×List T×Unit×List T×Int×Int×List T×Int×Int×T×T×T×Unit)):Option ((List T×List T×List T×Unit×List T×Int×Int×List T×Int×Int×T×T×T×Unit)⊕((List T×List T×List T×List T×Int×Int×Unit)⊕Empty)):=
 (bif (Go.Eng.ltI s18.2.2.2.2.2.2.2.2.2.1 s18.2.2.2.2.2.2.2.2.1) then (ob (α:=((List T×List T×List T×Unit×List T×Int×Int×List T×Int×Int×T×T×T×Unit)⊕Empty)) (ob (Go.Eng.idxL s18.2.2.2.2.2.2.2.1 s18.2.2.2.2.2.2.2.2.2.1) fun x19=>(ob (Go.Eng.T.int? Go.IntKind.i64 (Go.Eng.T.cell x19 0)) fun x20=>(ob (Go.Eng.T.one? (Go.Eng.mapGetD (Go.Eng.T.v (Go.Value.int Go.IntKind.i64 x20)) s18.1 (Go.Eng.T.v (Go.Value.bool Bool.false)))) fun x21=>(ob (Go.Eng.T.bool? x21) fun x22=>(bif (Bool.not x22) then (ob (Go.Eng.T.int? Go.IntKind.i64 s18.2.2.2.2.2.2.2.2.2.2.1) fun x23=>(ob (Go.Eng.u_entity_wrong ((35:Int),(x23,()))) fun x24=>(ob (Go.Eng.room s18.2.2.1 [(Go.Eng.T.agg [(Go.Eng.T.v (Go.Value.int Go.IntKind.i64 x24.1)),(Go.Eng.T.v (Go.Value.int Go.IntKind.i64 x24.2.1)),(Go.Eng.T.v (Go.Value.int Go.IntKind.i64 x24.2.2.1)),(Go.Eng.T.v (Go.Value.int Go.IntKind.i64 x24.2.2.2.1)),(Go.Eng.T.v (Go.Value.int Go.IntKind.i64 x24.2.2.2.2.1))])] 40) fun x25=>(some (Sum.inl (s18.1,(s18.2.1,(x25,((),(s18.2.2.2.2.1,(s18.2.2.2.2.2.1,(s18.2.2.2.2.2.2.1,(s18.2.2.2.2.2.2.2.1,(s18.2.2.2.2.2.2.2.2.1,(s18.2.2.2.2.2.2.2.2.2.1,(s18.2.2.2.2.2.2.2.2.2.2.1,(s18.2.2.2.2.2.2.2.2.2.2.2.1,(s18.2.2.2.2.2.2.2.2.2.2.2.2.1,())))))))))))))))))) else (some (Sum.inl (s18.1,(s18.2.1,(s18.2.2.1,((),(s18.2.2.2.2.1,(s18.2.2.2.2.2.1,(s18.2.2.2.2.2.2.1,(s18.2.2.2.2.2.2.2.1,(s18.2.2.2.2.2.2.2.2.1,(s18.2.2.2.2.2.2.2.2.2.1,(s18.2.2.2.2.2.2.2.2.2.2.1,(s18.2.2.2.2.2.2.2.2.2.2.2.1,(s18.2.2.2.2.2.2.2.2.2.2.2.2.1,())))))))))))))))))))) fun q26=>onS q26 (fun t27=>(some (Sum.inl (t27.1,(t27.2.1,(t27.2.2.1,((),(t27.2.2.2.2.1,(t27.2.2.2.2.2.1,(t27.2.2.2.2.2.2.1,(t27.2.2.2.2.2.2.2.1,(t27.2.2.2.2.2.2.2.2.1,((Go.Eng.wr Go.IntKind.i64 (Go.Eng.addI t27.2.2.2.2.2.2.2.2.2.1 (1:Int))),(t27.2.2.2.2.2.2.2.2.2.2.1,(t27.2.2.2.2.2.2.2.2.2.2.2.1,(t27.2.2.2.2.2.2.2.2.2.2.2.2.1,())))))))))))))))) fun q28=>noS q28) else (some (Sum.inr (Sum.inl (s18.1,(s18.2.1,(s18.2.2.1,(s18.2.2.2.2.1,(s18.2.2.2.2.2.1,(s18.2.2.2.2.2.2.1,()))))))))))
noncomputable def u_entity_Check_l1(s5:(List T×List T×List T×List T×Int×Int×Unit)):Option ((List T×List T×List T×List T×Int×Int×Unit)⊕((List T×Unit)⊕Empty)):=
 (bif (Go.Eng.ltI s5.2.2.2.2.2.1 s5.2.2.2.2.1) then (ob (Go.Eng.idxL s5.2.2.2.1 s5.2.2.2.2.2.1) fun x6=>(ob (α:=((List T×List T×List T×Unit×List T×Int×Int×T×T×T×Unit)⊕Empty)) (ob (Go.Eng.T.int? Go.IntKind.i64 (Go.Eng.T.cell x6 0)) fun x7=>(ob (Go.Eng.T.one? (Go.Eng.mapGetD (Go.Eng.T.v (Go.Value.int Go.IntKind.i64 x7)) s5.2.1 (Go.Eng.T.v (Go.Value.bool Bool.false)))) fun x8=>(ob (Go.Eng.T.bool? x8) fun x9=>(bif x9 then (ob (Go.Eng.T.int? Go.IntKind.i64 (Go.Eng.T.cell x6 0)) fun x10=>(ob (Go.Eng.u_entity_wrong ((37:Int),(x10,()))) fun x11=>(ob (Go.Eng.room s5.2.2.1 [(Go.Eng.T.agg [(Go.Eng.T.v (Go.Value.int Go.IntKind.i64 x11.1)),(Go.Eng.T.v (Go.Value.int Go.IntKind.i64 x11.2.1)),(Go.Eng.T.v (Go.Value.int Go.IntKind.i64 x11.2.2.1)),(Go.Eng.T.v (Go.Value.int Go.IntKind.i64 x11.2.2.2.1)),(Go.Eng.T.v (Go.Value.int Go.IntKind.i64 x11.2.2.2.2.1))])] 40) fun x12=>(some (Sum.inl (s5.1,(s5.2.1,(x12,((),(s5.2.2.2.1,(s5.2.2.2.2.1,(s5.2.2.2.2.2.1,((Go.Eng.T.cell x6 0),((Go.Eng.T.cell x6 1),((Go.Eng.T.cell x6 2),()))))))))))))))) else (some (Sum.inl (s5.1,(s5.2.1,(s5.2.2.1,((),(s5.2.2.2.1,(s5.2.2.2.2.1,(s5.2.2.2.2.2.1,((Go.Eng.T.cell x6 0),((Go.Eng.T.cell x6 1),((Go.Eng.T.cell x6 2),())))))))))))))))) fun q13=>onS q13 (fun t14=>(ob (Go.Eng.T.int? Go.IntKind.i64 t14.2.2.2.2.2.2.2.1) fun x15=>(ob (Go.Eng.T.sl? 7 t14.2.2.2.2.2.2.2.2.2.1) fun x16=>(ob (Go.Eng.u_entity_references (x16,())) fun x17=>(ob (loopU u_entity_Check_l2 (t14.1,((Go.Eng.mapPut (Go.Eng.T.v (Go.Value.int Go.IntKind.i64 x15)) (Go.Eng.T.v (Go.Value.bool Bool.true)) t14.2.1),(t14.2.2.1,((),(t14.2.2.2.2.1,(t14.2.2.2.2.2.1,(t14.2.2.2.2.2.2.1,(x17.1,((Go.Eng.lenL x17.1),((0:Int),(t14.2.2.2.2.2.2.2.1,(t14.2.2.2.2.2.2.2.2.1,(t14.2.2.2.2.2.2.2.2.2.1,())))))))))))))) fun q29=>onS q29 (fun t30=>(some (Sum.inl (t30.1,(t30.2.1,(t30.2.2.1,(t30.2.2.2.1,(t30.2.2.2.2.1,((Go.Eng.wr Go.IntKind.i64 (Go.Eng.addI t30.2.2.2.2.2.1 (1:Int))),()))))))))) fun q31=>noS q31))))) fun q32=>noS q32)) else (some (Sum.inr (Sum.inl (s5.2.2.1,())))))
noncomputable def u_entity_Check(t:((List T)×((List T)×Unit))):Option ((List T)×Unit):=
 (ob (loopU u_entity_Check_l0 ((),([],(t.2.1,((Go.Eng.lenL t.2.1),((0:Int),(t.1,(t.2.1,())))))))) fun q3=>onS q3 (fun t4=>(ob (loopU u_entity_Check_l1 (t4.2.1,([],([],(t4.2.2.2.1,((Go.Eng.lenL t4.2.2.2.1),((0:Int),()))))))) fun q33=>onS q33 (fun t34=>(some (t34.1,()))) fun q35=>noS q35)) fun q36=>noS q36)
def h_entity_Check:HT:=(.seq .leaf (.seq .leaf (.seq (.seq .leaf (.one (.loop { items:=[.slot 1,.slot 3,.slot 14,.slot 15,.slot 16,.box 1 2],shapes:=[.lit (Go.Eng.C.box 1 0),.row 34 1000000000 12,.sl 3,.int Go.IntKind.i64,.int Go.IntKind.i64,.sl 2,.sl 3] } [((AEx.exit 0),{ items:=[.slot 1,.slot 3,.box 1 2],shapes:=[.lit (Go.Eng.C.box 1 0),.row 34 1000000000 12,.sl 2,.sl 3] })] .leaf))) (.seq .leaf (.seq .leaf (.seq (.seq .leaf (.one (.loop { items:=[.slot 3,.slot 6,.slot 7,.slot 26,.slot 27,.slot 28],shapes:=[.row 34 1000000000 12,.row 34 1000000000 24,.row 54 5 41,.sl 3,.int Go.IntKind.i64,.int Go.IntKind.i64] } [((AEx.exit 2),{ items:=[.slot 7],shapes:=[.row 54 5 41] })] (.seq .leaf (.seq .leaf (.seq (.one (.seq .leaf (.seq (.join [(AEx.normal,{ items:=[.slot 3,.slot 6,.slot 7,.slot 9,.slot 26,.slot 27,.slot 28,.box 9 3],shapes:=[.row 34 1000000000 12,.row 34 1000000000 24,.row 54 5 41,.lit (Go.Eng.C.box 9 0),.sl 3,.int Go.IntKind.i64,.int Go.IntKind.i64,.tree,.tree,.tree] })] .leaf) (.seq .leaf (.seq .leaf (.one (.loop { items:=[.slot 3,.slot 6,.slot 7,.slot 9,.slot 26,.slot 27,.slot 28,.slot 48,.slot 49,.slot 50,.box 9 3],shapes:=[.row 34 1000000000 12,.row 34 1000000000 24,.row 54 5 41,.lit (Go.Eng.C.box 9 0),.sl 3,.int Go.IntKind.i64,.int Go.IntKind.i64,.sl 1,.int Go.IntKind.i64,.int Go.IntKind.i64,.tree,.tree,.tree] } [((AEx.exit 4),{ items:=[.slot 3,.slot 6,.slot 7,.slot 26,.slot 27,.slot 28],shapes:=[.row 34 1000000000 12,.row 34 1000000000 24,.row 54 5 41,.sl 3,.int Go.IntKind.i64,.int Go.IntKind.i64] })] (.seq .leaf (.seq .leaf (.seq (.join [(AEx.normal,{ items:=[.slot 3,.slot 6,.slot 7,.slot 9,.slot 26,.slot 27,.slot 28,.slot 48,.slot 49,.slot 50,.box 9 3],shapes:=[.row 34 1000000000 12,.row 34 1000000000 24,.row 54 5 63,.lit (Go.Eng.C.box 9 0),.sl 3,.int Go.IntKind.i64,.int Go.IntKind.i64,.sl 1,.int Go.IntKind.i64,.int Go.IntKind.i64,.tree,.tree,.tree] })] .leaf) .leaf)))))))))) .leaf)))))) .leaf))))))
theorem ok_entity_Check:TabOK Try.prog [34] g_entity_Check:=(TabOK.cons (fun _=>⟨_,Try.func34,by kernel_rfl,by kernel_rfl⟩) k_entity_wrong (calleeOf_nat _ _) (fun _=>(calleeOf_pure (by kernel_rfl))) (by kernel_rfl) (fun _=>callK_framed (calleeOf_nat _ _) rfl rfl) (by kernel_rfl) (TabOK.cons (fun _=>⟨_,Try.func18,by kernel_rfl,by kernel_rfl⟩) k_entity_references (calleeOf_nat _ _) (fun h=>by cases h) (by kernel_rfl) (fun _=>callK_framed (calleeOf_nat _ _) rfl rfl) (by kernel_rfl) TabOK.nil))
theorem e_entity_Check:∀t,bodyG Try.prog g_entity_Check [34] h_entity_Check Try.f17 sg_entity_Check t=u_entity_Check t:=by
 intro t
 kernel_rfl
theorem k_entity_Check:(calleeOf sg_entity_Check u_entity_Check).OK Try.prog 17:=calleeG_ok mixed ok_entity_Check Try.func17 (by kernel_rfl) (by kernel_rfl) e_entity_Check
def sg_entity_Order_1:Sig:={ na:=2,np:=2,hin:={ items:=[.slot 0,.slot 1,.box 0 1],shapes:=[.int Go.IntKind.i64,.lit (.box 0 0),.row 34 1000000000 1] },nres:=1,kept:=[],nnew:=1,hout:={ items:=[.slot 0,.box 0 1],shapes:=[.bool,.row 34 1000000000 2] },nob:=16 }
noncomputable def g_entity_Order_1:List (Go.FuncId×Callee):=[]
noncomputable def u_entity_Order_1(t:(Int×(Unit×((List T)×Unit)))):Option (Bool×((List T)×Unit)):=
 (ob (Go.Eng.T.one? (Go.Eng.mapGetD (Go.Eng.T.v (Go.Value.int Go.IntKind.i64 t.1)) t.2.2.1 (Go.Eng.T.v (Go.Value.bool Bool.false)))) fun x0=>(ob (Go.Eng.T.bool? x0) fun x1=>(some ((Bool.not x1),(t.2.2.1,())))))
def h_entity_Order_1:HT:=.leaf
theorem ok_entity_Order_1:TabOK Try.prog [] g_entity_Order_1:=TabOK.nil
theorem e_entity_Order_1:∀t,bodyG Try.prog g_entity_Order_1 [] h_entity_Order_1 Try.f20 sg_entity_Order_1 t=u_entity_Order_1 t:=by
 intro t
 kernel_rfl
theorem k_entity_Order_1:(calleeOf sg_entity_Order_1 u_entity_Order_1).OK Try.prog 20:=calleeG_ok mixed ok_entity_Order_1 Try.func20 (by kernel_rfl) (by kernel_rfl) e_entity_Order_1
def sg_slices_IndexFunc___int_int_:Sig:={ na:=2,np:=2,hin:={ items:=[.slot 0,.slot 1,.box 0 1],shapes:=[.sl 1,.lit (.fn 20 [(0,0)]),.row 34 1000000000 1] },nres:=1,kept:=[],nnew:=1,hout:={ items:=[.slot 0,.box 0 1],shapes:=[.int Go.IntKind.i64,.row 34 1000000000 2] },nob:=38 }
noncomputable def g_slices_IndexFunc___int_int_:List (Go.FuncId×Callee):=[(20,(calleeOf sg_entity_Order_1 u_entity_Order_1))]
noncomputable def u_slices_IndexFunc___int_int__l0(s0:(List T×Unit×Int×Int×List T×Unit)):Option ((List T×Unit×Int×Int×List T×Unit)⊕((Int×List T×Unit)⊕((List T×Unit)⊕Empty))):=
 (bif (Go.Eng.ltI s0.2.2.2.1 s0.2.2.1) then (ob (Go.Eng.idxL s0.1 s0.2.2.2.1) fun x1=>(ob (Go.Eng.T.int? Go.IntKind.i64 (Go.Eng.T.cell x1 0)) fun x2=>(ob (Go.Eng.u_entity_Order_1 (x2,((),(s0.2.2.2.2.1,())))) fun x3=>(bif x3.1 then (some (Sum.inr (Sum.inl (s0.2.2.2.1,(x3.2.1,()))))) else (some (Sum.inl (s0.1,((),(s0.2.2.1,((Go.Eng.wr Go.IntKind.i64 (Go.Eng.addI s0.2.2.2.1 (1:Int))),(x3.2.1,()))))))))))) else (some (Sum.inr (Sum.inr (Sum.inl (s0.2.2.2.2.1,()))))))
noncomputable def u_slices_IndexFunc___int_int_(t:((List T)×(Unit×((List T)×Unit)))):Option (Int×((List T)×Unit)):=
 (ob (loopU u_slices_IndexFunc___int_int__l0 (t.1,((),((Go.Eng.lenL t.1),((0:Int),(t.2.2.1,())))))) fun q4=>onS q4 (fun t5=>(some (t5.1,(t5.2.1,())))) fun q6=>onS q6 (fun t7=>(some ((-1:Int),(t7.1,())))) fun q8=>noS q8)
def h_slices_IndexFunc___int_int_:HT:=(.seq .leaf (.seq (.seq .leaf (.one (.loop { items:=[.slot 0,.slot 1,.slot 7,.slot 8,.box 0 1],shapes:=[.sl 1,.lit (Go.Eng.C.fn 20 [(0,0)]),.int Go.IntKind.i64,.int Go.IntKind.i64,.row 34 1000000000 18] } [(AEx.ret,{ items:=[.slot 4,.box 0 1],shapes:=[.int Go.IntKind.i64,.row 34 1000000000 18] }),((AEx.exit 0),{ items:=[.box 0 1],shapes:=[.row 34 1000000000 18] })] .leaf))) .leaf))
theorem ok_slices_IndexFunc___int_int_:TabOK Try.prog [] g_slices_IndexFunc___int_int_:=(TabOK.cons (fun _=>⟨_,Try.func20,by kernel_rfl,by kernel_rfl⟩) k_entity_Order_1 (calleeOf_nat _ _) (fun h=>by cases h) (by kernel_rfl) (fun _=>callK_framed (calleeOf_nat _ _) rfl rfl) (by kernel_rfl) TabOK.nil)
theorem e_slices_IndexFunc___int_int_:∀t,bodyG Try.prog g_slices_IndexFunc___int_int_ [] h_slices_IndexFunc___int_int_ Try.f37 sg_slices_IndexFunc___int_int_ t=u_slices_IndexFunc___int_int_ t:=by
 intro t
 kernel_rfl
theorem k_slices_IndexFunc___int_int_:(calleeOf sg_slices_IndexFunc___int_int_ u_slices_IndexFunc___int_int_).OK Try.prog 37:=calleeG_ok mixed ok_slices_IndexFunc___int_int_ Try.func37 (by kernel_rfl) (by kernel_rfl) e_slices_IndexFunc___int_int_
def sg_slices_ContainsFunc___int_int_:Sig:={ na:=2,np:=2,hin:={ items:=[.slot 0,.slot 1,.box 0 1],shapes:=[.sl 1,.lit (.fn 20 [(0,0)]),.row 34 1000000000 1] },nres:=1,kept:=[],nnew:=1,hout:={ items:=[.slot 0,.box 0 1],shapes:=[.bool,.row 34 1000000000 2] },nob:=18 }
noncomputable def g_slices_ContainsFunc___int_int_:List (Go.FuncId×Callee):=[(20,(calleeOf sg_entity_Order_1 u_entity_Order_1)),(37,(calleeOf sg_slices_IndexFunc___int_int_ u_slices_IndexFunc___int_int_))]
noncomputable def u_slices_ContainsFunc___int_int_(t:((List T)×(Unit×((List T)×Unit)))):Option (Bool×((List T)×Unit)):=
 (ob (Go.Eng.u_slices_IndexFunc___int_int_ (t.1,((),(t.2.2.1,())))) fun x0=>(some ((Go.Eng.leI (0:Int) x0.1),(x0.2.1,()))))
def h_slices_ContainsFunc___int_int_:HT:=.leaf
theorem ok_slices_ContainsFunc___int_int_:TabOK Try.prog [] g_slices_ContainsFunc___int_int_:=(TabOK.cons (fun _=>⟨_,Try.func20,by kernel_rfl,by kernel_rfl⟩) k_entity_Order_1 (calleeOf_nat _ _) (fun h=>by cases h) (by kernel_rfl) (fun _=>callK_framed (calleeOf_nat _ _) rfl rfl) (by kernel_rfl) (TabOK.cons (fun _=>⟨_,Try.func37,by kernel_rfl,by kernel_rfl⟩) k_slices_IndexFunc___int_int_ (calleeOf_nat _ _) (fun h=>by cases h) (by kernel_rfl) (fun _=>callK_framed (calleeOf_nat _ _) rfl rfl) (by kernel_rfl) TabOK.nil))
theorem e_slices_ContainsFunc___int_int_:∀t,bodyG Try.prog g_slices_ContainsFunc___int_int_ [] h_slices_ContainsFunc___int_int_ Try.f19 sg_slices_ContainsFunc___int_int_ t=u_slices_ContainsFunc___int_int_ t:=by
 intro t
 kernel_rfl
theorem k_slices_ContainsFunc___int_int_:(calleeOf sg_slices_ContainsFunc___int_int_ u_slices_ContainsFunc___int_int_).OK Try.prog 19:=calleeG_ok mixed ok_slices_ContainsFunc___int_int_ Try.func19 (by kernel_rfl) (by kernel_rfl) e_slices_ContainsFunc___int_int_
def sg_entity_Order:Sig:={ na:=1,np:=0,hin:={ items:=[.aggs 0 2],shapes:=[.sl 2,.sl 3] },nres:=2,kept:=[],nnew:=0,hout:={ items:=[.slot 0,.slot 1],shapes:=[.sl 1,.bool] },nob:=166 }
noncomputable def g_entity_Order:List (Go.FuncId×Callee):=[(17,(calleeOf sg_entity_Check u_entity_Check)),(18,(calleeOf sg_entity_references u_entity_references)),(19,(calleeOf sg_slices_ContainsFunc___int_int_ u_slices_ContainsFunc___int_int_)),(20,(calleeOf sg_entity_Order_1 u_entity_Order_1))]
noncomputable def u_entity_Order_l0(s2:(Unit×List T×List T×Int×Int×List T×List T×Unit)):Option ((Unit×List T×List T×Int×Int×List T×List T×Unit)⊕((Unit×List T×List T×List T×Unit)⊕Empty)):=
 (bif (Go.Eng.ltI s2.2.2.2.2.1 s2.2.2.2.1) then (ob (Go.Eng.idxL s2.2.2.1 s2.2.2.2.2.1) fun x3=>(ob (Go.Eng.T.sl? 7 (Go.Eng.T.cell x3 2)) fun x4=>(ob (Go.Eng.u_entity_references (x4,())) fun x5=>(ob (Go.Eng.chkI (Go.Eng.lenL s2.2.1) s2.2.2.2.2.1) fun x6=>(ob (Go.Eng.idxN s2.2.1 x6) fun x7=>(some (Sum.inl ((),((List.set s2.2.1 x6 (Go.Eng.T.upd 1 x7 0 [(Go.Eng.T.sl 1 x5.1)])),(s2.2.2.1,(s2.2.2.2.1,((Go.Eng.wr Go.IntKind.i64 (Go.Eng.addI s2.2.2.2.2.1 (1:Int))),(s2.2.2.2.2.2.1,(s2.2.2.2.2.2.2.1,())))))))))))))) else (some (Sum.inr (Sum.inl ((),(s2.2.1,(s2.2.2.2.2.2.1,(s2.2.2.2.2.2.2.1,()))))))))
noncomputable def u_entity_Order_l2(s11:(Unit×List T×Unit×List T×Int×List T×List T×List T×Unit)):Option ((Unit×List T×Unit×List T×Int×List T×List T×List T×Unit)⊕((Unit×List T×Unit×List T×Int×List T×List T×List T×Unit)⊕Empty)):=
 (bif (Go.Eng.ltI s11.2.2.2.2.1 (Go.Eng.lenL s11.2.2.2.2.2.2.1)) then (ob (Go.Eng.idxL s11.2.2.2.2.2.2.1 s11.2.2.2.2.1) fun x12=>(ob (Go.Eng.T.int? Go.IntKind.i64 (Go.Eng.T.cell x12 0)) fun x13=>(ob (Go.Eng.T.one? (Go.Eng.mapGetD (Go.Eng.T.v (Go.Value.int Go.IntKind.i64 x13)) s11.2.2.2.2.2.2.2.1 (Go.Eng.T.v (Go.Value.bool Bool.false)))) fun x14=>(ob (Go.Eng.T.bool? x14) fun x15=>(bif x15 then (some (Sum.inl ((),(s11.2.1,((),(s11.2.2.2.1,((Go.Eng.wr Go.IntKind.i64 (Go.Eng.addI s11.2.2.2.2.1 (1:Int))),(s11.2.2.2.2.2.1,(s11.2.2.2.2.2.2.1,(s11.2.2.2.2.2.2.2.1,())))))))))) else (ob (Go.Eng.chkI (Go.Eng.lenL s11.2.1) s11.2.2.2.2.1) fun x16=>(ob (Go.Eng.idxN s11.2.1 x16) fun x17=>(ob (Go.Eng.T.sl? 1 (Go.Eng.T.cell x17 0)) fun x18=>(ob (Go.Eng.u_slices_ContainsFunc___int_int_ (x18,((),(s11.2.2.2.2.2.2.2.1,())))) fun x19=>(bif x19.1 then (some (Sum.inl ((),(s11.2.1,((),(s11.2.2.2.1,((Go.Eng.wr Go.IntKind.i64 (Go.Eng.addI s11.2.2.2.2.1 (1:Int))),(s11.2.2.2.2.2.1,(s11.2.2.2.2.2.2.1,(x19.2.1,())))))))))) else (some (Sum.inr (Sum.inl ((),(s11.2.1,((),(s11.2.2.2.1,(s11.2.2.2.2.1,(s11.2.2.2.2.2.1,(s11.2.2.2.2.2.2.1,(x19.2.1,()))))))))))))))))))))) else (some (Sum.inr (Sum.inl ((),(s11.2.1,((),(s11.2.2.2.1,(s11.2.2.2.2.1,(s11.2.2.2.2.2.1,(s11.2.2.2.2.2.2.1,(s11.2.2.2.2.2.2.2.1,()))))))))))))
noncomputable def u_entity_Order_l1(s10:(Unit×List T×Unit×List T×List T×List T×List T×Unit)):Option ((Unit×List T×Unit×List T×List T×List T×List T×Unit)⊕((T×Bool×Unit)⊕((List T×Unit)⊕Empty))):=
 (bif (Go.Eng.ltI (Go.Eng.lenL s10.2.2.2.1) (Go.Eng.lenL s10.2.2.2.2.2.1)) then (ob (loopU u_entity_Order_l2 ((),(s10.2.1,((),(s10.2.2.2.1,((0:Int),(s10.2.2.2.2.1,(s10.2.2.2.2.2.1,(s10.2.2.2.2.2.2.1,()))))))))) fun q20=>onS q20 (fun t21=>(bif (Go.Eng.eqI t21.2.2.2.2.1 (Go.Eng.lenL t21.2.2.2.2.2.2.1)) then (some (Sum.inr (Sum.inl ((Go.Eng.T.v (Go.Value.slice (Option.none) 0 0)),(Bool.false,()))))) else (ob (Go.Eng.idxL t21.2.2.2.2.2.2.1 t21.2.2.2.2.1) fun x22=>(ob (Go.Eng.T.int? Go.IntKind.i64 (Go.Eng.T.cell x22 0)) fun x23=>(ob (Go.Eng.room t21.2.2.2.1 [(Go.Eng.T.v (Go.Value.int Go.IntKind.i64 t21.2.2.2.2.1))] 8) fun x24=>(some (Sum.inl ((),(t21.2.1,((),(x24,(t21.2.2.2.2.2.1,(t21.2.2.2.2.2.2.1,((Go.Eng.mapPut (Go.Eng.T.v (Go.Value.int Go.IntKind.i64 x23)) (Go.Eng.T.v (Go.Value.bool Bool.true)) t21.2.2.2.2.2.2.2.1),())))))))))))))) fun q25=>noS q25) else (some (Sum.inr (Sum.inr (Sum.inl (s10.2.2.2.1,()))))))
noncomputable def u_entity_Order(t:((List T)×((List T)×Unit))):Option ((List T)×(Bool×Unit)):=
 (ob (Go.Eng.u_entity_Check (t.1,(t.2.1,()))) fun x0=>(bif (Go.Eng.ltI (0:Int) (Go.Eng.lenL x0.1)) then (some ([],(Bool.false,()))) else (ob (Go.Eng.mkLen (Go.Eng.lenL t.2.1) (Go.Eng.lenL t.2.1) 24) fun x1=>(ob (loopU u_entity_Order_l0 ((),((Go.Eng.repL x1.1 (Go.Eng.T.v (Go.Value.slice (Option.none) 0 0))),(t.2.1,((Go.Eng.lenL t.2.1),((0:Int),(t.1,(t.2.1,())))))))) fun q8=>onS q8 (fun t9=>(ob (loopU u_entity_Order_l1 ((),(t9.2.1,((),([],(t9.2.2.1,(t9.2.2.2.1,([],())))))))) fun q26=>onS q26 (fun t27=>(ob (Go.Eng.T.sl? 1 t27.1) fun x28=>(some (x28,(t27.2.1,()))))) fun q29=>onS q29 (fun t30=>(some (t30.1,(Bool.true,())))) fun q31=>noS q31)) fun q32=>noS q32))))
def h_entity_Order:HT:=(.seq .leaf (.seq .leaf (.seq .leaf (.seq (.seq .leaf (.one (.loop { items:=[.slot 1,.slot 4,.slot 19,.slot 20,.slot 21,.box 1 2],shapes:=[.lit (Go.Eng.C.box 1 0),.row 22 1 17,.sl 3,.int Go.IntKind.i64,.int Go.IntKind.i64,.sl 2,.sl 3] } [((AEx.exit 0),{ items:=[.slot 1,.slot 4,.box 1 2],shapes:=[.lit (Go.Eng.C.box 1 0),.row 22 1 17,.sl 2,.sl 3] })] .leaf))) (.seq .leaf (.seq .leaf (.seq (.one (.loop { items:=[.slot 1,.slot 4,.slot 7,.slot 8,.box 1 2,.box 7 1],shapes:=[.lit (Go.Eng.C.box 1 0),.row 22 1 17,.lit (Go.Eng.C.box 7 0),.row 3 1 81,.sl 2,.sl 3,.row 34 1000000000 34] } [(AEx.ret,{ items:=[.slot 2,.slot 3],shapes:=[.tree,.bool] }),((AEx.exit 2),{ items:=[.slot 8],shapes:=[.row 3 1 81] })] (.seq .leaf (.one (.seq .leaf (.seq (.one (.loop { items:=[.slot 1,.slot 4,.slot 7,.slot 8,.slot 9,.box 1 2,.box 7 1],shapes:=[.lit (Go.Eng.C.box 1 0),.row 22 1 17,.lit (Go.Eng.C.box 7 0),.row 3 1 81,.int Go.IntKind.i64,.sl 2,.sl 3,.row 34 1000000000 34] } [((AEx.exit 4),{ items:=[.slot 1,.slot 4,.slot 7,.slot 8,.slot 9,.box 1 2,.box 7 1],shapes:=[.lit (Go.Eng.C.box 1 0),.row 22 1 17,.lit (Go.Eng.C.box 7 0),.row 3 1 81,.int Go.IntKind.i64,.sl 2,.sl 3,.row 34 1000000000 61] })] .leaf)) .leaf)))))) .leaf)))))))
theorem ok_entity_Order:TabOK Try.prog [] g_entity_Order:=(TabOK.cons (fun _=>⟨_,Try.func17,by kernel_rfl,by kernel_rfl⟩) k_entity_Check (calleeOf_nat _ _) (fun h=>by cases h) (by kernel_rfl) (fun _=>callK_framed (calleeOf_nat _ _) rfl rfl) (by kernel_rfl) (TabOK.cons (fun _=>⟨_,Try.func18,by kernel_rfl,by kernel_rfl⟩) k_entity_references (calleeOf_nat _ _) (fun h=>by cases h) (by kernel_rfl) (fun _=>callK_framed (calleeOf_nat _ _) rfl rfl) (by kernel_rfl) (TabOK.cons (fun _=>⟨_,Try.func19,by kernel_rfl,by kernel_rfl⟩) k_slices_ContainsFunc___int_int_ (calleeOf_nat _ _) (fun h=>by cases h) (by kernel_rfl) (fun _=>callK_framed (calleeOf_nat _ _) rfl rfl) (by kernel_rfl) (TabOK.cons (fun _=>⟨_,Try.func20,by kernel_rfl,by kernel_rfl⟩) k_entity_Order_1 (calleeOf_nat _ _) (fun h=>by cases h) (by kernel_rfl) (fun _=>callK_framed (calleeOf_nat _ _) rfl rfl) (by kernel_rfl) TabOK.nil))))
theorem e_entity_Order:∀t,bodyG Try.prog g_entity_Order [] h_entity_Order Try.f8 sg_entity_Order t=u_entity_Order t:=by
 intro t
 kernel_rfl
theorem k_entity_Order:(calleeOf sg_entity_Order u_entity_Order).OK Try.prog 8:=calleeG_ok mixed ok_entity_Order Try.func8 (by kernel_rfl) (by kernel_rfl) e_entity_Order
def sg___brepkernelmade_Dice__Word:Sig:={ na:=1,np:=1,hin:={ items:=[.slot 0,.box 0 2],shapes:=[.lit (.box 0 0),.sl 1,.int Go.IntKind.i64] },nres:=1,kept:=[],nnew:=0,hout:={ items:=[.slot 0,.box 0 2],shapes:=[.str,.sl 1,.int Go.IntKind.i64] },nob:=16 }
noncomputable def g___brepkernelmade_Dice__Word:List (Go.FuncId×Callee):=[(14,(calleeOf sg___brepkernelmade_Dice__Next u___brepkernelmade_Dice__Next))]
noncomputable def u___brepkernelmade_Dice__Word(t:(Unit×((List T)×(Int×Unit)))):Option (ByteArray×((List T)×(Int×Unit))):=
 (ob (Go.Eng.u___brepkernelmade_Dice__Next ((),((12:Int),(t.2.1,(t.2.2.1,()))))) fun x0=>(ob (Go.Eng.chkI (Go.Eng.lenL [(Go.Eng.T.v (Go.Value.string (ByteArray.mk #[97]))),(Go.Eng.T.v (Go.Value.string (ByteArray.mk #[98]))),(Go.Eng.T.v (Go.Value.string (ByteArray.mk #[120,48]))),(Go.Eng.T.v (Go.Value.string (ByteArray.mk #[115,48,46,49]))),(Go.Eng.T.v (Go.Value.string (ByteArray.mk #[]))),(Go.Eng.T.v (Go.Value.string (ByteArray.mk #[102,46,120,48]))),(Go.Eng.T.v (Go.Value.string (ByteArray.mk #[103,46,122,49]))),(Go.Eng.T.v (Go.Value.string (ByteArray.mk #[102,46,120,48,43,103,46,122,49]))),(Go.Eng.T.v (Go.Value.string (ByteArray.mk #[65,43]))),(Go.Eng.T.v (Go.Value.string (ByteArray.mk #[97,39,98]))),(Go.Eng.T.v (Go.Value.string (ByteArray.mk #[99,32,100]))),(Go.Eng.T.v (Go.Value.string (ByteArray.mk #[195,169])))]) x0.1) fun x1=>(ob (Go.Eng.idxN [(Go.Eng.T.v (Go.Value.string (ByteArray.mk #[97]))),(Go.Eng.T.v (Go.Value.string (ByteArray.mk #[98]))),(Go.Eng.T.v (Go.Value.string (ByteArray.mk #[120,48]))),(Go.Eng.T.v (Go.Value.string (ByteArray.mk #[115,48,46,49]))),(Go.Eng.T.v (Go.Value.string (ByteArray.mk #[]))),(Go.Eng.T.v (Go.Value.string (ByteArray.mk #[102,46,120,48]))),(Go.Eng.T.v (Go.Value.string (ByteArray.mk #[103,46,122,49]))),(Go.Eng.T.v (Go.Value.string (ByteArray.mk #[102,46,120,48,43,103,46,122,49]))),(Go.Eng.T.v (Go.Value.string (ByteArray.mk #[65,43]))),(Go.Eng.T.v (Go.Value.string (ByteArray.mk #[97,39,98]))),(Go.Eng.T.v (Go.Value.string (ByteArray.mk #[99,32,100]))),(Go.Eng.T.v (Go.Value.string (ByteArray.mk #[195,169])))] x1) fun x2=>(ob (Go.Eng.T.str? (Go.Eng.T.cell x2 0)) fun x3=>(some (x3,(x0.2.1,(x0.2.2.1,()))))))))
def h___brepkernelmade_Dice__Word:HT:=.leaf
theorem ok___brepkernelmade_Dice__Word:TabOK Try.prog [] g___brepkernelmade_Dice__Word:=(TabOK.cons (fun _=>⟨_,Try.func14,by kernel_rfl,by kernel_rfl⟩) k___brepkernelmade_Dice__Next (calleeOf_nat _ _) (fun h=>by cases h) (by kernel_rfl) (fun _=>callK_framed (calleeOf_nat _ _) rfl rfl) (by kernel_rfl) TabOK.nil)
theorem e___brepkernelmade_Dice__Word:∀t,bodyG Try.prog g___brepkernelmade_Dice__Word [] h___brepkernelmade_Dice__Word Try.f59 sg___brepkernelmade_Dice__Word t=u___brepkernelmade_Dice__Word t:=by
 intro t
 kernel_rfl
theorem k___brepkernelmade_Dice__Word:(calleeOf sg___brepkernelmade_Dice__Word u___brepkernelmade_Dice__Word).OK Try.prog 59:=calleeG_ok mixed ok___brepkernelmade_Dice__Word Try.func59 (by kernel_rfl) (by kernel_rfl) e___brepkernelmade_Dice__Word
def sg___brepkernelmade_Dice__Arg:Sig:={ na:=2,np:=1,hin:={ items:=[.slot 0,.slot 1,.box 0 2],shapes:=[.lit (.box 0 0),.int Go.IntKind.i64,.sl 1,.int Go.IntKind.i64] },nres:=1,kept:=[],nnew:=0,hout:={ items:=[.aggs 0 7,.box 0 2],shapes:=[.int Go.IntKind.i64,.bool,.sl 1,.sl 1,.str,.int Go.IntKind.i64,.sl 7,.sl 1,.int Go.IntKind.i64] },nob:=158 }
noncomputable def g___brepkernelmade_Dice__Arg(self:(Unit×(Int×((List T)×(Int×Unit))))→Option (Int×(Bool×((List T)×((List T)×(ByteArray×(Int×((List T)×((List T)×(Int×Unit)))))))))):List (Go.FuncId×Callee):=[(14,(calleeOf sg___brepkernelmade_Dice__Next u___brepkernelmade_Dice__Next)),(12,(calleeOf sg_ref02_Int u_ref02_Int)),(11,(calleeOf sg_ref02_Frac u_ref02_Frac)),(59,(calleeOf sg___brepkernelmade_Dice__Word u___brepkernelmade_Dice__Word)),(36,(calleeOf sg___brepkernelmade_Dice__Arg self)),(2000000,flagC [6] [5,24,25,38,39,52,53,60000049,60000035,8999999])]
noncomputable def u___brepkernelmade_Dice__Arg_l0(self:(Unit×(Int×((List T)×(Int×Unit))))→Option (Int×(Bool×((List T)×((List T)×(ByteArray×(Int×((List T)×((List T)×(Int×Unit))))))))))(s21:(Unit×Int×Unit×Unit×Int×List T×Int×Int×Bool×T×T×ByteArray×Int×T×Int×Bool×T×T×ByteArray×Int×List T×Unit)):Option ((Unit×Int×Unit×Unit×Int×List T×Int×Int×Bool×T×T×ByteArray×Int×T×Int×Bool×T×T×ByteArray×Int×List T×Unit)⊕((Unit×Unit×List T×Int×Int×Bool×T×T×ByteArray×Int×T×Int×Bool×T×T×ByteArray×Int×List T×Unit)⊕Empty)):=
 (bif (Go.Eng.ltI (0:Int) s21.2.2.2.2.1) then (ob (self ((),((Go.Eng.wr Go.IntKind.i64 (Go.Eng.subI s21.2.1 (1:Int))),(s21.2.2.2.2.2.1,(s21.2.2.2.2.2.2.1,()))))) fun x22=>(ob (Go.Eng.room s21.2.2.2.2.2.2.2.2.2.2.2.2.2.2.2.2.2.2.2.2.1 [(Go.Eng.T.agg [(Go.Eng.T.v (Go.Value.int Go.IntKind.i64 x22.1)),(Go.Eng.T.v (Go.Value.bool x22.2.1)),(Go.Eng.T.sl 1 x22.2.2.1),(Go.Eng.T.sl 1 x22.2.2.2.1),(Go.Eng.T.v (Go.Value.string x22.2.2.2.2.1)),(Go.Eng.T.v (Go.Value.int Go.IntKind.i64 x22.2.2.2.2.2.1)),(Go.Eng.T.sl 7 x22.2.2.2.2.2.2.1)])] 112) fun x23=>(some (Sum.inl ((),(s21.2.1,((),((),((Go.Eng.wr Go.IntKind.i64 (Go.Eng.subI s21.2.2.2.2.1 (1:Int))),(x22.2.2.2.2.2.2.2.1,(x22.2.2.2.2.2.2.2.2.1,(s21.2.2.2.2.2.2.2.1,(s21.2.2.2.2.2.2.2.2.1,(s21.2.2.2.2.2.2.2.2.2.1,(s21.2.2.2.2.2.2.2.2.2.2.1,(s21.2.2.2.2.2.2.2.2.2.2.2.1,(s21.2.2.2.2.2.2.2.2.2.2.2.2.1,(s21.2.2.2.2.2.2.2.2.2.2.2.2.2.1,(s21.2.2.2.2.2.2.2.2.2.2.2.2.2.2.1,(s21.2.2.2.2.2.2.2.2.2.2.2.2.2.2.2.1,(s21.2.2.2.2.2.2.2.2.2.2.2.2.2.2.2.2.1,(s21.2.2.2.2.2.2.2.2.2.2.2.2.2.2.2.2.2.1,(s21.2.2.2.2.2.2.2.2.2.2.2.2.2.2.2.2.2.2.1,(s21.2.2.2.2.2.2.2.2.2.2.2.2.2.2.2.2.2.2.2.1,(x23,()))))))))))))))))))))))))) else (some (Sum.inr (Sum.inl ((),((),(s21.2.2.2.2.2.1,(s21.2.2.2.2.2.2.1,(s21.2.2.2.2.2.2.2.1,(s21.2.2.2.2.2.2.2.2.1,(s21.2.2.2.2.2.2.2.2.2.1,(s21.2.2.2.2.2.2.2.2.2.2.1,(s21.2.2.2.2.2.2.2.2.2.2.2.1,(s21.2.2.2.2.2.2.2.2.2.2.2.2.1,(s21.2.2.2.2.2.2.2.2.2.2.2.2.2.1,(s21.2.2.2.2.2.2.2.2.2.2.2.2.2.2.1,(s21.2.2.2.2.2.2.2.2.2.2.2.2.2.2.2.1,(s21.2.2.2.2.2.2.2.2.2.2.2.2.2.2.2.2.1,(s21.2.2.2.2.2.2.2.2.2.2.2.2.2.2.2.2.2.1,(s21.2.2.2.2.2.2.2.2.2.2.2.2.2.2.2.2.2.2.1,(s21.2.2.2.2.2.2.2.2.2.2.2.2.2.2.2.2.2.2.2.1,(s21.2.2.2.2.2.2.2.2.2.2.2.2.2.2.2.2.2.2.2.2.1,()))))))))))))))))))))))
noncomputable def b___brepkernelmade_Dice__Arg(self:(Unit×(Int×((List T)×(Int×Unit))))→Option (Int×(Bool×((List T)×((List T)×(ByteArray×(Int×((List T)×((List T)×(Int×Unit))))))))))(t:(Unit×(Int×((List T)×(Int×Unit))))):Option (Int×(Bool×((List T)×((List T)×(ByteArray×(Int×((List T)×((List T)×(Int×Unit))))))))):=
 (ob (Go.Eng.u___brepkernelmade_Dice__Next ((),((9:Int),(t.2.2.1,(t.2.2.2.1,()))))) fun x0=>(bif (Go.Eng.eqI x0.1 (0:Int)) then (ob (Go.Eng.u___brepkernelmade_Dice__Next ((),((50:Int),(x0.2.1,(x0.2.2.1,()))))) fun x1=>(ob (Go.Eng.u_ref02_Int ((Go.Eng.wr Go.IntKind.i64 (Go.Eng.subI x1.1 (20:Int))),())) fun x2=>(some ((1:Int),(x2.1,(x2.2.1,(x2.2.2.1,((ByteArray.mk #[]),((0:Int),([],(x1.2.1,(x1.2.2.1,())))))))))))) else (bif (Go.Eng.eqI x0.1 (1:Int)) then (ob (Go.Eng.u___brepkernelmade_Dice__Next ((),((99:Int),(x0.2.1,(x0.2.2.1,()))))) fun x3=>(ob (Go.Eng.u___brepkernelmade_Dice__Next ((),((7:Int),(x3.2.1,(x3.2.2.1,()))))) fun x4=>(ob (Go.Eng.chkI (Go.Eng.lenL [(Go.Eng.T.v (Go.Value.int Go.IntKind.i64 (1:Int))),(Go.Eng.T.v (Go.Value.int Go.IntKind.i64 (2:Int))),(Go.Eng.T.v (Go.Value.int Go.IntKind.i64 (8:Int))),(Go.Eng.T.v (Go.Value.int Go.IntKind.i64 (5:Int))),(Go.Eng.T.v (Go.Value.int Go.IntKind.i64 (1:Int))),(Go.Eng.T.v (Go.Value.int Go.IntKind.i64 (10:Int))),(Go.Eng.T.v (Go.Value.int Go.IntKind.i64 (3:Int)))]) x4.1) fun x5=>(ob (Go.Eng.idxN [(Go.Eng.T.v (Go.Value.int Go.IntKind.i64 (1:Int))),(Go.Eng.T.v (Go.Value.int Go.IntKind.i64 (2:Int))),(Go.Eng.T.v (Go.Value.int Go.IntKind.i64 (8:Int))),(Go.Eng.T.v (Go.Value.int Go.IntKind.i64 (5:Int))),(Go.Eng.T.v (Go.Value.int Go.IntKind.i64 (1:Int))),(Go.Eng.T.v (Go.Value.int Go.IntKind.i64 (10:Int))),(Go.Eng.T.v (Go.Value.int Go.IntKind.i64 (3:Int)))] x5) fun x6=>(ob (Go.Eng.T.int? Go.IntKind.i64 (Go.Eng.T.cell x6 0)) fun x7=>(ob (Go.Eng.u_ref02_Frac ((Go.Eng.wr Go.IntKind.i64 (Go.Eng.subI x3.1 (40:Int))),(x7,()))) fun x8=>(some ((2:Int),(x8.1,(x8.2.1,(x8.2.2.1,((ByteArray.mk #[]),((0:Int),([],(x4.2.1,(x4.2.2.1,())))))))))))))))) else (bif (Go.Eng.eqI x0.1 (2:Int)) then (ob (Go.Eng.u___brepkernelmade_Dice__Word ((),(x0.2.1,(x0.2.2.1,())))) fun x9=>(some ((3:Int),(Bool.false,([],([],(x9.1,((0:Int),([],(x9.2.1,(x9.2.2.1,()))))))))))) else (bif (Go.Eng.eqI x0.1 (3:Int)) then (ob (Go.Eng.u___brepkernelmade_Dice__Next ((),((4:Int),(x0.2.1,(x0.2.2.1,()))))) fun x10=>(ob (Go.Eng.chkI (Go.Eng.lenL [(Go.Eng.T.v (Go.Value.string (ByteArray.mk #[84]))),(Go.Eng.T.v (Go.Value.string (ByteArray.mk #[70]))),(Go.Eng.T.v (Go.Value.string (ByteArray.mk #[65,66,95,49]))),(Go.Eng.T.v (Go.Value.string (ByteArray.mk #[116])))]) x10.1) fun x11=>(ob (Go.Eng.idxN [(Go.Eng.T.v (Go.Value.string (ByteArray.mk #[84]))),(Go.Eng.T.v (Go.Value.string (ByteArray.mk #[70]))),(Go.Eng.T.v (Go.Value.string (ByteArray.mk #[65,66,95,49]))),(Go.Eng.T.v (Go.Value.string (ByteArray.mk #[116])))] x11) fun x12=>(ob (Go.Eng.T.str? (Go.Eng.T.cell x12 0)) fun x13=>(some ((4:Int),(Bool.false,([],([],(x13,((0:Int),([],(x10.2.1,(x10.2.2.1,())))))))))))))) else (bif (Go.Eng.eqI x0.1 (4:Int)) then (ob (Go.Eng.u___brepkernelmade_Dice__Next ((),((6:Int),(x0.2.1,(x0.2.2.1,()))))) fun x14=>(some ((5:Int),(Bool.false,([],([],((ByteArray.mk #[]),((Go.Eng.wr Go.IntKind.i64 (Go.Eng.addI (1:Int) x14.1)),([],(x14.2.1,(x14.2.2.1,()))))))))))) else (bif (Go.Eng.eqI x0.1 (5:Int)) then (ob (Go.Eng.u___brepkernelmade_Dice__Next ((),((4:Int),(x0.2.1,(x0.2.2.1,()))))) fun x15=>(ob (Go.Eng.chkI (Go.Eng.lenL [(Go.Eng.T.v (Go.Value.int Go.IntKind.i64 (7:Int))),(Go.Eng.T.v (Go.Value.int Go.IntKind.i64 (8:Int))),(Go.Eng.T.v (Go.Value.int Go.IntKind.i64 (0:Int))),(Go.Eng.T.v (Go.Value.int Go.IntKind.i64 (9:Int)))]) x15.1) fun x16=>(ob (Go.Eng.idxN [(Go.Eng.T.v (Go.Value.int Go.IntKind.i64 (7:Int))),(Go.Eng.T.v (Go.Value.int Go.IntKind.i64 (8:Int))),(Go.Eng.T.v (Go.Value.int Go.IntKind.i64 (0:Int))),(Go.Eng.T.v (Go.Value.int Go.IntKind.i64 (9:Int)))] x16) fun x17=>(ob (Go.Eng.T.int? Go.IntKind.i64 (Go.Eng.T.cell x17 0)) fun x18=>(some (x18,(Bool.false,([],([],((ByteArray.mk #[]),((0:Int),([],(x15.2.1,(x15.2.2.1,())))))))))))))) else (bif (Go.Eng.eqI x0.1 (6:Int)) then (ob (Go.Eng.u___brepkernelmade_Dice__Next ((),((2:Int),(x0.2.1,(x0.2.2.1,()))))) fun x19=>(some ((7:Int),(Bool.false,([],([],((ByteArray.mk #[]),(x19.1,([],(x19.2.1,(x19.2.2.1,()))))))))))) else (ob (α:=((Unit×Unit×List T×Int×Int×Bool×T×T×ByteArray×Int×T×Int×Bool×T×T×ByteArray×Int×List T×Unit)⊕Empty)) (bif (Go.Eng.ltI (0:Int) t.2.1) then (ob (Go.Eng.u___brepkernelmade_Dice__Next ((),((4:Int),(x0.2.1,(x0.2.2.1,()))))) fun x20=>(ob (loopU (u___brepkernelmade_Dice__Arg_l0 self) ((),(t.2.1,((),((),(x20.1,(x20.2.1,(x20.2.2.1,((0:Int),(Bool.false,((Go.Eng.T.v (Go.Value.slice (Option.none) 0 0)),((Go.Eng.T.v (Go.Value.slice (Option.none) 0 0)),((ByteArray.mk #[]),((0:Int),((Go.Eng.T.v (Go.Value.slice (Option.none) 0 0)),((6:Int),(Bool.false,((Go.Eng.T.v (Go.Value.slice (Option.none) 0 0)),((Go.Eng.T.v (Go.Value.slice (Option.none) 0 0)),((ByteArray.mk #[]),((0:Int),([],())))))))))))))))))))))) fun q24=>onS q24 (fun t25=>(some (Sum.inl ((),((),(t25.2.2.1,(t25.2.2.2.1,(t25.2.2.2.2.1,(t25.2.2.2.2.2.1,(t25.2.2.2.2.2.2.1,(t25.2.2.2.2.2.2.2.1,(t25.2.2.2.2.2.2.2.2.1,(t25.2.2.2.2.2.2.2.2.2.1,(t25.2.2.2.2.2.2.2.2.2.2.1,(t25.2.2.2.2.2.2.2.2.2.2.2.1,(t25.2.2.2.2.2.2.2.2.2.2.2.2.1,(t25.2.2.2.2.2.2.2.2.2.2.2.2.2.1,(t25.2.2.2.2.2.2.2.2.2.2.2.2.2.2.1,(t25.2.2.2.2.2.2.2.2.2.2.2.2.2.2.2.1,(t25.2.2.2.2.2.2.2.2.2.2.2.2.2.2.2.2.1,(t25.2.2.2.2.2.2.2.2.2.2.2.2.2.2.2.2.2.1,()))))))))))))))))))))) fun q26=>noS q26)) else (some (Sum.inl ((),((),(x0.2.1,(x0.2.2.1,((0:Int),(Bool.false,((Go.Eng.T.v (Go.Value.slice (Option.none) 0 0)),((Go.Eng.T.v (Go.Value.slice (Option.none) 0 0)),((ByteArray.mk #[]),((0:Int),((Go.Eng.T.v (Go.Value.slice (Option.none) 0 0)),((6:Int),(Bool.false,((Go.Eng.T.v (Go.Value.slice (Option.none) 0 0)),((Go.Eng.T.v (Go.Value.slice (Option.none) 0 0)),((ByteArray.mk #[]),((0:Int),([],()))))))))))))))))))))) fun q27=>onS q27 (fun t28=>(ob (Go.Eng.T.sl? 1 t28.2.2.2.2.2.2.2.2.2.2.2.2.2.1) fun x29=>(ob (Go.Eng.T.sl? 1 t28.2.2.2.2.2.2.2.2.2.2.2.2.2.2.1) fun x30=>(some (t28.2.2.2.2.2.2.2.2.2.2.2.1,(t28.2.2.2.2.2.2.2.2.2.2.2.2.1,(x29,(x30,(t28.2.2.2.2.2.2.2.2.2.2.2.2.2.2.2.1,(t28.2.2.2.2.2.2.2.2.2.2.2.2.2.2.2.2.1,(t28.2.2.2.2.2.2.2.2.2.2.2.2.2.2.2.2.2.1,(t28.2.2.1,(t28.2.2.2.1,()))))))))))))) fun q31=>noS q31)))))))))
def h___brepkernelmade_Dice__Arg:HT:=(.seq .leaf (.seq .leaf (.seq .leaf (.seq (.join [(AEx.normal,{ items:=[.slot 4,.slot 5,.box 0 2,.box 5 7,.box 6 7],shapes:=[.lit (Go.Eng.C.box 5 0),.lit (Go.Eng.C.box 6 0),.sl 1,.int Go.IntKind.i64,.int Go.IntKind.i64,.bool,.tree,.tree,.str,.int Go.IntKind.i64,.tree,.int Go.IntKind.i64,.bool,.tree,.tree,.str,.int Go.IntKind.i64,.row 49 7 77] })] (.seq .leaf (.cond (.seq .leaf (.one (.loop { items:=[.slot 0,.slot 1,.slot 4,.slot 5,.slot 6,.box 0 2,.box 5 7,.box 6 7],shapes:=[.lit (Go.Eng.C.box 0 0),.int Go.IntKind.i64,.lit (Go.Eng.C.box 5 0),.lit (Go.Eng.C.box 6 0),.int Go.IntKind.i64,.sl 1,.int Go.IntKind.i64,.int Go.IntKind.i64,.bool,.tree,.tree,.str,.int Go.IntKind.i64,.tree,.int Go.IntKind.i64,.bool,.tree,.tree,.str,.int Go.IntKind.i64,.row 49 7 77] } [((AEx.exit 1),{ items:=[.slot 4,.slot 5,.box 0 2,.box 5 7,.box 6 7],shapes:=[.lit (Go.Eng.C.box 5 0),.lit (Go.Eng.C.box 6 0),.sl 1,.int Go.IntKind.i64,.int Go.IntKind.i64,.bool,.tree,.tree,.str,.int Go.IntKind.i64,.tree,.int Go.IntKind.i64,.bool,.tree,.tree,.str,.int Go.IntKind.i64,.row 49 7 77] })] .leaf))) .leaf))) .leaf))))
theorem ok___brepkernelmade_Dice__Arg(self:(Unit×(Int×((List T)×(Int×Unit))))→Option (Int×(Bool×((List T)×((List T)×(ByteArray×(Int×((List T)×((List T)×(Int×Unit))))))))))(hs:(calleeOf sg___brepkernelmade_Dice__Arg self).OK Try.prog 36):TabOK Try.prog [9000000,4000014,4000012,4000011,4000059,4000036,20000005,20000024,20000025,20000038,20000039,20000052,20000053,80000049,80000035,28999999] (g___brepkernelmade_Dice__Arg self):=(TabOK.cons (fun _=>⟨_,Try.func14,by kernel_rfl,by kernel_rfl⟩) k___brepkernelmade_Dice__Next (calleeOf_nat _ _) (fun h=>by cases h) (by kernel_rfl) (fun _=>callK_framed (calleeOf_nat _ _) rfl rfl) (by kernel_rfl) (TabOK.cons (fun _=>⟨_,Try.func12,by kernel_rfl,by kernel_rfl⟩) k_ref02_Int (calleeOf_nat _ _) (fun h=>by cases h) (by kernel_rfl) (fun _=>callK_framed (calleeOf_nat _ _) rfl rfl) (by kernel_rfl) (TabOK.cons (fun _=>⟨_,Try.func11,by kernel_rfl,by kernel_rfl⟩) k_ref02_Frac (calleeOf_nat _ _) (fun h=>by cases h) (by kernel_rfl) (fun _=>callK_framed (calleeOf_nat _ _) rfl rfl) (by kernel_rfl) (TabOK.cons (fun _=>⟨_,Try.func59,by kernel_rfl,by kernel_rfl⟩) k___brepkernelmade_Dice__Word (calleeOf_nat _ _) (fun h=>by cases h) (by kernel_rfl) (fun _=>callK_framed (calleeOf_nat _ _) rfl rfl) (by kernel_rfl) (TabOK.cons (fun _=>⟨_,Try.func36,by kernel_rfl,by kernel_rfl⟩) hs (calleeOf_nat _ _) (fun h=>by cases h) (by kernel_rfl) (fun _=>callK_framed (calleeOf_nat _ _) rfl rfl) (by kernel_rfl) (TabOK.flag (by kernel_rfl) (by kernel_rfl) (by kernel_rfl) (by kernel_rfl) (by kernel_rfl)))))))
theorem e___brepkernelmade_Dice__Arg(self:(Unit×(Int×((List T)×(Int×Unit))))→Option (Int×(Bool×((List T)×((List T)×(ByteArray×(Int×((List T)×((List T)×(Int×Unit)))))))))):∀t,bodyG Try.prog (g___brepkernelmade_Dice__Arg self) [9000000,4000014,4000012,4000011,4000059,4000036,20000005,20000024,20000025,20000038,20000039,20000052,20000053,80000049,80000035,28999999] h___brepkernelmade_Dice__Arg Try.f36 sg___brepkernelmade_Dice__Arg t=b___brepkernelmade_Dice__Arg self t:=by
 intro t
 kernel_rfl
noncomputable def v___brepkernelmade_Dice__Arg(n:Nat):(Unit×(Int×((List T)×(Int×Unit))))→Option (Int×(Bool×((List T)×((List T)×(ByteArray×(Int×((List T)×((List T)×(Int×Unit))))))))):=Nat.rec (motive:=fun _=>(Unit×(Int×((List T)×(Int×Unit))))→Option (Int×(Bool×((List T)×((List T)×(ByteArray×(Int×((List T)×((List T)×(Int×Unit)))))))))) (fun _=>none) (fun _ ih=>b___brepkernelmade_Dice__Arg ih) n
theorem kv___brepkernelmade_Dice__Arg(n:Nat):(calleeOf sg___brepkernelmade_Dice__Arg (v___brepkernelmade_Dice__Arg n)).OK Try.prog 36:=by
 induction n with
 | zero=>exact calleeOf_none _
 | succ n ih=>exact calleeG_ok mixed (ok___brepkernelmade_Dice__Arg _ ih) Try.func36 (by kernel_rfl) (by kernel_rfl) (e___brepkernelmade_Dice__Arg (v___brepkernelmade_Dice__Arg n))
noncomputable def u___brepkernelmade_Dice__Arg:(Unit×(Int×((List T)×(Int×Unit))))→Option (Int×(Bool×((List T)×((List T)×(ByteArray×(Int×((List T)×((List T)×(Int×Unit))))))))):=v___brepkernelmade_Dice__Arg 20
theorem k___brepkernelmade_Dice__Arg:(calleeOf sg___brepkernelmade_Dice__Arg u___brepkernelmade_Dice__Arg).OK Try.prog 36:=kv___brepkernelmade_Dice__Arg 20
def sg___brepkernelmade_Dice__record:Sig:={ na:=1,np:=1,hin:={ items:=[.slot 0,.box 0 2],shapes:=[.lit (.box 0 0),.sl 1,.int Go.IntKind.i64] },nres:=1,kept:=[],nnew:=0,hout:={ items:=[.aggs 0 2,.box 0 2],shapes:=[.str,.sl 7,.sl 1,.int Go.IntKind.i64] },nob:=50 }
noncomputable def g___brepkernelmade_Dice__record:List (Go.FuncId×Callee):=[(14,(calleeOf sg___brepkernelmade_Dice__Next u___brepkernelmade_Dice__Next)),(36,(calleeOf sg___brepkernelmade_Dice__Arg u___brepkernelmade_Dice__Arg)),(2000000,flagC [4] [3,8,9,60000037,60000035,8999999])]
noncomputable def u___brepkernelmade_Dice__record_l0(s4:(Unit×Unit×Unit×Int×List T×Int×ByteArray×T×T×List T×Unit)):Option ((Unit×Unit×Unit×Int×List T×Int×ByteArray×T×T×List T×Unit)⊕((Unit×Unit×List T×Int×ByteArray×T×T×List T×Unit)⊕Empty)):=
 (bif (Go.Eng.ltI (0:Int) s4.2.2.2.1) then (ob (Go.Eng.u___brepkernelmade_Dice__Arg ((),((2:Int),(s4.2.2.2.2.1,(s4.2.2.2.2.2.1,()))))) fun x5=>(ob (Go.Eng.room s4.2.2.2.2.2.2.2.2.2.1 [(Go.Eng.T.agg [(Go.Eng.T.v (Go.Value.int Go.IntKind.i64 x5.1)),(Go.Eng.T.v (Go.Value.bool x5.2.1)),(Go.Eng.T.sl 1 x5.2.2.1),(Go.Eng.T.sl 1 x5.2.2.2.1),(Go.Eng.T.v (Go.Value.string x5.2.2.2.2.1)),(Go.Eng.T.v (Go.Value.int Go.IntKind.i64 x5.2.2.2.2.2.1)),(Go.Eng.T.sl 7 x5.2.2.2.2.2.2.1)])] 112) fun x6=>(some (Sum.inl ((),((),((),((Go.Eng.wr Go.IntKind.i64 (Go.Eng.subI s4.2.2.2.1 (1:Int))),(x5.2.2.2.2.2.2.2.1,(x5.2.2.2.2.2.2.2.2.1,(s4.2.2.2.2.2.2.1,(s4.2.2.2.2.2.2.2.1,(s4.2.2.2.2.2.2.2.2.1,(x6,())))))))))))))) else (some (Sum.inr (Sum.inl ((),((),(s4.2.2.2.2.1,(s4.2.2.2.2.2.1,(s4.2.2.2.2.2.2.1,(s4.2.2.2.2.2.2.2.1,(s4.2.2.2.2.2.2.2.2.1,(s4.2.2.2.2.2.2.2.2.2.1,()))))))))))))
noncomputable def u___brepkernelmade_Dice__record(t:(Unit×((List T)×(Int×Unit)))):Option (ByteArray×((List T)×((List T)×(Int×Unit)))):=
 (ob (Go.Eng.u___brepkernelmade_Dice__Next ((),((12:Int),(t.2.1,(t.2.2.1,()))))) fun x0=>(ob (Go.Eng.chkI (Go.Eng.lenL [(Go.Eng.T.v (Go.Value.string (ByteArray.mk #[67,65,82,84,69,83,73,65,78,95,80,79,73,78,84]))),(Go.Eng.T.v (Go.Value.string (ByteArray.mk #[68,73,82,69,67,84,73,79,78]))),(Go.Eng.T.v (Go.Value.string (ByteArray.mk #[80,76,65,78,69]))),(Go.Eng.T.v (Go.Value.string (ByteArray.mk #[80,79,76,89,95,76,79,79,80]))),(Go.Eng.T.v (Go.Value.string (ByteArray.mk #[70,65,67,69,95,66,79,85,78,68]))),(Go.Eng.T.v (Go.Value.string (ByteArray.mk #[70,65,67,69,95,83,85,82,70,65,67,69]))),(Go.Eng.T.v (Go.Value.string (ByteArray.mk #[67,76,79,83,69,68,95,83,72,69,76,76]))),(Go.Eng.T.v (Go.Value.string (ByteArray.mk #[70,65,67,69,84,69,68,95,66,82,69,80]))),(Go.Eng.T.v (Go.Value.string (ByteArray.mk #[84,79,76,69,82,65,78,67,69]))),(Go.Eng.T.v (Go.Value.string (ByteArray.mk #[88]))),(Go.Eng.T.v (Go.Value.string (ByteArray.mk #[69,78,68,83,69,67]))),(Go.Eng.T.v (Go.Value.string (ByteArray.mk #[120])))]) x0.1) fun x1=>(ob (Go.Eng.idxN [(Go.Eng.T.v (Go.Value.string (ByteArray.mk #[67,65,82,84,69,83,73,65,78,95,80,79,73,78,84]))),(Go.Eng.T.v (Go.Value.string (ByteArray.mk #[68,73,82,69,67,84,73,79,78]))),(Go.Eng.T.v (Go.Value.string (ByteArray.mk #[80,76,65,78,69]))),(Go.Eng.T.v (Go.Value.string (ByteArray.mk #[80,79,76,89,95,76,79,79,80]))),(Go.Eng.T.v (Go.Value.string (ByteArray.mk #[70,65,67,69,95,66,79,85,78,68]))),(Go.Eng.T.v (Go.Value.string (ByteArray.mk #[70,65,67,69,95,83,85,82,70,65,67,69]))),(Go.Eng.T.v (Go.Value.string (ByteArray.mk #[67,76,79,83,69,68,95,83,72,69,76,76]))),(Go.Eng.T.v (Go.Value.string (ByteArray.mk #[70,65,67,69,84,69,68,95,66,82,69,80]))),(Go.Eng.T.v (Go.Value.string (ByteArray.mk #[84,79,76,69,82,65,78,67,69]))),(Go.Eng.T.v (Go.Value.string (ByteArray.mk #[88]))),(Go.Eng.T.v (Go.Value.string (ByteArray.mk #[69,78,68,83,69,67]))),(Go.Eng.T.v (Go.Value.string (ByteArray.mk #[120])))] x1) fun x2=>(ob (Go.Eng.u___brepkernelmade_Dice__Next ((),((4:Int),(x0.2.1,(x0.2.2.1,()))))) fun x3=>(ob (loopU u___brepkernelmade_Dice__record_l0 ((),((),((),(x3.1,(x3.2.1,(x3.2.2.1,((ByteArray.mk #[]),((Go.Eng.T.v (Go.Value.slice (Option.none) 0 0)),((Go.Eng.T.cell x2 0),([],()))))))))))) fun q7=>onS q7 (fun t8=>(ob (Go.Eng.T.str? t8.2.2.2.2.2.2.1) fun x9=>(some (x9,(t8.2.2.2.2.2.2.2.1,(t8.2.2.1,(t8.2.2.2.1,()))))))) fun q10=>noS q10)))))
def h___brepkernelmade_Dice__record:HT:=(.seq .leaf (.seq .leaf (.seq (.seq .leaf (.one (.loop { items:=[.slot 0,.slot 2,.slot 3,.slot 4,.box 0 2,.box 3 2,.box 4 2],shapes:=[.lit (Go.Eng.C.box 0 0),.lit (Go.Eng.C.box 3 0),.lit (Go.Eng.C.box 4 0),.int Go.IntKind.i64,.sl 1,.int Go.IntKind.i64,.str,.tree,.tree,.row 49 7 23] } [((AEx.exit 0),{ items:=[.slot 2,.slot 3,.box 0 2,.box 3 2,.box 4 2],shapes:=[.lit (Go.Eng.C.box 3 0),.lit (Go.Eng.C.box 4 0),.sl 1,.int Go.IntKind.i64,.str,.tree,.tree,.row 49 7 23] })] .leaf))) .leaf)))
theorem ok___brepkernelmade_Dice__record:TabOK Try.prog [9000000,4000014,4000036,20000003,20000008,20000009,80000037,80000035,28999999] g___brepkernelmade_Dice__record:=(TabOK.cons (fun _=>⟨_,Try.func14,by kernel_rfl,by kernel_rfl⟩) k___brepkernelmade_Dice__Next (calleeOf_nat _ _) (fun h=>by cases h) (by kernel_rfl) (fun _=>callK_framed (calleeOf_nat _ _) rfl rfl) (by kernel_rfl) (TabOK.cons (fun _=>⟨_,Try.func36,by kernel_rfl,by kernel_rfl⟩) k___brepkernelmade_Dice__Arg (calleeOf_nat _ _) (fun h=>by cases h) (by kernel_rfl) (fun _=>callK_framed (calleeOf_nat _ _) rfl rfl) (by kernel_rfl) (TabOK.flag (by kernel_rfl) (by kernel_rfl) (by kernel_rfl) (by kernel_rfl) (by kernel_rfl))))
theorem e___brepkernelmade_Dice__record:∀t,bodyG Try.prog g___brepkernelmade_Dice__record [9000000,4000014,4000036,20000003,20000008,20000009,80000037,80000035,28999999] h___brepkernelmade_Dice__record Try.f15 sg___brepkernelmade_Dice__record t=u___brepkernelmade_Dice__record t:=by
 intro t
 kernel_rfl
theorem k___brepkernelmade_Dice__record:(calleeOf sg___brepkernelmade_Dice__record u___brepkernelmade_Dice__record).OK Try.prog 15:=calleeG_ok mixed ok___brepkernelmade_Dice__record Try.func15 (by kernel_rfl) (by kernel_rfl) e___brepkernelmade_Dice__record
def sg_ref24_Refs:Sig:={ na:=1,np:=0,hin:={ items:=[.slot 0],shapes:=[.sl 7] },nres:=1,kept:=[],nnew:=0,hout:={ items:=[.slot 0],shapes:=[.sl 1] },nob:=80 }
noncomputable def g_ref24_Refs(self:((List T)×Unit)→Option ((List T)×Unit)):List (Go.FuncId×Callee):=[(9,(calleeOf sg_ref24_Refs self))]
noncomputable def u_ref24_Refs_l0(self:((List T)×Unit)→Option ((List T)×Unit))(s0:(List T×List T×Int×Unit)):Option ((List T×List T×Int×Unit)⊕((List T×Unit)⊕Empty)):=
 (bif (Go.Eng.ltI s0.2.2.1 (Go.Eng.lenL s0.1)) then (ob (α:=((List T×List T×Int×Unit)⊕Empty)) (ob (α:=((List T×List T×Int×Unit)⊕Empty)) (ob (Go.Eng.idxL s0.1 s0.2.2.1) fun x1=>(ob (Go.Eng.T.int? Go.IntKind.i64 (Go.Eng.T.cell x1 0)) fun x2=>(bif (Go.Eng.eqI x2 (5:Int)) then (ob (Go.Eng.idxL s0.1 s0.2.2.1) fun x3=>(ob (Go.Eng.T.int? Go.IntKind.i64 (Go.Eng.T.cell x3 5)) fun x4=>(ob (Go.Eng.room s0.2.1 [(Go.Eng.T.v (Go.Value.int Go.IntKind.i64 x4))] 8) fun x5=>(some (Sum.inl (s0.1,(x5,(s0.2.2.1,())))))))) else (some (Sum.inl (s0.1,(s0.2.1,(s0.2.2.1,())))))))) fun q6=>onS q6 (fun t7=>(ob (Go.Eng.idxL t7.1 t7.2.2.1) fun x8=>(ob (Go.Eng.T.int? Go.IntKind.i64 (Go.Eng.T.cell x8 0)) fun x9=>(bif (Go.Eng.eqI x9 (6:Int)) then (ob (Go.Eng.idxL t7.1 t7.2.2.1) fun x10=>(ob (Go.Eng.T.sl? 7 (Go.Eng.T.cell x10 6)) fun x11=>(ob (self (x11,())) fun x12=>(ob (Go.Eng.room t7.2.1 x12.1 8) fun x13=>(some (Sum.inl (t7.1,(x13,(t7.2.2.1,()))))))))) else (some (Sum.inl (t7.1,(t7.2.1,(t7.2.2.1,()))))))))) fun q14=>noS q14) fun q15=>onS q15 (fun t16=>(some (Sum.inl (t16.1,(t16.2.1,((Go.Eng.wr Go.IntKind.i64 (Go.Eng.addI t16.2.2.1 (1:Int))),())))))) fun q17=>noS q17) else (some (Sum.inr (Sum.inl (s0.2.1,())))))
noncomputable def b_ref24_Refs(self:((List T)×Unit)→Option ((List T)×Unit))(t:((List T)×Unit)):Option ((List T)×Unit):=
 (ob (loopU (u_ref24_Refs_l0 self) (t.1,([],((0:Int),())))) fun q18=>onS q18 (fun t19=>(some (t19.1,()))) fun q20=>noS q20)
def h_ref24_Refs:HT:=(.seq .leaf (.seq .leaf (.seq (.seq .leaf (.one (.loop { items:=[.slot 0,.slot 3,.slot 4],shapes:=[.sl 7,.row 3 1 38,.int Go.IntKind.i64] } [((AEx.exit 0),{ items:=[.slot 3],shapes:=[.row 3 1 38] })] (.seq .leaf (.seq (.join [(AEx.normal,{ items:=[.slot 0,.slot 3,.slot 4],shapes:=[.sl 7,.row 3 1 38,.int Go.IntKind.i64] })] (.one (.seq (.join [(AEx.normal,{ items:=[.slot 0,.slot 3,.slot 4],shapes:=[.sl 7,.row 3 1 24,.int Go.IntKind.i64] })] .leaf) .leaf))) .leaf))))) .leaf)))
theorem ok_ref24_Refs(self:((List T)×Unit)→Option ((List T)×Unit))(hs:(calleeOf sg_ref24_Refs self).OK Try.prog 9):TabOK Try.prog [] (g_ref24_Refs self):=(TabOK.cons (fun _=>⟨_,Try.func9,by kernel_rfl,by kernel_rfl⟩) hs (calleeOf_nat _ _) (fun h=>by cases h) (by kernel_rfl) (fun _=>callK_framed (calleeOf_nat _ _) rfl rfl) (by kernel_rfl) TabOK.nil)
theorem e_ref24_Refs(self:((List T)×Unit)→Option ((List T)×Unit)):∀t,bodyG Try.prog (g_ref24_Refs self) [] h_ref24_Refs Try.f9 sg_ref24_Refs t=b_ref24_Refs self t:=by
 intro t
 kernel_rfl
noncomputable def v_ref24_Refs(n:Nat):((List T)×Unit)→Option ((List T)×Unit):=Nat.rec (motive:=fun _=>((List T)×Unit)→Option ((List T)×Unit)) (fun _=>none) (fun _ ih=>b_ref24_Refs ih) n
theorem kv_ref24_Refs(n:Nat):(calleeOf sg_ref24_Refs (v_ref24_Refs n)).OK Try.prog 9:=by
 induction n with
 | zero=>exact calleeOf_none _
 | succ n ih=>exact calleeG_ok mixed (ok_ref24_Refs _ ih) Try.func9 (by kernel_rfl) (by kernel_rfl) (e_ref24_Refs (v_ref24_Refs n))
noncomputable def u_ref24_Refs:((List T)×Unit)→Option ((List T)×Unit):=v_ref24_Refs 20
theorem k_ref24_Refs:(calleeOf sg_ref24_Refs u_ref24_Refs).OK Try.prog 9:=kv_ref24_Refs 20
def sg_entity_rules_1:Sig:={ na:=1,np:=0,hin:={ items:=[.slot 0],shapes:=[.sl 1] },nres:=1,kept:=[],nnew:=0,hout:={ items:=[.aggs 0 4],shapes:=[.sl 1,.int Go.IntKind.i64,.int Go.IntKind.i64,.sl 1] },nob:=12 }
noncomputable def g_entity_rules_1:List (Go.FuncId×Callee):=[]
noncomputable def u_entity_rules_1(t:((List T)×Unit)):Option ((List T)×(Int×(Int×((List T)×Unit)))):=
 (some ([(Go.Eng.T.v (Go.Value.int Go.IntKind.i64 (5:Int)))],((0:Int),((0:Int),(t.1,())))))
def h_entity_rules_1:HT:=.leaf
theorem ok_entity_rules_1:TabOK Try.prog [] g_entity_rules_1:=TabOK.nil
theorem e_entity_rules_1:∀t,bodyG Try.prog g_entity_rules_1 [] h_entity_rules_1 Try.f69 sg_entity_rules_1 t=u_entity_rules_1 t:=by
 intro t
 kernel_rfl
theorem k_entity_rules_1:(calleeOf sg_entity_rules_1 u_entity_rules_1).OK Try.prog 69:=calleeG_ok mixed ok_entity_rules_1 Try.func69 (by kernel_rfl) (by kernel_rfl) e_entity_rules_1
def sg_entity_rules_2:Sig:={ na:=3,np:=0,hin:={ items:=[.aggs 0 4,.slot 1,.slot 2],shapes:=[.sl 1,.int Go.IntKind.i64,.int Go.IntKind.i64,.sl 1,.int Go.IntKind.i64,.int Go.IntKind.i64] },nres:=1,kept:=[],nnew:=0,hout:={ items:=[.aggs 0 4],shapes:=[.sl 1,.int Go.IntKind.i64,.int Go.IntKind.i64,.sl 1] },nob:=24 }
noncomputable def g_entity_rules_2:List (Go.FuncId×Callee):=[]
noncomputable def u_entity_rules_2(t:((List T)×(Int×(Int×((List T)×(Int×(Int×Unit))))))):Option ((List T)×(Int×(Int×((List T)×Unit)))):=
 (some (t.1,(t.2.2.2.2.1,(t.2.2.2.2.2.1,(t.2.2.2.1,())))))
def h_entity_rules_2:HT:=.leaf
theorem ok_entity_rules_2:TabOK Try.prog [] g_entity_rules_2:=TabOK.nil
theorem e_entity_rules_2:∀t,bodyG Try.prog g_entity_rules_2 [] h_entity_rules_2 Try.f70 sg_entity_rules_2 t=u_entity_rules_2 t:=by
 intro t
 kernel_rfl
theorem k_entity_rules_2:(calleeOf sg_entity_rules_2 u_entity_rules_2).OK Try.prog 70:=calleeG_ok mixed ok_entity_rules_2 Try.func70 (by kernel_rfl) (by kernel_rfl) e_entity_rules_2
def sg_entity_rules_3:Sig:={ na:=1,np:=0,hin:={ items:=[.slot 0],shapes:=[.sl 1] },nres:=1,kept:=[],nnew:=0,hout:={ items:=[.aggs 0 4],shapes:=[.sl 1,.int Go.IntKind.i64,.int Go.IntKind.i64,.sl 1] },nob:=12 }
noncomputable def g_entity_rules_3:List (Go.FuncId×Callee):=[]
noncomputable def u_entity_rules_3(t:((List T)×Unit)):Option ((List T)×(Int×(Int×((List T)×Unit)))):=
 (some ([(Go.Eng.T.v (Go.Value.int Go.IntKind.i64 (4:Int)))],((0:Int),((0:Int),(t.1,())))))
def h_entity_rules_3:HT:=.leaf
theorem ok_entity_rules_3:TabOK Try.prog [] g_entity_rules_3:=TabOK.nil
theorem e_entity_rules_3:∀t,bodyG Try.prog g_entity_rules_3 [] h_entity_rules_3 Try.f71 sg_entity_rules_3 t=u_entity_rules_3 t:=by
 intro t
 kernel_rfl
theorem k_entity_rules_3:(calleeOf sg_entity_rules_3 u_entity_rules_3).OK Try.prog 71:=calleeG_ok mixed ok_entity_rules_3 Try.func71 (by kernel_rfl) (by kernel_rfl) e_entity_rules_3
def sg___brepkernelmade_Dice__File:Sig:={ na:=2,np:=1,hin:={ items:=[.slot 0,.slot 1,.box 0 2],shapes:=[.lit (.box 0 0),.int Go.IntKind.i64,.sl 1,.int Go.IntKind.i64] },nres:=1,kept:=[],nnew:=0,hout:={ items:=[.aggs 0 2,.box 0 2],shapes:=[.sl 2,.sl 3,.sl 1,.int Go.IntKind.i64] },nob:=96 }
noncomputable def g___brepkernelmade_Dice__File:List (Go.FuncId×Callee):=[(14,(calleeOf sg___brepkernelmade_Dice__Next u___brepkernelmade_Dice__Next)),(15,(calleeOf sg___brepkernelmade_Dice__record u___brepkernelmade_Dice__record)),(16,(calleeOf sg___brepkernelmade_Dice__Bool u___brepkernelmade_Dice__Bool)),(2000000,flagC [6] [5,32,60000025,60000026,8999999])]
noncomputable def u___brepkernelmade_Dice__File_l0(s1:(Unit×Int×Unit×Unit×Int×List T×Int×T×T×List T×List T×Unit)):Option ((Unit×Int×Unit×Unit×Int×List T×Int×T×T×List T×List T×Unit)⊕((Unit×Int×Unit×Unit×List T×Int×T×T×List T×List T×Unit)⊕Empty)):=
 (bif (Go.Eng.ltI (0:Int) s1.2.2.2.2.1) then (ob (Go.Eng.u___brepkernelmade_Dice__record ((),(s1.2.2.2.2.2.1,(s1.2.2.2.2.2.2.1,())))) fun x2=>(ob (Go.Eng.room s1.2.2.2.2.2.2.2.2.2.1 [(Go.Eng.T.agg [(Go.Eng.T.v (Go.Value.string x2.1)),(Go.Eng.T.sl 7 x2.2.1)])] 40) fun x3=>(some (Sum.inl ((),(s1.2.1,((),((),((Go.Eng.wr Go.IntKind.i64 (Go.Eng.subI s1.2.2.2.2.1 (1:Int))),(x2.2.2.1,(x2.2.2.2.1,(s1.2.2.2.2.2.2.2.1,(s1.2.2.2.2.2.2.2.2.1,(x3,(s1.2.2.2.2.2.2.2.2.2.2.1,()))))))))))))))) else (some (Sum.inr (Sum.inl ((),(s1.2.1,((),((),(s1.2.2.2.2.2.1,(s1.2.2.2.2.2.2.1,(s1.2.2.2.2.2.2.2.1,(s1.2.2.2.2.2.2.2.2.1,(s1.2.2.2.2.2.2.2.2.2.1,(s1.2.2.2.2.2.2.2.2.2.2.1,()))))))))))))))
noncomputable def u___brepkernelmade_Dice__File_l1(s7:(Unit×Unit×Unit×Int×List T×Int×T×T×List T×List T×Unit)):Option ((Unit×Unit×Unit×Int×List T×Int×T×T×List T×List T×Unit)⊕((Unit×Unit×List T×Int×T×T×List T×List T×Unit)⊕Empty)):=
 (bif (Go.Eng.ltI (0:Int) s7.2.2.2.1) then (ob (α:=((Unit×Unit×Unit×Int×Int×List T×Int×T×T×List T×List T×Unit)⊕Empty)) (ob (Go.Eng.u___brepkernelmade_Dice__Bool ((),((8:Int),(s7.2.2.2.2.1,(s7.2.2.2.2.2.1,()))))) fun x8=>(bif x8.1 then (ob (Go.Eng.u___brepkernelmade_Dice__Next ((),((5:Int),(x8.2.1,(x8.2.2.1,()))))) fun x9=>(some (Sum.inl ((),((),((),(s7.2.2.2.1,(x9.1,(x9.2.1,(x9.2.2.1,(s7.2.2.2.2.2.2.1,(s7.2.2.2.2.2.2.2.1,(s7.2.2.2.2.2.2.2.2.1,(s7.2.2.2.2.2.2.2.2.2.1,())))))))))))))) else (some (Sum.inl ((),((),((),(s7.2.2.2.1,((Go.Eng.wr Go.IntKind.i64 (Go.Eng.addI (Go.Eng.lenL s7.2.2.2.2.2.2.2.2.2.1) (1:Int))),(x8.2.1,(x8.2.2.1,(s7.2.2.2.2.2.2.1,(s7.2.2.2.2.2.2.2.1,(s7.2.2.2.2.2.2.2.2.1,(s7.2.2.2.2.2.2.2.2.2.1,()))))))))))))))) fun q10=>onS q10 (fun t11=>(ob (Go.Eng.u___brepkernelmade_Dice__record ((),(t11.2.2.2.2.2.1,(t11.2.2.2.2.2.2.1,())))) fun x12=>(ob (Go.Eng.room t11.2.2.2.2.2.2.2.2.2.2.1 [(Go.Eng.T.agg [(Go.Eng.T.v (Go.Value.int Go.IntKind.i64 t11.2.2.2.2.1)),(Go.Eng.T.v (Go.Value.string x12.1)),(Go.Eng.T.sl 7 x12.2.1)])] 48) fun x13=>(some (Sum.inl ((),((),((),((Go.Eng.wr Go.IntKind.i64 (Go.Eng.subI t11.2.2.2.1 (1:Int))),(x12.2.2.1,(x12.2.2.2.1,(t11.2.2.2.2.2.2.2.1,(t11.2.2.2.2.2.2.2.2.1,(t11.2.2.2.2.2.2.2.2.2.1,(x13,()))))))))))))))) fun q14=>noS q14) else (some (Sum.inr (Sum.inl ((),((),(s7.2.2.2.2.1,(s7.2.2.2.2.2.1,(s7.2.2.2.2.2.2.1,(s7.2.2.2.2.2.2.2.1,(s7.2.2.2.2.2.2.2.2.1,(s7.2.2.2.2.2.2.2.2.2.1,()))))))))))))
noncomputable def u___brepkernelmade_Dice__File(t:(Unit×(Int×((List T)×(Int×Unit))))):Option ((List T)×((List T)×((List T)×(Int×Unit)))):=
 (ob (Go.Eng.u___brepkernelmade_Dice__Next ((),((3:Int),(t.2.2.1,(t.2.2.2.1,()))))) fun x0=>(ob (loopU u___brepkernelmade_Dice__File_l0 ((),(t.2.1,((),((),(x0.1,(x0.2.1,(x0.2.2.1,((Go.Eng.T.v (Go.Value.slice (Option.none) 0 0)),((Go.Eng.T.v (Go.Value.slice (Option.none) 0 0)),([],([],())))))))))))) fun q4=>onS q4 (fun t5=>(ob (Go.Eng.u___brepkernelmade_Dice__Next ((),((Go.Eng.wr Go.IntKind.i64 (Go.Eng.addI t5.2.1 (1:Int))),(t5.2.2.2.2.1,(t5.2.2.2.2.2.1,()))))) fun x6=>(ob (loopU u___brepkernelmade_Dice__File_l1 ((),((),((),(x6.1,(x6.2.1,(x6.2.2.1,(t5.2.2.2.2.2.2.1,(t5.2.2.2.2.2.2.2.1,(t5.2.2.2.2.2.2.2.2.1,(t5.2.2.2.2.2.2.2.2.2.1,()))))))))))) fun q15=>onS q15 (fun t16=>(some (t16.2.2.2.2.2.2.1,(t16.2.2.2.2.2.2.2.1,(t16.2.2.1,(t16.2.2.2.1,())))))) fun q17=>noS q17))) fun q18=>noS q18))
def h___brepkernelmade_Dice__File:HT:=(.seq .leaf (.seq .leaf (.seq (.seq .leaf (.one (.loop { items:=[.slot 0,.slot 1,.slot 4,.slot 5,.slot 6,.box 0 2,.box 5 2,.box 6 2],shapes:=[.lit (Go.Eng.C.box 0 0),.int Go.IntKind.i64,.lit (Go.Eng.C.box 5 0),.lit (Go.Eng.C.box 6 0),.int Go.IntKind.i64,.sl 1,.int Go.IntKind.i64,.tree,.tree,.row 37 2 21,.row 39 3 46] } [((AEx.exit 0),{ items:=[.slot 0,.slot 1,.slot 4,.slot 5,.box 0 2,.box 5 2,.box 6 2],shapes:=[.lit (Go.Eng.C.box 0 0),.int Go.IntKind.i64,.lit (Go.Eng.C.box 5 0),.lit (Go.Eng.C.box 6 0),.sl 1,.int Go.IntKind.i64,.tree,.tree,.row 37 2 21,.row 39 3 46] })] .leaf))) (.seq (.seq .leaf (.one (.loop { items:=[.slot 0,.slot 4,.slot 5,.slot 7,.box 0 2,.box 5 2,.box 6 2],shapes:=[.lit (Go.Eng.C.box 0 0),.lit (Go.Eng.C.box 5 0),.lit (Go.Eng.C.box 6 0),.int Go.IntKind.i64,.sl 1,.int Go.IntKind.i64,.tree,.tree,.row 37 2 21,.row 39 3 46] } [((AEx.exit 2),{ items:=[.slot 4,.slot 5,.box 0 2,.box 5 2,.box 6 2],shapes:=[.lit (Go.Eng.C.box 5 0),.lit (Go.Eng.C.box 6 0),.sl 1,.int Go.IntKind.i64,.tree,.tree,.row 37 2 21,.row 39 3 46] })] (.seq .leaf (.seq (.one (.seq .leaf (.seq (.join [(AEx.normal,{ items:=[.slot 0,.slot 4,.slot 5,.slot 7,.slot 8,.box 0 2,.box 5 2,.box 6 2],shapes:=[.lit (Go.Eng.C.box 0 0),.lit (Go.Eng.C.box 5 0),.lit (Go.Eng.C.box 6 0),.int Go.IntKind.i64,.int Go.IntKind.i64,.sl 1,.int Go.IntKind.i64,.tree,.tree,.row 37 2 21,.row 39 3 46] })] .leaf) .leaf))) .leaf))))) .leaf))))
theorem ok___brepkernelmade_Dice__File:TabOK Try.prog [9000000,4000014,4000015,4000016,20000005,20000032,80000025,80000026,28999999] g___brepkernelmade_Dice__File:=(TabOK.cons (fun _=>⟨_,Try.func14,by kernel_rfl,by kernel_rfl⟩) k___brepkernelmade_Dice__Next (calleeOf_nat _ _) (fun h=>by cases h) (by kernel_rfl) (fun _=>callK_framed (calleeOf_nat _ _) rfl rfl) (by kernel_rfl) (TabOK.cons (fun _=>⟨_,Try.func15,by kernel_rfl,by kernel_rfl⟩) k___brepkernelmade_Dice__record (calleeOf_nat _ _) (fun h=>by cases h) (by kernel_rfl) (fun _=>callK_framed (calleeOf_nat _ _) rfl rfl) (by kernel_rfl) (TabOK.cons (fun _=>⟨_,Try.func16,by kernel_rfl,by kernel_rfl⟩) k___brepkernelmade_Dice__Bool (calleeOf_nat _ _) (fun h=>by cases h) (by kernel_rfl) (fun _=>callK_framed (calleeOf_nat _ _) rfl rfl) (by kernel_rfl) (TabOK.flag (by kernel_rfl) (by kernel_rfl) (by kernel_rfl) (by kernel_rfl) (by kernel_rfl)))))
theorem e___brepkernelmade_Dice__File:∀t,bodyG Try.prog g___brepkernelmade_Dice__File [9000000,4000014,4000015,4000016,20000005,20000032,80000025,80000026,28999999] h___brepkernelmade_Dice__File Try.f7 sg___brepkernelmade_Dice__File t=u___brepkernelmade_Dice__File t:=by
 intro t
 kernel_rfl
theorem k___brepkernelmade_Dice__File:(calleeOf sg___brepkernelmade_Dice__File u___brepkernelmade_Dice__File).OK Try.prog 7:=calleeG_ok mixed ok___brepkernelmade_Dice__File Try.func7 (by kernel_rfl) (by kernel_rfl) e___brepkernelmade_Dice__File
def sg_entity_rules:Sig:={ na:=1,np:=0,hin:={ items:=[.slot 0],shapes:=[.str] },nres:=1,kept:=[],nnew:=0,hout:={ items:=[.slot 0],shapes:=[.sl 4] },nob:=182 }
noncomputable def g_entity_rules:List (Go.FuncId×Callee):=[(69,(calleeOf sg_entity_rules_1 u_entity_rules_1)),(70,(calleeOf sg_entity_rules_2 u_entity_rules_2)),(71,(calleeOf sg_entity_rules_3 u_entity_rules_3)),(2000000,flagC [3,4,5] [3,4,5,60000116,8999999]),(2000002,flagC [] [500028,500031,500039,500048,500051,500059,500063,500066,500074,500082])]
noncomputable def u_entity_rules(t:(ByteArray×Unit)):Option ((List T)×Unit):=
 (ob (α:=((Unit×Unit×Unit×Unit×Unit×Unit×ByteArray×Bool×List T×Int×Int×T×List T×Int×Int×T×List T×Int×Int×T×Unit)⊕Empty)) (bif (Go.Eng.eqS t.1 (ByteArray.mk #[67,65,82,84,69,83,73,65,78,95,80,79,73,78,84])) then (some (Sum.inl ((),((),((),((),((),((),(t.1,((Go.Eng.eqS t.1 (ByteArray.mk #[67,65,82,84,69,83,73,65,78,95,80,79,73,78,84])),([(Go.Eng.T.v (Go.Value.int Go.IntKind.i64 (3:Int)))],((0:Int),((0:Int),((Go.Eng.T.v (Go.Value.slice (Option.none) 0 0)),([(Go.Eng.T.v (Go.Value.int Go.IntKind.i64 (1:Int))),(Go.Eng.T.v (Go.Value.int Go.IntKind.i64 (2:Int)))],((0:Int),((0:Int),((Go.Eng.T.v (Go.Value.slice (Option.none) 0 0)),([(Go.Eng.T.v (Go.Value.int Go.IntKind.i64 (1:Int)))],((0:Int),((0:Int),((Go.Eng.T.v (Go.Value.slice (Option.none) 0 0)),())))))))))))))))))))))) else (some (Sum.inl ((),((),((),((),((),((),(t.1,((Go.Eng.eqS t.1 (ByteArray.mk #[68,73,82,69,67,84,73,79,78])),([(Go.Eng.T.v (Go.Value.int Go.IntKind.i64 (3:Int)))],((0:Int),((0:Int),((Go.Eng.T.v (Go.Value.slice (Option.none) 0 0)),([(Go.Eng.T.v (Go.Value.int Go.IntKind.i64 (1:Int))),(Go.Eng.T.v (Go.Value.int Go.IntKind.i64 (2:Int)))],((0:Int),((0:Int),((Go.Eng.T.v (Go.Value.slice (Option.none) 0 0)),([(Go.Eng.T.v (Go.Value.int Go.IntKind.i64 (1:Int)))],((0:Int),((0:Int),((Go.Eng.T.v (Go.Value.slice (Option.none) 0 0)),()))))))))))))))))))))))) fun q0=>onS q0 (fun t1=>(bif t1.2.2.2.2.2.2.2.1 then (ob (Go.Eng.T.sl? 1 t1.2.2.2.2.2.2.2.2.2.2.2.2.2.2.2.1) fun x2=>(ob (Go.Eng.u_entity_rules_2 (t1.2.2.2.2.2.2.2.2.2.2.2.2.1,(t1.2.2.2.2.2.2.2.2.2.2.2.2.2.1,(t1.2.2.2.2.2.2.2.2.2.2.2.2.2.2.1,(x2,((3:Int),((3:Int),()))))))) fun x3=>(ob (Go.Eng.T.sl? 1 t1.2.2.2.2.2.2.2.2.2.2.2.1) fun x4=>(some ([(Go.Eng.T.agg [(Go.Eng.T.sl 1 t1.2.2.2.2.2.2.2.2.1),(Go.Eng.T.v (Go.Value.int Go.IntKind.i64 t1.2.2.2.2.2.2.2.2.2.1)),(Go.Eng.T.v (Go.Value.int Go.IntKind.i64 t1.2.2.2.2.2.2.2.2.2.2.1)),(Go.Eng.T.sl 1 x4)]),(Go.Eng.T.agg [(Go.Eng.T.sl 1 x3.1),(Go.Eng.T.v (Go.Value.int Go.IntKind.i64 x3.2.1)),(Go.Eng.T.v (Go.Value.int Go.IntKind.i64 x3.2.2.1)),(Go.Eng.T.sl 1 x3.2.2.2.1)])],()))))) else (bif (Go.Eng.eqS t1.2.2.2.2.2.2.1 (ByteArray.mk #[80,76,65,78,69])) then (ob (Go.Eng.u_entity_rules_1 ([(Go.Eng.T.v (Go.Value.string (ByteArray.mk #[67,65,82,84,69,83,73,65,78,95,80,79,73,78,84])))],())) fun x5=>(ob (Go.Eng.u_entity_rules_1 ([(Go.Eng.T.v (Go.Value.string (ByteArray.mk #[68,73,82,69,67,84,73,79,78])))],())) fun x6=>(ob (Go.Eng.T.sl? 1 t1.2.2.2.2.2.2.2.2.2.2.2.1) fun x7=>(some ([(Go.Eng.T.agg [(Go.Eng.T.sl 1 t1.2.2.2.2.2.2.2.2.1),(Go.Eng.T.v (Go.Value.int Go.IntKind.i64 t1.2.2.2.2.2.2.2.2.2.1)),(Go.Eng.T.v (Go.Value.int Go.IntKind.i64 t1.2.2.2.2.2.2.2.2.2.2.1)),(Go.Eng.T.sl 1 x7)]),(Go.Eng.T.agg [(Go.Eng.T.sl 1 x5.1),(Go.Eng.T.v (Go.Value.int Go.IntKind.i64 x5.2.1)),(Go.Eng.T.v (Go.Value.int Go.IntKind.i64 x5.2.2.1)),(Go.Eng.T.sl 1 x5.2.2.2.1)]),(Go.Eng.T.agg [(Go.Eng.T.sl 1 x6.1),(Go.Eng.T.v (Go.Value.int Go.IntKind.i64 x6.2.1)),(Go.Eng.T.v (Go.Value.int Go.IntKind.i64 x6.2.2.1)),(Go.Eng.T.sl 1 x6.2.2.2.1)])],()))))) else (bif (Go.Eng.eqS t1.2.2.2.2.2.2.1 (ByteArray.mk #[80,79,76,89,95,76,79,79,80])) then (ob (Go.Eng.u_entity_rules_1 ([(Go.Eng.T.v (Go.Value.string (ByteArray.mk #[67,65,82,84,69,83,73,65,78,95,80,79,73,78,84])))],())) fun x8=>(ob (Go.Eng.u_entity_rules_2 (x8.1,(x8.2.1,(x8.2.2.1,(x8.2.2.2.1,((3:Int),((1073741824:Int),()))))))) fun x9=>(ob (Go.Eng.T.sl? 1 t1.2.2.2.2.2.2.2.2.2.2.2.1) fun x10=>(some ([(Go.Eng.T.agg [(Go.Eng.T.sl 1 t1.2.2.2.2.2.2.2.2.1),(Go.Eng.T.v (Go.Value.int Go.IntKind.i64 t1.2.2.2.2.2.2.2.2.2.1)),(Go.Eng.T.v (Go.Value.int Go.IntKind.i64 t1.2.2.2.2.2.2.2.2.2.2.1)),(Go.Eng.T.sl 1 x10)]),(Go.Eng.T.agg [(Go.Eng.T.sl 1 x9.1),(Go.Eng.T.v (Go.Value.int Go.IntKind.i64 x9.2.1)),(Go.Eng.T.v (Go.Value.int Go.IntKind.i64 x9.2.2.1)),(Go.Eng.T.sl 1 x9.2.2.2.1)])],()))))) else (ob (α:=((Unit×Unit×Unit×Unit×Unit×Unit×ByteArray×Bool×List T×Int×Int×T×List T×Int×Int×T×List T×Int×Int×T×Unit)⊕Empty)) (bif (Go.Eng.eqS t1.2.2.2.2.2.2.1 (ByteArray.mk #[70,65,67,69,95,79,85,84,69,82,95,66,79,85,78,68])) then (some (Sum.inl ((),((),((),((),((),((),(t1.2.2.2.2.2.2.1,((Go.Eng.eqS t1.2.2.2.2.2.2.1 (ByteArray.mk #[70,65,67,69,95,79,85,84,69,82,95,66,79,85,78,68])),(t1.2.2.2.2.2.2.2.2.1,(t1.2.2.2.2.2.2.2.2.2.1,(t1.2.2.2.2.2.2.2.2.2.2.1,(t1.2.2.2.2.2.2.2.2.2.2.2.1,(t1.2.2.2.2.2.2.2.2.2.2.2.2.1,(t1.2.2.2.2.2.2.2.2.2.2.2.2.2.1,(t1.2.2.2.2.2.2.2.2.2.2.2.2.2.2.1,(t1.2.2.2.2.2.2.2.2.2.2.2.2.2.2.2.1,(t1.2.2.2.2.2.2.2.2.2.2.2.2.2.2.2.2.1,(t1.2.2.2.2.2.2.2.2.2.2.2.2.2.2.2.2.2.1,(t1.2.2.2.2.2.2.2.2.2.2.2.2.2.2.2.2.2.2.1,(t1.2.2.2.2.2.2.2.2.2.2.2.2.2.2.2.2.2.2.2.1,())))))))))))))))))))))) else (some (Sum.inl ((),((),((),((),((),((),(t1.2.2.2.2.2.2.1,((Go.Eng.eqS t1.2.2.2.2.2.2.1 (ByteArray.mk #[70,65,67,69,95,66,79,85,78,68])),(t1.2.2.2.2.2.2.2.2.1,(t1.2.2.2.2.2.2.2.2.2.1,(t1.2.2.2.2.2.2.2.2.2.2.1,(t1.2.2.2.2.2.2.2.2.2.2.2.1,(t1.2.2.2.2.2.2.2.2.2.2.2.2.1,(t1.2.2.2.2.2.2.2.2.2.2.2.2.2.1,(t1.2.2.2.2.2.2.2.2.2.2.2.2.2.2.1,(t1.2.2.2.2.2.2.2.2.2.2.2.2.2.2.2.1,(t1.2.2.2.2.2.2.2.2.2.2.2.2.2.2.2.2.1,(t1.2.2.2.2.2.2.2.2.2.2.2.2.2.2.2.2.2.1,(t1.2.2.2.2.2.2.2.2.2.2.2.2.2.2.2.2.2.2.1,(t1.2.2.2.2.2.2.2.2.2.2.2.2.2.2.2.2.2.2.2.1,()))))))))))))))))))))))) fun q11=>onS q11 (fun t12=>(bif t12.2.2.2.2.2.2.2.1 then (ob (Go.Eng.u_entity_rules_1 ([(Go.Eng.T.v (Go.Value.string (ByteArray.mk #[80,79,76,89,95,76,79,79,80])))],())) fun x13=>(ob (Go.Eng.u_entity_rules_3 ([(Go.Eng.T.v (Go.Value.string (ByteArray.mk #[84]))),(Go.Eng.T.v (Go.Value.string (ByteArray.mk #[70])))],())) fun x14=>(ob (Go.Eng.T.sl? 1 t12.2.2.2.2.2.2.2.2.2.2.2.1) fun x15=>(some ([(Go.Eng.T.agg [(Go.Eng.T.sl 1 t12.2.2.2.2.2.2.2.2.1),(Go.Eng.T.v (Go.Value.int Go.IntKind.i64 t12.2.2.2.2.2.2.2.2.2.1)),(Go.Eng.T.v (Go.Value.int Go.IntKind.i64 t12.2.2.2.2.2.2.2.2.2.2.1)),(Go.Eng.T.sl 1 x15)]),(Go.Eng.T.agg [(Go.Eng.T.sl 1 x13.1),(Go.Eng.T.v (Go.Value.int Go.IntKind.i64 x13.2.1)),(Go.Eng.T.v (Go.Value.int Go.IntKind.i64 x13.2.2.1)),(Go.Eng.T.sl 1 x13.2.2.2.1)]),(Go.Eng.T.agg [(Go.Eng.T.sl 1 x14.1),(Go.Eng.T.v (Go.Value.int Go.IntKind.i64 x14.2.1)),(Go.Eng.T.v (Go.Value.int Go.IntKind.i64 x14.2.2.1)),(Go.Eng.T.sl 1 x14.2.2.2.1)])],()))))) else (bif (Go.Eng.eqS t12.2.2.2.2.2.2.1 (ByteArray.mk #[70,65,67,69,95,83,85,82,70,65,67,69])) then (ob (Go.Eng.u_entity_rules_1 ([(Go.Eng.T.v (Go.Value.string (ByteArray.mk #[70,65,67,69,95,79,85,84,69,82,95,66,79,85,78,68]))),(Go.Eng.T.v (Go.Value.string (ByteArray.mk #[70,65,67,69,95,66,79,85,78,68])))],())) fun x16=>(ob (Go.Eng.u_entity_rules_2 (x16.1,(x16.2.1,(x16.2.2.1,(x16.2.2.2.1,((1:Int),((1073741824:Int),()))))))) fun x17=>(ob (Go.Eng.u_entity_rules_1 ([(Go.Eng.T.v (Go.Value.string (ByteArray.mk #[80,76,65,78,69])))],())) fun x18=>(ob (Go.Eng.u_entity_rules_3 ([(Go.Eng.T.v (Go.Value.string (ByteArray.mk #[84])))],())) fun x19=>(ob (Go.Eng.T.sl? 1 t12.2.2.2.2.2.2.2.2.2.2.2.1) fun x20=>(some ([(Go.Eng.T.agg [(Go.Eng.T.sl 1 t12.2.2.2.2.2.2.2.2.1),(Go.Eng.T.v (Go.Value.int Go.IntKind.i64 t12.2.2.2.2.2.2.2.2.2.1)),(Go.Eng.T.v (Go.Value.int Go.IntKind.i64 t12.2.2.2.2.2.2.2.2.2.2.1)),(Go.Eng.T.sl 1 x20)]),(Go.Eng.T.agg [(Go.Eng.T.sl 1 x17.1),(Go.Eng.T.v (Go.Value.int Go.IntKind.i64 x17.2.1)),(Go.Eng.T.v (Go.Value.int Go.IntKind.i64 x17.2.2.1)),(Go.Eng.T.sl 1 x17.2.2.2.1)]),(Go.Eng.T.agg [(Go.Eng.T.sl 1 x18.1),(Go.Eng.T.v (Go.Value.int Go.IntKind.i64 x18.2.1)),(Go.Eng.T.v (Go.Value.int Go.IntKind.i64 x18.2.2.1)),(Go.Eng.T.sl 1 x18.2.2.2.1)]),(Go.Eng.T.agg [(Go.Eng.T.sl 1 x19.1),(Go.Eng.T.v (Go.Value.int Go.IntKind.i64 x19.2.1)),(Go.Eng.T.v (Go.Value.int Go.IntKind.i64 x19.2.2.1)),(Go.Eng.T.sl 1 x19.2.2.2.1)])],()))))))) else (bif (Go.Eng.eqS t12.2.2.2.2.2.2.1 (ByteArray.mk #[67,76,79,83,69,68,95,83,72,69,76,76])) then (ob (Go.Eng.u_entity_rules_1 ([(Go.Eng.T.v (Go.Value.string (ByteArray.mk #[70,65,67,69,95,83,85,82,70,65,67,69])))],())) fun x21=>(ob (Go.Eng.u_entity_rules_2 (x21.1,(x21.2.1,(x21.2.2.1,(x21.2.2.2.1,((0:Int),((1073741824:Int),()))))))) fun x22=>(ob (Go.Eng.T.sl? 1 t12.2.2.2.2.2.2.2.2.2.2.2.1) fun x23=>(some ([(Go.Eng.T.agg [(Go.Eng.T.sl 1 t12.2.2.2.2.2.2.2.2.1),(Go.Eng.T.v (Go.Value.int Go.IntKind.i64 t12.2.2.2.2.2.2.2.2.2.1)),(Go.Eng.T.v (Go.Value.int Go.IntKind.i64 t12.2.2.2.2.2.2.2.2.2.2.1)),(Go.Eng.T.sl 1 x23)]),(Go.Eng.T.agg [(Go.Eng.T.sl 1 x22.1),(Go.Eng.T.v (Go.Value.int Go.IntKind.i64 x22.2.1)),(Go.Eng.T.v (Go.Value.int Go.IntKind.i64 x22.2.2.1)),(Go.Eng.T.sl 1 x22.2.2.2.1)])],()))))) else (bif (Go.Eng.eqS t12.2.2.2.2.2.2.1 (ByteArray.mk #[70,65,67,69,84,69,68,95,66,82,69,80])) then (ob (Go.Eng.u_entity_rules_1 ([(Go.Eng.T.v (Go.Value.string (ByteArray.mk #[67,76,79,83,69,68,95,83,72,69,76,76])))],())) fun x24=>(ob (Go.Eng.T.sl? 1 t12.2.2.2.2.2.2.2.2.2.2.2.1) fun x25=>(some ([(Go.Eng.T.agg [(Go.Eng.T.sl 1 t12.2.2.2.2.2.2.2.2.1),(Go.Eng.T.v (Go.Value.int Go.IntKind.i64 t12.2.2.2.2.2.2.2.2.2.1)),(Go.Eng.T.v (Go.Value.int Go.IntKind.i64 t12.2.2.2.2.2.2.2.2.2.2.1)),(Go.Eng.T.sl 1 x25)]),(Go.Eng.T.agg [(Go.Eng.T.sl 1 x24.1),(Go.Eng.T.v (Go.Value.int Go.IntKind.i64 x24.2.1)),(Go.Eng.T.v (Go.Value.int Go.IntKind.i64 x24.2.2.1)),(Go.Eng.T.sl 1 x24.2.2.2.1)])],())))) else (bif (Go.Eng.eqS t12.2.2.2.2.2.2.1 (ByteArray.mk #[84,79,76,69,82,65,78,67,69])) then (ob (Go.Eng.T.sl? 1 t12.2.2.2.2.2.2.2.2.2.2.2.2.2.2.2.2.2.2.2.1) fun x26=>(ob (Go.Eng.T.sl? 1 t12.2.2.2.2.2.2.2.2.2.2.2.2.2.2.2.2.2.2.2.1) fun x27=>(ob (Go.Eng.T.sl? 1 t12.2.2.2.2.2.2.2.2.2.2.2.2.2.2.2.1) fun x28=>(some ([(Go.Eng.T.agg [(Go.Eng.T.sl 1 t12.2.2.2.2.2.2.2.2.2.2.2.2.2.2.2.2.1),(Go.Eng.T.v (Go.Value.int Go.IntKind.i64 t12.2.2.2.2.2.2.2.2.2.2.2.2.2.2.2.2.2.1)),(Go.Eng.T.v (Go.Value.int Go.IntKind.i64 t12.2.2.2.2.2.2.2.2.2.2.2.2.2.2.2.2.2.2.1)),(Go.Eng.T.sl 1 x26)]),(Go.Eng.T.agg [(Go.Eng.T.sl 1 t12.2.2.2.2.2.2.2.2.2.2.2.2.2.2.2.2.1),(Go.Eng.T.v (Go.Value.int Go.IntKind.i64 t12.2.2.2.2.2.2.2.2.2.2.2.2.2.2.2.2.2.1)),(Go.Eng.T.v (Go.Value.int Go.IntKind.i64 t12.2.2.2.2.2.2.2.2.2.2.2.2.2.2.2.2.2.2.1)),(Go.Eng.T.sl 1 x27)]),(Go.Eng.T.agg [(Go.Eng.T.sl 1 t12.2.2.2.2.2.2.2.2.2.2.2.2.1),(Go.Eng.T.v (Go.Value.int Go.IntKind.i64 t12.2.2.2.2.2.2.2.2.2.2.2.2.2.1)),(Go.Eng.T.v (Go.Value.int Go.IntKind.i64 t12.2.2.2.2.2.2.2.2.2.2.2.2.2.2.1)),(Go.Eng.T.sl 1 x28)])],()))))) else (some ([],())))))))) fun q29=>noS q29))))) fun q30=>noS q30)
def h_entity_rules:HT:=(.seq .leaf (.seq .leaf (.seq .leaf (.seq .leaf (.seq .leaf (.seq .leaf (.seq .leaf (.seq (.seq .leaf (.one (.seq (.join [(AEx.normal,{ items:=[.slot 3,.slot 4,.slot 5,.slot 6,.slot 7,.slot 8,.slot 15,.slot 16,.box 3 4,.box 4 4,.box 5 4],shapes:=[.lit (Go.Eng.C.box 3 0),.lit (Go.Eng.C.box 4 0),.lit (Go.Eng.C.box 5 0),.lit (Go.Eng.C.t (Go.Eng.T.v (Go.Value.func (Go.Fn.func 69) #[] #[]))),.lit (Go.Eng.C.t (Go.Eng.T.v (Go.Value.func (Go.Fn.func 70) #[] #[]))),.lit (Go.Eng.C.t (Go.Eng.T.v (Go.Value.func (Go.Fn.func 71) #[] #[]))),.str,.bool,.row 3 1 9,.int Go.IntKind.i64,.int Go.IntKind.i64,.tree,.row 3 1 11,.int Go.IntKind.i64,.int Go.IntKind.i64,.tree,.row 3 1 13,.int Go.IntKind.i64,.int Go.IntKind.i64,.tree] })] .leaf) (.cond .leaf (.seq .leaf (.cond .leaf (.seq .leaf (.cond .leaf (.seq (.join [(AEx.normal,{ items:=[.slot 3,.slot 4,.slot 5,.slot 6,.slot 7,.slot 8,.slot 15,.slot 43,.box 3 4,.box 4 4,.box 5 4],shapes:=[.lit (Go.Eng.C.box 3 0),.lit (Go.Eng.C.box 4 0),.lit (Go.Eng.C.box 5 0),.lit (Go.Eng.C.t (Go.Eng.T.v (Go.Value.func (Go.Fn.func 69) #[] #[]))),.lit (Go.Eng.C.t (Go.Eng.T.v (Go.Value.func (Go.Fn.func 70) #[] #[]))),.lit (Go.Eng.C.t (Go.Eng.T.v (Go.Value.func (Go.Fn.func 71) #[] #[]))),.str,.bool,.row 3 1 9,.int Go.IntKind.i64,.int Go.IntKind.i64,.tree,.row 3 1 11,.int Go.IntKind.i64,.int Go.IntKind.i64,.tree,.row 3 1 13,.int Go.IntKind.i64,.int Go.IntKind.i64,.tree] })] .leaf) .leaf))))))))) .leaf))))))))
theorem ok_entity_rules:TabOK Try.prog [9000000,4000069,4000070,4000071,20000003,20000004,20000005,80000116,28999999,9000002,90500028,90500031,90500039,90500048,90500051,90500059,90500063,90500066,90500074,90500082] g_entity_rules:=(TabOK.cons (fun _=>⟨_,Try.func69,by kernel_rfl,by kernel_rfl⟩) k_entity_rules_1 (calleeOf_nat _ _) (fun h=>by cases h) (by kernel_rfl) (fun _=>callK_framed (calleeOf_nat _ _) rfl rfl) (by kernel_rfl) (TabOK.cons (fun _=>⟨_,Try.func70,by kernel_rfl,by kernel_rfl⟩) k_entity_rules_2 (calleeOf_nat _ _) (fun h=>by cases h) (by kernel_rfl) (fun _=>callK_framed (calleeOf_nat _ _) rfl rfl) (by kernel_rfl) (TabOK.cons (fun _=>⟨_,Try.func71,by kernel_rfl,by kernel_rfl⟩) k_entity_rules_3 (calleeOf_nat _ _) (fun h=>by cases h) (by kernel_rfl) (fun _=>callK_framed (calleeOf_nat _ _) rfl rfl) (by kernel_rfl) (TabOK.flagG (by kernel_rfl) (by kernel_rfl) (by kernel_rfl) (by kernel_rfl)))))
theorem e_entity_rules:∀t,bodyG Try.prog g_entity_rules [9000000,4000069,4000070,4000071,20000003,20000004,20000005,80000116,28999999,9000002,90500028,90500031,90500039,90500048,90500051,90500059,90500063,90500066,90500074,90500082] h_entity_rules Try.f53 sg_entity_rules t=u_entity_rules t:=by
 intro t
 kernel_rfl
theorem k_entity_rules:(calleeOf sg_entity_rules u_entity_rules).OK Try.prog 53:=calleeG_ok mixed ok_entity_rules Try.func53 (by kernel_rfl) (by kernel_rfl) e_entity_rules
def sg_slices_Index___int_int_:Sig:={ na:=2,np:=0,hin:={ items:=[.slot 0,.slot 1],shapes:=[.sl 1,.int Go.IntKind.i64] },nres:=1,kept:=[],nnew:=0,hout:={ items:=[.slot 0],shapes:=[.int Go.IntKind.i64] },nob:=38 }
noncomputable def g_slices_Index___int_int_:List (Go.FuncId×Callee):=[]
noncomputable def u_slices_Index___int_int__l0(s0:(List T×Int×Int×Int×Unit)):Option ((List T×Int×Int×Int×Unit)⊕((Int×Unit)⊕((Unit)⊕Empty))):=
 (bif (Go.Eng.ltI s0.2.2.2.1 s0.2.2.1) then (ob (Go.Eng.idxL s0.1 s0.2.2.2.1) fun x1=>(ob (Go.Eng.T.int? Go.IntKind.i64 (Go.Eng.T.cell x1 0)) fun x2=>(bif (Go.Eng.eqI s0.2.1 x2) then (some (Sum.inr (Sum.inl (s0.2.2.2.1,())))) else (some (Sum.inl (s0.1,(s0.2.1,(s0.2.2.1,((Go.Eng.wr Go.IntKind.i64 (Go.Eng.addI s0.2.2.2.1 (1:Int))),()))))))))) else (some (Sum.inr (Sum.inr (Sum.inl ())))))
noncomputable def u_slices_Index___int_int_(t:((List T)×(Int×Unit))):Option (Int×Unit):=
 (ob (loopU u_slices_Index___int_int__l0 (t.1,(t.2.1,((Go.Eng.lenL t.1),((0:Int),()))))) fun q3=>onS q3 (fun t4=>(some (t4.1,()))) fun q5=>onS q5 (fun t6=>(some ((-1:Int),()))) fun q7=>noS q7)
def h_slices_Index___int_int_:HT:=(.seq .leaf (.seq (.seq .leaf (.one (.loop { items:=[.slot 0,.slot 1,.slot 7,.slot 8],shapes:=[.sl 1,.int Go.IntKind.i64,.int Go.IntKind.i64,.int Go.IntKind.i64] } [(AEx.ret,{ items:=[.slot 4],shapes:=[.int Go.IntKind.i64] }),((AEx.exit 0),{ items:=[],shapes:=[] })] .leaf))) .leaf))
theorem ok_slices_Index___int_int_:TabOK Try.prog [] g_slices_Index___int_int_:=TabOK.nil
theorem e_slices_Index___int_int_:∀t,bodyG Try.prog g_slices_Index___int_int_ [] h_slices_Index___int_int_ Try.f86 sg_slices_Index___int_int_ t=u_slices_Index___int_int_ t:=by
 intro t
 kernel_rfl
theorem k_slices_Index___int_int_:(calleeOf sg_slices_Index___int_int_ u_slices_Index___int_int_).OK Try.prog 86:=calleeG_ok mixed ok_slices_Index___int_int_ Try.func86 (by kernel_rfl) (by kernel_rfl) e_slices_Index___int_int_
def sg_slices_Contains___int_int_:Sig:={ na:=2,np:=0,hin:={ items:=[.slot 0,.slot 1],shapes:=[.sl 1,.int Go.IntKind.i64] },nres:=1,kept:=[],nnew:=0,hout:={ items:=[.slot 0],shapes:=[.bool] },nob:=18 }
noncomputable def g_slices_Contains___int_int_:List (Go.FuncId×Callee):=[(86,(calleeOf sg_slices_Index___int_int_ u_slices_Index___int_int_))]
noncomputable def u_slices_Contains___int_int_(t:((List T)×(Int×Unit))):Option (Bool×Unit):=
 (ob (Go.Eng.u_slices_Index___int_int_ (t.1,(t.2.1,()))) fun x0=>(some ((Go.Eng.leI (0:Int) x0.1),())))
def h_slices_Contains___int_int_:HT:=.leaf
theorem ok_slices_Contains___int_int_:TabOK Try.prog [86] g_slices_Contains___int_int_:=(TabOK.cons (fun _=>⟨_,Try.func86,by kernel_rfl,by kernel_rfl⟩) k_slices_Index___int_int_ (calleeOf_nat _ _) (fun _=>(calleeOf_pure (by kernel_rfl))) (by kernel_rfl) (fun _=>callK_framed (calleeOf_nat _ _) rfl rfl) (by kernel_rfl) TabOK.nil)
theorem e_slices_Contains___int_int_:∀t,bodyG Try.prog g_slices_Contains___int_int_ [86] h_slices_Contains___int_int_ Try.f73 sg_slices_Contains___int_int_ t=u_slices_Contains___int_int_ t:=by
 intro t
 kernel_rfl
theorem k_slices_Contains___int_int_:(calleeOf sg_slices_Contains___int_int_ u_slices_Contains___int_int_).OK Try.prog 73:=calleeG_ok mixed ok_slices_Contains___int_int_ Try.func73 (by kernel_rfl) (by kernel_rfl) e_slices_Contains___int_int_
def sg_slices_Index___string_string_:Sig:={ na:=2,np:=0,hin:={ items:=[.slot 0,.slot 1],shapes:=[.sl 1,.str] },nres:=1,kept:=[],nnew:=0,hout:={ items:=[.slot 0],shapes:=[.int Go.IntKind.i64] },nob:=38 }
noncomputable def g_slices_Index___string_string_:List (Go.FuncId×Callee):=[]
noncomputable def u_slices_Index___string_string__l0(s0:(List T×ByteArray×Int×Int×Unit)):Option ((List T×ByteArray×Int×Int×Unit)⊕((Int×Unit)⊕((Unit)⊕Empty))):=
 (bif (Go.Eng.ltI s0.2.2.2.1 s0.2.2.1) then (ob (Go.Eng.idxL s0.1 s0.2.2.2.1) fun x1=>(ob (Go.Eng.T.str? (Go.Eng.T.cell x1 0)) fun x2=>(bif (Go.Eng.eqS s0.2.1 x2) then (some (Sum.inr (Sum.inl (s0.2.2.2.1,())))) else (some (Sum.inl (s0.1,(s0.2.1,(s0.2.2.1,((Go.Eng.wr Go.IntKind.i64 (Go.Eng.addI s0.2.2.2.1 (1:Int))),()))))))))) else (some (Sum.inr (Sum.inr (Sum.inl ())))))
noncomputable def u_slices_Index___string_string_(t:((List T)×(ByteArray×Unit))):Option (Int×Unit):=
 (ob (loopU u_slices_Index___string_string__l0 (t.1,(t.2.1,((Go.Eng.lenL t.1),((0:Int),()))))) fun q3=>onS q3 (fun t4=>(some (t4.1,()))) fun q5=>onS q5 (fun t6=>(some ((-1:Int),()))) fun q7=>noS q7)
def h_slices_Index___string_string_:HT:=(.seq .leaf (.seq (.seq .leaf (.one (.loop { items:=[.slot 0,.slot 1,.slot 7,.slot 8],shapes:=[.sl 1,.str,.int Go.IntKind.i64,.int Go.IntKind.i64] } [(AEx.ret,{ items:=[.slot 4],shapes:=[.int Go.IntKind.i64] }),((AEx.exit 0),{ items:=[],shapes:=[] })] .leaf))) .leaf))
theorem ok_slices_Index___string_string_:TabOK Try.prog [] g_slices_Index___string_string_:=TabOK.nil
theorem e_slices_Index___string_string_:∀t,bodyG Try.prog g_slices_Index___string_string_ [] h_slices_Index___string_string_ Try.f74 sg_slices_Index___string_string_ t=u_slices_Index___string_string_ t:=by
 intro t
 kernel_rfl
theorem k_slices_Index___string_string_:(calleeOf sg_slices_Index___string_string_ u_slices_Index___string_string_).OK Try.prog 74:=calleeG_ok mixed ok_slices_Index___string_string_ Try.func74 (by kernel_rfl) (by kernel_rfl) e_slices_Index___string_string_
def sg_slices_Contains___string_string_:Sig:={ na:=2,np:=0,hin:={ items:=[.slot 0,.slot 1],shapes:=[.sl 1,.str] },nres:=1,kept:=[],nnew:=0,hout:={ items:=[.slot 0],shapes:=[.bool] },nob:=18 }
noncomputable def g_slices_Contains___string_string_:List (Go.FuncId×Callee):=[(74,(calleeOf sg_slices_Index___string_string_ u_slices_Index___string_string_))]
noncomputable def u_slices_Contains___string_string_(t:((List T)×(ByteArray×Unit))):Option (Bool×Unit):=
 (ob (Go.Eng.u_slices_Index___string_string_ (t.1,(t.2.1,()))) fun x0=>(some ((Go.Eng.leI (0:Int) x0.1),())))
def h_slices_Contains___string_string_:HT:=.leaf
theorem ok_slices_Contains___string_string_:TabOK Try.prog [74] g_slices_Contains___string_string_:=(TabOK.cons (fun _=>⟨_,Try.func74,by kernel_rfl,by kernel_rfl⟩) k_slices_Index___string_string_ (calleeOf_nat _ _) (fun _=>(calleeOf_pure (by kernel_rfl))) (by kernel_rfl) (fun _=>callK_framed (calleeOf_nat _ _) rfl rfl) (by kernel_rfl) TabOK.nil)
theorem e_slices_Contains___string_string_:∀t,bodyG Try.prog g_slices_Contains___string_string_ [74] h_slices_Contains___string_string_ Try.f58 sg_slices_Contains___string_string_ t=u_slices_Contains___string_string_ t:=by
 intro t
 kernel_rfl
theorem k_slices_Contains___string_string_:(calleeOf sg_slices_Contains___string_string_ u_slices_Contains___string_string_).OK Try.prog 58:=calleeG_ok mixed ok_slices_Contains___string_string_ Try.func58 (by kernel_rfl) (by kernel_rfl) e_slices_Contains___string_string_
def sg__entity_rule__fits:Sig:={ na:=2,np:=0,hin:={ items:=[.aggs 0 4,.aggs 1 7],shapes:=[.sl 1,.int Go.IntKind.i64,.int Go.IntKind.i64,.sl 1,.int Go.IntKind.i64,.bool,.sl 1,.sl 1,.str,.int Go.IntKind.i64,.sl 7] },nres:=1,kept:=[],nnew:=0,hout:={ items:=[.slot 0],shapes:=[.bool] },nob:=44 }
noncomputable def g__entity_rule__fits:List (Go.FuncId×Callee):=[(73,(calleeOf sg_slices_Contains___int_int_ u_slices_Contains___int_int_)),(58,(calleeOf sg_slices_Contains___string_string_ u_slices_Contains___string_string_))]
noncomputable def u__entity_rule__fits(t:((List T)×(Int×(Int×((List T)×(Int×(Bool×((List T)×((List T)×(ByteArray×(Int×((List T)×Unit)))))))))))):Option (Bool×Unit):=
 (ob (Go.Eng.u_slices_Contains___int_int_ (t.1,(t.2.2.2.2.1,()))) fun x0=>(bif x0.1 then (bif (Bool.not (Go.Eng.eqI t.2.2.2.2.1 (4:Int))) then (some (Bool.true,())) else (ob (Go.Eng.u_slices_Contains___string_string_ (t.2.2.2.1,(t.2.2.2.2.2.2.2.2.1,()))) fun x1=>(some (x1.1,())))) else (some (Bool.false,()))))
def h__entity_rule__fits:HT:=.leaf
theorem ok__entity_rule__fits:TabOK Try.prog [73,58] g__entity_rule__fits:=(TabOK.cons (fun _=>⟨_,Try.func73,by kernel_rfl,by kernel_rfl⟩) k_slices_Contains___int_int_ (calleeOf_nat _ _) (fun _=>(calleeOf_pure (by kernel_rfl))) (by kernel_rfl) (fun _=>callK_framed (calleeOf_nat _ _) rfl rfl) (by kernel_rfl) (TabOK.cons (fun _=>⟨_,Try.func58,by kernel_rfl,by kernel_rfl⟩) k_slices_Contains___string_string_ (calleeOf_nat _ _) (fun _=>(calleeOf_pure (by kernel_rfl))) (by kernel_rfl) (fun _=>callK_framed (calleeOf_nat _ _) rfl rfl) (by kernel_rfl) TabOK.nil))
theorem e__entity_rule__fits:∀t,bodyG Try.prog g__entity_rule__fits [73,58] h__entity_rule__fits Try.f57 sg__entity_rule__fits t=u__entity_rule__fits t:=by
 intro t
 kernel_rfl
theorem k__entity_rule__fits:(calleeOf sg__entity_rule__fits u__entity_rule__fits).OK Try.prog 57:=calleeG_ok mixed ok__entity_rule__fits Try.func57 (by kernel_rfl) (by kernel_rfl) e__entity_rule__fits
def sg__entity_rule__elements:Sig:={ na:=2,np:=0,hin:={ items:=[.aggs 0 4,.aggs 1 7],shapes:=[.sl 1,.int Go.IntKind.i64,.int Go.IntKind.i64,.sl 1,.int Go.IntKind.i64,.bool,.sl 1,.sl 1,.str,.int Go.IntKind.i64,.sl 7] },nres:=2,kept:=[],nnew:=0,hout:={ items:=[.slot 0,.slot 1],shapes:=[.sl 7,.bool] },nob:=64 }
noncomputable def g__entity_rule__elements:List (Go.FuncId×Callee):=[]
noncomputable def u__entity_rule__elements(t:((List T)×(Int×(Int×((List T)×(Int×(Bool×((List T)×((List T)×(ByteArray×(Int×((List T)×Unit)))))))))))):Option ((List T)×(Bool×Unit)):=
 (bif (Go.Eng.eqI t.2.2.1 (0:Int)) then (some ([(Go.Eng.T.agg [(Go.Eng.T.v (Go.Value.int Go.IntKind.i64 t.2.2.2.2.1)),(Go.Eng.T.v (Go.Value.bool t.2.2.2.2.2.1)),(Go.Eng.T.sl 1 t.2.2.2.2.2.2.1),(Go.Eng.T.sl 1 t.2.2.2.2.2.2.2.1),(Go.Eng.T.v (Go.Value.string t.2.2.2.2.2.2.2.2.1)),(Go.Eng.T.v (Go.Value.int Go.IntKind.i64 t.2.2.2.2.2.2.2.2.2.1)),(Go.Eng.T.sl 7 t.2.2.2.2.2.2.2.2.2.2.1)])],(Bool.true,()))) else (bif (Go.Eng.eqI t.2.2.2.2.1 (6:Int)) then (bif (Go.Eng.leI t.2.1 (Go.Eng.lenL t.2.2.2.2.2.2.2.2.2.2.1)) then (some (t.2.2.2.2.2.2.2.2.2.2.1,((Go.Eng.leI (Go.Eng.lenL t.2.2.2.2.2.2.2.2.2.2.1) t.2.2.1),()))) else (some (t.2.2.2.2.2.2.2.2.2.2.1,(Bool.false,())))) else (some (t.2.2.2.2.2.2.2.2.2.2.1,(Bool.false,())))))
def h__entity_rule__elements:HT:=.leaf
theorem ok__entity_rule__elements:TabOK Try.prog [] g__entity_rule__elements:=TabOK.nil
theorem e__entity_rule__elements:∀t,bodyG Try.prog g__entity_rule__elements [] h__entity_rule__elements Try.f54 sg__entity_rule__elements t=u__entity_rule__elements t:=by
 intro t
 kernel_rfl
theorem k__entity_rule__elements:(calleeOf sg__entity_rule__elements u__entity_rule__elements).OK Try.prog 54:=calleeG_ok mixed ok__entity_rule__elements Try.func54 (by kernel_rfl) (by kernel_rfl) e__entity_rule__elements
def sg_entity_typed_1:Sig:={ na:=2,np:=1,hin:={ items:=[.aggs 0 7,.slot 1,.box 0 4],shapes:=[.int Go.IntKind.i64,.bool,.sl 1,.sl 1,.str,.int Go.IntKind.i64,.sl 7,.lit (.box 0 0),.sl 1,.int Go.IntKind.i64,.int Go.IntKind.i64,.sl 1] },nres:=1,kept:=[],nnew:=0,hout:={ items:=[.slot 0,.box 0 4],shapes:=[.bool,.sl 1,.int Go.IntKind.i64,.int Go.IntKind.i64,.sl 1] },nob:=16 }
noncomputable def g_entity_typed_1:List (Go.FuncId×Callee):=[(57,(calleeOf sg__entity_rule__fits u__entity_rule__fits))]
noncomputable def u_entity_typed_1(t:(Int×(Bool×((List T)×((List T)×(ByteArray×(Int×((List T)×(Unit×((List T)×(Int×(Int×((List T)×Unit))))))))))))):Option (Bool×((List T)×(Int×(Int×((List T)×Unit))))):=
 (ob (Go.Eng.u__entity_rule__fits (t.2.2.2.2.2.2.2.2.1,(t.2.2.2.2.2.2.2.2.2.1,(t.2.2.2.2.2.2.2.2.2.2.1,(t.2.2.2.2.2.2.2.2.2.2.2.1,(t.1,(t.2.1,(t.2.2.1,(t.2.2.2.1,(t.2.2.2.2.1,(t.2.2.2.2.2.1,(t.2.2.2.2.2.2.1,())))))))))))) fun x0=>(some ((Bool.not x0.1),(t.2.2.2.2.2.2.2.2.1,(t.2.2.2.2.2.2.2.2.2.1,(t.2.2.2.2.2.2.2.2.2.2.1,(t.2.2.2.2.2.2.2.2.2.2.2.1,())))))))
def h_entity_typed_1:HT:=.leaf
theorem ok_entity_typed_1:TabOK Try.prog [57] g_entity_typed_1:=(TabOK.cons (fun _=>⟨_,Try.func57,by kernel_rfl,by kernel_rfl⟩) k__entity_rule__fits (calleeOf_nat _ _) (fun _=>(calleeOf_pure (by kernel_rfl))) (by kernel_rfl) (fun _=>callK_framed (calleeOf_nat _ _) rfl rfl) (by kernel_rfl) TabOK.nil)
theorem e_entity_typed_1:∀t,bodyG Try.prog g_entity_typed_1 [57] h_entity_typed_1 Try.f56 sg_entity_typed_1 t=u_entity_typed_1 t:=by
 intro t
 kernel_rfl
theorem k_entity_typed_1:(calleeOf sg_entity_typed_1 u_entity_typed_1).OK Try.prog 56:=calleeG_ok mixed ok_entity_typed_1 Try.func56 (by kernel_rfl) (by kernel_rfl) e_entity_typed_1
def sg_slices_IndexFunc___api_Arg_api_Arg_:Sig:={ na:=2,np:=1,hin:={ items:=[.slot 0,.slot 1,.box 0 4],shapes:=[.sl 7,.lit (.fn 56 [(0,0)]),.sl 1,.int Go.IntKind.i64,.int Go.IntKind.i64,.sl 1] },nres:=1,kept:=[],nnew:=0,hout:={ items:=[.slot 0,.box 0 4],shapes:=[.int Go.IntKind.i64,.sl 1,.int Go.IntKind.i64,.int Go.IntKind.i64,.sl 1] },nob:=38 }
noncomputable def g_slices_IndexFunc___api_Arg_api_Arg_:List (Go.FuncId×Callee):=[(56,(calleeOf sg_entity_typed_1 u_entity_typed_1))]
noncomputable def u_slices_IndexFunc___api_Arg_api_Arg__l0(s0:(List T×Unit×Int×Int×List T×Int×Int×List T×Unit)):Option ((List T×Unit×Int×Int×List T×Int×Int×List T×Unit)⊕((Int×List T×Int×Int×List T×Unit)⊕((List T×Int×Int×List T×Unit)⊕Empty))):=
 (bif (Go.Eng.ltI s0.2.2.2.1 s0.2.2.1) then (ob (Go.Eng.idxL s0.1 s0.2.2.2.1) fun x1=>(ob (Go.Eng.T.int? Go.IntKind.i64 (Go.Eng.T.cell x1 0)) fun x2=>(ob (Go.Eng.T.bool? (Go.Eng.T.cell x1 1)) fun x3=>(ob (Go.Eng.T.sl? 1 (Go.Eng.T.cell x1 2)) fun x4=>(ob (Go.Eng.T.sl? 1 (Go.Eng.T.cell x1 3)) fun x5=>(ob (Go.Eng.T.str? (Go.Eng.T.cell x1 4)) fun x6=>(ob (Go.Eng.T.int? Go.IntKind.i64 (Go.Eng.T.cell x1 5)) fun x7=>(ob (Go.Eng.T.sl? 7 (Go.Eng.T.cell x1 6)) fun x8=>(ob (Go.Eng.u_entity_typed_1 (x2,(x3,(x4,(x5,(x6,(x7,(x8,((),(s0.2.2.2.2.1,(s0.2.2.2.2.2.1,(s0.2.2.2.2.2.2.1,(s0.2.2.2.2.2.2.2.1,()))))))))))))) fun x9=>(bif x9.1 then (some (Sum.inr (Sum.inl (s0.2.2.2.1,(x9.2.1,(x9.2.2.1,(x9.2.2.2.1,(x9.2.2.2.2.1,())))))))) else (some (Sum.inl (s0.1,((),(s0.2.2.1,((Go.Eng.wr Go.IntKind.i64 (Go.Eng.addI s0.2.2.2.1 (1:Int))),(x9.2.1,(x9.2.2.1,(x9.2.2.2.1,(x9.2.2.2.2.1,())))))))))))))))))))) else (some (Sum.inr (Sum.inr (Sum.inl (s0.2.2.2.2.1,(s0.2.2.2.2.2.1,(s0.2.2.2.2.2.2.1,(s0.2.2.2.2.2.2.2.1,())))))))))
noncomputable def u_slices_IndexFunc___api_Arg_api_Arg_(t:((List T)×(Unit×((List T)×(Int×(Int×((List T)×Unit))))))):Option (Int×((List T)×(Int×(Int×((List T)×Unit))))):=
 (ob (loopU u_slices_IndexFunc___api_Arg_api_Arg__l0 (t.1,((),((Go.Eng.lenL t.1),((0:Int),(t.2.2.1,(t.2.2.2.1,(t.2.2.2.2.1,(t.2.2.2.2.2.1,()))))))))) fun q10=>onS q10 (fun t11=>(some (t11.1,(t11.2.1,(t11.2.2.1,(t11.2.2.2.1,(t11.2.2.2.2.1,()))))))) fun q12=>onS q12 (fun t13=>(some ((-1:Int),(t13.1,(t13.2.1,(t13.2.2.1,(t13.2.2.2.1,()))))))) fun q14=>noS q14)
def h_slices_IndexFunc___api_Arg_api_Arg_:HT:=(.seq .leaf (.seq (.seq .leaf (.one (.loop { items:=[.slot 0,.slot 1,.slot 7,.slot 8,.box 0 4],shapes:=[.sl 7,.lit (Go.Eng.C.fn 56 [(0,0)]),.int Go.IntKind.i64,.int Go.IntKind.i64,.sl 1,.int Go.IntKind.i64,.int Go.IntKind.i64,.sl 1] } [(AEx.ret,{ items:=[.slot 4,.box 0 4],shapes:=[.int Go.IntKind.i64,.sl 1,.int Go.IntKind.i64,.int Go.IntKind.i64,.sl 1] }),((AEx.exit 0),{ items:=[.box 0 4],shapes:=[.sl 1,.int Go.IntKind.i64,.int Go.IntKind.i64,.sl 1] })] .leaf))) .leaf))
theorem ok_slices_IndexFunc___api_Arg_api_Arg_:TabOK Try.prog [] g_slices_IndexFunc___api_Arg_api_Arg_:=(TabOK.cons (fun _=>⟨_,Try.func56,by kernel_rfl,by kernel_rfl⟩) k_entity_typed_1 (calleeOf_nat _ _) (fun h=>by cases h) (by kernel_rfl) (fun _=>callK_framed (calleeOf_nat _ _) rfl rfl) (by kernel_rfl) TabOK.nil)
theorem e_slices_IndexFunc___api_Arg_api_Arg_:∀t,bodyG Try.prog g_slices_IndexFunc___api_Arg_api_Arg_ [] h_slices_IndexFunc___api_Arg_api_Arg_ Try.f72 sg_slices_IndexFunc___api_Arg_api_Arg_ t=u_slices_IndexFunc___api_Arg_api_Arg_ t:=by
 intro t
 kernel_rfl
theorem k_slices_IndexFunc___api_Arg_api_Arg_:(calleeOf sg_slices_IndexFunc___api_Arg_api_Arg_ u_slices_IndexFunc___api_Arg_api_Arg_).OK Try.prog 72:=calleeG_ok mixed ok_slices_IndexFunc___api_Arg_api_Arg_ Try.func72 (by kernel_rfl) (by kernel_rfl) e_slices_IndexFunc___api_Arg_api_Arg_
def sg_slices_ContainsFunc___api_Arg_api_Arg_:Sig:={ na:=2,np:=1,hin:={ items:=[.slot 0,.slot 1,.box 0 4],shapes:=[.sl 7,.lit (.fn 56 [(0,0)]),.sl 1,.int Go.IntKind.i64,.int Go.IntKind.i64,.sl 1] },nres:=1,kept:=[],nnew:=0,hout:={ items:=[.slot 0,.box 0 4],shapes:=[.bool,.sl 1,.int Go.IntKind.i64,.int Go.IntKind.i64,.sl 1] },nob:=18 }
noncomputable def g_slices_ContainsFunc___api_Arg_api_Arg_:List (Go.FuncId×Callee):=[(56,(calleeOf sg_entity_typed_1 u_entity_typed_1)),(72,(calleeOf sg_slices_IndexFunc___api_Arg_api_Arg_ u_slices_IndexFunc___api_Arg_api_Arg_))]
noncomputable def u_slices_ContainsFunc___api_Arg_api_Arg_(t:((List T)×(Unit×((List T)×(Int×(Int×((List T)×Unit))))))):Option (Bool×((List T)×(Int×(Int×((List T)×Unit))))):=
 (ob (Go.Eng.u_slices_IndexFunc___api_Arg_api_Arg_ (t.1,((),(t.2.2.1,(t.2.2.2.1,(t.2.2.2.2.1,(t.2.2.2.2.2.1,()))))))) fun x0=>(some ((Go.Eng.leI (0:Int) x0.1),(x0.2.1,(x0.2.2.1,(x0.2.2.2.1,(x0.2.2.2.2.1,())))))))
def h_slices_ContainsFunc___api_Arg_api_Arg_:HT:=.leaf
theorem ok_slices_ContainsFunc___api_Arg_api_Arg_:TabOK Try.prog [] g_slices_ContainsFunc___api_Arg_api_Arg_:=(TabOK.cons (fun _=>⟨_,Try.func56,by kernel_rfl,by kernel_rfl⟩) k_entity_typed_1 (calleeOf_nat _ _) (fun h=>by cases h) (by kernel_rfl) (fun _=>callK_framed (calleeOf_nat _ _) rfl rfl) (by kernel_rfl) (TabOK.cons (fun _=>⟨_,Try.func72,by kernel_rfl,by kernel_rfl⟩) k_slices_IndexFunc___api_Arg_api_Arg_ (calleeOf_nat _ _) (fun h=>by cases h) (by kernel_rfl) (fun _=>callK_framed (calleeOf_nat _ _) rfl rfl) (by kernel_rfl) TabOK.nil))
theorem e_slices_ContainsFunc___api_Arg_api_Arg_:∀t,bodyG Try.prog g_slices_ContainsFunc___api_Arg_api_Arg_ [] h_slices_ContainsFunc___api_Arg_api_Arg_ Try.f55 sg_slices_ContainsFunc___api_Arg_api_Arg_ t=u_slices_ContainsFunc___api_Arg_api_Arg_ t:=by
 intro t
 kernel_rfl
theorem k_slices_ContainsFunc___api_Arg_api_Arg_:(calleeOf sg_slices_ContainsFunc___api_Arg_api_Arg_ u_slices_ContainsFunc___api_Arg_api_Arg_).OK Try.prog 55:=calleeG_ok mixed ok_slices_ContainsFunc___api_Arg_api_Arg_ Try.func55 (by kernel_rfl) (by kernel_rfl) e_slices_ContainsFunc___api_Arg_api_Arg_
def sg_entity_typed:Sig:={ na:=2,np:=0,hin:={ items:=[.slot 0,.aggs 1 2],shapes:=[.sl 1000000000,.str,.sl 7] },nres:=1,kept:=[],nnew:=0,hout:={ items:=[.slot 0],shapes:=[.int Go.IntKind.i64] },nob:=200 }
noncomputable def g_entity_typed:List (Go.FuncId×Callee):=[(53,(calleeOf sg_entity_rules u_entity_rules)),(54,(calleeOf sg__entity_rule__elements u__entity_rule__elements)),(55,(calleeOf sg_slices_ContainsFunc___api_Arg_api_Arg_ u_slices_ContainsFunc___api_Arg_api_Arg_)),(56,(calleeOf sg_entity_typed_1 u_entity_typed_1)),(58,(calleeOf sg_slices_Contains___string_string_ u_slices_Contains___string_string_))]
noncomputable def u_entity_typed_l0(s1:(List T×Unit×List T×List T×Int×Int×ByteArray×List T×Unit)):Option ((List T×Unit×List T×List T×Int×Int×ByteArray×List T×Unit)⊕((Int×Unit)⊕((List T×Unit×List T×ByteArray×List T×Unit)⊕Empty))):=
 (bif (Go.Eng.ltI s1.2.2.2.2.2.1 s1.2.2.2.2.1) then (ob (Go.Eng.idxL s1.2.2.2.1 s1.2.2.2.2.2.1) fun x2=>(ob (Go.Eng.idxL s1.2.2.2.2.2.2.2.1 s1.2.2.2.2.2.1) fun x3=>(ob (Go.Eng.T.sl? 1 (Go.Eng.T.cell x2 0)) fun x4=>(ob (Go.Eng.T.int? Go.IntKind.i64 (Go.Eng.T.cell x2 1)) fun x5=>(ob (Go.Eng.T.int? Go.IntKind.i64 (Go.Eng.T.cell x2 2)) fun x6=>(ob (Go.Eng.T.sl? 1 (Go.Eng.T.cell x2 3)) fun x7=>(ob (Go.Eng.T.int? Go.IntKind.i64 (Go.Eng.T.cell x3 0)) fun x8=>(ob (Go.Eng.T.bool? (Go.Eng.T.cell x3 1)) fun x9=>(ob (Go.Eng.T.sl? 1 (Go.Eng.T.cell x3 2)) fun x10=>(ob (Go.Eng.T.sl? 1 (Go.Eng.T.cell x3 3)) fun x11=>(ob (Go.Eng.T.str? (Go.Eng.T.cell x3 4)) fun x12=>(ob (Go.Eng.T.int? Go.IntKind.i64 (Go.Eng.T.cell x3 5)) fun x13=>(ob (Go.Eng.T.sl? 7 (Go.Eng.T.cell x3 6)) fun x14=>(ob (Go.Eng.u__entity_rule__elements (x4,(x5,(x6,(x7,(x8,(x9,(x10,(x11,(x12,(x13,(x14,())))))))))))) fun x15=>(bif (Bool.not x15.2.1) then (some (Sum.inr (Sum.inl ((36:Int),())))) else (ob (Go.Eng.T.sl? 1 (Go.Eng.T.cell x2 0)) fun x16=>(ob (Go.Eng.T.int? Go.IntKind.i64 (Go.Eng.T.cell x2 1)) fun x17=>(ob (Go.Eng.T.int? Go.IntKind.i64 (Go.Eng.T.cell x2 2)) fun x18=>(ob (Go.Eng.T.sl? 1 (Go.Eng.T.cell x2 3)) fun x19=>(ob (Go.Eng.u_slices_ContainsFunc___api_Arg_api_Arg_ (x15.1,((),(x16,(x17,(x18,(x19,()))))))) fun x20=>(bif x20.1 then (some (Sum.inr (Sum.inl ((36:Int),())))) else (some (Sum.inl (s1.1,((),(s1.2.2.1,(s1.2.2.2.1,(s1.2.2.2.2.1,((Go.Eng.wr Go.IntKind.i64 (Go.Eng.addI s1.2.2.2.2.2.1 (1:Int))),(s1.2.2.2.2.2.2.1,(s1.2.2.2.2.2.2.2.1,()))))))))))))))))))))))))))))))) else (some (Sum.inr (Sum.inr (Sum.inl (s1.1,((),(s1.2.2.1,(s1.2.2.2.2.2.2.1,(s1.2.2.2.2.2.2.2.1,()))))))))))
noncomputable def u_entity_typed_l2(s40:(List T×Unit×Unit×List T×Int×Int×List T×Int×Int×ByteArray×List T×T×T×T×T×Unit)):Option ((List T×Unit×Unit×List T×Int×Int×List T×Int×Int×ByteArray×List T×T×T×T×T×Unit)⊕((Int×Unit)⊕((List T×Unit×List T×Int×Int×ByteArray×List T×Unit)⊕Empty))):=
 (bif (Go.Eng.ltI s40.2.2.2.2.2.2.2.2.1 s40.2.2.2.2.2.2.2.1) then (ob (Go.Eng.idxL s40.2.2.2.2.2.2.1 s40.2.2.2.2.2.2.2.2.1) fun x41=>(ob (Go.Eng.T.int? Go.IntKind.i64 (Go.Eng.T.cell x41 5)) fun x42=>(ob (Go.Eng.T.one? (Go.Eng.mapGetD (Go.Eng.T.v (Go.Value.int Go.IntKind.i64 x42)) s40.1 (Go.Eng.T.v (Go.Value.string (ByteArray.mk #[]))))) fun x43=>(ob (Go.Eng.T.int? Go.IntKind.i64 (Go.Eng.T.cell x41 0)) fun x44=>(bif (Go.Eng.eqI x44 (5:Int)) then (bif (Bool.not (Go.Eng.mapHas (Go.Eng.T.v (Go.Value.int Go.IntKind.i64 x42)) s40.1)) then (some (Sum.inr (Sum.inl ((35:Int),())))) else (ob (Go.Eng.T.sl? 1 s40.2.2.2.2.2.2.2.2.2.2.2.2.2.2.1) fun x45=>(ob (Go.Eng.T.str? x43) fun x46=>(ob (Go.Eng.u_slices_Contains___string_string_ (x45,(x46,()))) fun x47=>(bif (Bool.not x47.1) then (some (Sum.inr (Sum.inl ((35:Int),())))) else (some (Sum.inl (s40.1,((),((),(s40.2.2.2.1,(s40.2.2.2.2.1,(s40.2.2.2.2.2.1,(s40.2.2.2.2.2.2.1,(s40.2.2.2.2.2.2.2.1,((Go.Eng.wr Go.IntKind.i64 (Go.Eng.addI s40.2.2.2.2.2.2.2.2.1 (1:Int))),(s40.2.2.2.2.2.2.2.2.2.1,(s40.2.2.2.2.2.2.2.2.2.2.1,(s40.2.2.2.2.2.2.2.2.2.2.2.1,(s40.2.2.2.2.2.2.2.2.2.2.2.2.1,(s40.2.2.2.2.2.2.2.2.2.2.2.2.2.1,(s40.2.2.2.2.2.2.2.2.2.2.2.2.2.2.1,())))))))))))))))))))))) else (some (Sum.inl (s40.1,((),((),(s40.2.2.2.1,(s40.2.2.2.2.1,(s40.2.2.2.2.2.1,(s40.2.2.2.2.2.2.1,(s40.2.2.2.2.2.2.2.1,((Go.Eng.wr Go.IntKind.i64 (Go.Eng.addI s40.2.2.2.2.2.2.2.2.1 (1:Int))),(s40.2.2.2.2.2.2.2.2.2.1,(s40.2.2.2.2.2.2.2.2.2.2.1,(s40.2.2.2.2.2.2.2.2.2.2.2.1,(s40.2.2.2.2.2.2.2.2.2.2.2.2.1,(s40.2.2.2.2.2.2.2.2.2.2.2.2.2.1,(s40.2.2.2.2.2.2.2.2.2.2.2.2.2.2.1,())))))))))))))))))))))) else (some (Sum.inr (Sum.inr (Sum.inl (s40.1,((),(s40.2.2.2.1,(s40.2.2.2.2.1,(s40.2.2.2.2.2.1,(s40.2.2.2.2.2.2.2.2.2.1,(s40.2.2.2.2.2.2.2.2.2.2.1,()))))))))))))
noncomputable def u_entity_typed_l1(s25:(List T×Unit×List T×Int×Int×ByteArray×List T×Unit)):Option ((List T×Unit×List T×Int×Int×ByteArray×List T×Unit)⊕((Int×Unit)⊕((Unit)⊕Empty))):=
 (bif (Go.Eng.ltI s25.2.2.2.2.1 s25.2.2.2.1) then (ob (Go.Eng.idxL s25.2.2.1 s25.2.2.2.2.1) fun x26=>(ob (Go.Eng.idxL s25.2.2.2.2.2.2.1 s25.2.2.2.2.1) fun x27=>(ob (Go.Eng.T.sl? 1 (Go.Eng.T.cell x26 0)) fun x28=>(ob (Go.Eng.T.int? Go.IntKind.i64 (Go.Eng.T.cell x26 1)) fun x29=>(ob (Go.Eng.T.int? Go.IntKind.i64 (Go.Eng.T.cell x26 2)) fun x30=>(ob (Go.Eng.T.sl? 1 (Go.Eng.T.cell x26 3)) fun x31=>(ob (Go.Eng.T.int? Go.IntKind.i64 (Go.Eng.T.cell x27 0)) fun x32=>(ob (Go.Eng.T.bool? (Go.Eng.T.cell x27 1)) fun x33=>(ob (Go.Eng.T.sl? 1 (Go.Eng.T.cell x27 2)) fun x34=>(ob (Go.Eng.T.sl? 1 (Go.Eng.T.cell x27 3)) fun x35=>(ob (Go.Eng.T.str? (Go.Eng.T.cell x27 4)) fun x36=>(ob (Go.Eng.T.int? Go.IntKind.i64 (Go.Eng.T.cell x27 5)) fun x37=>(ob (Go.Eng.T.sl? 7 (Go.Eng.T.cell x27 6)) fun x38=>(ob (Go.Eng.u__entity_rule__elements (x28,(x29,(x30,(x31,(x32,(x33,(x34,(x35,(x36,(x37,(x38,())))))))))))) fun x39=>(ob (loopU u_entity_typed_l2 (s25.1,((),((),(s25.2.2.1,(s25.2.2.2.1,(s25.2.2.2.2.1,(x39.1,((Go.Eng.lenL x39.1),((0:Int),(s25.2.2.2.2.2.1,(s25.2.2.2.2.2.2.1,((Go.Eng.T.cell x26 0),((Go.Eng.T.cell x26 1),((Go.Eng.T.cell x26 2),((Go.Eng.T.cell x26 3),())))))))))))))))) fun q48=>onS q48 (fun t49=>(some (Sum.inr (Sum.inl (t49.1,()))))) fun q50=>onS q50 (fun t51=>(some (Sum.inl (t51.1,((),(t51.2.2.1,(t51.2.2.2.1,((Go.Eng.wr Go.IntKind.i64 (Go.Eng.addI t51.2.2.2.2.1 (1:Int))),(t51.2.2.2.2.2.1,(t51.2.2.2.2.2.2.1,())))))))))) fun q52=>noS q52))))))))))))))) else (some (Sum.inr (Sum.inr (Sum.inl ())))))
noncomputable def u_entity_typed(t:((List T)×(ByteArray×((List T)×Unit)))):Option (Int×Unit):=
 (ob (Go.Eng.u_entity_rules (t.2.1,())) fun x0=>(bif (Go.Eng.nilL x0.1) then (bothU (some ((38:Int),())) (bif (Bool.not (Go.Eng.eqI (Go.Eng.lenL t.2.2.1) (Go.Eng.lenL x0.1))) then (some ((36:Int),())) else (ob (loopU u_entity_typed_l0 (t.1,((),(x0.1,(x0.1,((Go.Eng.lenL x0.1),((0:Int),(t.2.1,(t.2.2.1,()))))))))) fun q21=>onS q21 (fun t22=>(some (t22.1,()))) fun q23=>onS q23 (fun t24=>(ob (loopU u_entity_typed_l1 (t24.1,((),(t24.2.2.1,((Go.Eng.lenL t24.2.2.1),((0:Int),(t24.2.2.2.1,(t24.2.2.2.2.1,())))))))) fun q53=>onS q53 (fun t54=>(some (t54.1,()))) fun q55=>onS q55 (fun t56=>(some ((0:Int),()))) fun q57=>noS q57)) fun q58=>noS q58))) else (bif (Bool.not (Go.Eng.eqI (Go.Eng.lenL t.2.2.1) (Go.Eng.lenL x0.1))) then (some ((36:Int),())) else (ob (loopU u_entity_typed_l0 (t.1,((),(x0.1,(x0.1,((Go.Eng.lenL x0.1),((0:Int),(t.2.1,(t.2.2.1,()))))))))) fun q79=>onS q79 (fun t80=>(some (t80.1,()))) fun q81=>onS q81 (fun t82=>(ob (loopU u_entity_typed_l1 (t82.1,((),(t82.2.2.1,((Go.Eng.lenL t82.2.2.1),((0:Int),(t82.2.2.2.1,(t82.2.2.2.2.1,())))))))) fun q111=>onS q111 (fun t112=>(some (t112.1,()))) fun q113=>onS q113 (fun t114=>(some ((0:Int),()))) fun q115=>noS q115)) fun q116=>noS q116))))
def h_entity_typed:HT:=(.seq .leaf (.seq .leaf (.seq .leaf (.seq .leaf (.seq (.seq .leaf (.one (.loop { items:=[.slot 0,.slot 3,.slot 5,.slot 29,.slot 30,.slot 31,.box 3 2],shapes:=[.sl 1000000000,.lit (Go.Eng.C.box 3 0),.sl 4,.sl 4,.int Go.IntKind.i64,.int Go.IntKind.i64,.str,.sl 7] } [(AEx.ret,{ items:=[.slot 4],shapes:=[.int Go.IntKind.i64] }),((AEx.exit 0),{ items:=[.slot 0,.slot 3,.slot 5,.box 3 2],shapes:=[.sl 1000000000,.lit (Go.Eng.C.box 3 0),.sl 4,.str,.sl 7] })] .leaf))) (.seq (.seq .leaf (.one (.loop { items:=[.slot 0,.slot 3,.slot 54,.slot 55,.slot 56,.box 3 2],shapes:=[.sl 1000000000,.lit (Go.Eng.C.box 3 0),.sl 4,.int Go.IntKind.i64,.int Go.IntKind.i64,.str,.sl 7] } [(AEx.ret,{ items:=[.slot 4],shapes:=[.int Go.IntKind.i64] }),((AEx.exit 2),{ items:=[],shapes:=[] })] (.seq .leaf (.seq .leaf (.seq (.one (.seq .leaf (.seq .leaf (.seq .leaf (.one (.loop { items:=[.slot 0,.slot 3,.slot 11,.slot 54,.slot 55,.slot 56,.slot 71,.slot 72,.slot 73,.box 3 2,.box 11 4],shapes:=[.sl 1000000000,.lit (Go.Eng.C.box 3 0),.lit (Go.Eng.C.box 11 0),.sl 4,.int Go.IntKind.i64,.int Go.IntKind.i64,.sl 7,.int Go.IntKind.i64,.int Go.IntKind.i64,.str,.sl 7,.tree,.tree,.tree,.tree] } [(AEx.ret,{ items:=[.slot 4],shapes:=[.int Go.IntKind.i64] }),((AEx.exit 4),{ items:=[.slot 0,.slot 3,.slot 54,.slot 55,.slot 56,.box 3 2],shapes:=[.sl 1000000000,.lit (Go.Eng.C.box 3 0),.sl 4,.int Go.IntKind.i64,.int Go.IntKind.i64,.str,.sl 7] })] .leaf)))))) .leaf)))))) .leaf))))))
theorem ok_entity_typed:TabOK Try.prog [58] g_entity_typed:=(TabOK.cons (fun _=>⟨_,Try.func53,by kernel_rfl,by kernel_rfl⟩) k_entity_rules (calleeOf_nat _ _) (fun h=>by cases h) (by kernel_rfl) (fun _=>callK_framed (calleeOf_nat _ _) rfl rfl) (by kernel_rfl) (TabOK.cons (fun _=>⟨_,Try.func54,by kernel_rfl,by kernel_rfl⟩) k__entity_rule__elements (calleeOf_nat _ _) (fun h=>by cases h) (by kernel_rfl) (fun _=>callK_framed (calleeOf_nat _ _) rfl rfl) (by kernel_rfl) (TabOK.cons (fun _=>⟨_,Try.func55,by kernel_rfl,by kernel_rfl⟩) k_slices_ContainsFunc___api_Arg_api_Arg_ (calleeOf_nat _ _) (fun h=>by cases h) (by kernel_rfl) (fun _=>callK_framed (calleeOf_nat _ _) rfl rfl) (by kernel_rfl) (TabOK.cons (fun _=>⟨_,Try.func56,by kernel_rfl,by kernel_rfl⟩) k_entity_typed_1 (calleeOf_nat _ _) (fun h=>by cases h) (by kernel_rfl) (fun _=>callK_framed (calleeOf_nat _ _) rfl rfl) (by kernel_rfl) (TabOK.cons (fun _=>⟨_,Try.func58,by kernel_rfl,by kernel_rfl⟩) k_slices_Contains___string_string_ (calleeOf_nat _ _) (fun _=>(calleeOf_pure (by kernel_rfl))) (by kernel_rfl) (fun _=>callK_framed (calleeOf_nat _ _) rfl rfl) (by kernel_rfl) TabOK.nil)))))
theorem e_entity_typed:∀t,bodyG Try.prog g_entity_typed [58] h_entity_typed Try.f33 sg_entity_typed t=u_entity_typed t:=by
 intro t
 kernel_rfl
theorem k_entity_typed:(calleeOf sg_entity_typed u_entity_typed).OK Try.prog 33:=calleeG_ok mixed ok_entity_typed Try.func33 (by kernel_rfl) (by kernel_rfl) e_entity_typed
end Go.Eng
namespace Go.Eng.En
open Go.Eng Go.RowKit Go.Proofs
theorem zipV_lookup:∀(vs:List Value) (k t:Nat) (v:Value),(zipV k vs).lookup t=some v→k≤t∧vs[t-k]?=some v
 | [],k,t,v,h=>by simp[zipV] at h
 | x::vs,k,t,v,h=>by
  simp only[zipV] at h
  rw[List.lookup_cons] at h
  by_cases hk:t=k
  ·subst hk;simp at h;subst h;exact⟨Nat.le_refl _,by simp⟩
  ·rw[beq_eq_false_iff_ne.2 hk] at h
   obtain⟨h1,h2⟩:=zipV_lookup vs (k+1) t v h
   refine⟨by omega,?_⟩
   rw[show t-k=t-(k+1)+1 from by omega]
   exact h2
theorem Fr.start(vs:List Value)(m n:Nat)(h:vs.length+m=n):Fr n (zipV 0 vs) { tmps:=vs.toArray++Array.replicate m undef,defers:=[] }:=by
 refine⟨by simp[h],rfl,fun t v hl=>?_⟩
 obtain⟨_,h2⟩:=zipV_lookup vs 0 t v hl
 have hlt:t<vs.length:=(List.getElem?_eq_some_iff.1 h2).1
 rw[Array.getD_eq_getD_getElem?,Array.getElem?_append_left (by simpa using hlt)]
 simp at h2
 simp[h2]
theorem calls_start{P:Program}{f:FuncId}{fn:Func}{c:Code}{w:World}{R:Ending→World→Prop}(vs:List Value)(m n:Nat)(hf:P.funcs[f]?=some fn)(hb:fn.body=some c)(hm:vs.length+m=n)(hn:fn.ntmps=n)
 (h:∀a,Fr n (zipV 0 vs) a→c.wp P (bodyPost P fn R) a w):Calls P f vs.toArray w R:=by
 refine calls_of_wp hf hb (h _ ?_)
 rw[show fn.ntmps-vs.toArray.size=m from by rw[hn,List.size_toArray];omega]
 exact Fr.start vs m n hm
theorem callsM_start{P:Program}{f:FuncId}{fn:Func}{c:Code}{w:World}{R:Ending→World→Prop}{k:Nat}(vs:List Value)(m n:Nat)(hf:P.funcs[f]?=some fn)(hb:fn.body=some c)(hm:vs.length+m=n)(hn:fn.ntmps=n)
 (h:∀a,Fr n (zipV 0 vs) a→c.wp P (bodyPostM Fence.wide k P fn R) a w):Calls P f vs.toArray w R:=by
 refine callsIn_wide.1 (callsIn_of_wp_marks (n:=k) hf hb trivial (wpIn_wide.2 (h _ ?_)))
 rw[show fn.ntmps-vs.toArray.size=m from by rw[hn,List.size_toArray];omega]
 exact Fr.start vs m n hm
theorem ret_one{P:Program}{fn:Func}{t n:Nat}{env:List (Nat×Value)}{a:Act}{w:World}{v:Value}{R:Ending→World→Prop}(hr:fn.results=#[.tmp t])(hf:Fr n env a)(hv:env.lookup t=some v)(h:R (.returned v) w):bodyPost P fn R .ret a w:=by
 refine⟨hf.defers,v,?_,h⟩
 unfold results
 rw[hr]
 have:=hf.get t v hv
 rw[Array.getD_eq_getD_getElem?] at this
 simp[this]
abbrev vI(i:Int):Value:=.int .i64 i
def Kp(nS gm:Nat)(A B:World):Prop:=∀b,b<nS→b≠gm→B.heap[b]?=A.heap[b]?
theorem Kp.trans{nS gm:Nat}{A B C:World}(h:Kp nS gm A B)(k:Kp nS gm B C):Kp nS gm A C:=fun b h1 h2=>(k b h1 h2).trans (h b h1 h2)
theorem Kp.cell{nS gm:Nat}{A B:World}(h:Kp nS gm A B){p:Addr}{v:Value}(hp:p.block<nS)(hg:p.block≠gm)(hc:A.cell? p=some v):B.cell? p=some v:=
 (World.cell?_of_block (h p.block hp hg)).trans hc
theorem u26:Try.prog.underlying 26=some (.slice 39):=by kernel_rfl
theorem s39:szO Try.prog 39=some 3:=by kernel_rfl
theorem a39:aggO Try.prog 39=some true:=by kernel_rfl
theorem s26:szO Try.prog 26=some 1:=by kernel_rfl
theorem a26:aggO Try.prog 26=some false:=by kernel_rfl
theorem wide_fn(f:Nat):Fence.wide.fn f:=trivial
theorem ret_none{P:Program}{fn:Func}{n:Nat}{env:List (Nat×Value)}{a:Act}{w:World}{R:Ending→World→Prop}(hr:fn.results=#[])(hf:Fr n env a)(h:∀v,R (.returned v) w):bodyPost P fn R .ret a w:=
 ⟨hf.defers,_,results_none hr _ _ _,h _⟩
theorem norm_none{P:Program}{fn:Func}{n:Nat}{env:List (Nat×Value)}{a:Act}{w:World}{R:Ending→World→Prop}(hr:fn.results=#[])(hf:Fr n env a)(h:∀v,R (.returned v) w):bodyPost P fn R .normal a w:=
 ⟨hf.defers,_,results_none hr _ _ _,h _⟩
def pre(len k:Nat):List Nat:=(List.range (len-k)).map fun i=>len-1-i
theorem pre_len(len:Nat):pre len len=[]:=by unfold pre;rw[Nat.sub_self];rfl
theorem pre_step{len m:Nat}(h:m<len):pre len (m+1)++[m]=pre len m:=by
 unfold pre
 rw[show len-m=len-(m+1)+1 from by omega,List.range_succ,List.map_append,List.map_singleton]
 congr 2
 omega
theorem pre_length(len m:Nat):(pre len m).length=len-m:=by unfold pre;rw[List.length_map,List.length_range]
theorem bk_add(x y:Int):binK Try.prog .add 3 3 (dV (vI x)) (dV (vI y)) some=some (dV (vI (wr .i64 (x+y)))):=by rw[←addI_eq];kernel_rfl
theorem bk_sub(x y:Int):binK Try.prog .sub 3 3 (dV (vI x)) (dV (vI y)) some=some (dV (vI (wr .i64 (x-y)))):=by rw[←subI_eq];kernel_rfl
theorem bk_lss(x y:Int):binK Try.prog .lss 3 3 (dV (vI x)) (dV (vI y)) some=some (dV (.bool (ltI x y))):=by kernel_rfl
theorem bk_geq(x y:Int):binK Try.prog .geq 3 3 (dV (vI x)) (dV (vI y)) some=some (dV (.bool (leI y x))):=by kernel_rfl
set_option maxRecDepth 20000 in
set_option maxHeartbeats 4000000 in
theorem back52{n gb gm nS len cap:Nat}{p:Option Addr}{el:Nat→List Value}{l:Nat}{J Jx:List Nat→World→Prop}{W:World}
 (hgb:gb<nS∧gb≠gm) (hb:W.cell? ⟨gb,0,none⟩=some (.slice p len cap))
 (hel:0<len→∃A,p=some A∧A.block<nS∧A.block≠gm∧∀i,i<len→(el i).length=3∧∀(j:Nat) y,(el i)[j]?=some y→W.cell? ((A.add (i*3)).add j)=some y)
 (hmax:len≤maxLen)
 (hY:∀pre x W1,J pre W1→pre.length<len→YieldAt Fence.wide (n-1) Try.prog l #[vI (x:Nat),.agg (el x).toArray] W1 fun e W'=>
  (e=.returned (.bool true)∧J (pre++[x]) W'∧Kp nS gm W1 W')∨(e=.returned (.bool false)∧Jx (pre++[x]) W')) (h0:J [] W):
 CallsIn Fence.wide n Try.prog 52 #[.func (.yield l) #[] #[],.pointer (some ⟨gb,0,none⟩)] W fun e W'=>(∃v,e=.returned v) ∧
  ((∃xs,xs=pre len 0∧J xs W')∨(∃pre,True∧Jx pre W')):=by
 suffices H:∀R:Ending→World→Prop,(∀v W',J (pre len 0) W'→R (.returned v) W')→(∀v p W',Jx p W'→R (.returned v) W')→Calls Try.prog 52 #[.func (.yield l) #[] #[],.pointer (some ⟨gb,0,none⟩)] W R from
  callsIn_wide.2 (H _ (fun v W' h=>⟨⟨v,rfl⟩,.inl ⟨_,rfl,h⟩⟩) fun v p W' h=>⟨⟨v,rfl⟩,.inr ⟨p,trivial,h⟩⟩)
 intro R hR1 hR2
 refine calls_start (c:=cdOf Try.f52) [.func (.yield l) #[] #[],.pointer (some ⟨gb,0,none⟩)] 17 19 Try.func52 (by kernel_rfl) rfl (by kernel_rfl) fun a hf=>?_
 refine wp_seq (wp_reg (by kernel_rfl) ?_)
 refine op_load hf rfl rfl (by decide) s26 a26 rfl hb fun a hf=>?_
 refine op_len hf rfl rfl (by decide) u26 rfl fun a hf=>?_
 refine op_bin (v:=vI ((len:Int)-1)) hf rfl rfl (by decide) rfl rfl rfl rfl ?_ fun a hf=>?_
 ·rw[bk_sub,wr64 (by omega) (by have h:maxLen≤9223372036854775807:=(by decide);omega)]
 refine op_assign hf rfl rfl (by decide) rfl fun a hf=>?_
 refine wp_block ?_
 refine loop_ind (m:=len) (fun k a wr=>k≤len∧Fr 19 [(3,vI ((k:Int)-1)),(1,.pointer (some ⟨gb,0,none⟩)),(0,.func (.yield l) #[] #[])] a∧J (pre len k) wr∧Kp nS gm W wr) ?_ ?_
  ⟨Nat.le_refl _,hf.weak ⟨rfl,rfl,rfl,trivial⟩,by rw[pre_len];exact h0,fun _ _ _=>rfl⟩
 ·rintro K a wr ⟨_,hf,hJ,_⟩
  refine wp_seq (wp_seq (wp_reg (by kernel_rfl) ?_))
  refine op_move hf rfl rfl (by decide) rfl fun a hf=>?_
  refine op_bin (v:=.bool false) hf rfl rfl (by decide) rfl rfl rfl rfl (by kernel_rfl) fun a hf=>?_
  refine wp_cond_false (hf.ev rfl) (wp_exit ?_)
  exact norm_none (fn:=Try.f52) rfl hf fun v=>hR1 v _ hJ
 ·rintro m K hK a wr ⟨hm,hg,hJ,hk⟩
  obtain⟨A,rfl,hA1,hA2,hA⟩:=hel (by omega)
  have hf:=hg
  rw[show ((m+1:Nat):Int)-1=(m:Int) from by omega] at hf
  obtain⟨e1,e2⟩:=hA m (by omega)
  refine wp_seq (wp_seq (wp_reg (by kernel_rfl) ?_))
  refine op_move hf rfl rfl (by decide) rfl fun a hf=>?_
  refine op_bin (v:=.bool true) hf rfl rfl (by decide) rfl rfl rfl rfl ?_ fun a hf=>?_
  ·rw[bk_geq,leI_eq,decide_eq_true (by omega)]
  refine wp_cond_true (hf.ev rfl) (wp_skip ?_)
  refine wp_seq ((wpIn_wide (n:=n)).1 (wpIn_block (wpIn_seq (wp_regI (by kernel_rfl) ?_))))
  refine in_val wide_fn (fun c h=>by cases h) hf rfl (by decide) (rn_move hf rfl rfl) fun a hf=>?_
  refine in_val wide_fn (fun c h=>by cases h) hf rfl (by decide) (rn_move hf rfl rfl) fun a hf=>?_
  refine in_val wide_fn (fun c h=>by cases h) hf rfl (by decide) (rn_load hf rfl s26 a26 rfl (hk.cell hgb.1 hgb.2 hb)) fun a hf=>?_
  refine in_val wide_fn (fun c h=>by cases h) hf rfl (by decide) (rn_move hf rfl rfl) fun a hf=>?_
  refine in_val wide_fn (fun c h=>by cases h) hf rfl (by decide) (rn_index (m:=3) hf rfl u26 s39 rfl rfl (by omega) (by omega)) fun a hf=>?_
  refine in_val wide_fn (fun c h=>by cases h) hf rfl (by decide) (rn_loadA (ys:=el m) hf rfl (by rw[e1];exact s39) a39 rfl fun i y hi=>?_) fun a hf=>?_
  ·rw[Int.toNat_natCast]
   exact hk.cell (by rw[add_block,add_block];exact hA1) (by rw[add_block,add_block];exact hA2) (e2 i y hi)
  refine in_yield wide_fn hf rfl rfl rfl rfl (by decide) rfl (fun h=>by cases h) (hY (pre len (m+1)) m wr hJ (by rw[pre_length];omega)) fun e w1 he=>?_
  rcases he with⟨rfl,hJ2,hk2⟩ | ⟨rfl,hJx⟩
  ·refine⟨_,rfl,fun a hf=>?_⟩
   refine in_val wide_fn (fun c h=>by cases h) hf rfl (by decide) (rn_not hf rfl rfl) fun a hf=>?_
   refine wpIn_cond_false (hf.ev rfl) (wpIn_skip ?_)
   refine wp_reg (by kernel_rfl) ?_
   refine op_move hf rfl rfl (by decide) rfl fun a hf=>?_
   refine op_bin (v:=vI ((m:Int)-1)) hf rfl rfl (by decide) rfl rfl rfl rfl ?_ fun a hf=>?_
   ·rw[bk_sub,wr64 (by omega) (by have h:maxLen≤9223372036854775807:=(by decide);omega)]
   refine op_assign hf rfl rfl (by decide) rfl fun a hf=>?_
   exact hK a w1 ⟨by omega,hf.weak ⟨rfl,rfl,rfl,trivial⟩,by rw[←pre_step (by omega)];exact hJ2,hk.trans hk2⟩
  ·refine⟨_,rfl,fun a hf=>?_⟩
   refine in_val wide_fn (fun c h=>by cases h) hf rfl (by decide) (rn_not hf rfl rfl) fun a hf=>?_
   refine wpIn_cond_true (hf.ev rfl) (wpIn_ret ?_)
   exact ret_none (fn:=Try.f52) rfl hf fun v=>hR2 v _ _ hJx
theorem back32(v:Value)(w:World)(hv:v.cells=#[v]):Calls Try.prog 32 #[v] w fun e w'=>e=.returned (.func (.func 52) #[] #[.pointer (some ⟨w.heap.size,0,none⟩)])∧w'=w.alloc (.cells #[v] 26):=by
 refine calls_start (c:=cdOf Try.f32) [v] 3 4 Try.func32 (by kernel_rfl) rfl (by kernel_rfl) fun a hf=>?_
 refine wp_seq (wp_reg (by kernel_rfl) ?_)
 refine op_val hf rfl (by decide) (rn_box hf rfl rfl) fun a hf=>?_
 refine op_assign hf rfl rfl (by decide) rfl fun a hf=>?_
 refine wp_seq (wp_reg (by kernel_rfl) ?_)
 refine op_val hf rfl (by decide) (rn_func hf rfl rfl) fun a hf=>?_
 refine op_assign hf rfl rfl (by decide) rfl fun a hf=>?_
 exact wp_ret (ret_one rfl hf rfl ⟨rfl,by rw[hv]⟩)
end Go.Eng.En
namespace Go.Eng.En
open Go.Eng Go.RowKit Go.Proofs
def IsD(idN:Nat→Int)(nmN:Nat→ByteArray)(argN:Nat→List T)(D:List T):Prop:=∀(i:Nat) x,D[i]?=some x→T.cell x 0=.v (vI (idN i))∧T.cell x 1=.v (.string (nmN i))∧T.sl? 7 (T.cell x 2)=some (argN i)
theorem sl_rd{w:World}{X:Nat→Prop}{k:Nat}{t:T}{l:List T}{v:Value}(h:T.sl? k t=some l)(hr:Rd w X t v)(hk:k<1000000000):Rd w X (.sl k l) v:=by
 unfold T.sl? at h
 split at h
 ·rw[if_pos hk] at h;cases h
  cases hr
  exact .nil k hk
 ·split at h
  ·rename_i e;cases h;subst e;exact hr
  ·cases h
 ·cases h
theorem ents{w:World}{X:Nat→Prop}{idN:Nat→Int}{nmN:Nat→ByteArray}{argN:Nat→List T}{D:List T}{vd:Value}(h:Rd w X (.sl 3 D) vd)(hd:IsD idN nmN argN D):
 ∃(p:Option Addr) (cap:Nat) (slN:Nat→Value),vd=.slice p D.length cap∧D.length≤maxLen∧(∀i,(slN i:Value).oneCell'=true) ∧
  (0<D.length→∃A,p=some A∧A.block<w.heap.size∧∀i,i<D.length→∀(j:Nat) y,[vI (idN i),.string (nmN i),slN i][j]?=some y→w.cell? ((A.add (i*3)).add j)=some y) ∧
  ∀i,i<D.length→Rd w (fun _=>False) (.sl 7 (argN i)) (slN i):=by
 have hr:=h
 cases h with
 | mp n l g es clock hn=>omega
 | nil k hk=>exact⟨none,0,fun _=>.slice none 0 0,rfl,by decide,fun _=>rfl,fun h=>(by simp at h),fun i hi=>(by simp at hi)⟩
 | sl k l A c ys hk hc hm hu hy hcell hrr=>
  have key:∀i,∃v:Value,v.oneCell'=true∧(i<D.length→Rd w (fun _=>False) (.sl 7 (argN i)) v∧A.block<w.heap.size∧∀(j:Nat) y,[vI (idN i),.string (nmN i),v][j]?=some y→w.cell? ((A.add (i*3)).add j)=some y):=by
   intro i
   by_cases hi:i<D.length
   ·obtain⟨x,hx⟩:∃x,D[i]?=some x:=⟨_,List.getElem?_eq_getElem hi⟩
    obtain⟨_,hl,ys,h1,h2,h3⟩:=hr.elem hx
    obtain⟨d0,d1,d2⟩:=hd i x hx
    match ys,h1 with
    | [y0,y1,y2],_=>
    match hxc:x.cells,hl with
    | [c0,c1,c2],_=>
    have e0:c0=.v (vI (idN i)):=by unfold T.cell at d0;rw[hxc] at d0;exact d0
    have e1:c1=.v (.string (nmN i)):=by unfold T.cell at d1;rw[hxc] at d1;exact d1
    have e2:T.sl? 7 c2=some (argN i):=by unfold T.cell at d2;rw[hxc] at d2;exact d2
    have r0:=h3 0 c0 y0 (by rw[hxc];rfl) rfl
    have r1:=h3 1 c1 y1 (by rw[hxc];rfl) rfl
    have r2:=h3 2 c2 y2 (by rw[hxc];rfl) rfl
    rw[e0] at r0
    rw[e1] at r1
    have f0:=r0.inv_v
    have f1:=r1.inv_v
    subst f0;subst f1
    have hb:=World.block_lt_of_cell? w _ (h2 0 _ rfl).1
    rw[add_block,add_block] at hb
    exact⟨y2,(h2 2 y2 rfl).2.2,fun _=>⟨(sl_rd e2 r2 (by decide)).weak fun _ h=>h.elim,hb,fun j y hj=>(h2 j y hj).1⟩⟩
   ·exact⟨.slice none 0 0,rfl,fun h=>absurd h hi⟩
  have hsl:=fun i=>Classical.choose_spec (key i)
  refine⟨some A,c,fun i=>Classical.choose (key i),rfl,by omega,fun i=>(hsl i).1,fun h0=>⟨A,rfl,((hsl 0).2 h0).2.1,fun i hi=>((hsl i).2 hi).2.2⟩,fun i hi=>((hsl i).2 hi).1⟩
noncomputable def wordsF(idN:Nat→Int)(nmN:Nat→ByteArray)(l:List Nat):List T:=l.foldl (fun m i=>mapPut (.v (vI (idN i))) (.v (.string (nmN i))) m) []
theorem wordsF_snoc(idN:Nat→Int)(nmN:Nat→ByteArray)(l:List Nat)(i:Nat):wordsF idN nmN (l++[i])=mapPut (.v (vI (idN i))) (.v (.string (nmN i))) (wordsF idN nmN l):=by
 unfold wordsF;rw[List.foldl_append];rfl
structure Bk (w W:World) (vh vd:Value) (m:List T):Prop where
 stp:Stp (fun _=>False) w W
 b1:W.heap[w.heap.size]?=some (.cells #[vh,vd] 28 (0,0))
 bm:∃es clock,W.heap[w.heap.size+1]?=some (.map es clock)∧EntL W (fun b=>w.heap.size≤b) 1000000000 m es clock
 b3:W.heap[w.heap.size+2]?=some (.cells #[.map (some (w.heap.size+1))] 80 (0,0))
 sz:w.heap.size+4≤W.heap.size
theorem Bk.step{w W W':World}{vh vd:Value}{m:List T}(h:Bk w W vh vd m)(hs:Stp (fun b=>w.heap.size+4≤b) W W'):Bk w W' vh vd m:=by
 have lt:∀{k:Nat} {o:Obj},W.heap[k]?=some o→k<W.heap.size:=fun h=>(Array.getElem?_eq_some_iff.1 h).1
 obtain⟨es,clock,hm,he⟩:=h.bm
 exact⟨h.stp.after hs fun b hb hlt=>by omega,(hs.blk _ (lt h.b1) (by omega)).trans h.b1,⟨es,clock,(hs.blk _ (lt hm) (by omega)).trans hm,he.step hs (fun b hb=>by omega) fun b hb=>.inl hb⟩,(hs.blk _ (lt h.b3) (by omega)).trans h.b3,Nat.le_trans h.sz hs.size⟩
def Ax(w:World)(el:Nat→List Value)(x:Nat)(a:Act)(W:World):Prop:=∃g,w.heap.size+4≤g∧W.heap[g]?=some (.cells (el x).toArray 39 (0,0))∧Fr 44 [(5,.pointer (some ⟨g,0,none⟩)),(3,.pointer (some ⟨w.heap.size+2,0,none⟩))] a
theorem s80:szO Try.prog 80=some 1:=by kernel_rfl
theorem a80:aggO Try.prog 80=some false:=by kernel_rfl
theorem s3:szO Try.prog 3=some 1:=by kernel_rfl
theorem a3:aggO Try.prog 3=some false:=by kernel_rfl
theorem s9:szO Try.prog 9=some 1:=by kernel_rfl
theorem a9:aggO Try.prog 9=some false:=by kernel_rfl
theorem u80:Try.prog.underlying 80=some (.map 3 9):=by kernel_rfl
theorem k3:keyKd Try.prog 3=some 0:=by kernel_rfl
theorem f39:∃fs,Try.prog.underlying 39=some (.struct fs)∧fs.toList.map (fun f=>(f.type,f.offset))=[(3,0),(37,1)]:=by
 have h:(match Try.prog.underlying 39 with
  | some (.struct fs)=>decide (fs.toList.map (fun f=>(f.type,f.offset))=[(3,0),(37,1)])
  | _=>false)=true:=by kernel_rfl
 split at h
 ·rename_i fs e;exact⟨fs,e,of_decide_eq_true h⟩
 ·cases h
end Go.Eng.En
namespace Go.Eng.En
open Go.Eng Go.RowKit Go.Proofs
def cdGo:List Nat→Code→Code
 | [],c=>c
 | 0::p,.seq x _=>cdGo p x
 | _::p,.seq _ y=>cdGo p y
 | 0::p,.cond _ x _=>cdGo p x
 | _::p,.cond _ _ y=>cdGo p y
 | _::p,.block _ x=>cdGo p x
 | _::p,.loop x=>cdGo p x
 | _::_,c=>c
theorem f37:∃fs,Try.prog.underlying 37=some (.struct fs)∧fs.toList.map (fun f=>(f.type,f.offset))=[(9,0),(35,1)]:=by
 have h:(match Try.prog.underlying 37 with
  | some (.struct fs)=>decide (fs.toList.map (fun f=>(f.type,f.offset))=[(9,0),(35,1)])
  | _=>false)=true:=by kernel_rfl
 split at h
 ·rename_i fs e;exact⟨fs,e,of_decide_eq_true h⟩
 ·cases h
theorem f28:∃fs,Try.prog.underlying 28=some (.struct fs)∧fs.toList.map (fun f=>(f.type,f.offset))=[(25,0),(26,1)]:=by
 have h:(match Try.prog.underlying 28 with
  | some (.struct fs)=>decide (fs.toList.map (fun f=>(f.type,f.offset))=[(25,0),(26,1)])
  | _=>false)=true:=by kernel_rfl
 split at h
 ·rename_i fs e;exact⟨fs,e,of_decide_eq_true h⟩
 ·cases h
theorem s37:szO Try.prog 37=some 2:=by kernel_rfl
theorem a37:aggO Try.prog 37=some true:=by kernel_rfl
theorem fld{fs:Array Field}{l:List (TypeId×Nat)}(h:fs.toList.map (fun f=>(f.type,f.offset))=l)(i:Nat){t o:Nat}(hi:l[i]?=some (t,o)):∃fd,fs[i]?=some fd∧fd.type=t∧fd.offset=o:=by
 rw[←h,List.getElem?_map,Array.getElem?_toList] at hi
 cases hf:fs[i]? with
 | none=>rw[hf] at hi;cases hi
 | some fd=>rw[hf] at hi;simp only[Option.map_some,Option.some.injEq,Prod.mk.injEq] at hi;exact⟨fd,rfl,hi.1,hi.2⟩
section
variable {F:Fence} {m:Nat} {n:Nat} {env:List (Nat×Value)} {Df:List Deferred} {a:Act} {w w':World} {Q:Exit→Act→World→Prop} {o:Oper} {next:Act→World→Prop}
theorem rn_fld{P:Program}{x:Operand}{t:TypeId}{f z off ty:Nat}{A:Addr}{l:List (TypeId×Nat)}(hf:Fr n env a Df)(hop:o.op=.fieldAddr t x f)(hu:∃fs,P.underlying t=some (.struct fs)∧fs.toList.map (fun f=>(f.type,f.offset))=l)(hi:l[f]?=some (ty,off))(hz:szO P ty=some z)(hz0:z≠0)
 (hx:evE env x=some (.pointer (some A))):(execOp a.eval o).run P w=.ok (.value (.pointer (some (A.add off)))) w:=by
 obtain⟨fs,h1,h2⟩:=hu
 obtain⟨fd,h3,h4,h5⟩:=fld h2 f hi
 rw[←h5]
 exact rn_field hf hop h1 h3 (by rw[h4];exact hz) hz0 hx
theorem rn_mapUpd{P:Program}{t:TypeId}{x y z:Operand}{vm vk vv:Value}(hf:Fr n env a Df)(hop:o.op=.mapUpdate t x y z)(hx:evE env x=some vm)(hy:evE env y=some vk)(hz:evE env z=some vv)(hrun:(Instr.mapUpdate t vm vk vv).run P w=.ok () w'):
 (execOp a.eval o).run P w=.ok .skip w':=by
 unfold execOp;rw[hop];simp only[hf.ev hx,hf.ev hy,hf.ev hz,Sem.run_bind,hrun,Result.andThen_ok];rfl
theorem Fr.rnd(h:Fr n env a){p q:Nat}(hp:p<n)(hq:q<n)(u v:Value):Fr n ((q,v)::(p,u)::env) { tmps:=((#[p,q]:Array Nat).zip #[u,v]).foldl (fun t (p,v)=>t.setIfInBounds p v) a.tmps,defers:=[] }:=by
 have e:(#[p,q]:Array Nat).zip #[u,v]=#[(p,u),(q,v)]:=by simp[Array.zip]
 rw[e]
 have e2:(#[(p,u),(q,v)]:Array (Nat×Value)).foldl (fun t (p,v)=>t.setIfInBounds p v) a.tmps=(a.tmps.setIfInBounds p u).setIfInBounds q v:=rfl
 rw[e2]
 have h1:=((h.put hp u).put hq v)
 exact⟨h1.size,rfl,h1.get⟩
end
theorem al{w:World}(o:Obj){k:Nat}{x:Obj}(h:w.heap[k]?=some x):(w.alloc o).heap[k]?=some x:=(Below.heap_alloc w o k (Array.getElem?_eq_some_iff.1 h).1).trans h
theorem al0(w:World)(o:Obj){k:Nat}(h:k=w.heap.size):(w.alloc o).heap[k]?=some o:=by subst h;exact World.alloc_heap_new w o
def elF(idN:Nat→Int)(nmN:Nat→ByteArray)(slN:Nat→Value)(i:Nat):List Value:=[vI (idN i),.string (nmN i),slN i]
def wS(w:World)(vh vd:Value):World:=(((w.alloc (.cells #[vh,vd] 28)).alloc (.map #[] 0)).alloc (.cells #[.map (some (w.heap.size+1))] 80)).alloc (.cells #[vd] 26)
theorem wS_size(w:World)(vh vd:Value):(wS w vh vd).heap.size=w.heap.size+4:=by unfold wS;simp only[World.size_alloc]
theorem wS_stp(w:World)(vh vd:Value):Stp (fun _=>False) w (wS w vh vd):=(((Stp.alloc _ _ _).trans (Stp.alloc _ _ _)).trans (Stp.alloc _ _ _)).trans (Stp.alloc _ _ _)
theorem wS_bk(w:World)(vh vd:Value):Bk w (wS w vh vd) vh vd []:=by
 refine⟨wS_stp w vh vd,?_,⟨#[],0,?_,⟨rfl,fun i t e h1 _=>by simp at h1,fun i k v e h1 _=>by simp at h1,rfl,fun i e h1=>by simp at h1⟩⟩,?_,Nat.le_of_eq (wS_size w vh vd).symm⟩
 ·exact al _ (al _ (al _ (al0 _ _ rfl)))
 ·exact al _ (al _ (al0 _ _ (by simp only[World.size_alloc])))
 ·exact al _ (al0 _ _ (by simp only[World.size_alloc]))
theorem wS_gb(w:World)(vh vd:Value):(wS w vh vd).cell? ⟨w.heap.size+3,0,none⟩=some vd:=by
 have h:(wS w vh vd).heap[w.heap.size+3]?=some (.cells #[vd] 26):=al0 _ _ (by simp only[World.size_alloc])
 simp only[World.cell?,h]
 rfl
set_option maxRecDepth 20000 in
set_option maxHeartbeats 4000000 in
theorem round{idN:Nat→Int}{nmN:Nat→ByteArray}{slN:Nat→Value}{w W:World}{vh vd:Value}{mp:List T}{x l k:Nat}{a:Act}{c:Code}{Q:Exit→Act→World→Prop}
 (hc:c=(match cdGo [1,1,0,1] (cdOf Try.f13) with | .block _ (.rangeFunc _ _ _ b)=>b | c=>c)) (hB:Bk w W vh vd mp) (hA:Ax w (elF idN nmN slN) x a W)
 (hn:∀a' es clock,Bk w (setMap W (w.heap.size+1) es clock) vh vd (mapPut (.v (vI (idN x))) (.v (.string (nmN x))) mp)→Q .normal a' (setMap W (w.heap.size+1) es clock)):c.wpIn (Fence.wide.inRound l) k Try.prog Q a W:=by
 subst hc
 obtain⟨g,hg,hcell,hf⟩:=hA
 have hfn:∀f,(Fence.wide.inRound l).fn f:=fun f=>trivial
 have hcl:∀(j:Nat) y,(elF idN nmN slN x)[j]?=some y→W.cell? ⟨g,j,none⟩=some y:=fun j y hj=>by
  simp only[World.cell?,hcell]
  simpa using hj
 obtain⟨es,clock,hm,he⟩:=hB.bm
 refine wpIn_block (wp_regI (by kernel_rfl) ?_)
 refine in_val hfn (fun c h=>by cases h) hf rfl (by decide) (rn_load hf rfl s80 a80 rfl (by simp only[World.cell?,hB.b3];rfl)) fun a hf=>?_
 refine in_val hfn (fun c h=>by cases h) hf rfl (by decide) (rn_fld hf rfl f39 rfl s3 (by decide) rfl) fun a hf=>?_
 refine in_val hfn (fun c h=>by cases h) hf rfl (by decide) (rn_load hf rfl s3 a3 rfl (hcl 0 _ rfl)) fun a hf=>?_
 refine in_val hfn (fun c h=>by cases h) hf rfl (by decide) (rn_fld hf rfl f39 rfl s37 (by decide) rfl) fun a hf=>?_
 refine in_val hfn (fun c h=>by cases h) hf rfl (by decide) (rn_fld hf rfl f37 rfl s9 (by decide) rfl) fun a hf=>?_
 refine in_val hfn (fun c h=>by cases h) hf rfl (by decide) (rn_load hf rfl s9 a9 rfl (hcl 1 _ rfl)) fun a hf=>?_
 have hkk:keyV 0 (.v (vI (idN x)))=some (vI (idN x)):=rfl
 have hr:Rd W (fun b=>w.heap.size≤b) (.v (.string (nmN x))) (.string (nmN x)):=.v _
 obtain⟨p1,p2⟩:=ent_put (kk:=.v (vI (idN x))) (kv:=vI (idN x)) (tv:=.v (.string (nmN x))) he rfl hkk hr (.inr rfl)
 have fin:∀es' clock',(Instr.mapUpdate 80 (.map (some (w.heap.size+1))) (vI (idN x)) (.string (nmN x))).run Try.prog W=.ok () (setMap W (w.heap.size+1) es' clock') →
  EntL W (fun b=>w.heap.size≤b) 1000000000 (mapPut (.v (vI (idN x))) (.v (.string (nmN x))) mp) es' clock'→∃es clock,(Instr.mapUpdate 80 (.map (some (w.heap.size+1))) (vI (idN x)) (.string (nmN x))).run Try.prog W=.ok () (setMap W (w.heap.size+1) es clock) ∧
  Bk w (setMap W (w.heap.size+1) es clock) vh vd (mapPut (.v (vI (idN x))) (.v (.string (nmN x))) mp):=fun es' clock' h1 h2=>by
  have hs:=setMap_stp W (w.heap.size+1) es' clock'
  have lt:∀{k:Nat} {o:Obj},W.heap[k]?=some o→k<W.heap.size:=fun h=>(Array.getElem?_eq_some_iff.1 h).1
  refine⟨es',clock',h1,hB.stp.after hs fun b hb hlt=>by omega,(hs.blk _ (lt hB.b1) (by omega)).trans hB.b1,⟨es',clock',?_,h2.step hs (fun b hb=>by omega) fun b hb=>.inl hb⟩,(hs.blk _ (lt hB.b3) (by omega)).trans hB.b3,Nat.le_trans hB.sz hs.size⟩
  have:=lt hm
  simp[setMap,this]
 obtain⟨es1,clock1,r1,r2⟩:∃es clock,(Instr.mapUpdate 80 (.map (some (w.heap.size+1))) (vI (idN x)) (.string (nmN x))).run Try.prog W=.ok () (setMap W (w.heap.size+1) es clock) ∧
  Bk w (setMap W (w.heap.size+1) es clock) vh vd (mapPut (.v (vI (idN x))) (.v (.string (nmN x))) mp):=by
  rcases run_mapUpdate u80 k3 hkk rfl hm he.1 he.2.1 (.string (nmN x)) with⟨q1,q2⟩ | ⟨j,q1,q2⟩
  ·exact fin _ _ q2 (p1 q1)
  ·exact fin _ _ q2 (p2 j q1)
 refine in_skip hfn (fun c h=>by cases h) hf rfl (rn_mapUpd hf rfl rfl rfl rfl r1) fun a hf=>?_
 exact hn a _ _ r2
end Go.Eng.En
namespace Go.Eng.En
open Go.Eng Go.RowKit Go.Proofs
abbrev mkD(D:Nat):List Deferred:=[{ target:=.collected D,args:=#[] }]
noncomputable def infoB(t n:Nat):Bool:=match Try.prog.info? t with
 | some i=>match i.zero with
  | some z=>decide (z.cells.size=n)
  | none=>false
 | none=>false
theorem infoB_ok{t n:Nat}(h:infoB t n=true):∃i z,Try.prog.info? t=some i∧i.zero=some z∧z.cells.size=n:=by
 unfold infoB at h
 split at h
 ·rename_i i hi
  split at h
  ·rename_i z hz
   exact⟨i,z,hi,hz,of_decide_eq_true h⟩
  ·cases h
 ·cases h
theorem Fr.mark1{n:Nat}{env:List (Nat×Value)}{a:Act}(h:Fr n env a)(d:Deferred):Fr n env { a with defers:=d::a.defers } [d]:=⟨h.size,by rw[h.defers],h.get⟩
theorem c32:Callable Try.prog 32:=⟨_,Try.func32,by kernel_rfl,by kernel_rfl⟩
theorem c52:Callable Try.prog 52:=⟨_,Try.func52,by kernel_rfl,by kernel_rfl⟩
set_option maxRecDepth 20000 in
set_option maxHeartbeats 8000000 in
theorem typed1{idN:Nat→Int}{nmN:Nat→ByteArray}{slN:Nat→Value}{w:World}{vh:Value}{p:Option Addr}{len cap:Nat}{R:Ending→World→Prop}(hmax:len≤maxLen)(h1:∀i,(slN i).oneCell'=true)(hvh:vh.oneCell'=true)
 (hel:0<len→∃A,p=some A∧A.block<w.heap.size∧∀i,i<len→∀(j:Nat) y,[vI (idN i),.string (nmN i),slN i][j]?=some y→w.cell? ((A.add (i*3)).add j)=some y)
 (hpost:∀a W D,Fr 44 [(3,.pointer (some ⟨w.heap.size+2,0,none⟩)),(2,.slice none 0 0),(1,.pointer (some ⟨w.heap.size,0,none⟩))] a (mkD D)→Bk w W vh (.slice p len cap) (wordsF idN nmN (pre len 0))→W.heap[D]?=some (.deferred (some []))→w.heap.size+4≤D →
  (cdGo [1,1,1] (cdOf Try.f13)).wp Try.prog (bodyPostM Fence.wide 10 Try.prog Try.f13 R) a W):
 Calls Try.prog 13 #[.agg #[vh,.slice p len cap]] w R:=by
 refine callsM_start (c:=cdOf Try.f13) (k:=10) [.agg #[vh,.slice p len cap]] 43 44 Try.func13 (by kernel_rfl) rfl (by kernel_rfl) fun a hf=>?_
 refine wp_seq (wp_reg (by kernel_rfl) ?_)
 refine op_val hf rfl (by decide) (rn_box hf rfl rfl) fun a hf=>?_
 refine op_assign hf rfl rfl (by decide) rfl fun a hf=>?_
 refine wp_seq (wp_reg (by kernel_rfl) ?_)
 refine op_val hf rfl (by decide) (rn_makeMap rfl) fun a hf=>?_
 obtain⟨i80,z80,hi80,hz80,hs80⟩:=infoB_ok (t:=80) (n:=1) (by kernel_rfl)
 obtain⟨i39,z39,hi39,hz39,hs39⟩:=infoB_ok (t:=39) (n:=3) (by kernel_rfl)
 refine op_val hf rfl (by decide) (rn_alloc rfl hi80 hz80) fun a hf=>?_
 refine op_skip hf rfl (rn_storeN hf rfl (cs:=#[.map (some (w.heap.size+1))]) s80 rfl (by simp only[World.size_alloc];rfl) rfl (by simp;rfl) (World.alloc_heap_new _ _) (by rw[hs80];rfl)) fun a hf=>?_
 rw[World.setRow_alloc_new]
 refine wp_seq (wp_seq (wp_reg (by kernel_rfl) ?_))
 refine op_val hf rfl (by decide) (rn_fld hf rfl f28 rfl s26 (by decide) rfl) fun a hf=>?_
 have hw3:∀(W:World),W=((w.alloc (.cells #[vh,.slice p len cap] 28)).alloc (.map #[] 0)).alloc (.cells #[.map (some (w.heap.size+1))] 80)→W.cell? ⟨w.heap.size,1,none⟩=some (.slice p len cap)∧W.heap.size=w.heap.size+3:=fun W hW=>by
  subst hW
  have h:(((w.alloc (.cells #[vh,.slice p len cap] 28)).alloc (.map #[] 0)).alloc (.cells #[.map (some (w.heap.size+1))] 80)).heap[w.heap.size]?=some (.cells #[vh,.slice p len cap] 28):=al _ (al _ (al0 _ _ rfl))
  exact⟨by simp only[World.cell?,h];rfl,by simp only[World.size_alloc]⟩
 refine op_load hf rfl rfl (by decide) s26 a26 rfl (hw3 _ rfl).1 fun a hf=>?_
 refine op_call hf rfl rfl rfl (by decide) c32 rfl (back32 (.slice p len cap) _ rfl) fun e w' he=>?_
 obtain⟨rfl,rfl⟩:=he
 refine⟨_,rfl,fun a hf=>?_⟩
 simp only[World.size_alloc] at hf
 show Code.wp Try.prog (.block 0 _) _ a (wS w vh (.slice p len cap))
 have hS:=wS_size w vh (.slice p len cap)
 refine wp_block ((wpIn_wide (n:=10)).1 ?_)
 refine wpIn_rangeFunc_ownH (α:=Nat) rfl (by decide) (gf:=52) (lb:=#[.pointer (some ⟨w.heap.size+3,0,none⟩)]) (hf.ev rfl) trivial (fun args w=>callFunc_run c52)
  (encs:=fun i=>#[vI (i:Nat),.agg (elF idN nmN slN i).toArray]) (Kp:=Kp (w.heap.size+4) (w.heap.size+1)) (S:=fun xs=>xs=pre len 0) (Sp:=fun _=>True) (N:=len) (w0:=wS w vh (.slice p len cap)) ?seq
  (fun h k=>h.trans k) (fun W l o o' hl _ _ _ b hb _=>?kb) (Below.refl _ _) (fun _=>rfl)
  (fun pre W=>Bk w W vh (.slice p len cap) (wordsF idN nmN pre)) (fun _ _ _=>False) ?own (fun _ _ _ _ _ hs _ _=>hs) (wS_bk w vh _) (Ax w (elF idN nmN slN)) ?axo ?assign ?body ?done ?stop
 case kb=>exact World.putObj_heap_other (by rw[hS] at hl;omega)
 case own=>
  intro s A B row hs hg hr
  refine hs.step (Stp.grown hg fun g e=>?_)
  have:=(hr g e).1
  rw[hS] at this
  exact this
 case axo=>
  rintro x a' _ A B row ⟨g,hg1,hg2,hf⟩ hgr hr
  refine⟨g,hg1,(hgr.block g (Array.getElem?_eq_some_iff.1 hg2).1 fun e=>?_).trans hg2,hf⟩
  obtain⟨o,ho,hc⟩:=(hr g e.symm).2
  rw[hg2] at ho
  cases ho
  cases hc
 case stop=>exact fun D c pre W _ _ h _=>h.elim
 case done=>
  intro D xs W hD hxs hI hd
  subst hxs
  rw[hS] at hD
  exact hpost _ W D ((Fr.mark1 hf _).weak ⟨rfl,rfl,rfl,trivial⟩) hI hd hD
 case body=>
  intro l pre x a' W hl hrec hI hA hlen
  have hA0:=hA
  refine round rfl hI hA0 fun a' es clock hB=>?_
  have hst:=setMap_stp W (w.heap.size+1) es clock
  refine⟨⟨hst.size,fun k o hk h1 _=>(hst.blk k (Array.getElem?_eq_some_iff.1 h1).1 (by rw[hS] at hk;omega)).trans h1⟩,fun b hb hne=>?_,by show Bk w _ vh _ (wordsF idN nmN (pre++[x]));rw[wordsF_snoc];exact hB⟩
  have hsz:=hI.b3
  have:=(Array.getElem?_eq_some_iff.1 hsz).1
  by_cases hbl:b<W.heap.size
  ·exact hst.blk b hbl hne
  ·rw[Array.getElem?_eq_none (by have:=hst.size;show (setMap W _ _ _).heap.size≤b;simp[setMap];omega),Array.getElem?_eq_none (by omega)]
 case assign=>
  intro l pre x W K hI hK
  have hfn:∀f,(Fence.wide.inRound l).fn f:=fun f=>trivial
  have hfr:=Fr.rnd hf (p:=14) (q:=15) (by decide) (by decide) (vI (x:Nat)) (.agg (elF idN nmN slN x).toArray)
  refine wp_regI (by kernel_rfl) ?_
  refine in_val hfn (fun c h=>by cases h) hfr rfl (by decide) (rn_alloc rfl hi39 hz39) fun a hf=>?_
  refine in_skip hfn (fun c h=>by cases h) hf rfl (rn_storeN hf rfl (cs:=(elF idN nmN slN x).toArray) s39 rfl rfl rfl (fun v hv=>?_) (World.alloc_heap_new _ _) (by rw[hs39];rfl)) fun a hf=>?_
  ·simp only[elF,List.mem_cons,List.not_mem_nil,or_false] at hv
   rcases hv with rfl | rfl | rfl
   ·rfl
   ·rfl
   ·exact h1 x
  rw[World.setRow_alloc_new]
  have hst:=Stp.alloc (fun _=>False) W (.cells (elF idN nmN slN x).toArray 39)
  have hbl:∀(k:Nat) (o:Obj),W.heap[k]?=some o→(W.alloc (.cells (elF idN nmN slN x).toArray 39)).heap[k]?=some o:=fun k o h=>al _ h
  refine hK a _ ⟨hst.size,fun k o _ h1 _=>hbl k o h1⟩ (fun b hb _=>hst.blk b (by have:=hI.sz;omega) id) (hI.step (hst.mono fun _ h=>h.elim)) ⟨W.heap.size,hI.sz,World.alloc_heap_new _ _,hf.weak ⟨rfl,rfl,trivial⟩⟩
 case seq=>
  intro l J Jx W hW _ _ hY h0
  rw[hS] at hW
  have hcw:∀{q:Addr} {v:Value},q.block<w.heap.size+4→(wS w vh (.slice p len cap)).cell? q=some v→W.cell? q=some v:=fun hq hc=>(World.cell?_of_block (hW.block _ hq)).trans hc
  refine(back52 (n:=9) (gb:=w.heap.size+3) (gm:=w.heap.size+1) (nS:=w.heap.size+4) (el:=elF idN nmN slN) (p:=p) (len:=len) (cap:=cap) ⟨by omega,by omega⟩ (hcw (by show w.heap.size+3<_;omega) (wS_gb w vh _)) (fun h0=>?_) hmax hY h0).mono fun e W' h=>h
  obtain⟨A,rfl,hA1,hA2⟩:=hel h0
  refine⟨A,rfl,by omega,by omega,fun i hi=>⟨rfl,fun j y hj=>hcw (by rw[add_block,add_block];omega) ?_⟩⟩
  exact(wS_stp w vh _).cell (hA2 i hi j y hj) id
end Go.Eng.En
namespace Go.Eng.En
open Go.Eng Go.RowKit Go.Proofs
def dT(p:Int×Int):T:=.agg [.v (vI p.1),.v (vI p.2),.v (vI (-1)),.v (vI (-1)),.v (vI (-1))]
def dV1(p:Int×Int):List Value:=[vI p.1,vI p.2,vI (-1),vI (-1),vI (-1)]
def dv(L:List (Int×Int)):List Value:=L.flatMap dV1
noncomputable def typL(words:List T):List T→List T→Option (List T)
 | [],out=>some out
 | x::l,out=>ob (T.int? .i64 (T.cell x 0)) fun id=>ob (T.str? (T.cell x 1)) fun nm=>ob (T.sl? 7 (T.cell x 2)) fun args=>ob (u_entity_typed (words,nm,args,())) fun e=>
  bif eqI e.1 0 then typL words l out else ob (room out [dT (e.1,id)] 40) fun out=>typL words l out
structure Pk (WD W:World) (lv:Value) (L:List (Int×Int)):Prop where
 stp:Stp (fun _=>False) WD W
 row:rowAt W 54 5 lv L.length (dv L)
 lb:∀b,blk lv=some b→WD.heap.size≤b
theorem Pk.step{WD W W':World}{lv:Value}{L:List (Int×Int)}(h:Pk WD W lv L)(hs:Stp (fun _=>False) W W'):Pk WD W' lv L:=⟨h.stp.trans hs,h.row.step hs fun _ _ h=>h,h.lb⟩
noncomputable def info54:Bool:=match Try.prog.info? 54 with
 | some i=>match i.zero with
  | some z=>decide (z.cells.size=5∧i.size=5∧i.bytes=40)
  | none=>false
 | none=>false
theorem info54_ok:∃i z,Try.prog.info? 54=some i∧i.zero=some z∧z.cells.size=5∧i.size=5∧i.bytes=40:=by
 have h:info54=true:=by kernel_rfl
 unfold info54 at h
 split at h
 ·rename_i i hi
  split at h
  ·rename_i z hz
   exact⟨i,z,hi,hz,of_decide_eq_true h⟩
  ·cases h
 ·cases h
theorem u50:Try.prog.underlying 50=some (.slice 54):=by kernel_rfl
theorem bk_neq(x:Int):binK Try.prog .neq 52 52 (dV (vI x)) (dV (vI 0)) some=some (dV (.bool (!eqI x 0))):=by kernel_rfl
theorem c_typed(m:List T)(s:ByteArray)(l:List T):((calleeOf sg_entity_typed u_entity_typed).call [.c (.t (.sl 1000000000 m)),.agg [.t (.v (.string s)),.t (.sl 7 l)]] [] fun rs po=>some (rs,po))=ob (u_entity_typed (m,s,l,())) fun q=>some ([.c (.t (.v (.int .i64 q.1)))],[]):=by kernel_rfl
theorem c_wrong(x y:Int):((calleeOf sg_entity_wrong u_entity_wrong).call [.c (.t (.v (.int .i64 x))),.c (.t (.v (.int .i64 y)))] [] fun rs po=>some (rs,po))=some ([.agg [.t (.v (vI x)),.t (.v (vI y)),.t (.v (vI (-1))),.t (.v (vI (-1))),.t (.v (vI (-1)))]],[]):=by kernel_rfl
theorem c33:Callable Try.prog 33:=⟨_,Try.func33,by kernel_rfl,by kernel_rfl⟩
theorem c34:Callable Try.prog 34:=⟨_,Try.func34,by kernel_rfl,by kernel_rfl⟩
theorem res_int{w:World}{b:Int}{v:Value}(h:RdRes w (fun _=>False) (fun _=>none) [.c (.t (.v (.int .i64 b)))] v):v=vI b:=by
 rcases(h:RdC1 _ _ _ _ _) with h | ⟨h,_⟩
 ·cases h
 ·exact Rd.inv_v h
theorem res_vals{w:World}{vs:List Value}{v:Value}(h:RdRes w (fun _=>False) (fun _=>none) [.agg (vs.map fun v=>.t (.v v))] v):v=.agg vs.toArray:=by
 have h':RdS w (fun _=>False) (fun _=>none) (.agg (vs.map fun v=>.t (.v v))) v:=h
 obtain⟨ys,rfl,h1,h2⟩:=h'
 rw[List.length_map] at h1
 congr 1
 apply Array.ext'
 apply List.ext_getElem?
 intro i
 cases hi:vs[i]? with
 | none=>
  have:=List.getElem?_eq_none_iff.1 hi
  rw[List.getElem?_eq_none (by omega)]
 | some u=>
  have hlt:i<vs.length:=(List.getElem?_eq_some_iff.1 hi).1
  rw[List.getElem?_eq_getElem (by omega)]
  rcases h2 i (.t (.v u)) _ (by rw[List.getElem?_map,hi];rfl) (List.getElem?_eq_getElem (by omega)) with h | ⟨h,_⟩
  ·cases h
  ·rw[Rd.inv_v h]
theorem Bk.words{w W:World}{vh vd:Value}{m:List T}(h:Bk w W vh vd m):RdC1 W (fun _=>False) (fun _=>none) (.t (.sl 1000000000 m)) (.map (some (w.heap.size+1))):=by
 obtain⟨es,clock,hm,h1,h2,h3,h4,h5⟩:=h.bm
 exact .inr ⟨.mp _ _ _ es clock (Nat.le_refl _) hm id h1 h2 ⟨h4,h5⟩ fun i k v e a b=>(h3 i k v e a b).weak fun _ h=>h.elim,rfl⟩
theorem dv_snoc(L:List (Int×Int))(p:Int×Int):dv (L++[p])=dv L++dV1 p:=by unfold dv;rw[List.flatMap_append];simp
theorem dv_rd{W:World}{X:Nat→Prop}:∀L:List (Int×Int),RdT W X (flat (L.map dT)) (dv L)
 | []=>⟨rfl,fun i t y h1 _=>by simp[flat] at h1⟩
 | p::L=>by
  have h:RdT W X (dT p).cells (dV1 p):=⟨rfl,fun i t y h1 h2=>by
   match i,h1,h2 with
   | 0,h1,h2=>cases h1;cases h2;exact⟨.v _,rfl⟩
   | 1,h1,h2=>cases h1;cases h2;exact⟨.v _,rfl⟩
   | 2,h1,h2=>cases h1;cases h2;exact⟨.v _,rfl⟩
   | 3,h1,h2=>cases h1;cases h2;exact⟨.v _,rfl⟩
   | 4,h1,h2=>cases h1;cases h2;exact⟨.v _,rfl⟩
   | n+5,h1,h2=>simp[dV1] at h2⟩
  have:=h.append (dv_rd L)
  rw[List.map_cons,flat_cons]
  exact this
theorem row_rd{W:World}{X:Nat→Prop}{lv:Value}{L:List (Int×Int)}(h:rowAt W 54 5 lv L.length (dv L))(hX:∀b,blk lv=some b→¬X b):Rd W X (.sl 5 (L.map dT)) lv:=by
 have ho:okO W X (fun _=>none) lv (.row false 54 5 (L.map dT)):=⟨⟨by decide,by decide⟩,fun t ht=>(by obtain⟨p,_,rfl⟩:=List.mem_map.1 ht;rfl),⟨_,by rw[List.length_map];exact h,dv_rd L⟩,fun h=>by cases h⟩
 exact row_tree ho (fun _ h=>h) hX
section
variable {idN:Nat→Int} {nmN:Nat→ByteArray} {slN:Nat→Value} {argN:Nat→List T} {w WD:World} {vh:Value} {p:Option Addr} {len cap D:Nat} {m:List T} {Df:List Deferred}
abbrev lenv(w:World)(p:Option Addr)(len cap i:Nat)(lv:Value):List (Nat×Value):=[(25,vI (i:Nat)),(24,vI (len:Nat)),(23,.slice p len cap),(6,lv),(3,.pointer (some ⟨w.heap.size+2,0,none⟩)),(1,.pointer (some ⟨w.heap.size,0,none⟩))]
set_option maxRecDepth 20000 in
set_option maxHeartbeats 8000000 in
theorem rnd2{c:Code}{i:Nat}{lv:Value}{L:List (Int×Int)}{a:Act}{W:World}{Q:Exit→Act→World→Prop}{fin:List T}{Dl:List T}{x:T}
 (hc:c=cdGo [1,1,1,1,0,1,0,0,1,1] (cdOf Try.f13)) (hG:Good Try.prog w fun _=>False) (hB:Bk w WD vh (.slice p len cap) m) (hi:i<len) (hmax:len≤maxLen)
 (hel:∃A,p=some A∧A.block<w.heap.size∧∀i,i<len→∀(j:Nat) y,[vI (idN i),.string (nmN i),slN i][j]?=some y→w.cell? ((A.add (i*3)).add j)=some y)
 (h1:∀i,(slN i).oneCell'=true) (hsl:Rd w (fun _=>False) (.sl 7 (argN i)) (slN i))
 (hx:T.cell x 0=.v (vI (idN i))∧T.cell x 1=.v (.string (nmN i))∧T.sl? 7 (T.cell x 2)=some (argN i))
 (hty:typL m (x::Dl) (L.map dT)=some fin) (hP:Pk WD W lv L) (hf:Fr 44 (lenv w p len cap i lv) a Df)
 (hn:∀a' W' lv' L',Fr 44 (lenv w p len cap (i+1) lv') a' Df→Pk WD W' lv' L'→typL m Dl (L'.map dT)=some fin→Q .normal a' W'):c.wp Try.prog Q a W:=by
 subst hc
 obtain⟨A,rfl,hA1,hA2⟩:=hel
 obtain⟨x0,x1,x2⟩:=hx
 have hty':=hty
 simp only[typL,x0,x1,x2] at hty'
 obtain⟨i0,e0,hty1⟩:=ob_some hty'
 obtain⟨s0,e1,hty2⟩:=ob_some hty1
 obtain⟨l0,e2,hty3⟩:=ob_some hty2
 have f0:i0=idN i:=by rw[T_int] at e0;cases e0;rfl
 have f1:s0=nmN i:=by rw[T_str] at e1;cases e1;rfl
 cases e2
 subst f0;subst f1
 obtain⟨q,hq,hty4⟩:=ob_some hty3
 obtain⟨i39,z39,hi39,hz39,hs39⟩:=infoB_ok (t:=39) (n:=3) (by kernel_rfl)
 have hstp:Stp (fun _=>False) w W:=hB.stp.trans hP.stp
 refine wp_seq (wp_block (wp_seq (wp_reg (by kernel_rfl) ?_)))
 refine op_index (m:=3) hf rfl rfl (by decide) u26 s39 rfl rfl (by omega) (by omega) fun a hf=>?_
 refine op_val hf rfl (by decide) (rn_loadA (ys:=elF idN nmN slN i) hf rfl s39 a39 rfl fun j y hj=>hstp.cell (by rw[Int.toNat_natCast];exact hA2 i hi j y hj) id) fun a hf=>?_
 refine op_val hf rfl (by decide) (rn_alloc rfl hi39 hz39) fun a hf=>?_
 refine op_skip hf rfl (rn_storeN hf rfl (cs:=(elF idN nmN slN i).toArray) s39 rfl rfl rfl (fun v hv=>?_) (World.alloc_heap_new _ _) (by rw[hs39];rfl)) fun a hf=>?_
 ·simp only[elF,List.mem_cons,List.not_mem_nil,or_false] at hv
  rcases hv with rfl | rfl | rfl
  ·rfl
  ·rfl
  ·exact h1 i
 rw[World.setRow_alloc_new]
 have hP1:=hP.step (Stp.alloc (fun _=>False) W (.cells (elF idN nmN slN i).toArray 39))
 have hbox:=World.alloc_heap_new W (.cells (elF idN nmN slN i).toArray 39)
 have hcl:∀W',Stp (fun _=>False) (W.alloc (.cells (elF idN nmN slN i).toArray 39)) W'→∀(j:Nat) y,(elF idN nmN slN i)[j]?=some y→W'.cell? ⟨W.heap.size,j,none⟩=some y:=fun W' hs j y hj=>hs.cell (by
  simp only[World.cell?,hbox]
  simpa using hj) id
 generalize W.alloc (.cells (elF idN nmN slN i).toArray 39)=W1 at hP1 hbox hcl
 have hB1:Bk w W1 vh (.slice (some A) len cap) m:=hB.step (hP1.stp.mono fun _ h=>h.elim)
 refine wp_seq (wp_reg (by kernel_rfl) ?_)
 refine op_load hf rfl rfl (by decide) s80 a80 rfl (by simp only[World.cell?,hB1.b3];rfl) fun a hf=>?_
 refine op_val hf rfl (by decide) (rn_fld hf rfl f39 rfl s37 (by decide) rfl) fun a hf=>?_
 refine op_val hf rfl (by decide) (rn_loadA (ys:=[.string (nmN i),slN i]) hf rfl s37 a37 rfl fun j y hj=>?_) fun a hf=>?_
 ·have:=hcl W1 (.refl _ _) (j+1) y (by simpa[elF] using hj)
  rw[show ((⟨W.heap.size,0,none⟩:Addr).add 1).add j=⟨W.heap.size,j+1,none⟩ from by rw[add_add,Nat.add_comm];unfold Addr.add;split <;> simp_all]
  exact this
 have hrd:Rd W1 (fun _=>False) (.sl 7 (argN i)) (slN i):=hsl.step hB1.stp (fun _ h=>h) fun _ h=>h.elim
 refine op_tree (args:=[.c (.t (.sl 1000000000 m)),.agg [.t (.v (.string (nmN i))),.t (.sl 7 (argN i))]]) hf rfl rfl rfl (by decide) c33 rfl k_entity_typed (by rw[c_typed,hq];rfl) (hG.call hB1.stp fun b h=>h.elim) (rdss_two hB1.words ⟨_,rfl,rfl,fun j c y h1' h2'=>?_⟩) (fun v a W2 hf hs2 hr=>?_) rfl
 ·match j,h1',h2' with
  | 0,h1',h2'=>cases h1';cases h2';exact .inr ⟨.v _,rfl⟩
  | 1,h1',h2'=>cases h1';cases h2';exact .inr ⟨hrd,h1 i⟩
  | n+2,h1',_=>simp at h1'
 rw[res_int hr] at hf
 have hP2:=hP1.step hs2
 have hB2:=hB1.step (hs2.mono fun _ h=>h.elim)
 refine op_assign hf rfl rfl (by decide) rfl fun a hf=>?_
 refine wp_seq (wp_reg (by kernel_rfl) ?_)
 refine op_move hf rfl rfl (by decide) rfl fun a hf=>?_
 refine op_bin (v:=.bool (!eqI q.1 0)) hf rfl rfl (by decide) rfl rfl rfl rfl (bk_neq q.1) fun a hf=>?_
 have hnext:∀(a:Act) (W':World) (lv':Value) (L':List (Int×Int)),Fr 44 [(25,vI (i:Nat)),(24,vI (len:Nat)),(23,.slice (some A) len cap),(6,lv'),(3,.pointer (some ⟨w.heap.size+2,0,none⟩)),(1,.pointer (some ⟨w.heap.size,0,none⟩))] a Df→Pk WD W' lv' L'→typL m Dl (L'.map dT)=some fin →
  (cdGo [1,1,1,1,0,1,0,0,1,1,1] (cdOf Try.f13)).wp Try.prog Q a W':=by
  intro a W' lv' L' hf hP' ht
  refine wp_reg (by kernel_rfl) ?_
  refine op_bin (v:=vI ((i+1:Nat):Int)) hf rfl rfl (by decide) rfl rfl rfl rfl ?_ fun a hf=>?_
  ·rw[bk_add,wr64 (by omega) (by have h:maxLen≤9223372036854775807:=(by decide);omega)]
   rfl
  refine op_move hf rfl rfl (by decide) rfl fun a hf=>?_
  exact hn a W' lv' L' (hf.weak ⟨rfl,rfl,rfl,rfl,rfl,rfl,trivial⟩) hP' ht
 cases hq0:eqI q.1 0 with
 | true=>
  rw[hq0] at hf hty4
  refine wp_cond_false (hf.ev rfl) (wp_skip ?_)
  exact hnext a W2 lv L (hf.weak ⟨rfl,rfl,rfl,rfl,rfl,rfl,trivial⟩) hP2 hty4
 | false=>
  rw[hq0] at hf hty4
  obtain⟨out,ho,hty5⟩:=ob_some hty4
  obtain⟨rfl,r1,r2⟩:=room_some ho
  obtain⟨i54,z54,q1,q2,q3,q4,q5⟩:=info54_ok
  refine wp_cond_true (hf.ev rfl) (wp_reg (by kernel_rfl) ?_)
  refine op_move hf rfl rfl (by decide) rfl fun a hf=>?_
  refine op_move hf rfl rfl (by decide) rfl fun a hf=>?_
  refine op_val hf rfl (by decide) (rn_fld hf rfl f39 rfl s3 (by decide) rfl) fun a hf=>?_
  refine op_load hf rfl rfl (by decide) s3 a3 rfl (hcl W2 hs2 0 _ rfl) fun a hf=>?_
  refine op_tree (args:=[.c (.t (.v (vI q.1))),.c (.t (.v (vI (idN i))))]) hf rfl rfl rfl (by decide) c34 rfl k_entity_wrong (c_wrong _ _) (hG.call hB2.stp fun b h=>h.elim) (rdss_two (.inr ⟨.v _,rfl⟩) (.inr ⟨.v _,rfl⟩)) (fun v a W3 hf hs3 hr=>?_) rfl
  rw[res_vals (vs:=dV1 (q.1,idN i)) hr] at hf
  have hP3:=hP2.step hs3
  refine op_bs1 (cs:=(dV1 (q.1,idN i)).toArray) hf rfl rfl (by decide) u50 q1 q2 (by rw[q3];rfl) (by rw[q4];rfl) (show 0<5 by decide) (show 5≤1000 by decide) rfl fun a hf=>?_
  have hr1:=rowAt_one W3 54 (dV1 (q.1,idN i)).toArray (show 0<5 by decide)
  have hP4:=hP3.step (Stp.alloc (fun _=>False) W3 (.cells (dV1 (q.1,idN i)).toArray 54))
  have hsrc:Src Try.prog 5 50 (.slice (some ⟨W3.heap.size,0,none⟩) 1 1) 1 (dV1 (q.1,idN i)) (W3.alloc (.cells (dV1 (q.1,idN i)).toArray 54)):=
   .ofSlice _ u50 ⟨W3.heap.size,0,none⟩ _ _ _ rfl (fun j u hj=>hr1.cells rfl j u hj) (fun u hu=>by
    simp only[dV1,List.mem_cons,List.not_mem_nil,or_false] at hu
    rcases hu with rfl | rfl | rfl | rfl | rfl <;> rfl)
  generalize W3.alloc (.cells (dV1 (q.1,idN i)).toArray 54)=W4 at hP4 hsrc
  rw[List.length_map] at r1 r2
  refine op_append (m:=L.length) (q:=1) (xs:=dv L) (news:=dV1 (q.1,idN i)) hf rfl rfl (by decide) u50 q1 q2 (by rw[q3,q4]) (by omega) rfl rfl (by rw[q4];exact hP4.row) (by rw[q4];exact hsrc) r1 (by rw[q5];exact r2) fun a v' W5 hf hrow hg hb=>?_
  rw[q4] at hrow
  refine op_assign hf rfl rfl (by decide) rfl fun a hf=>?_
  have hs5:Stp (fun b=>blk lv=some b) W4 W5:=Stp.grown hg fun b e=>e
  refine hnext a W5 v' (L++[(q.1,idN i)]) (hf.weak ⟨rfl,rfl,rfl,rfl,rfl,rfl,trivial⟩) ⟨hP4.stp.after hs5 fun b hb hlt=>?_,?_,fun b e=>?_⟩ (by rw[List.map_append];exact hty5)
  ·have:=hP4.lb b hb;omega
  ·rw[List.length_append,dv_snoc];exact hrow
  ·rcases hb with hb | hb
   ·exact hP4.lb b (hb▸e)
   ·rw[hb] at e;cases e;exact hP4.stp.size
set_option maxRecDepth 20000 in
set_option maxHeartbeats 8000000 in
theorem typed2{a:Act}{vh:Value}{Dl fin:List T}{R:Ending→World→Prop}(hG:Good Try.prog w fun _=>False)(hB:Bk w WD vh (.slice p len cap) m)(hlen:len=Dl.length)(hmax:len≤maxLen)
 (hel:0<len→∃A,p=some A∧A.block<w.heap.size∧∀i,i<len→∀(j:Nat) y,[vI (idN i),.string (nmN i),slN i][j]?=some y→w.cell? ((A.add (i*3)).add j)=some y)
 (h1:∀i,(slN i).oneCell'=true) (hsl:∀i,i<len→Rd w (fun _=>False) (.sl 7 (argN i)) (slN i)) (hD:IsD idN nmN argN Dl) (hty:typL m Dl []=some fin)
 (hf:Fr 44 [(3,.pointer (some ⟨w.heap.size+2,0,none⟩)),(2,.slice none 0 0),(1,.pointer (some ⟨w.heap.size,0,none⟩))] a (mkD D)) (hd:WD.heap[D]?=some (.deferred (some []))) (hD4:w.heap.size+4≤D)
 (hR:∀v w' L,Stp (fun _=>False) w w'→rowAt w' 54 5 v L.length (dv L)→(∀b,blk v=some b→w.heap.size≤b)→fin=L.map dT→R (.returned v) w'):
 (cdGo [1,1,1] (cdOf Try.f13)).wp Try.prog (bodyPostM Fence.wide 10 Try.prog Try.f13 R) a WD:=by
 have hcd:∀W,Bk w W vh (.slice p len cap) m→W.cell? ⟨w.heap.size,1,none⟩=some (.slice p len cap):=fun W h=>by simp only[World.cell?,h.b1];rfl
 refine wp_seq (wp_reg (by kernel_rfl) ?_)
 refine op_assign hf rfl rfl (by decide) rfl fun a hf=>?_
 refine wp_seq (wp_seq (wp_reg (by kernel_rfl) ?_))
 refine op_val hf rfl (by decide) (rn_fld hf rfl f28 rfl s26 (by decide) rfl) fun a hf=>?_
 refine op_load hf rfl rfl (by decide) s26 a26 rfl (hcd WD hB) fun a hf=>?_
 refine op_len hf rfl rfl (by decide) u26 rfl fun a hf=>?_
 refine op_move hf rfl rfl (by decide) rfl fun a hf=>?_
 refine wp_block ?_
 refine loop_ind (m:=len) (fun k a W=>∃(i:Nat) (lv:Value) (L:List (Int×Int)),i+k=len∧typL m (Dl.drop i) (L.map dT)=some fin∧Fr 44 (lenv w p len cap i lv) a (mkD D)∧Pk WD W lv L) ?_ ?_
  ⟨0,_,[],Nat.zero_add _,hty,hf.weak ⟨rfl,rfl,rfl,rfl,rfl,rfl,trivial⟩,.refl _ _,rowAt.nil _ _ _,fun b hb=>by cases hb⟩
 ·rintro K a W ⟨i,lv,L,hi,ht,hf,hP⟩
  have hil:i=len:=by omega
  subst hil
  rw[List.drop_of_length_le (by omega)] at ht
  simp only[typL,Option.some.injEq] at ht
  refine wp_seq (wp_reg (by kernel_rfl) ?_)
  refine op_bin (v:=.bool false) hf rfl rfl (by decide) rfl rfl rfl rfl ?_ fun a hf=>?_
  ·rw[bk_lss,ltI_eq,decide_eq_false (by omega)]
  refine wp_seq (wp_cond_false (hf.ev rfl) (wp_exit ?_))
  show Code.wp Try.prog (cdGo [1,1,1,1,1] (cdOf Try.f13)) _ a W
  refine wp_seq (wp_reg (by kernel_rfl) ?_)
  refine op_move hf rfl rfl (by decide) rfl fun a hf=>?_
  refine op_assign hf rfl rfl (by decide) rfl fun a hf=>?_
  refine wp_ret ?_
  have hdl:D<WD.heap.size:=(Array.getElem?_eq_some_iff.1 hd).1
  have hd':W.heap[D]?=some (.deferred (some [])):=(hP.stp.blk D hdl id).trans hd
  have hput:Stp (fun b=>b=D) W (W.putObj D (.deferred none)):=Stp.grown (grownBy_putObj' W D _) fun g e=>by cases e;rfl
  show LeavesInM Fence.wide 10 Try.prog Try.f13 a.tmps R a.defers .returning W
  rw[hf.defers]
  refine⟨by simp,.inl ⟨D,_,rfl,run_takeDeferred hd',lv,?_,?_⟩⟩
  ·unfold results
   rw[show Try.f13.results=#[.tmp 2] from rfl]
   have:=hf.get 2 lv rfl
   rw[Array.getD_eq_getD_getElem?] at this
   simp[this]
  ·refine hR lv _ L ((hB.stp.trans hP.stp).after hput fun b hb hlt=>by subst hb;omega) (hP.row.step hput fun b hb e=>?_) (fun b hb=>?_) ht.symm
   ·have:=hP.lb b hb;omega
   ·exact Nat.le_trans (Nat.le_trans (by omega) hB.sz) (hP.lb b hb)
 ·rintro k K hK a W ⟨i,lv,L,hi,ht,hg,hP⟩
  have hil:i<len:=by omega
  obtain⟨x,hx⟩:∃x,Dl[i]?=some x:=⟨_,List.getElem?_eq_getElem (by omega)⟩
  have hdr:Dl.drop i=x::Dl.drop (i+1):=by
   obtain⟨h,rfl⟩:=List.getElem?_eq_some_iff.1 hx
   exact List.drop_eq_getElem_cons h
  rw[hdr] at ht
  refine wp_seq (wp_reg (by kernel_rfl) ?_)
  refine op_bin (v:=.bool true) hg rfl rfl (by decide) rfl rfl rfl rfl ?_ fun a hf=>?_
  ·rw[bk_lss,ltI_eq,decide_eq_true (by omega)]
  refine wp_seq (wp_cond_true (hf.ev rfl) (wp_skip ?_))
  exact rnd2 (argN:=argN) rfl hG hB hil hmax (hel (by omega)) h1 (hsl i hil) (hD i x hx) ht hP (hf.weak ⟨rfl,rfl,rfl,rfl,rfl,rfl,trivial⟩) fun a' W' lv' L' hf' hP' ht'=>hK a' W' ⟨i+1,lv',L',by omega,ht',hf',hP'⟩
end
end Go.Eng.En
namespace Go.Eng.En
open Go.Eng Go.RowKit Go.Proofs
noncomputable def wordsL:List T→Option (List T)
 | []=>some []
 | x::l=>ob (wordsL l) fun m=>ob (T.int? .i64 (T.cell x 0)) fun id=>ob (T.str? (T.cell x 1)) fun nm=>some (mapPut (.v (vI id)) (.v (.string nm)) m)
theorem words_eq{idN:Nat→Int}{nmN:Nat→ByteArray}{argN:Nat→List T}{D:List T}(hD:IsD idN nmN argN D):∀(j k:Nat) (m:List T),k+j=D.length→wordsL (D.drop k)=some m→m=wordsF idN nmN (pre D.length k)
 | 0,k,m,hk,h=>by
  rw[List.drop_of_length_le (by omega)] at h
  simp only[wordsL,Option.some.injEq] at h
  rw[show k=D.length from by omega,pre_len,←h];rfl
 | j+1,k,m,hk,h=>by
  obtain⟨x,hx⟩:∃x,D[k]?=some x:=⟨_,List.getElem?_eq_getElem (by omega)⟩
  have hdr:D.drop k=x::D.drop (k+1):=by
   obtain⟨h,rfl⟩:=List.getElem?_eq_some_iff.1 hx
   exact List.drop_eq_getElem_cons h
  rw[hdr] at h
  simp only[wordsL] at h
  obtain⟨m1,h1,h⟩:=ob_some h
  obtain⟨d0,d1,_⟩:=hD k x hx
  rw[d0,d1,T_int,T_str] at h
  obtain⟨_,e1,h⟩:=ob_some h
  cases e1
  obtain⟨_,e2,h⟩:=ob_some h
  cases e2
  cases h
  rw[words_eq hD j (k+1) m1 (by omega) h1,←wordsF_snoc,pre_step (by omega)]
theorem typL_all{m:List T}:∀(l out fin:List T),typL m l out=some fin→∀x∈l,∃id nm args,T.int? .i64 (T.cell x 0)=some id∧T.str? (T.cell x 1)=some nm∧T.sl? 7 (T.cell x 2)=some args
 | [],_,_,_=>fun x hx=>by cases hx
 | y::l,out,fin,h=>fun x hx=>by
  simp only[typL] at h
  obtain⟨id,h0,h⟩:=ob_some h
  obtain⟨nm,h1,h⟩:=ob_some h
  obtain⟨args,h2,h⟩:=ob_some h
  rcases List.mem_cons.1 hx with rfl | hx
  ·exact⟨id,nm,args,h0,h1,h2⟩
  ·obtain⟨e,_,h⟩:=ob_some h
   cases hc:eqI e.1 0 with
   | true=>rw[hc] at h;exact typL_all l _ _ h x hx
   | false=>
    rw[hc] at h
    obtain⟨o,_,h⟩:=ob_some h
    exact typL_all l _ _ h x hx
theorem isD_of{m D fin:List T}(h:typL m D []=some fin):∃idN nmN argN,IsD idN nmN argN D:=by
 refine⟨fun i=>((D[i]?).bind fun x=>T.int? .i64 (T.cell x 0)).getD 0,fun i=>((D[i]?).bind fun x=>T.str? (T.cell x 1)).getD ByteArray.empty,fun i=>((D[i]?).bind fun x=>T.sl? 7 (T.cell x 2)).getD [],fun i x hx=>?_⟩
 obtain⟨id,nm,args,h0,h1,h2⟩:=typL_all _ _ _ h x (List.mem_of_getElem? hx)
 simp only[hx,Option.bind_some,h0,h1,h2,Option.getD_some]
 exact⟨T_int_some h0,T_str_some h1,trivial⟩
end Go.Eng.En
namespace Go.Eng
open Go.Proofs Go.RowKit En
def sg_entity_Typed:Sig:={ na:=1,np:=0,hin:={ items:=[.aggs 0 2],shapes:=[.sl 2,.sl 3] },nres:=1,kept:=[],nnew:=0,hout:={ items:=[.slot 0],shapes:=[.sl 5] },nob:=16 }
noncomputable def u_entity_Typed(t:((List T)×(List T)×Unit)):Option ((List T)×Unit):=ob (wordsL t.2.1) fun m=>ob (typL m t.2.1 []) fun out=>some (out,())
theorem k_entity_Typed:(calleeOf sg_entity_Typed u_entity_Typed).OK Try.prog 13:=by
 refine libCallee rfl rfl fun t q hq w X F ρ vals hG hX hvl hv rs hrs=>?_
 unfold u_entity_Typed at hq
 obtain⟨m,hm,hq⟩:=ob_some hq
 obtain⟨fin,hfin,hq⟩:=ob_some hq
 cases hq
 obtain⟨H,D,u⟩:=t
 obtain⟨idN,nmN,argN,hD⟩:=isD_of hfin
 match vals,hvl with
 | [v],_=>
 have hr:RdS w X ρ (.agg [.t (.sl 2 H),.t (.sl 3 D)]) v:=hv 0 _ v rfl rfl
 obtain⟨ys,rfl,h1,h2⟩:=hr
 obtain⟨l⟩:=ys
 match l,h1 with
 | [vh,vd],_=>
 have r1:RdC1 w X ρ (.t (.sl 3 D)) vd:=h2 1 _ _ rfl rfl
 rcases r1 with r1 | ⟨r1,_⟩
 ·cases r1
 have r0:RdC1 w X ρ (.t (.sl 2 H)) vh:=h2 0 _ _ rfl rfl
 rcases r0 with r0 | ⟨_,o0⟩
 ·cases r0
 have hr1:Rd w X (.sl 3 D) vd:=r1
 obtain⟨p,cap,slN,rfl,hmax,hone,hel,hsl⟩:=ents hr1 hD
 have hw:=words_eq hD D.length 0 m (Nat.zero_add _) hm
 subst hw
 refine typed1 (idN:=idN) (nmN:=nmN) (slN:=slN) hmax hone o0 hel fun a W Dm hf hB hd hD4=>?_
 refine typed2 (argN:=argN) (fun g k hg=>⟨id,(hG g k hg).2⟩) hB rfl hmax hel hone hsl hD hfin hf hd hD4 fun v w' L hs hrow hb he=>⟨v,rfl,hs,?_⟩
 subst he
 have:rs=[.c (.t (.sl 5 (L.map dT)))]:=by
  have h:s1s [.s (.c (.t (.sl 5 (L.map dT))))]=some rs:=hrs
  simp only[s1s,Option.map_some,Option.some.injEq] at h
  exact h.symm
 subst this
 exact .inr ⟨row_rd hrow fun b hb' hx=>by have:=hX b hx;have:=hb b hb';omega,rowAt.one hrow⟩
end Go.Eng
