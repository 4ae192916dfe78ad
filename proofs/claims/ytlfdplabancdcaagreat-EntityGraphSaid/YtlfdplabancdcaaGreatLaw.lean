/- The functions and the laws of this seat in plain words; each statement names its conditions. -/
import Derived.Deep.WholeRow
import Derived.Test.YtlfdplabancdcaaGreatEng4
import Derived.Test.YtlfdplabancdcaaGreatEng3
import Derived.Test.YtlfdplabancdcaaGreatProg
set_option linter.unusedSimpArgs false
set_option linter.unusedVariables false
namespace Go.Eng
open Go.Proofs
theorem mixed:Tryz.prog.follows .mixedOrders=true:=by kernel_rfl
def sg_brepkernelmade_Mod:Sig:=⟨2,0,⟨[.slot 0,.slot 1],[I6,I6]⟩,1,[],0,⟨[.slot 0],[I6]⟩,28⟩
noncomputable def u_brepkernelmade_Mod(t:Int×Int×Unit):Option (Int×Unit):=ob (nz t.2.1) fun x0=>ob (α:=Int×Unit⊕Empty) (bif ltI (modI t.1 x0) (0:Int) then some (.inl (wr .i64 (addI (modI t.1 x0) t.2.1),())) else some (.inl (modI t.1 x0,()))) fun q1=>onS q1 (fun t2=>some (t2.1,())) fun q3=>noS q3
theorem k_brepkernelmade_Mod:(calleeOf sg_brepkernelmade_Mod u_brepkernelmade_Mod).OK Tryz.prog 54:=mkK mixed [] (.l (.l (.seq (.join [(.normal,⟨[.slot 0],[I6]⟩)] .leaf) .leaf))) .nil Tryz.func54 fun _=>by kernel_rfl
def sg___brepkernelmade_Dice__Next:Sig:=⟨2,1,⟨[.slot 0,.slot 1,.box 0 2],[.lit (.box 0 0),I6,.sl 1,I6]⟩,1,[],0,⟨[.slot 0,.box 0 2],[I6,.sl 1,I6]⟩,70⟩
noncomputable def u___brepkernelmade_Dice__Next(t:Unit×Int×List T×Int×Unit):Option (Int×List T×Int×Unit):=bif leI (lenL t.2.2.1) t.2.2.2.1 then some ((0:Int),t.2.2.1,t.2.2.2.1,()) else ob (idxL t.2.2.1 (wr .i64 (subI (wr .i64 (addI t.2.2.2.1 (1:Int))) (1:Int)))) fun x0=>ob (T.int? .i64 (T.cell x0 0)) fun x1=>ob (u_brepkernelmade_Mod (x1,t.2.1,())) fun x2=>some (x2.1,t.2.2.1,wr .i64 (addI t.2.2.2.1 (1:Int)),())
theorem k___brepkernelmade_Dice__Next:(calleeOf sg___brepkernelmade_Dice__Next u___brepkernelmade_Dice__Next).OK Tryz.prog 25:=mkK mixed [54] .leaf (.cs Tryz.func54 k_brepkernelmade_Mod <| .nil) Tryz.func25 fun _=>by kernel_rfl
def sg___brepkernelmade_Dice__Bool:Sig:=⟨2,1,⟨[.slot 0,.slot 1,.box 0 2],[.lit (.box 0 0),I6,.sl 1,I6]⟩,1,[],0,⟨[.slot 0,.box 0 2],[.bool,.sl 1,I6]⟩,22⟩
noncomputable def u___brepkernelmade_Dice__Bool(t:Unit×Int×List T×Int×Unit):Option (Bool×List T×Int×Unit):=ob (u___brepkernelmade_Dice__Next ((),t.2.1,t.2.2.1,t.2.2.2.1,())) fun x0=>some (eqI x0.1 (wr .i64 (subI t.2.1 (1:Int))),x0.2.1,x0.2.2.1,())
theorem k___brepkernelmade_Dice__Bool:(calleeOf sg___brepkernelmade_Dice__Bool u___brepkernelmade_Dice__Bool).OK Tryz.prog 23:=mkK mixed [] .leaf (.cs Tryz.func25 k___brepkernelmade_Dice__Next <| .nil) Tryz.func23 fun _=>by kernel_rfl
def sg_brepkernelmade_Light:Sig:=⟨1,0,⟨[.slot 0],[.sl 1]⟩,1,[],0,⟨[.slot 0],[.bool]⟩,12⟩
noncomputable def u_brepkernelmade_Light(t:List T×Unit):Option (Bool×Unit):=some (leI (lenL t.1) (500:Int),())
theorem k_brepkernelmade_Light:(calleeOf sg_brepkernelmade_Light u_brepkernelmade_Light).OK Tryz.prog 4:=mkK mixed [] .leaf .nil Tryz.func4 fun _=>by kernel_rfl
def sg_brepkernelmade_Roll:Sig:=⟨1,0,⟨[.slot 0],[.sl 1]⟩,1,[],1,⟨[.boxr 0 0 2],[.sl 1,I6]⟩,12⟩
noncomputable def u_brepkernelmade_Roll(t:List T×Unit):Option (List T×Int×Unit):=some (t.1,(0:Int),())
theorem k_brepkernelmade_Roll:(calleeOf sg_brepkernelmade_Roll u_brepkernelmade_Roll).OK Tryz.prog 6:=mkK mixed [] .leaf .nil Tryz.func6 fun _=>by kernel_rfl
def sg_ref01_small:Sig:=⟨1,0,⟨[.slot 0],[.sl 1]⟩,2,[],0,⟨[.slot 0,.slot 1],[.int .u64,.bool]⟩,52⟩
noncomputable def u_ref01_small(t:List T×Unit):Option (Int×Bool×Unit):=bif eqI (lenL t.1) (0:Int) then some ((0:Int),true,()) else bif eqI (lenL t.1) (1:Int) then ob (idxL t.1 (0:Int)) fun x0=>ob (T.anyInt? (T.cell x0 0)) fun x1=>some (wr .u64 x1,true,()) else bif eqI (lenL t.1) (2:Int) then ob (idxL t.1 (0:Int)) fun x2=>ob (T.anyInt? (T.cell x2 0)) fun x3=>ob (idxL t.1 (1:Int)) fun x4=>ob (T.anyInt? (T.cell x4 0)) fun x5=>ob (nn (32:Int)) fun x6=>some (bitI .or .u64 (wr .u64 x3) (wr .u64 (shlI .u64 (wr .u64 x5) x6)),true,()) else some ((0:Int),false,())
theorem k_ref01_small:(calleeOf sg_ref01_small u_ref01_small).OK Tryz.prog 104:=mkK mixed [] .leaf .nil Tryz.func104 fun _=>by kernel_rfl
def sg_ref01_Trim:Sig:=⟨1,0,⟨[.slot 0],[.sl 1]⟩,1,[],0,⟨[.slot 0],[.sl 1]⟩,46⟩
noncomputable def u_ref01_Trim_l0(s0:List T×Int×Unit):Option (List T×Int×Unit⊕List T×Int×Unit⊕Empty):=bif ltI (0:Int) s0.2.1 then ob (idxL s0.1 (wr .i64 (subI s0.2.1 (1:Int)))) fun x1=>ob (T.int? .u32 (T.cell x1 0)) fun x2=>bif eqI x2 (0:Int) then some (.inl (s0.1,wr .i64 (subI s0.2.1 (1:Int)),())) else some (.inr (.inl (s0.1,s0.2.1,()))) else some (.inr (.inl (s0.1,s0.2.1,())))
noncomputable def u_ref01_Trim(t:List T×Unit):Option (List T×Unit):=ob (loopU u_ref01_Trim_l0 (t.1,lenL t.1,())) fun q3=>onS q3 (fun t4=>ob (cutL t4.1 (0:Int) t4.2.1) fun x5=>ob (room [] x5 4) fun x6=>some (x6,())) fun q7=>noS q7
theorem k_ref01_Trim:(calleeOf sg_ref01_Trim u_ref01_Trim).OK Tryz.prog 98:=mkK mixed [] (.l (.l (.seq (.one (.loop ⟨[.slot 0,.slot 3],[.sl 1,I6]⟩ [((.exit 0),⟨[.slot 0,.slot 3],[.sl 1,I6]⟩)] .leaf)) .leaf))) .nil Tryz.func98 fun _=>by kernel_rfl
def sg_ref01_Of:Sig:=⟨1,0,⟨[.slot 0],[.int .u64]⟩,1,[],0,⟨[.slot 0],[.sl 1]⟩,20⟩
noncomputable def u_ref01_Of(t:Int×Unit):Option (List T×Unit):=ob (nn (32:Int)) fun x0=>ob (u_ref01_Trim ([T.v (.int .u32 (wr .u32 t.1)),T.v (.int .u32 (wr .u32 (shrI .u64 t.1 x0)))],())) fun x1=>some (x1.1,())
theorem k_ref01_Of:(calleeOf sg_ref01_Of u_ref01_Of).OK Tryz.prog 82:=mkK mixed [] .leaf (.cs Tryz.func98 k_ref01_Trim <| .nil) Tryz.func82 fun _=>by kernel_rfl
def sg_ref01_Cmp:Sig:=⟨2,0,⟨[.slot 0,.slot 1],[.sl 1,.sl 1]⟩,1,[],0,⟨[.slot 0],[I6]⟩,82⟩
noncomputable def u_ref01_Cmp_l0(s0:List T×List T×Int×Unit):Option (List T×List T×Int×Unit⊕Int×Unit⊕Unit⊕Empty):=bif leI (0:Int) s0.2.2.1 then ob (idxL s0.1 s0.2.2.1) fun x1=>ob (idxL s0.2.1 s0.2.2.1) fun x2=>ob (T.int? .u32 (T.cell x1 0)) fun x3=>ob (T.int? .u32 (T.cell x2 0)) fun x4=>bif ltI x3 x4 then some (.inr (.inl ((-1:Int),()))) else ob (idxL s0.1 s0.2.2.1) fun x5=>ob (idxL s0.2.1 s0.2.2.1) fun x6=>ob (T.int? .u32 (T.cell x5 0)) fun x7=>ob (T.int? .u32 (T.cell x6 0)) fun x8=>bif ltI x8 x7 then some (.inr (.inl ((1:Int),()))) else some (.inl (s0.1,s0.2.1,wr .i64 (subI s0.2.2.1 (1:Int)),())) else some (.inr (.inr (.inl ())))
noncomputable def u_ref01_Cmp(t:List T×List T×Unit):Option (Int×Unit):=bif Bool.not (eqI (lenL t.1) (lenL t.2.1)) then bif ltI (lenL t.1) (lenL t.2.1) then some ((-1:Int),()) else some ((1:Int),()) else ob (loopU u_ref01_Cmp_l0 (t.1,t.2.1,wr .i64 (subI (lenL t.1) (1:Int)),())) fun q9=>onS q9 (fun t10=>some (t10.1,())) fun q11=>onS q11 (fun t12=>some ((0:Int),())) fun q13=>noS q13
theorem k_ref01_Cmp:(calleeOf sg_ref01_Cmp u_ref01_Cmp).OK Tryz.prog 91:=mkK mixed [] (.l (.l (.seq (.l (.one (.loop ⟨[.slot 0,.slot 1,.slot 5],[.sl 1,.sl 1,I6]⟩ [(.ret,⟨[.slot 4],[I6]⟩),((.exit 0),⟨[],[]⟩)] .leaf))) .leaf))) .nil Tryz.func91 fun _=>by kernel_rfl
def sg_ref01_Mul:Sig:=⟨2,0,⟨[.slot 0,.slot 1],[.sl 1,.sl 1]⟩,1,[],0,⟨[.slot 0],[.sl 1]⟩,134⟩
noncomputable def u_ref01_Mul_l1(s2:List T×List T×List T×Int×Int×Int×Unit):Option (List T×List T×List T×Int×Int×Int×Unit⊕List T×List T×List T×Int×Int×Unit⊕Empty):=bif ltI s2.2.2.2.2.2.1 (lenL s2.2.1) then ob (idxL s2.1 s2.2.2.2.1) fun x3=>ob (T.anyInt? (T.cell x3 0)) fun x4=>ob (idxL s2.2.1 s2.2.2.2.2.2.1) fun x5=>ob (T.anyInt? (T.cell x5 0)) fun x6=>ob (chkI (lenL s2.2.2.1) (wr .i64 (addI s2.2.2.2.1 s2.2.2.2.2.2.1))) fun x7=>ob (idxN s2.2.2.1 x7) fun x8=>ob (T.anyInt? (T.cell x8 0)) fun x9=>ob (chkI (lenL s2.2.2.1) (wr .i64 (addI s2.2.2.2.1 s2.2.2.2.2.2.1))) fun x10=>ob (idxN s2.2.2.1 x10) fun x11=>ob (nn (32:Int)) fun x12=>some (.inl (s2.1,s2.2.1,List.set s2.2.2.1 x10 (T.upd 1 x11 0 [T.v (.int .u32 (wr .u32 (wr .u64 (addI s2.2.2.2.2.1 (wr .u64 (addI (wr .u64 (mulI (wr .u64 x4) (wr .u64 x6))) (wr .u64 x9)))))))]),s2.2.2.2.1,shrI .u64 (wr .u64 (addI s2.2.2.2.2.1 (wr .u64 (addI (wr .u64 (mulI (wr .u64 x4) (wr .u64 x6))) (wr .u64 x9))))) x12,wr .i64 (addI s2.2.2.2.2.2.1 (1:Int)),())) else some (.inr (.inl (s2.1,s2.2.1,s2.2.2.1,s2.2.2.2.1,s2.2.2.2.2.1,())))
noncomputable def u_ref01_Mul_l0(s1:List T×List T×List T×Int×Unit):Option (List T×List T×List T×Int×Unit⊕List T×Unit⊕Empty):=bif ltI s1.2.2.2.1 (lenL s1.1) then ob (loopU u_ref01_Mul_l1 (s1.1,s1.2.1,s1.2.2.1,s1.2.2.2.1,(0:Int),(0:Int),())) fun q13=>onS q13 (fun t14=>ob (chkI (lenL t14.2.2.1) (wr .i64 (addI t14.2.2.2.1 (lenL t14.2.1)))) fun x15=>ob (idxN t14.2.2.1 x15) fun x16=>some (.inl (t14.1,t14.2.1,List.set t14.2.2.1 x15 (T.upd 1 x16 0 [T.v (.int .u32 (wr .u32 t14.2.2.2.2.1))]),wr .i64 (addI t14.2.2.2.1 (1:Int)),()))) fun q17=>noS q17 else some (.inr (.inl (s1.2.2.1,())))
noncomputable def u_ref01_Mul(t:List T×List T×Unit):Option (List T×Unit):=ob (mkLen (wr .i64 (addI (lenL t.1) (lenL t.2.1))) (wr .i64 (addI (lenL t.1) (lenL t.2.1))) 4) fun x0=>ob (loopU u_ref01_Mul_l0 (t.1,t.2.1,repL x0.1 (T.v (.int .u32 (0:Int))),(0:Int),())) fun q18=>onS q18 (fun t19=>ob (u_ref01_Trim (t19.1,())) fun x20=>some (x20.1,())) fun q21=>noS q21
theorem k_ref01_Mul:(calleeOf sg_ref01_Mul u_ref01_Mul).OK Tryz.prog 112:=mkK mixed [] (.l (.l (.seq (.l (.one (.loop ⟨[.slot 0,.slot 1,.slot 5,.slot 6],[.sl 1,.sl 1,.row 83 1 14,I6]⟩ [((.exit 0),⟨[.slot 5],[.row 83 1 14]⟩)] (.l (.seq (.one (.l (.seq (.l (.one (.loop ⟨[.slot 0,.slot 1,.slot 5,.slot 6,.slot 7,.slot 8],[.sl 1,.sl 1,.row 83 1 14,I6,.int .u64,I6]⟩ [((.exit 2),⟨[.slot 0,.slot 1,.slot 5,.slot 6,.slot 7],[.sl 1,.sl 1,.row 83 1 14,I6,.int .u64]⟩)] .leaf))) .leaf))) .leaf))))) .leaf))) (.cs Tryz.func98 k_ref01_Trim <| .nil) Tryz.func112 fun _=>by kernel_rfl
def sg_ref01_minus:Sig:=⟨2,0,⟨[.slot 0,.slot 1],[.sl 1,.sl 1]⟩,1,[],0,⟨[.slot 0],[.sl 1]⟩,100⟩
noncomputable def u_ref01_minus_l0(s1:List T×List T×List T×Int×Int×Unit):Option (List T×List T×List T×Int×Int×Unit⊕List T×Unit⊕Empty):=bif ltI s1.2.2.2.2.1 (lenL s1.1) then ob (α:=List T×List T×List T×Int×Int×Unit⊕Empty) (bif ltI s1.2.2.2.2.1 (lenL s1.2.1) then ob (idxL s1.2.1 s1.2.2.2.2.1) fun x2=>ob (T.anyInt? (T.cell x2 0)) fun x3=>some (.inl (s1.1,s1.2.1,s1.2.2.1,s1.2.2.2.2.1,wr .u64 (addI s1.2.2.2.1 (wr .u64 x3)),())) else some (.inl (s1.1,s1.2.1,s1.2.2.1,s1.2.2.2.2.1,s1.2.2.2.1,()))) fun q4=>onS q4 (fun t5=>ob (idxL t5.1 t5.2.2.2.1) fun x6=>ob (T.anyInt? (T.cell x6 0)) fun x7=>ob (α:=List T×List T×List T×Int×Int×Int×Int×Unit⊕Empty) (bif ltI (wr .u64 x7) t5.2.2.2.2.1 then some (.inl (t5.1,t5.2.1,t5.2.2.1,(1:Int),t5.2.2.2.1,t5.2.2.2.2.1,wr .u64 (addI (wr .u64 x7) (4294967296:Int)),())) else some (.inl (t5.1,t5.2.1,t5.2.2.1,(0:Int),t5.2.2.2.1,t5.2.2.2.2.1,wr .u64 x7,()))) fun q8=>onS q8 (fun t9=>ob (chkI (lenL t9.2.2.1) t9.2.2.2.2.1) fun x10=>ob (idxN t9.2.2.1 x10) fun x11=>some (.inl (t9.1,t9.2.1,List.set t9.2.2.1 x10 (T.upd 1 x11 0 [T.v (.int .u32 (wr .u32 (wr .u64 (subI t9.2.2.2.2.2.2.1 t9.2.2.2.2.2.1))))]),t9.2.2.2.1,wr .i64 (addI t9.2.2.2.2.1 (1:Int)),()))) fun q12=>noS q12) fun q13=>noS q13 else some (.inr (.inl (s1.2.2.1,())))
noncomputable def u_ref01_minus(t:List T×List T×Unit):Option (List T×Unit):=ob (mkLen (lenL t.1) (lenL t.1) 4) fun x0=>ob (loopU u_ref01_minus_l0 (t.1,t.2.1,repL x0.1 (T.v (.int .u32 (0:Int))),(0:Int),(0:Int),())) fun q14=>onS q14 (fun t15=>ob (u_ref01_Trim (t15.1,())) fun x16=>some (x16.1,())) fun q17=>noS q17
theorem k_ref01_minus:(calleeOf sg_ref01_minus u_ref01_minus).OK Tryz.prog 110:=mkK mixed [] (.l (.l (.l (.seq (.l (.one (.loop ⟨[.slot 0,.slot 1,.slot 5,.slot 6,.slot 7],[.sl 1,.sl 1,.row 83 1 12,.int .u64,I6]⟩ [((.exit 0),⟨[.slot 5],[.row 83 1 12]⟩)] (.l (.seq (.one (.l (.seq (.join [(.normal,⟨[.slot 0,.slot 1,.slot 5,.slot 7,.slot 8],[.sl 1,.sl 1,.row 83 1 12,I6,.int .u64]⟩)] .leaf) (.l (.l (.seq (.join [(.normal,⟨[.slot 0,.slot 1,.slot 5,.slot 6,.slot 7,.slot 8,.slot 9],[.sl 1,.sl 1,.row 83 1 12,.int .u64,I6,.int .u64,.int .u64]⟩)] .leaf) .leaf)))))) .leaf))))) .leaf)))) (.cs Tryz.func98 k_ref01_Trim <| .nil) Tryz.func110 fun _=>by kernel_rfl
def sg_ref01_Bits:Sig:=⟨1,0,⟨[.slot 0],[.sl 1]⟩,1,[],0,⟨[.slot 0],[I6]⟩,50⟩
noncomputable def u_ref01_Bits_l0(s1:Int×Int×Unit):Option (Int×Int×Unit⊕Int×Unit⊕Empty):=bif Bool.not (eqI s1.2.1 (0:Int)) then ob (nn (1:Int)) fun x2=>some (.inl (wr .i64 (addI s1.1 (1:Int)),shrI .u32 s1.2.1 x2,())) else some (.inr (.inl (s1.1,())))
noncomputable def u_ref01_Bits(t:List T×Unit):Option (Int×Unit):=bif eqI (lenL t.1) (0:Int) then some ((0:Int),()) else ob (idxL t.1 (wr .i64 (subI (lenL t.1) (1:Int)))) fun x0=>ob (T.int? .u32 (T.cell x0 0)) fun x3=>ob (loopU u_ref01_Bits_l0 (wr .i64 (mulI (32:Int) (wr .i64 (subI (lenL t.1) (1:Int)))),x3,())) fun q4=>onS q4 (fun t5=>some (t5.1,())) fun q6=>noS q6
theorem k_ref01_Bits:(calleeOf sg_ref01_Bits u_ref01_Bits).OK Tryz.prog 106:=mkK mixed [] (.l (.l (.l (.seq (.l (.one (.loop ⟨[.slot 3,.slot 4],[I6,.int .u32]⟩ [((.exit 0),⟨[.slot 3],[I6]⟩)] .leaf))) .leaf)))) .nil Tryz.func106 fun _=>by kernel_rfl
def sg_ref01_up:Sig:=⟨2,0,⟨[.slot 0,.slot 1],[.sl 1,I6]⟩,1,[],0,⟨[.slot 0],[.sl 1]⟩,80⟩
noncomputable def u_ref01_up_l0(s1:List T×Int×List T×Int×Int×Unit):Option (List T×Int×List T×Int×Int×Unit⊕List T×Int×Unit⊕Empty):=bif ltI s1.2.2.2.2.1 (lenL s1.1) then ob (idxL s1.1 s1.2.2.2.2.1) fun x2=>ob (T.anyInt? (T.cell x2 0)) fun x3=>ob (nn (modI s1.2.1 (32:Int))) fun x4=>ob (room s1.2.2.1 [T.v (.int .u32 (wr .u32 (bitI .or .u64 s1.2.2.2.1 (wr .u64 (shlI .u64 (wr .u64 x3) x4)))))] 4) fun x5=>ob (nn (32:Int)) fun x6=>some (.inl (s1.1,s1.2.1,x5,shrI .u64 (bitI .or .u64 s1.2.2.2.1 (wr .u64 (shlI .u64 (wr .u64 x3) x4))) x6,wr .i64 (addI s1.2.2.2.2.1 (1:Int)),())) else some (.inr (.inl (s1.2.2.1,s1.2.2.2.1,())))
noncomputable def u_ref01_up(t:List T×Int×Unit):Option (List T×Unit):=ob (mkLen (wr .i64 (divI t.2.1 (32:Int))) (wr .i64 (divI t.2.1 (32:Int))) 4) fun x0=>ob (loopU u_ref01_up_l0 (t.1,t.2.1,repL x0.1 (T.v (.int .u32 (0:Int))),(0:Int),(0:Int),())) fun q7=>onS q7 (fun t8=>ob (room t8.1 [T.v (.int .u32 (wr .u32 t8.2.1))] 4) fun x9=>ob (u_ref01_Trim (x9,())) fun x10=>some (x10.1,())) fun q11=>noS q11
theorem k_ref01_up:(calleeOf sg_ref01_up u_ref01_up).OK Tryz.prog 107:=mkK mixed [] (.l (.l (.l (.seq (.l (.one (.loop ⟨[.slot 0,.slot 1,.slot 5,.slot 6,.slot 7],[.sl 1,I6,.row 83 1 10,.int .u64,I6]⟩ [((.exit 0),⟨[.slot 5,.slot 6],[.row 83 1 10,.int .u64]⟩)] .leaf))) .leaf)))) (.cs Tryz.func98 k_ref01_Trim <| .nil) Tryz.func107 fun _=>by kernel_rfl
def sg_ref01_shifted:Sig:=⟨2,0,⟨[.slot 0,.slot 1],[.sl 1,I6]⟩,1,[],0,⟨[.slot 0],[.sl 1]⟩,24⟩
noncomputable def u_ref01_shifted(t:List T×Int×Unit):Option (List T×Unit):=bif eqI (lenL t.1) (0:Int) then some ([],()) else ob (mkLen t.2.1 t.2.1 4) fun x0=>ob (room (repL x0.1 (T.v (.int .u32 (0:Int)))) t.1 4) fun x1=>some (x1,())
theorem k_ref01_shifted:(calleeOf sg_ref01_shifted u_ref01_shifted).OK Tryz.prog 108:=mkK mixed [] .leaf .nil Tryz.func108 fun _=>by kernel_rfl
def sg_ref01_times:Sig:=⟨2,0,⟨[.slot 0,.slot 1],[.sl 1,.int .u32]⟩,1,[],0,⟨[.slot 0],[.sl 1]⟩,20⟩
noncomputable def u_ref01_times(t:List T×Int×Unit):Option (List T×Unit):=ob (u_ref01_Of (wr .u64 t.2.1,())) fun x0=>ob (u_ref01_Mul (t.1,x0.1,())) fun x1=>some (x1.1,())
theorem k_ref01_times:(calleeOf sg_ref01_times u_ref01_times).OK Tryz.prog 109:=mkK mixed [] .leaf (.cs Tryz.func82 k_ref01_Of <| .cs Tryz.func112 k_ref01_Mul <| .nil) Tryz.func109 fun _=>by kernel_rfl
def sg_ref01_byLimb:Sig:=⟨2,0,⟨[.slot 0,.slot 1],[.sl 1,.int .u32]⟩,2,[],0,⟨[.slot 0,.slot 1],[.sl 1,.int .u32]⟩,86⟩
noncomputable def u_ref01_byLimb_l0(s1:List T×Int×List T×Int×Int×Unit):Option (List T×Int×List T×Int×Int×Unit⊕List T×Int×Unit⊕Empty):=bif leI (0:Int) s1.2.2.2.2.1 then ob (nn (32:Int)) fun x2=>ob (idxL s1.1 s1.2.2.2.2.1) fun x3=>ob (T.anyInt? (T.cell x3 0)) fun x4=>ob (nz (wr .u64 s1.2.1)) fun x5=>ob (chkI (lenL s1.2.2.1) s1.2.2.2.2.1) fun x6=>ob (idxN s1.2.2.1 x6) fun x7=>ob (nz (wr .u64 s1.2.1)) fun x8=>some (.inl (s1.1,s1.2.1,List.set s1.2.2.1 x6 (T.upd 1 x7 0 [T.v (.int .u32 (wr .u32 (wr .u64 (divI (bitI .or .u64 (wr .u64 (shlI .u64 s1.2.2.2.1 x2)) (wr .u64 x4)) x5))))]),modI (bitI .or .u64 (wr .u64 (shlI .u64 s1.2.2.2.1 x2)) (wr .u64 x4)) x8,wr .i64 (subI s1.2.2.2.2.1 (1:Int)),())) else some (.inr (.inl (s1.2.2.1,s1.2.2.2.1,())))
noncomputable def u_ref01_byLimb(t:List T×Int×Unit):Option (List T×Int×Unit):=ob (mkLen (lenL t.1) (lenL t.1) 4) fun x0=>ob (loopU u_ref01_byLimb_l0 (t.1,t.2.1,repL x0.1 (T.v (.int .u32 (0:Int))),(0:Int),wr .i64 (subI (lenL t.1) (1:Int)),())) fun q9=>onS q9 (fun t10=>ob (u_ref01_Trim (t10.1,())) fun x11=>some (x11.1,wr .u32 t10.2.1,())) fun q12=>noS q12
theorem k_ref01_byLimb:(calleeOf sg_ref01_byLimb u_ref01_byLimb).OK Tryz.prog 105:=mkK mixed [] (.l (.l (.l (.seq (.l (.one (.loop ⟨[.slot 0,.slot 1,.slot 6,.slot 7,.slot 8],[.sl 1,.int .u32,.row 83 1 11,.int .u64,I6]⟩ [((.exit 0),⟨[.slot 6,.slot 7],[.row 83 1 11,.int .u64]⟩)] .leaf))) .leaf)))) (.cs Tryz.func98 k_ref01_Trim <| .nil) Tryz.func105 fun _=>by kernel_rfl
def sg_ref01_down:Sig:=⟨2,0,⟨[.slot 0,.slot 1],[.sl 1,I6]⟩,1,[],0,⟨[.slot 0],[.sl 1]⟩,110⟩
noncomputable def u_ref01_down_l0(s2:List T×Int×List T×Int×Unit):Option (List T×Int×List T×Int×Unit⊕List T×Unit⊕Empty):=bif ltI s2.2.2.2.1 (lenL s2.1) then ob (idxL s2.1 s2.2.2.2.1) fun x3=>ob (T.anyInt? (T.cell x3 0)) fun x4=>ob (α:=List T×Int×List T×Int×Int×Unit⊕Empty) (bif ltI (wr .i64 (addI s2.2.2.2.1 (1:Int))) (lenL s2.1) then ob (idxL s2.1 (wr .i64 (addI s2.2.2.2.1 (1:Int)))) fun x5=>ob (T.anyInt? (T.cell x5 0)) fun x6=>ob (nn (32:Int)) fun x7=>some (.inl (s2.1,s2.2.1,s2.2.2.1,s2.2.2.2.1,bitI .or .u64 (wr .u64 x4) (wr .u64 (shlI .u64 (wr .u64 x6) x7)),())) else some (.inl (s2.1,s2.2.1,s2.2.2.1,s2.2.2.2.1,wr .u64 x4,()))) fun q8=>onS q8 (fun t9=>ob (nn (modI t9.2.1 (32:Int))) fun x10=>ob (chkI (lenL t9.2.2.1) t9.2.2.2.1) fun x11=>ob (idxN t9.2.2.1 x11) fun x12=>some (.inl (t9.1,t9.2.1,List.set t9.2.2.1 x11 (T.upd 1 x12 0 [T.v (.int .u32 (wr .u32 (shrI .u64 t9.2.2.2.2.1 x10)))]),wr .i64 (addI t9.2.2.2.1 (1:Int)),()))) fun q13=>noS q13 else some (.inr (.inl (s2.2.2.1,())))
noncomputable def u_ref01_down(t:List T×Int×Unit):Option (List T×Unit):=bif leI (lenL t.1) (wr .i64 (divI t.2.1 (32:Int))) then some ([],()) else ob (cutL t.1 (wr .i64 (divI t.2.1 (32:Int))) (lenL t.1)) fun x0=>ob (mkLen (lenL x0) (lenL x0) 4) fun x1=>ob (loopU u_ref01_down_l0 (x0,t.2.1,repL x1.1 (T.v (.int .u32 (0:Int))),(0:Int),())) fun q14=>onS q14 (fun t15=>ob (u_ref01_Trim (t15.1,())) fun x16=>some (x16.1,())) fun q17=>noS q17
theorem k_ref01_down:(calleeOf sg_ref01_down u_ref01_down).OK Tryz.prog 111:=mkK mixed [] (.l (.l (.l (.l (.seq (.l (.one (.loop ⟨[.slot 0,.slot 1,.slot 5,.slot 6],[.sl 1,I6,.row 83 1 19,I6]⟩ [((.exit 0),⟨[.slot 5],[.row 83 1 19]⟩)] (.l (.seq (.one (.l (.seq (.join [(.normal,⟨[.slot 0,.slot 1,.slot 5,.slot 6,.slot 7],[.sl 1,I6,.row 83 1 19,I6,.int .u64]⟩)] .leaf) .leaf))) .leaf))))) .leaf))))) (.cs Tryz.func98 k_ref01_Trim <| .nil) Tryz.func111 fun _=>by kernel_rfl
def sg_ref01_Div:Sig:=⟨2,0,⟨[.slot 0,.slot 1],[.sl 1,.sl 1]⟩,3,[],0,⟨[.slot 0,.slot 1,.slot 2],[.sl 1,.sl 1,I6]⟩,326⟩
noncomputable def u_ref01_Div_l1(s33:List T×List T×List T×Int×Int×Int×Int×List T×Unit):Option (List T×List T×List T×Int×Int×Int×Int×List T×Unit⊕List T×List T×List T×Int×Int×Int×Int×List T×Unit⊕Empty):=ob (u_ref01_Cmp (s33.2.2.2.2.2.2.2.1,s33.2.2.1,())) fun x34=>bif ltI (0:Int) x34.1 then ob (u_ref01_shifted (s33.1,s33.2.2.2.2.2.1,())) fun x35=>ob (u_ref01_minus (s33.2.2.2.2.2.2.2.1,x35.1,())) fun x36=>some (.inl (s33.1,s33.2.1,s33.2.2.1,s33.2.2.2.1,s33.2.2.2.2.1,s33.2.2.2.2.2.1,wr .u64 (subI s33.2.2.2.2.2.2.1 (1:Int)),x36.1,())) else some (.inr (.inl (s33.1,s33.2.1,s33.2.2.1,s33.2.2.2.1,s33.2.2.2.2.1,s33.2.2.2.2.2.1,s33.2.2.2.2.2.2.1,s33.2.2.2.2.2.2.2.1,())))
noncomputable def u_ref01_Div_l0(s17:List T×List T×List T×Int×Int×Int×Unit):Option (List T×List T×List T×Int×Int×Int×Unit⊕List T×List T×Int×Unit⊕Empty):=bif leI (0:Int) s17.2.2.2.2.2.1 then ob (α:=List T×List T×List T×Int×Int×Int×Int×Unit⊕Empty) (bif ltI (wr .i64 (addI s17.2.2.2.2.2.1 s17.2.2.2.2.1)) (lenL s17.2.2.1) then ob (idxL s17.2.2.1 (wr .i64 (addI s17.2.2.2.2.2.1 s17.2.2.2.2.1))) fun x18=>ob (T.anyInt? (T.cell x18 0)) fun x19=>some (.inl (s17.1,s17.2.1,s17.2.2.1,s17.2.2.2.1,s17.2.2.2.2.1,s17.2.2.2.2.2.1,wr .u64 x19,())) else some (.inl (s17.1,s17.2.1,s17.2.2.1,s17.2.2.2.1,s17.2.2.2.2.1,s17.2.2.2.2.2.1,(0:Int),()))) fun q20=>onS q20 (fun t21=>ob (α:=List T×List T×List T×Int×Int×Int×Int×Unit⊕Empty) (bif ltI (wr .i64 (subI (wr .i64 (addI t21.2.2.2.2.2.1 t21.2.2.2.2.1)) (1:Int))) (lenL t21.2.2.1) then ob (nn (32:Int)) fun x22=>ob (idxL t21.2.2.1 (wr .i64 (subI (wr .i64 (addI t21.2.2.2.2.2.1 t21.2.2.2.2.1)) (1:Int)))) fun x23=>ob (T.anyInt? (T.cell x23 0)) fun x24=>some (.inl (t21.1,t21.2.1,t21.2.2.1,t21.2.2.2.1,t21.2.2.2.2.1,t21.2.2.2.2.2.1,bitI .or .u64 (wr .u64 (shlI .u64 t21.2.2.2.2.2.2.1 x22)) (wr .u64 x24),())) else ob (nn (32:Int)) fun x25=>some (.inl (t21.1,t21.2.1,t21.2.2.1,t21.2.2.2.1,t21.2.2.2.2.1,t21.2.2.2.2.2.1,wr .u64 (shlI .u64 t21.2.2.2.2.2.2.1 x25),()))) fun q26=>onS q26 (fun t27=>ob (idxL t27.1 (wr .i64 (subI t27.2.2.2.2.1 (1:Int)))) fun x28=>ob (T.anyInt? (T.cell x28 0)) fun x29=>ob (nz (wr .u64 x29)) fun x30=>ob (u_ref01_times (t27.1,wr .u32 (mmI false (wr .u64 (divI t27.2.2.2.2.2.2.1 x30)) (4294967295:Int)),())) fun x31=>ob (u_ref01_shifted (x31.1,t27.2.2.2.2.2.1,())) fun x32=>ob (loopU u_ref01_Div_l1 (t27.1,t27.2.1,t27.2.2.1,t27.2.2.2.1,t27.2.2.2.2.1,t27.2.2.2.2.2.1,mmI false (wr .u64 (divI t27.2.2.2.2.2.2.1 x30)) (4294967295:Int),x32.1,())) fun q37=>onS q37 (fun t38=>ob (chkI (lenL t38.2.1) t38.2.2.2.2.2.1) fun x39=>ob (idxN t38.2.1 x39) fun x40=>ob (u_ref01_minus (t38.2.2.1,t38.2.2.2.2.2.2.2.1,())) fun x41=>some (.inl (t38.1,List.set t38.2.1 x39 (T.upd 1 x40 0 [T.v (.int .u32 (wr .u32 t38.2.2.2.2.2.2.1))]),x41.1,t38.2.2.2.1,t38.2.2.2.2.1,wr .i64 (subI t38.2.2.2.2.2.1 (1:Int)),()))) fun q42=>noS q42) fun q43=>noS q43) fun q44=>noS q44 else some (.inr (.inl (s17.2.1,s17.2.2.1,s17.2.2.2.1,())))
noncomputable def u_ref01_Div(t:List T×List T×Unit):Option (List T×List T×Int×Unit):=bif eqI (lenL t.2.1) (0:Int) then some ([],[],(3:Int),()) else ob (u_ref01_Cmp (t.1,t.2.1,())) fun x0=>bif ltI x0.1 (0:Int) then ob (u_ref01_Trim (t.1,())) fun x1=>some ([],x1.1,(0:Int),()) else ob (u_ref01_small (t.1,())) fun x2=>bif x2.2.1 then ob (u_ref01_small (t.2.1,())) fun x3=>ob (nz x3.1) fun x4=>ob (u_ref01_Of (wr .u64 (divI x2.1 x4),())) fun x5=>ob (nz x3.1) fun x6=>ob (u_ref01_Of (modI x2.1 x6,())) fun x7=>some (x5.1,x7.1,(0:Int),()) else bif eqI (lenL t.2.1) (1:Int) then ob (idxL t.2.1 (0:Int)) fun x8=>ob (T.int? .u32 (T.cell x8 0)) fun x9=>ob (u_ref01_byLimb (t.1,x9,())) fun x10=>ob (u_ref01_Of (wr .u64 x10.2.1,())) fun x11=>some (x10.1,x11.1,(0:Int),()) else ob (cutL t.2.1 (wr .i64 (subI (lenL t.2.1) (1:Int))) (lenL t.2.1)) fun x12=>ob (u_ref01_Bits (x12,())) fun x13=>ob (u_ref01_up (t.2.1,wr .i64 (subI (32:Int) x13.1),())) fun x14=>ob (u_ref01_up (t.1,wr .i64 (subI (32:Int) x13.1),())) fun x15=>ob (mkLen (wr .i64 (addI (wr .i64 (subI (lenL x15.1) (lenL x14.1))) (1:Int))) (wr .i64 (addI (wr .i64 (subI (lenL x15.1) (lenL x14.1))) (1:Int))) 4) fun x16=>ob (loopU u_ref01_Div_l0 (x14.1,repL x16.1 (T.v (.int .u32 (0:Int))),x15.1,wr .i64 (subI (32:Int) x13.1),lenL x14.1,wr .i64 (subI (lenL x15.1) (lenL x14.1)),())) fun q45=>onS q45 (fun t46=>ob (u_ref01_Trim (t46.1,())) fun x47=>ob (u_ref01_down (t46.2.1,t46.2.2.1,())) fun x48=>some (x47.1,x48.1,(0:Int),())) fun q49=>noS q49
theorem k_ref01_Div:(calleeOf sg_ref01_Div u_ref01_Div).OK Tryz.prog 100:=mkK mixed [91,104,106] (.l (.l (.l (.l (.l (.l (.l (.l (.l (.seq (.l (.one (.loop ⟨[.slot 1,.slot 4,.slot 5,.slot 13,.slot 14,.slot 15],[.sl 1,.row 83 1 82,.sl 1,I6,I6,I6]⟩ [((.exit 0),⟨[.slot 4,.slot 5,.slot 13],[.row 83 1 82,.sl 1,I6]⟩)] (.l (.seq (.one (.l (.seq (.join [(.normal,⟨[.slot 1,.slot 4,.slot 5,.slot 13,.slot 14,.slot 15,.slot 16],[.sl 1,.row 83 1 82,.sl 1,I6,I6,I6,.int .u64]⟩)] .leaf) (.seq (.join [(.normal,⟨[.slot 1,.slot 4,.slot 5,.slot 13,.slot 14,.slot 15,.slot 16],[.sl 1,.row 83 1 82,.sl 1,I6,I6,I6,.int .u64]⟩)] .leaf) (.l (.l (.seq (.one (.loop ⟨[.slot 1,.slot 4,.slot 5,.slot 13,.slot 14,.slot 15,.slot 17,.slot 18],[.sl 1,.row 83 1 82,.sl 1,I6,I6,I6,.int .u64,.sl 1]⟩ [((.exit 2),⟨[.slot 1,.slot 4,.slot 5,.slot 13,.slot 14,.slot 15,.slot 17,.slot 18],[.sl 1,.row 83 1 82,.sl 1,I6,I6,I6,.int .u64,.sl 1]⟩)] .leaf)) .leaf))))))) .leaf))))) .leaf)))))))))) (.cs Tryz.func91 k_ref01_Cmp <| .cs Tryz.func98 k_ref01_Trim <| .cs Tryz.func104 k_ref01_small <| .cs Tryz.func82 k_ref01_Of <| .cs Tryz.func105 k_ref01_byLimb <| .cs Tryz.func106 k_ref01_Bits <| .cs Tryz.func107 k_ref01_up <| .cs Tryz.func109 k_ref01_times <| .cs Tryz.func108 k_ref01_shifted <| .cs Tryz.func110 k_ref01_minus <| .cs Tryz.func111 k_ref01_down <| .nil) Tryz.func100 fun _=>by kernel_rfl
def sg_ref01_Gcd:Sig:=⟨2,0,⟨[.slot 0,.slot 1],[.sl 1,.sl 1]⟩,1,[],0,⟨[.slot 0],[.sl 1]⟩,102⟩
noncomputable def u_ref01_Gcd_l1(s5:Int×Int×Unit):Option (Int×Int×Unit⊕Int×Unit⊕Empty):=bif Bool.not (eqI s5.2.1 (0:Int)) then ob (nz s5.2.1) fun x6=>some (.inl (s5.2.1,modI s5.1 x6,())) else some (.inr (.inl (s5.1,())))
noncomputable def u_ref01_Gcd_l0(s2:List T×List T×Unit):Option (List T×List T×Unit⊕List T×Unit⊕List T×Unit⊕Empty):=bif ltI (0:Int) (lenL s2.2.1) then ob (u_ref01_small (s2.1,())) fun x3=>ob (u_ref01_small (s2.2.1,())) fun x4=>bif x3.2.1 then bif x4.2.1 then ob (loopU u_ref01_Gcd_l1 (x3.1,x4.1,())) fun q7=>onS q7 (fun t8=>ob (u_ref01_Of (t8.1,())) fun x9=>some (.inr (.inl (x9.1,())))) fun q10=>noS q10 else ob (u_ref01_Div (s2.1,s2.2.1,())) fun x11=>some (.inl (s2.2.1,x11.2.1,())) else ob (u_ref01_Div (s2.1,s2.2.1,())) fun x12=>some (.inl (s2.2.1,x12.2.1,())) else some (.inr (.inr (.inl (s2.1,()))))
noncomputable def u_ref01_Gcd(t:List T×List T×Unit):Option (List T×Unit):=ob (u_ref01_Trim (t.1,())) fun x0=>ob (u_ref01_Trim (t.2.1,())) fun x1=>ob (loopU u_ref01_Gcd_l0 (x0.1,x1.1,())) fun q13=>onS q13 (fun t14=>some (t14.1,())) fun q15=>onS q15 (fun t16=>some (t16.1,())) fun q17=>noS q17
theorem k_ref01_Gcd:(calleeOf sg_ref01_Gcd u_ref01_Gcd).OK Tryz.prog 99:=mkK mixed [104] (.l (.l (.seq (.one (.loop ⟨[.slot 0,.slot 1],[.sl 1,.sl 1]⟩ [(.ret,⟨[.slot 4],[.sl 1]⟩),((.exit 0),⟨[.slot 0],[.sl 1]⟩)] (.l (.one (.l (.l (.seq (.l (.cond (.seq (.one (.loop ⟨[.slot 5,.slot 7],[.int .u64,.int .u64]⟩ [((.exit 2),⟨[.slot 5],[.int .u64]⟩)] .leaf)) .leaf) .leaf)) .leaf))))))) .leaf))) (.cs Tryz.func98 k_ref01_Trim <| .cs Tryz.func104 k_ref01_small <| .cs Tryz.func82 k_ref01_Of <| .cs Tryz.func100 k_ref01_Div <| .nil) Tryz.func99 fun _=>by kernel_rfl
def sg_ref02_size:Sig:=⟨1,0,⟨[.slot 0],[I6]⟩,2,[],0,⟨[.slot 0,.slot 1],[.sl 1,.bool]⟩,30⟩
noncomputable def u_ref02_size(t:Int×Unit):Option (List T×Bool×Unit):=bif ltI t.1 (0:Int) then ob (u_ref01_Of (wr .u64 (addI (wr .u64 (wr .i64 (subI (0:Int) (wr .i64 (addI t.1 (1:Int)))))) (1:Int)),())) fun x0=>some (x0.1,true,()) else ob (u_ref01_Of (wr .u64 t.1,())) fun x1=>some (x1.1,false,())
theorem k_ref02_size:(calleeOf sg_ref02_size u_ref02_size).OK Tryz.prog 52:=mkK mixed [] .leaf (.cs Tryz.func82 k_ref01_Of <| .nil) Tryz.func52 fun _=>by kernel_rfl
def sg_ref02_reduce:Sig:=⟨3,0,⟨[.slot 0,.slot 1,.slot 2],[.bool,.sl 1,.sl 1]⟩,1,[],0,⟨[.aggs 0 3],[.bool,.sl 1,.sl 1]⟩,110⟩
noncomputable def u_ref02_reduce(t:Bool×List T×List T×Unit):Option (Bool×List T×List T×Unit):=ob (u_ref01_Trim (t.2.1,())) fun x0=>ob (u_ref01_Trim (t.2.2.1,())) fun x1=>bif eqI (lenL x0.1) (0:Int) then some (false,[],[],()) else ob (u_ref01_Gcd (x0.1,x1.1,())) fun x2=>ob (α:=Bool×List T×List T×Unit×Bool×T×T×Unit⊕Empty) (bif Bool.not (eqI (lenL x2.1) (1:Int)) then ob (u_ref01_Div (x0.1,x2.1,())) fun x3=>ob (u_ref01_Div (x1.1,x2.1,())) fun x4=>some (.inl (t.1,x3.1,x4.1,(),false,T.v (.slice none 0 0),T.v (.slice none 0 0),())) else ob (idxL x2.1 (0:Int)) fun x5=>ob (T.int? .u32 (T.cell x5 0)) fun x6=>bif Bool.not (eqI x6 (1:Int)) then ob (u_ref01_Div (x0.1,x2.1,())) fun x7=>ob (u_ref01_Div (x1.1,x2.1,())) fun x8=>some (.inl (t.1,x7.1,x8.1,(),false,T.v (.slice none 0 0),T.v (.slice none 0 0),())) else some (.inl (t.1,x0.1,x1.1,(),false,T.v (.slice none 0 0),T.v (.slice none 0 0),()))) fun q9=>onS q9 (fun t10=>ob (α:=Bool×List T×List T×Unit×Bool×T×T×Unit⊕Empty) (bif eqI (lenL t10.2.2.1) (1:Int) then ob (idxL t10.2.2.1 (0:Int)) fun x11=>ob (T.int? .u32 (T.cell x11 0)) fun x12=>bif eqI x12 (1:Int) then some (.inl (t10.1,t10.2.1,[],(),t10.2.2.2.2.1,t10.2.2.2.2.2.1,t10.2.2.2.2.2.2.1,())) else some (.inl (t10.1,t10.2.1,t10.2.2.1,(),t10.2.2.2.2.1,t10.2.2.2.2.2.1,t10.2.2.2.2.2.2.1,())) else some (.inl (t10.1,t10.2.1,t10.2.2.1,(),t10.2.2.2.2.1,t10.2.2.2.2.2.1,t10.2.2.2.2.2.2.1,()))) fun q13=>onS q13 (fun t14=>some (t14.1,t14.2.1,t14.2.2.1,())) fun q15=>noS q15) fun q16=>noS q16
theorem k_ref02_reduce:(calleeOf sg_ref02_reduce u_ref02_reduce).OK Tryz.prog 81:=mkK mixed [] (.l (.l (.l (.l (.seq (.join [(.normal,⟨[.slot 0,.slot 1,.slot 2,.slot 6,.box 6 3],[.bool,.sl 1,.sl 1,.lit (.box 6 0),.bool,.tree,.tree]⟩)] .leaf) (.seq (.join [(.normal,⟨[.slot 0,.slot 1,.slot 2,.slot 6,.box 6 3],[.bool,.sl 1,.sl 1,.lit (.box 6 0),.bool,.tree,.tree]⟩)] .leaf) .leaf)))))) (.cs Tryz.func98 k_ref01_Trim <| .cs Tryz.func99 k_ref01_Gcd <| .cs Tryz.func100 k_ref01_Div <| .nil) Tryz.func81 fun _=>by kernel_rfl
def sg_ref02_Make:Sig:=⟨2,0,⟨[.slot 0,.slot 1],[I6,I6]⟩,2,[],0,⟨[.aggs 0 3,.slot 1],[.bool,.sl 1,.sl 1,I6]⟩,58⟩
noncomputable def u_ref02_Make(t:Int×Int×Unit):Option (Bool×List T×List T×Int×Unit):=bif eqI t.2.1 (0:Int) then some (false,[],[],(3:Int),()) else ob (u_ref02_size (t.1,())) fun x0=>ob (u_ref02_size (t.2.1,())) fun x1=>ob (u_ref02_reduce (Bool.not (eqB x0.2.1 x1.2.1),x0.1,x1.1,())) fun x2=>some (x2.1,x2.2.1,x2.2.2.1,(0:Int),())
theorem k_ref02_Make:(calleeOf sg_ref02_Make u_ref02_Make).OK Tryz.prog 51:=mkK mixed [] .leaf (.cs Tryz.func52 k_ref02_size <| .cs Tryz.func81 k_ref02_reduce <| .nil) Tryz.func51 fun _=>by kernel_rfl
def sg_ref02_Frac:Sig:=⟨2,0,⟨[.slot 0,.slot 1],[I6,I6]⟩,1,[],0,⟨[.aggs 0 3],[.bool,.sl 1,.sl 1]⟩,28⟩
noncomputable def u_ref02_Frac(t:Int×Int×Unit):Option (Bool×List T×List T×Unit):=ob (u_ref02_Make (t.1,t.2.1,())) fun x0=>some (x0.1,x0.2.1,x0.2.2.1,())
theorem k_ref02_Frac:(calleeOf sg_ref02_Frac u_ref02_Frac).OK Tryz.prog 20:=mkK mixed [] .leaf (.cs Tryz.func51 k_ref02_Make <| .nil) Tryz.func20 fun _=>by kernel_rfl
def sg_ref02_Int:Sig:=⟨1,0,⟨[.slot 0],[I6]⟩,1,[],0,⟨[.aggs 0 3],[.bool,.sl 1,.sl 1]⟩,26⟩
noncomputable def u_ref02_Int(t:Int×Unit):Option (Bool×List T×List T×Unit):=ob (u_ref02_size (t.1,())) fun x0=>some (x0.2.1,x0.1,[],())
theorem k_ref02_Int:(calleeOf sg_ref02_Int u_ref02_Int).OK Tryz.prog 21:=mkK mixed [] .leaf (.cs Tryz.func52 k_ref02_size <| .nil) Tryz.func21 fun _=>by kernel_rfl
def sg_math_bits_Len32:Sig:=⟨1,0,⟨[.slot 0],[.int .u32]⟩,1,[],0,⟨[.slot 0],[I6]⟩,38⟩
noncomputable def u_math_bits_Len32(t:Int×Unit):Option (Int×Unit):=ob (α:=Int×Int×Unit⊕Empty) (bif leI (65536:Int) t.1 then ob (nn (16:Int)) fun x0=>some (.inl (shrI .u32 t.1 x0,(16:Int),())) else some (.inl (t.1,(0:Int),()))) fun q1=>onS q1 (fun t2=>ob (α:=Int×Int×Unit⊕Empty) (bif leI (256:Int) t2.1 then ob (nn (8:Int)) fun x3=>some (.inl (shrI .u32 t2.1 x3,wr .i64 (addI t2.2.1 (8:Int)),())) else some (.inl (t2.1,t2.2.1,()))) fun q4=>onS q4 (fun t5=>ob (idxS (ByteArray.mk #[0,1,2,2,3,3,3,3,4,4,4,4,4,4,4,4,5,5,5,5,5,5,5,5,5,5,5,5,5,5,5,5,6,6,6,6,6,6,6,6,6,6,6,6,6,6,6,6,6,6,6,6,6,6,6,6,6,6,6,6,6,6,6,6,7,7,7,7,7,7,7,7,7,7,7,7,7,7,7,7,7,7,7,7,7,7,7,7,7,7,7,7,7,7,7,7,7,7,7,7,7,7,7,7,7,7,7,7,7,7,7,7,7,7,7,7,7,7,7,7,7,7,7,7,7,7,7,7,8,8,8,8,8,8,8,8,8,8,8,8,8,8,8,8,8,8,8,8,8,8,8,8,8,8,8,8,8,8,8,8,8,8,8,8,8,8,8,8,8,8,8,8,8,8,8,8,8,8,8,8,8,8,8,8,8,8,8,8,8,8,8,8,8,8,8,8,8,8,8,8,8,8,8,8,8,8,8,8,8,8,8,8,8,8,8,8,8,8,8,8,8,8,8,8,8,8,8,8,8,8,8,8,8,8,8,8,8,8,8,8,8,8,8,8,8,8,8,8,8,8,8,8,8,8,8,8]) (wr .u8 t5.1)) fun x6=>some (wr .i64 (addI t5.2.1 (wr .i64 x6)),())) fun q7=>noS q7) fun q8=>noS q8
theorem k_math_bits_Len32:(calleeOf sg_math_bits_Len32 u_math_bits_Len32).OK Tryz.prog 92:=mkK mixed [] (.l (.seq (.join [(.normal,⟨[.slot 0,.slot 2],[.int .u32,I6]⟩)] .leaf) (.seq (.join [(.normal,⟨[.slot 0,.slot 2],[.int .u32,I6]⟩)] .leaf) .leaf))) .nil Tryz.func92 fun _=>by kernel_rfl
def sg_math_bits_LeadingZeros32:Sig:=⟨1,0,⟨[.slot 0],[.int .u32]⟩,1,[],0,⟨[.slot 0],[I6]⟩,12⟩
noncomputable def u_math_bits_LeadingZeros32(t:Int×Unit):Option (Int×Unit):=ob (u_math_bits_Len32 (t.1,())) fun x0=>some (wr .i64 (subI (32:Int) x0.1),())
theorem k_math_bits_LeadingZeros32:(calleeOf sg_math_bits_LeadingZeros32 u_math_bits_LeadingZeros32).OK Tryz.prog 73:=mkK mixed [92] .leaf (.cs Tryz.func92 k_math_bits_Len32 <| .nil) Tryz.func73 fun _=>by kernel_rfl
def sg_natural_trim:Sig:=⟨1,0,⟨[.slot 0],[.sl 1]⟩,1,[],0,⟨[.slot 0],[.sl 1]⟩,42⟩
noncomputable def u_natural_trim_l0(s0:List T×Int×Unit):Option (List T×Int×Unit⊕List T×Int×Unit⊕Empty):=bif ltI (0:Int) s0.2.1 then ob (idxL s0.1 (wr .i64 (subI s0.2.1 (1:Int)))) fun x1=>ob (T.int? .u32 (T.cell x1 0)) fun x2=>bif eqI x2 (0:Int) then some (.inl (s0.1,wr .i64 (subI s0.2.1 (1:Int)),())) else some (.inr (.inl (s0.1,s0.2.1,()))) else some (.inr (.inl (s0.1,s0.2.1,())))
noncomputable def u_natural_trim(t:List T×Unit):Option (List T×Unit):=ob (loopU u_natural_trim_l0 (t.1,lenL t.1,())) fun q3=>onS q3 (fun t4=>ob (cutL t4.1 (0:Int) t4.2.1) fun x5=>some (x5,())) fun q6=>noS q6
theorem k_natural_trim:(calleeOf sg_natural_trim u_natural_trim).OK Tryz.prog 69:=mkK mixed [] (.l (.l (.seq (.one (.loop ⟨[.slot 0,.slot 3],[.sl 1,I6]⟩ [((.exit 0),⟨[.slot 0,.slot 3],[.sl 1,I6]⟩)] .leaf)) .leaf))) .nil Tryz.func69 fun _=>by kernel_rfl
def sg_natural_Cmp:Sig:=⟨2,0,⟨[.slot 0,.slot 1],[.sl 1,.sl 1]⟩,1,[],0,⟨[.slot 0],[I6]⟩,90⟩
noncomputable def u_natural_Cmp_l0(s2:List T×List T×Int×Unit):Option (List T×List T×Int×Unit⊕Int×Unit⊕Unit⊕Empty):=bif leI (0:Int) s2.2.2.1 then ob (idxL s2.1 s2.2.2.1) fun x3=>ob (idxL s2.2.1 s2.2.2.1) fun x4=>ob (T.int? .u32 (T.cell x3 0)) fun x5=>ob (T.int? .u32 (T.cell x4 0)) fun x6=>bif Bool.not (eqI x5 x6) then ob (idxL s2.1 s2.2.2.1) fun x7=>ob (idxL s2.2.1 s2.2.2.1) fun x8=>ob (T.int? .u32 (T.cell x7 0)) fun x9=>ob (T.int? .u32 (T.cell x8 0)) fun x10=>bif ltI x9 x10 then some (.inr (.inl ((-1:Int),()))) else some (.inr (.inl ((1:Int),()))) else some (.inl (s2.1,s2.2.1,wr .i64 (subI s2.2.2.1 (1:Int)),())) else some (.inr (.inr (.inl ())))
noncomputable def u_natural_Cmp(t:List T×List T×Unit):Option (Int×Unit):=ob (u_natural_trim (t.1,())) fun x0=>ob (u_natural_trim (t.2.1,())) fun x1=>bif Bool.not (eqI (lenL x0.1) (lenL x1.1)) then bif ltI (lenL x0.1) (lenL x1.1) then some ((-1:Int),()) else some ((1:Int),()) else ob (loopU u_natural_Cmp_l0 (x0.1,x1.1,wr .i64 (subI (lenL x0.1) (1:Int)),())) fun q11=>onS q11 (fun t12=>some (t12.1,())) fun q13=>onS q13 (fun t14=>some ((0:Int),())) fun q15=>noS q15
theorem k_natural_Cmp:(calleeOf sg_natural_Cmp u_natural_Cmp).OK Tryz.prog 44:=mkK mixed [] (.l (.l (.l (.seq (.l (.one (.loop ⟨[.slot 0,.slot 1,.slot 5],[.sl 1,.sl 1,I6]⟩ [(.ret,⟨[.slot 4],[I6]⟩),((.exit 0),⟨[],[]⟩)] .leaf))) .leaf)))) (.cs Tryz.func69 k_natural_trim <| .nil) Tryz.func44 fun _=>by kernel_rfl
def sg_natural_Of:Sig:=⟨1,0,⟨[.slot 0],[.int .u64]⟩,1,[],0,⟨[.slot 0],[.sl 1]⟩,20⟩
noncomputable def u_natural_Of(t:Int×Unit):Option (List T×Unit):=ob (nn (32:Int)) fun x0=>ob (u_natural_trim ([T.v (.int .u32 (wr .u32 t.1)),T.v (.int .u32 (wr .u32 (shrI .u64 t.1 x0)))],())) fun x1=>some (x1.1,())
theorem k_natural_Of:(calleeOf sg_natural_Of u_natural_Of).OK Tryz.prog 45:=mkK mixed [] .leaf (.cs Tryz.func69 k_natural_trim <| .nil) Tryz.func45 fun _=>by kernel_rfl
def sg_natural_raise:Sig:=⟨2,0,⟨[.slot 0,.slot 1],[.sl 1,I6]⟩,1,[],0,⟨[.slot 0],[.sl 1]⟩,82⟩
noncomputable def u_natural_raise_l0(s1:List T×Int×List T×Int×List T×Int×Int×Unit):Option (List T×Int×List T×Int×List T×Int×Int×Unit⊕List T×List T×Int×Unit⊕Empty):=bif ltI s1.2.2.2.2.2.2.1 s1.2.2.2.2.2.1 then ob (idxL s1.2.2.2.2.1 s1.2.2.2.2.2.2.1) fun x2=>ob (T.anyInt? (T.cell x2 0)) fun x3=>ob (nn s1.2.1) fun x4=>ob (chkI (lenL s1.2.2.1) s1.2.2.2.2.2.2.1) fun x5=>ob (idxN s1.2.2.1 x5) fun x6=>ob (nn (32:Int)) fun x7=>some (.inl (s1.1,s1.2.1,List.set s1.2.2.1 x5 (T.upd 1 x6 0 [T.v (.int .u32 (wr .u32 (bitI .or .u64 s1.2.2.2.1 (wr .u64 (shlI .u64 (wr .u64 x3) x4)))))]),shrI .u64 (bitI .or .u64 s1.2.2.2.1 (wr .u64 (shlI .u64 (wr .u64 x3) x4))) x7,s1.2.2.2.2.1,s1.2.2.2.2.2.1,wr .i64 (addI s1.2.2.2.2.2.2.1 (1:Int)),())) else some (.inr (.inl (s1.1,s1.2.2.1,s1.2.2.2.1,())))
noncomputable def u_natural_raise(t:List T×Int×Unit):Option (List T×Unit):=ob (mkLen (wr .i64 (addI (lenL t.1) (1:Int))) (wr .i64 (addI (lenL t.1) (1:Int))) 4) fun x0=>ob (loopU u_natural_raise_l0 (t.1,t.2.1,repL x0.1 (T.v (.int .u32 (0:Int))),(0:Int),t.1,lenL t.1,(0:Int),())) fun q8=>onS q8 (fun t9=>ob (chkI (lenL t9.2.1) (lenL t9.1)) fun x10=>ob (idxN t9.2.1 x10) fun x11=>some (List.set t9.2.1 x10 (T.upd 1 x11 0 [T.v (.int .u32 (wr .u32 t9.2.2.1))]),())) fun q12=>noS q12
theorem k_natural_raise:(calleeOf sg_natural_raise u_natural_raise).OK Tryz.prog 70:=mkK mixed [] (.l (.l (.l (.seq (.l (.one (.loop ⟨[.slot 0,.slot 1,.slot 5,.slot 6,.slot 13,.slot 14,.slot 15],[.sl 1,I6,.row 83 1 12,.int .u64,.sl 1,I6,I6]⟩ [((.exit 0),⟨[.slot 0,.slot 5,.slot 6],[.sl 1,.row 83 1 12,.int .u64]⟩)] .leaf))) .leaf)))) .nil Tryz.func70 fun _=>by kernel_rfl
def sg_slices_Clone___uint32_uint32_:Sig:=⟨1,0,⟨[.slot 0],[.sl 1]⟩,1,[],0,⟨[.slot 0],[.sl 1]⟩,16⟩
noncomputable def u_slices_Clone___uint32_uint32_(t:List T×Unit):Option (List T×Unit):=bif nilL t.1 then bothU (some ([],())) (ob (room [] t.1 4) fun x0=>some (x0,())) else ob (room [] t.1 4) fun x1=>some (x1,())
theorem k_slices_Clone___uint32_uint32_:(calleeOf sg_slices_Clone___uint32_uint32_ u_slices_Clone___uint32_uint32_).OK Tryz.prog 71:=mkK mixed [] .leaf .nil Tryz.func71 fun _=>by kernel_rfl
def sg_slices_Clone___uint32_uint32__r:Sig:=⟨1,0,⟨[.slot 0],[.sl 1]⟩,1,[],1,⟨[.slot 0],[.row 83 1 0]⟩,16⟩
noncomputable def u_slices_Clone___uint32_uint32__r(t:List T×Unit):Option (List T×Unit):=bif nilL t.1 then bothU (some ([],())) (ob (room [] t.1 4) fun x0=>some (x0,())) else ob (room [] t.1 4) fun x1=>some (x1,())
theorem k_slices_Clone___uint32_uint32__r:(calleeOf sg_slices_Clone___uint32_uint32__r u_slices_Clone___uint32_uint32__r).OK Tryz.prog 71:=mkK mixed [] .leaf .nil Tryz.func71 fun _=>by kernel_rfl
def sg_natural_small:Sig:=⟨2,0,⟨[.slot 0,.slot 1],[.sl 1,.int .u32]⟩,2,[],0,⟨[.slot 0,.slot 1],[.sl 1,.int .u32]⟩,86⟩
noncomputable def u_natural_small_l0(s1:List T×Int×List T×Int×Int×Unit):Option (List T×Int×List T×Int×Int×Unit⊕List T×Int×Unit⊕Empty):=bif leI (0:Int) s1.2.2.2.2.1 then ob (nn (32:Int)) fun x2=>ob (idxL s1.1 s1.2.2.2.2.1) fun x3=>ob (T.anyInt? (T.cell x3 0)) fun x4=>ob (nz (wr .u64 s1.2.1)) fun x5=>ob (chkI (lenL s1.2.2.1) s1.2.2.2.2.1) fun x6=>ob (idxN s1.2.2.1 x6) fun x7=>ob (nz (wr .u64 s1.2.1)) fun x8=>some (.inl (s1.1,s1.2.1,List.set s1.2.2.1 x6 (T.upd 1 x7 0 [T.v (.int .u32 (wr .u32 (wr .u64 (divI (bitI .or .u64 (wr .u64 (shlI .u64 s1.2.2.2.1 x2)) (wr .u64 x4)) x5))))]),modI (bitI .or .u64 (wr .u64 (shlI .u64 s1.2.2.2.1 x2)) (wr .u64 x4)) x8,wr .i64 (subI s1.2.2.2.2.1 (1:Int)),())) else some (.inr (.inl (s1.2.2.1,s1.2.2.2.1,())))
noncomputable def u_natural_small(t:List T×Int×Unit):Option (List T×Int×Unit):=ob (mkLen (lenL t.1) (lenL t.1) 4) fun x0=>ob (loopU u_natural_small_l0 (t.1,t.2.1,repL x0.1 (T.v (.int .u32 (0:Int))),(0:Int),wr .i64 (subI (lenL t.1) (1:Int)),())) fun q9=>onS q9 (fun t10=>ob (u_natural_trim (t10.1,())) fun x11=>some (x11.1,wr .u32 t10.2.1,())) fun q12=>noS q12
theorem k_natural_small:(calleeOf sg_natural_small u_natural_small).OK Tryz.prog 72:=mkK mixed [] (.l (.l (.l (.seq (.l (.one (.loop ⟨[.slot 0,.slot 1,.slot 6,.slot 7,.slot 8],[.sl 1,.int .u32,.row 83 1 11,.int .u64,I6]⟩ [((.exit 0),⟨[.slot 6,.slot 7],[.row 83 1 11,.int .u64]⟩)] .leaf))) .leaf)))) (.cs Tryz.func69 k_natural_trim <| .nil) Tryz.func72 fun _=>by kernel_rfl
def sg_natural_Mul:Sig:=⟨2,0,⟨[.slot 0,.slot 1],[.sl 1,.sl 1]⟩,1,[],0,⟨[.slot 0],[.sl 1]⟩,138⟩
noncomputable def u_natural_Mul_l1(s4:List T×List T×Int×T×Int×List T×Int×Int×List T×Int×Int×Unit):Option (List T×List T×Int×T×Int×List T×Int×Int×List T×Int×Int×Unit⊕List T×List T×Int×Int×List T×Int×Int×Unit⊕Empty):=bif ltI s4.2.2.2.2.2.2.2.2.2.2.1 s4.2.2.2.2.2.2.2.2.2.1 then ob (idxL s4.2.2.2.2.2.2.2.2.1 s4.2.2.2.2.2.2.2.2.2.2.1) fun x5=>ob (T.anyInt? s4.2.2.2.1) fun x6=>ob (T.anyInt? (T.cell x5 0)) fun x7=>ob (chkI (lenL s4.2.1) (wr .i64 (addI s4.2.2.1 s4.2.2.2.2.2.2.2.2.2.2.1))) fun x8=>ob (idxN s4.2.1 x8) fun x9=>ob (T.anyInt? (T.cell x9 0)) fun x10=>ob (chkI (lenL s4.2.1) (wr .i64 (addI s4.2.2.1 s4.2.2.2.2.2.2.2.2.2.2.1))) fun x11=>ob (idxN s4.2.1 x11) fun x12=>ob (nn (32:Int)) fun x13=>some (.inl (s4.1,List.set s4.2.1 x11 (T.upd 1 x12 0 [T.v (.int .u32 (wr .u32 (wr .u64 (addI s4.2.2.2.2.1 (wr .u64 (addI (wr .u64 (mulI (wr .u64 x6) (wr .u64 x7))) (wr .u64 x10)))))))]),s4.2.2.1,s4.2.2.2.1,shrI .u64 (wr .u64 (addI s4.2.2.2.2.1 (wr .u64 (addI (wr .u64 (mulI (wr .u64 x6) (wr .u64 x7))) (wr .u64 x10))))) x13,s4.2.2.2.2.2.1,s4.2.2.2.2.2.2.1,s4.2.2.2.2.2.2.2.1,s4.2.2.2.2.2.2.2.2.1,s4.2.2.2.2.2.2.2.2.2.1,wr .i64 (addI s4.2.2.2.2.2.2.2.2.2.2.1 (1:Int)),())) else some (.inr (.inl (s4.1,s4.2.1,s4.2.2.1,s4.2.2.2.2.1,s4.2.2.2.2.2.1,s4.2.2.2.2.2.2.1,s4.2.2.2.2.2.2.2.1,())))
noncomputable def u_natural_Mul_l0(s1:List T×List T×List T×Int×Int×Unit):Option (List T×List T×List T×Int×Int×Unit⊕List T×Unit⊕Empty):=bif ltI s1.2.2.2.2.1 s1.2.2.2.1 then ob (α:=List T×List T×List T×Int×Int×Unit⊕Empty) (ob (idxL s1.2.2.1 s1.2.2.2.2.1) fun x2=>ob (T.int? .u32 (T.cell x2 0)) fun x3=>bif eqI x3 (0:Int) then some (.inl (s1.1,s1.2.1,s1.2.2.1,s1.2.2.2.1,s1.2.2.2.2.1,())) else ob (loopU u_natural_Mul_l1 (s1.1,s1.2.1,s1.2.2.2.2.1,T.cell x2 0,(0:Int),s1.2.2.1,s1.2.2.2.1,s1.2.2.2.2.1,s1.1,lenL s1.1,(0:Int),())) fun q14=>onS q14 (fun t15=>ob (chkI (lenL t15.2.1) (wr .i64 (addI t15.2.2.1 (lenL t15.1)))) fun x16=>ob (idxN t15.2.1 x16) fun x17=>some (.inl (t15.1,List.set t15.2.1 x16 (T.upd 1 x17 0 [T.v (.int .u32 (wr .u32 t15.2.2.2.1))]),t15.2.2.2.2.1,t15.2.2.2.2.2.1,t15.2.2.2.2.2.2.1,()))) fun q18=>noS q18) fun q19=>onS q19 (fun t20=>some (.inl (t20.1,t20.2.1,t20.2.2.1,t20.2.2.2.1,wr .i64 (addI t20.2.2.2.2.1 (1:Int)),()))) fun q21=>noS q21 else some (.inr (.inl (s1.2.1,())))
noncomputable def u_natural_Mul(t:List T×List T×Unit):Option (List T×Unit):=ob (mkLen (wr .i64 (addI (lenL t.1) (lenL t.2.1))) (wr .i64 (addI (lenL t.1) (lenL t.2.1))) 4) fun x0=>ob (loopU u_natural_Mul_l0 (t.2.1,repL x0.1 (T.v (.int .u32 (0:Int))),t.1,lenL t.1,(0:Int),())) fun q22=>onS q22 (fun t23=>ob (u_natural_trim (t23.1,())) fun x24=>some (x24.1,())) fun q25=>noS q25
theorem k_natural_Mul:(calleeOf sg_natural_Mul u_natural_Mul).OK Tryz.prog 47:=mkK mixed [] (.l (.l (.seq (.l (.one (.loop ⟨[.slot 1,.slot 5,.slot 17,.slot 18,.slot 19],[.sl 1,.row 83 1 16,.sl 1,I6,I6]⟩ [((.exit 0),⟨[.slot 5],[.row 83 1 16]⟩)] (.l (.l (.seq (.join [(.normal,⟨[.slot 1,.slot 5,.slot 17,.slot 18,.slot 19],[.sl 1,.row 83 1 16,.sl 1,I6,I6]⟩)] (.one (.l (.l (.l (.seq (.l (.one (.loop ⟨[.slot 1,.slot 5,.slot 6,.slot 7,.slot 8,.slot 17,.slot 18,.slot 19,.slot 26,.slot 27,.slot 28],[.sl 1,.row 83 1 16,I6,.tree,.int .u64,.sl 1,I6,I6,.sl 1,I6,I6]⟩ [((.exit 2),⟨[.slot 1,.slot 5,.slot 6,.slot 8,.slot 17,.slot 18,.slot 19],[.sl 1,.row 83 1 16,I6,.int .u64,.sl 1,I6,I6]⟩)] .leaf))) .leaf)))))) .leaf)))))) .leaf))) (.cs Tryz.func69 k_natural_trim <| .nil) Tryz.func47 fun _=>by kernel_rfl
def sg_natural_Div:Sig:=⟨2,0,⟨[.slot 0,.slot 1],[.sl 1,.sl 1]⟩,3,[],0,⟨[.slot 0,.slot 1,.slot 2],[.sl 1,.sl 1,I6]⟩,600⟩
noncomputable def u_natural_Div_l1(s27:List T×Int×List T×List T×Int×Int×Int×Int×Unit):Option (List T×Int×List T×List T×Int×Int×Int×Int×Unit⊕List T×Int×List T×List T×Int×Int×Int×Unit⊕Empty):=bif leI (4294967296:Int) s27.2.2.2.2.2.2.1 then ob (idxL s27.2.2.2.1 (wr .i64 (subI s27.2.2.2.2.1 (1:Int)))) fun x28=>ob (T.anyInt? (T.cell x28 0)) fun x29=>bif leI (4294967296:Int) (wr .u64 (addI s27.2.2.2.2.2.2.2.1 (wr .u64 x29))) then some (.inr (.inl (s27.1,s27.2.1,s27.2.2.1,s27.2.2.2.1,s27.2.2.2.2.1,s27.2.2.2.2.2.1,wr .u64 (subI s27.2.2.2.2.2.2.1 (1:Int)),()))) else some (.inl (s27.1,s27.2.1,s27.2.2.1,s27.2.2.2.1,s27.2.2.2.2.1,s27.2.2.2.2.2.1,wr .u64 (subI s27.2.2.2.2.2.2.1 (1:Int)),wr .u64 (addI s27.2.2.2.2.2.2.2.1 (wr .u64 x29)),())) else ob (idxL s27.2.2.2.1 (wr .i64 (subI s27.2.2.2.2.1 (2:Int)))) fun x30=>ob (T.anyInt? (T.cell x30 0)) fun x31=>ob (nn (32:Int)) fun x32=>ob (idxL s27.2.2.1 (wr .i64 (subI (wr .i64 (addI s27.2.2.2.2.2.1 s27.2.2.2.2.1)) (2:Int)))) fun x33=>ob (T.anyInt? (T.cell x33 0)) fun x34=>bif ltI (bitI .or .u64 (wr .u64 (shlI .u64 s27.2.2.2.2.2.2.2.1 x32)) (wr .u64 x34)) (wr .u64 (mulI s27.2.2.2.2.2.2.1 (wr .u64 x31))) then ob (idxL s27.2.2.2.1 (wr .i64 (subI s27.2.2.2.2.1 (1:Int)))) fun x35=>ob (T.anyInt? (T.cell x35 0)) fun x36=>bif leI (4294967296:Int) (wr .u64 (addI s27.2.2.2.2.2.2.2.1 (wr .u64 x36))) then some (.inr (.inl (s27.1,s27.2.1,s27.2.2.1,s27.2.2.2.1,s27.2.2.2.2.1,s27.2.2.2.2.2.1,wr .u64 (subI s27.2.2.2.2.2.2.1 (1:Int)),()))) else some (.inl (s27.1,s27.2.1,s27.2.2.1,s27.2.2.2.1,s27.2.2.2.2.1,s27.2.2.2.2.2.1,wr .u64 (subI s27.2.2.2.2.2.2.1 (1:Int)),wr .u64 (addI s27.2.2.2.2.2.2.2.1 (wr .u64 x36)),())) else some (.inr (.inl (s27.1,s27.2.1,s27.2.2.1,s27.2.2.2.1,s27.2.2.2.2.1,s27.2.2.2.2.2.1,s27.2.2.2.2.2.2.1,())))
noncomputable def u_natural_Div_l2(s39:List T×Int×List T×List T×Int×Int×Int×Int×Int×List T×Int×Int×Unit):Option (List T×Int×List T×List T×Int×Int×Int×Int×Int×List T×Int×Int×Unit⊕List T×Int×List T×List T×Int×Int×Int×Int×Int×Unit⊕Empty):=bif ltI s39.2.2.2.2.2.2.2.2.2.2.2.1 s39.2.2.2.2.2.2.2.2.2.2.1 then ob (idxL s39.2.2.2.2.2.2.2.2.2.1 s39.2.2.2.2.2.2.2.2.2.2.2.1) fun x40=>ob (T.anyInt? (T.cell x40 0)) fun x41=>ob (idxL s39.2.2.1 (wr .i64 (addI s39.2.2.2.2.2.2.2.2.2.2.2.1 s39.2.2.2.2.2.1))) fun x42=>ob (T.anyInt? (T.cell x42 0)) fun x43=>ob (idxL s39.2.2.1 (wr .i64 (addI s39.2.2.2.2.2.2.2.2.2.2.2.1 s39.2.2.2.2.2.1))) fun x44=>none else some (.inr (.inl (s39.1,s39.2.1,s39.2.2.1,s39.2.2.2.1,s39.2.2.2.2.1,s39.2.2.2.2.2.1,s39.2.2.2.2.2.2.1,s39.2.2.2.2.2.2.2.1,s39.2.2.2.2.2.2.2.2.1,())))
noncomputable def u_natural_Div_l0(s15:List T×Int×List T×List T×Int×Int×Unit):Option (List T×Int×List T×List T×Int×Int×Unit⊕List T×Int×List T×Unit⊕Empty):=bif leI (0:Int) s15.2.2.2.2.2.1 then ob (idxL s15.2.2.1 (wr .i64 (addI s15.2.2.2.2.2.1 s15.2.2.2.2.1))) fun x16=>ob (T.anyInt? (T.cell x16 0)) fun x17=>ob (nn (32:Int)) fun x18=>ob (idxL s15.2.2.1 (wr .i64 (subI (wr .i64 (addI s15.2.2.2.2.2.1 s15.2.2.2.2.1)) (1:Int)))) fun x19=>ob (T.anyInt? (T.cell x19 0)) fun x20=>ob (idxL s15.2.2.2.1 (wr .i64 (subI s15.2.2.2.2.1 (1:Int)))) fun x21=>ob (T.anyInt? (T.cell x21 0)) fun x22=>ob (nz (wr .u64 x22)) fun x23=>ob (idxL s15.2.2.2.1 (wr .i64 (subI s15.2.2.2.2.1 (1:Int)))) fun x24=>ob (T.anyInt? (T.cell x24 0)) fun x25=>ob (nz (wr .u64 x25)) fun x26=>ob (loopU u_natural_Div_l1 (s15.1,s15.2.1,s15.2.2.1,s15.2.2.2.1,s15.2.2.2.2.1,s15.2.2.2.2.2.1,wr .u64 (divI (bitI .or .u64 (wr .u64 (shlI .u64 (wr .u64 x17) x18)) (wr .u64 x20)) x23),modI (bitI .or .u64 (wr .u64 (shlI .u64 (wr .u64 x17) x18)) (wr .u64 x20)) x26,())) fun q37=>onS q37 (fun t38=>ob (loopU u_natural_Div_l2 (t38.1,t38.2.1,t38.2.2.1,t38.2.2.2.1,t38.2.2.2.2.1,t38.2.2.2.2.2.1,t38.2.2.2.2.2.2.1,(0:Int),(0:Int),t38.2.2.2.1,lenL t38.2.2.2.1,(0:Int),())) fun q45=>onS q45 (fun t46=>ob (idxL t46.2.2.1 (wr .i64 (addI t46.2.2.2.2.2.1 t46.2.2.2.2.1))) fun x47=>ob (T.anyInt? (T.cell x47 0)) fun x48=>ob (idxL t46.2.2.1 (wr .i64 (addI t46.2.2.2.2.2.1 t46.2.2.2.2.1))) fun x49=>none) fun q50=>noS q50) fun q51=>noS q51 else some (.inr (.inl (s15.1,s15.2.1,s15.2.2.1,())))
noncomputable def u_natural_Div_l5(s55:List T×List T×Int×Int×Int×Unit):Option (List T×List T×Int×Int×Int×Unit⊕List T×List T×Unit⊕Empty):=bif ltI s55.2.2.2.2.1 s55.2.2.2.1 then ob (α:=Empty) (ob (idxL s55.2.1 s55.2.2.2.2.1) fun x56=>ob (T.int? .u32 (T.cell x56 0)) fun x57=>ob (nn s55.2.2.1) fun x58=>ob (idxL s55.2.1 s55.2.2.2.2.1) fun x59=>none) fun q60=>noS q60 else some (.inr (.inl (s55.1,s55.2.1,())))
noncomputable def u_natural_Div(t:List T×List T×Unit):Option (List T×List T×Int×Unit):=ob (u_natural_trim (t.1,())) fun x0=>ob (u_natural_trim (t.2.1,())) fun x1=>bif eqI (lenL x1.1) (0:Int) then some ([],[],(3:Int),()) else ob (u_natural_Cmp (x0.1,x1.1,())) fun x2=>bif ltI x2.1 (0:Int) then ob (u_slices_Clone___uint32_uint32_ (x0.1,())) fun x3=>some ([],x3.1,(0:Int),()) else bif eqI (lenL x1.1) (1:Int) then ob (idxL x1.1 (0:Int)) fun x4=>ob (T.int? .u32 (T.cell x4 0)) fun x5=>ob (u_natural_small (x0.1,x5,())) fun x6=>ob (u_natural_trim ([T.v (.int .u32 x6.2.1)],())) fun x7=>some (x6.1,x7.1,(0:Int),()) else ob (idxL x1.1 (wr .i64 (subI (lenL x1.1) (1:Int)))) fun x8=>ob (T.int? .u32 (T.cell x8 0)) fun x9=>ob (u_math_bits_LeadingZeros32 (x9,())) fun x10=>ob (u_natural_raise (x0.1,x10.1,())) fun x11=>ob (u_natural_raise (x1.1,x10.1,())) fun x12=>ob (u_natural_trim (x12.1,())) fun x13=>ob (mkLen (wr .i64 (subI (lenL x11.1) (lenL x13.1))) (wr .i64 (subI (lenL x11.1) (lenL x13.1))) 4) fun x14=>ob (loopU u_natural_Div_l0 (repL x14.1 (T.v (.int .u32 (0:Int))),x10.1,x11.1,x13.1,lenL x13.1,wr .i64 (subI (lenL (repL x14.1 (T.v (.int .u32 (0:Int))))) (1:Int)),())) fun q52=>onS q52 (fun t53=>ob (u_natural_trim (t53.2.2.1,())) fun x54=>ob (loopU u_natural_Div_l5 (t53.1,x54.1,t53.2.1,lenL x54.1,(0:Int),())) fun q61=>onS q61 (fun t62=>ob (u_natural_trim (t62.1,())) fun x63=>ob (u_natural_trim (t62.2.1,())) fun x64=>some (x63.1,x64.1,(0:Int),())) fun q65=>noS q65) fun q66=>noS q66
theorem k_natural_Div:(calleeOf sg_natural_Div u_natural_Div).OK Tryz.prog 46:=mkK mixed [44,73] (.l (.l (.l (.l (.l (.l (.l (.seq (.l (.one (.loop ⟨[.slot 4,.slot 9,.slot 10,.slot 11,.slot 12,.slot 13],[.row 83 1 77,I6,.sl 1,.sl 1,I6,I6]⟩ [((.exit 1),⟨[.slot 4,.slot 9,.slot 10],[.row 83 1 77,I6,.sl 1]⟩)] (.l (.seq (.one (.l (.l (.seq (.one (.loop ⟨[.slot 4,.slot 9,.slot 10,.slot 11,.slot 12,.slot 13,.slot 15,.slot 16],[.row 83 1 77,I6,.sl 1,.sl 1,I6,I6,.int .u64,.int .u64]⟩ [((.exit 3),⟨[.slot 4,.slot 9,.slot 10,.slot 11,.slot 12,.slot 13,.slot 15],[.row 83 1 77,I6,.sl 1,.sl 1,I6,I6,.int .u64]⟩)] .leaf)) (.l (.seq (.l (.one (.loop ⟨[.slot 4,.slot 9,.slot 10,.slot 11,.slot 12,.slot 13,.slot 15,.slot 17,.slot 18,.slot 154,.slot 155,.slot 156],[.row 83 1 77,I6,.sl 1,.sl 1,I6,I6,.int .u64,.int .u64,.int .u64,.sl 1,I6,I6]⟩ [((.exit 5),⟨[.slot 4,.slot 9,.slot 10,.slot 11,.slot 12,.slot 13,.slot 15,.slot 17,.slot 18],[.row 83 1 77,I6,.sl 1,.sl 1,I6,I6,.int .u64,.int .u64,.int .u64]⟩)] .leaf))) (.l (.l (.seq (.join [] (.l (.cond (.l (.l (.seq (.l (.one (.loop ⟨[],[]⟩ [] .leaf))) .leaf))) .leaf))) .leaf))))))))) .leaf))))) (.l (.seq (.l (.one (.loop ⟨[.slot 4,.slot 5,.slot 9,.slot 261,.slot 262],[.row 83 1 77,.sl 1,I6,I6,I6]⟩ [((.exit 9),⟨[.slot 4,.slot 5],[.row 83 1 77,.sl 1]⟩)] (.l (.l (.seq (.join [] .leaf) .leaf)))))) .leaf)))))))))) (.cs Tryz.func69 k_natural_trim <| .cs Tryz.func44 k_natural_Cmp <| .cs Tryz.func71 k_slices_Clone___uint32_uint32_ <| .cs Tryz.func72 k_natural_small <| .cs Tryz.func73 k_math_bits_LeadingZeros32 <| .cs Tryz.func70 k_natural_raise <| .nil) Tryz.func46 fun _=>by kernel_rfl
def sg_natural_Shift:Sig:=⟨2,0,⟨[.slot 0,.slot 1],[.sl 1,I6]⟩,2,[],0,⟨[.slot 0,.slot 1],[.sl 1,I6]⟩,158⟩
noncomputable def g_natural_Shift:List (FuncId×Callee):=[(69,(calleeOf sg_natural_trim u_natural_trim)),(70,trC (calleeOf sg_natural_raise u_natural_raise)),(71,(calleeOf sg_slices_Clone___uint32_uint32__r u_slices_Clone___uint32_uint32__r))]
noncomputable def u_natural_Shift_l0(s7:List T×Int×Int×Int×Unit):Option (List T×Int×Int×Int×Unit⊕List T×Unit⊕Empty):=bif ltI s7.2.2.2.1 s7.2.2.1 then ob (α:=List T×Int×Int×Int×Unit⊕Empty) (ob (chkI (lenL s7.1) s7.2.2.2.1) fun x8=>ob (idxN s7.1 x8) fun x9=>ob (T.int? .u32 (T.cell x9 0)) fun x10=>ob (nn s7.2.1) fun x11=>ob (chkI (lenL s7.1) s7.2.2.2.1) fun x12=>ob (idxN s7.1 x12) fun x13=>bif ltI (0:Int) s7.2.1 then bif ltI (wr .i64 (addI s7.2.2.2.1 (1:Int))) (lenL (List.set s7.1 x12 (T.upd 1 x13 0 [T.v (.int .u32 (shrI .u32 x10 x11))]))) then ob (chkI (lenL (List.set s7.1 x12 (T.upd 1 x13 0 [T.v (.int .u32 (shrI .u32 x10 x11))]))) s7.2.2.2.1) fun x14=>ob (idxN (List.set s7.1 x12 (T.upd 1 x13 0 [T.v (.int .u32 (shrI .u32 x10 x11))])) x14) fun x15=>ob (chkI (lenL (List.set s7.1 x12 (T.upd 1 x13 0 [T.v (.int .u32 (shrI .u32 x10 x11))]))) (wr .i64 (addI s7.2.2.2.1 (1:Int)))) fun x16=>ob (idxN (List.set s7.1 x12 (T.upd 1 x13 0 [T.v (.int .u32 (shrI .u32 x10 x11))])) x16) fun x17=>ob (T.int? .u32 (T.cell x17 0)) fun x18=>ob (nn (wr .i64 (subI (32:Int) s7.2.1))) fun x19=>ob (T.int? .u32 (T.cell x15 0)) fun x20=>ob (chkI (lenL (List.set s7.1 x12 (T.upd 1 x13 0 [T.v (.int .u32 (shrI .u32 x10 x11))]))) s7.2.2.2.1) fun x21=>ob (idxN (List.set s7.1 x12 (T.upd 1 x13 0 [T.v (.int .u32 (shrI .u32 x10 x11))])) x21) fun x22=>some (.inl (List.set (List.set s7.1 x12 (T.upd 1 x13 0 [T.v (.int .u32 (shrI .u32 x10 x11))])) x21 (T.upd 1 x22 0 [T.v (.int .u32 (bitI .or .u32 x20 (wr .u32 (shlI .u32 x18 x19))))]),s7.2.1,s7.2.2.1,s7.2.2.2.1,())) else some (.inl (List.set s7.1 x12 (T.upd 1 x13 0 [T.v (.int .u32 (shrI .u32 x10 x11))]),s7.2.1,s7.2.2.1,s7.2.2.2.1,())) else some (.inl (List.set s7.1 x12 (T.upd 1 x13 0 [T.v (.int .u32 (shrI .u32 x10 x11))]),s7.2.1,s7.2.2.1,s7.2.2.2.1,()))) fun q23=>onS q23 (fun t24=>some (.inl (t24.1,t24.2.1,t24.2.2.1,wr .i64 (addI t24.2.2.2.1 (1:Int)),()))) fun q25=>noS q25 else some (.inr (.inl (s7.1,())))
noncomputable def u_natural_Shift(t:List T×Int×Unit):Option (List T×Int×Unit):=ob (u_natural_trim (t.1,())) fun x0=>bif ltI (16384:Int) t.2.1 then some ([],(2:Int),()) else bif leI (0:Int) t.2.1 then ob (mkLen (wr .i64 (divI t.2.1 (32:Int))) (wr .i64 (divI t.2.1 (32:Int))) 4) fun x1=>ob (u_natural_raise (x0.1,modI t.2.1 (32:Int),())) fun x2=>ob (room (repL x1.1 (T.v (.int .u32 (0:Int)))) x2.1 4) fun x3=>ob (u_natural_trim (x3,())) fun x4=>some (x4.1,(0:Int),()) else bif leI t.2.1 (wr .i64 (mulI (-32:Int) (lenL x0.1))) then some ([],(0:Int),()) else ob (cutL x0.1 (wr .i64 (divI (wr .i64 (subI (0:Int) t.2.1)) (32:Int))) (lenL x0.1)) fun x5=>ob (u_slices_Clone___uint32_uint32__r (x5,())) fun x6=>ob (loopU u_natural_Shift_l0 (x6.1,modI (wr .i64 (subI (0:Int) t.2.1)) (32:Int),lenL x6.1,(0:Int),())) fun q26=>onS q26 (fun t27=>ob (u_natural_trim (t27.1,())) fun x28=>some (x28.1,(0:Int),())) fun q29=>noS q29
def h_natural_Shift:HT:=(.l (.l (.l (.l (.l (.seq (.l (.one (.loop ⟨[.slot 6,.slot 7,.slot 42,.slot 43],[.row 83 1 37,I6,I6,I6]⟩ [((.exit 1),⟨[.slot 6],[.row 83 1 37]⟩)] (.l (.l (.seq (.join [(.normal,⟨[.slot 6,.slot 7,.slot 42,.slot 43],[.row 83 1 37,I6,I6,I6]⟩)] .leaf) .leaf)))))) .leaf))))))
theorem ok_natural_Shift:TabOK Tryz.prog [1000070] g_natural_Shift:=(.cs Tryz.func69 k_natural_trim (TabOK.consP (fun _=>⟨_,Tryz.func70,by kernel_rfl,by kernel_rfl⟩) (trC_ok k_natural_raise) (trC_nat (calleeOf_nat _ _)) (fun h=>by cases h) (fun _=>trC_pureP (calleeOf_nat _ _)) (fun _=>(trC_pureP (calleeOf_nat _ _)).framed) (by kernel_rfl) (.cs Tryz.func71 k_slices_Clone___uint32_uint32__r TabOK.nil)))
theorem e_natural_Shift:∀t,bodyG Tryz.prog g_natural_Shift [1000070] h_natural_Shift Tryz.f42 sg_natural_Shift t=u_natural_Shift t:=fun _=>by kernel_rfl
theorem k_natural_Shift:(calleeOf sg_natural_Shift u_natural_Shift).OK Tryz.prog 42:=mkK mixed [1000070] h_natural_Shift ok_natural_Shift Tryz.func42 e_natural_Shift
def sg_slices_Reverse___byte_byte_:Sig:=⟨1,1,⟨[.slot 0],[.row 5 1 0]⟩,0,[0],0,⟨[.slot 0],[.row 5 1 0]⟩,56⟩
noncomputable def u_slices_Reverse___byte_byte__l0(s0:List T×Int×Int×Unit):Option (List T×Int×Int×Unit⊕List T×Unit⊕Empty):=bif ltI s0.2.1 s0.2.2.1 then ob (chkI (lenL s0.1) s0.2.2.1) fun x1=>ob (idxN s0.1 x1) fun x2=>ob (chkI (lenL s0.1) s0.2.1) fun x3=>ob (idxN s0.1 x3) fun x4=>ob (chkI (lenL s0.1) s0.2.1) fun x5=>ob (T.int? .u8 (T.cell x2 0)) fun x6=>ob (idxN s0.1 x5) fun x7=>ob (chkI (lenL (List.set s0.1 x5 (T.upd 1 x7 0 [T.v (.int .u8 x6)]))) s0.2.2.1) fun x8=>ob (T.int? .u8 (T.cell x4 0)) fun x9=>ob (idxN (List.set s0.1 x5 (T.upd 1 x7 0 [T.v (.int .u8 x6)])) x8) fun x10=>some (.inl (List.set (List.set s0.1 x5 (T.upd 1 x7 0 [T.v (.int .u8 x6)])) x8 (T.upd 1 x10 0 [T.v (.int .u8 x9)]),wr .i64 (addI s0.2.1 (1:Int)),wr .i64 (subI s0.2.2.1 (1:Int)),())) else some (.inr (.inl (s0.1,())))
noncomputable def u_slices_Reverse___byte_byte_(t:List T×Unit):Option (List T×Unit):=ob (loopU u_slices_Reverse___byte_byte__l0 (t.1,(0:Int),wr .i64 (subI (lenL t.1) (1:Int)),())) fun q11=>onS q11 (fun t12=>some (t12.1,())) fun q13=>noS q13
theorem k_slices_Reverse___byte_byte_:(calleeOf sg_slices_Reverse___byte_byte_ u_slices_Reverse___byte_byte_).OK Tryz.prog 74:=mkK mixed [] (.l (.one (.loop ⟨[.slot 0,.slot 2,.slot 3],[.row 5 1 0,I6,I6]⟩ [((.exit 0),⟨[.slot 0],[.row 5 1 0]⟩)] .leaf))) .nil Tryz.func74 fun _=>by kernel_rfl
def sg_natural_Text:Sig:=⟨1,0,⟨[.slot 0],[.sl 1]⟩,1,[],0,⟨[.slot 0],[.str]⟩,90⟩
noncomputable def u_natural_Text_l1(s3:List T×List T×Int×Int×Unit):Option (List T×List T×Int×Int×Unit⊕List T×List T×Unit⊕Empty):=bif ltI s3.2.2.2.1 (9:Int) then bif ltI (0:Int) s3.2.2.1 then ob (room s3.2.1 [T.v (.int .u8 (wr .u8 (wr .u32 (addI (48:Int) (modI s3.2.2.1 (10:Int))))))] 1) fun x4=>some (.inl (s3.1,x4,wr .u32 (divI s3.2.2.1 (10:Int)),wr .i64 (addI s3.2.2.2.1 (1:Int)),())) else bif ltI (0:Int) (lenL s3.1) then ob (room s3.2.1 [T.v (.int .u8 (wr .u8 (wr .u32 (addI (48:Int) (modI s3.2.2.1 (10:Int))))))] 1) fun x5=>some (.inl (s3.1,x5,wr .u32 (divI s3.2.2.1 (10:Int)),wr .i64 (addI s3.2.2.2.1 (1:Int)),())) else some (.inr (.inl (s3.1,s3.2.1,()))) else some (.inr (.inl (s3.1,s3.2.1,())))
noncomputable def u_natural_Text_l0(s1:List T×List T×Unit):Option (List T×List T×Unit⊕List T×Unit⊕Empty):=bif ltI (0:Int) (lenL s1.1) then ob (u_natural_small (s1.1,(1000000000:Int),())) fun x2=>ob (loopU u_natural_Text_l1 (x2.1,s1.2.1,x2.2.1,(0:Int),())) fun q6=>onS q6 (fun t7=>some (.inl (t7.1,t7.2.1,()))) fun q8=>noS q8 else some (.inr (.inl (s1.2.1,())))
noncomputable def u_natural_Text(t:List T×Unit):Option (ByteArray×Unit):=ob (u_natural_trim (t.1,())) fun x0=>bif eqI (lenL x0.1) (0:Int) then some (ByteArray.mk #[48],()) else ob (loopU u_natural_Text_l0 (x0.1,[],())) fun q9=>onS q9 (fun t10=>ob (u_slices_Reverse___byte_byte_ (t10.1,())) fun x11=>ob (strOf x11.1) fun x12=>some (x12,())) fun q13=>noS q13
theorem k_natural_Text:(calleeOf sg_natural_Text u_natural_Text).OK Tryz.prog 49:=mkK mixed [] (.l (.l (.l (.l (.seq (.one (.loop ⟨[.slot 0,.slot 3],[.sl 1,.row 5 1 38]⟩ [((.exit 0),⟨[.slot 3],[.row 5 1 38]⟩)] (.l (.one (.l (.l (.l (.one (.loop ⟨[.slot 0,.slot 3,.slot 4,.slot 5],[.sl 1,.row 5 1 38,.int .u32,I6]⟩ [((.exit 2),⟨[.slot 0,.slot 3],[.sl 1,.row 5 1 38]⟩)] .leaf))))))))) .leaf))))) (.cs Tryz.func69 k_natural_trim <| .cs Tryz.func72 k_natural_small <| .cs Tryz.func74 k_slices_Reverse___byte_byte_ <| .nil) Tryz.func49 fun _=>by kernel_rfl
def sg_entity_power:Sig:=⟨1,0,⟨[.slot 0],[I6]⟩,1,[],0,⟨[.slot 0],[.sl 1]⟩,46⟩
noncomputable def u_entity_power_l0(s2:Int×List T×List T×Unit):Option (Int×List T×List T×Unit⊕List T×Unit⊕Empty):=bif ltI (0:Int) s2.1 then ob (α:=Int×List T×List T×Unit⊕Empty) (ob (α:=Int×List T×List T×Unit⊕Empty) (bif eqI (modI s2.1 (2:Int)) (1:Int) then ob (u_natural_Mul (s2.2.1,s2.2.2.1,())) fun x3=>some (.inl (s2.1,x3.1,s2.2.2.1,())) else some (.inl (s2.1,s2.2.1,s2.2.2.1,()))) fun q4=>onS q4 (fun t5=>bif ltI (1:Int) t5.1 then ob (u_natural_Mul (t5.2.2.1,t5.2.2.1,())) fun x6=>some (.inl (t5.1,t5.2.1,x6.1,())) else some (.inl (t5.1,t5.2.1,t5.2.2.1,()))) fun q7=>noS q7) fun q8=>onS q8 (fun t9=>some (.inl (wr .i64 (divI t9.1 (2:Int)),t9.2.1,t9.2.2.1,()))) fun q10=>noS q10 else some (.inr (.inl (s2.2.1,())))
noncomputable def u_entity_power(t:Int×Unit):Option (List T×Unit):=ob (u_natural_Of ((1:Int),())) fun x0=>ob (u_natural_Of ((10:Int),())) fun x1=>ob (loopU u_entity_power_l0 (t.1,x0.1,x1.1,())) fun q11=>onS q11 (fun t12=>some (t12.1,())) fun q13=>noS q13
theorem k_entity_power:(calleeOf sg_entity_power u_entity_power).OK Tryz.prog 48:=mkK mixed [] (.l (.l (.seq (.one (.loop ⟨[.slot 0,.slot 3,.slot 4],[I6,.sl 1,.sl 1]⟩ [((.exit 0),⟨[.slot 3],[.sl 1]⟩)] (.l (.seq (.join [(.normal,⟨[.slot 0,.slot 3,.slot 4],[I6,.sl 1,.sl 1]⟩)] (.one (.seq (.join [(.normal,⟨[.slot 0,.slot 3,.slot 4],[I6,.sl 1,.sl 1]⟩)] .leaf) .leaf))) .leaf)))) .leaf))) (.cs Tryz.func45 k_natural_Of <| .cs Tryz.func47 k_natural_Mul <| .nil) Tryz.func48 fun _=>by kernel_rfl
def sg_entity_factors:Sig:=⟨1,0,⟨[.slot 0],[.sl 1]⟩,2,[],0,⟨[.slot 0,.slot 1],[I6,.sl 1]⟩,64⟩
noncomputable def u_entity_factors_l0(s0:List T×Int×Unit):Option (List T×Int×Unit⊕Int×List T×Unit⊕Empty):=ob (u_natural_Of ((5:Int),())) fun x1=>ob (u_natural_Div (s0.1,x1.1,())) fun x2=>bif Bool.not (eqI x2.2.2.1 (0:Int)) then some (.inr (.inl (s0.2.1,s0.1,()))) else bif ltI (0:Int) (lenL x2.2.1) then some (.inr (.inl (s0.2.1,s0.1,()))) else bif eqI (lenL s0.1) (0:Int) then some (.inr (.inl (s0.2.1,s0.1,()))) else some (.inl (x2.1,wr .i64 (addI s0.2.1 (1:Int)),()))
noncomputable def u_entity_factors(t:List T×Unit):Option (Int×List T×Unit):=ob (loopU u_entity_factors_l0 (t.1,(0:Int),())) fun q3=>onS q3 (fun t4=>some (t4.1,t4.2.1,())) fun q5=>noS q5
theorem k_entity_factors:(calleeOf sg_entity_factors u_entity_factors).OK Tryz.prog 43:=mkK mixed [] (.l (.l (.one (.loop ⟨[.slot 0,.slot 4],[.sl 1,I6]⟩ [(.ret,⟨[.slot 2,.slot 3],[I6,.sl 1]⟩)] .leaf)))) (.cs Tryz.func45 k_natural_Of <| .cs Tryz.func46 k_natural_Div <| .nil) Tryz.func43 fun _=>by kernel_rfl
def sg_strings_Repeat:Sig:=⟨2,0,⟨[.slot 0,.slot 1],[.str,I6]⟩,1,[],0,⟨[.slot 0],[.str]⟩,250⟩
noncomputable def u_strings_Repeat(t:ByteArray×Int×Unit):Option (ByteArray×Unit):=bif eqI t.2.1 (0:Int) then some (ByteArray.mk #[],()) else bif eqI t.2.1 (1:Int) then some (t.1,()) else ob (α:=ByteArray×Int×Unit⊕Empty) (bif ltI t.2.1 (0:Int) then none else some (.inl (t.1,t.2.1,()))) fun q0=>onS q0 (fun t1=>none) fun q2=>noS q2
theorem k_strings_Repeat:(calleeOf sg_strings_Repeat u_strings_Repeat).OK Tryz.prog 50:=mkK mixed [] (.l (.l (.seq (.join [(.normal,⟨[.slot 0,.slot 1],[.str,I6]⟩)] .leaf) (.l (.seq (.join [] .leaf) (.l (.l (.seq (.join [] (.l (.one (.seq (.join [] .leaf) .leaf)))) (.l (.seq (.join [] .leaf) (.l (.l (.l (.seq (.one (.loop ⟨[],[]⟩ [] .leaf)) .leaf)))))))))))))) .nil Tryz.func50 fun _=>by kernel_rfl
def sg_entity_Decimal:Sig:=⟨1,0,⟨[.aggs 0 3],[.bool,.sl 1,.sl 1]⟩,2,[],0,⟨[.slot 0,.slot 1],[.str,.bool]⟩,204⟩
noncomputable def g_entity_Decimal:List (FuncId×Callee):=[(42,(calleeOf sg_natural_Shift u_natural_Shift)),(43,(calleeOf sg_entity_factors u_entity_factors)),(45,(calleeOf sg_natural_Of u_natural_Of)),(44,(calleeOf sg_natural_Cmp u_natural_Cmp)),(48,trC (calleeOf sg_entity_power u_entity_power)),(47,trC (calleeOf sg_natural_Mul u_natural_Mul)),(46,trC (calleeOf sg_natural_Div u_natural_Div)),(49,(calleeOf sg_natural_Text u_natural_Text)),(50,(calleeOf sg_strings_Repeat u_strings_Repeat))]
noncomputable def u_entity_Decimal_l0(s0:Unit×List T×Int×List T×Bool×List T×List T×Unit):Option (Unit×List T×Int×List T×Bool×List T×List T×Unit⊕Unit×List T×Int×Bool×List T×List T×Unit⊕Empty):=bif ltI (0:Int) (lenL s0.2.2.2.1) then ob (idxL s0.2.2.2.1 (0:Int)) fun x1=>ob (T.int? .u32 (T.cell x1 0)) fun x2=>bif eqI (bitI .and .u32 x2 (1:Int)) (0:Int) then ob (u_natural_Shift (s0.2.2.2.1,(-1:Int),())) fun x3=>some (.inl ((),s0.2.1,wr .i64 (addI s0.2.2.1 (1:Int)),x3.1,s0.2.2.2.2.1,s0.2.2.2.2.2.1,s0.2.2.2.2.2.2.1,())) else some (.inr (.inl ((),s0.2.1,s0.2.2.1,s0.2.2.2.2.1,s0.2.2.2.2.2.1,s0.2.2.2.2.2.2.1,()))) else some (.inr (.inl ((),s0.2.1,s0.2.2.1,s0.2.2.2.2.1,s0.2.2.2.2.2.1,s0.2.2.2.2.2.2.1,())))
noncomputable def u_entity_Decimal(t:Bool×List T×List T×Unit):Option (ByteArray×Bool×Unit):=ob (α:=ByteArray×Bool×Unit⊕Unit×Int×List T×Bool×List T×List T×Unit⊕Empty) (bif ltI (0:Int) (lenL t.2.2.1) then ob (loopU u_entity_Decimal_l0 ((),t.2.1,(0:Int),t.2.2.1,t.1,t.2.1,t.2.2.1,())) fun q4=>onS q4 (fun t5=>ob (u_natural_Shift (t5.2.2.2.2.2.1,wr .i64 (subI (0:Int) t5.2.2.1),())) fun x6=>ob (u_entity_factors (x6.1,())) fun x7=>ob (u_natural_Of ((1:Int),())) fun x8=>ob (u_natural_Cmp (x7.2.1,x8.1,())) fun x9=>bif Bool.not (eqI x9.1 (0:Int)) then some (.inl (ByteArray.mk #[],false,())) else ob (u_entity_power (mmI true t5.2.2.1 x7.1,())) fun x10=>ob (u_natural_Mul (t5.2.1,x10.1,())) fun x11=>ob (u_natural_Div (x11.1,t5.2.2.2.2.2.1,())) fun x12=>some (.inr (.inl ((),mmI true t5.2.2.1 x7.1,x12.1,t5.2.2.2.1,t5.2.2.2.2.1,t5.2.2.2.2.2.1,())))) fun q13=>noS q13 else some (.inr (.inl ((),(0:Int),t.2.1,t.1,t.2.1,t.2.2.1,())))) fun q14=>onS q14 (fun t15=>some (t15.1,t15.2.1,())) fun q16=>onS q16 (fun t17=>ob (u_natural_Text (t17.2.2.1,())) fun x18=>ob (α:=Unit×Int×ByteArray×Bool×List T×List T×Unit⊕Empty) (bif leI (lenS x18.1) t17.2.1 then ob (u_strings_Repeat (ByteArray.mk #[48],wr .i64 (subI (wr .i64 (addI t17.2.1 (1:Int))) (lenS x18.1)),())) fun x19=>ob (catS x19.1 x18.1) fun x20=>some (.inl ((),t17.2.1,x20,t17.2.2.2.1,t17.2.2.2.2.1,t17.2.2.2.2.2.1,())) else some (.inl ((),t17.2.1,x18.1,t17.2.2.2.1,t17.2.2.2.2.1,t17.2.2.2.2.2.1,()))) fun q21=>onS q21 (fun t22=>ob (subS t22.2.2.1 (0:Int) (wr .i64 (subI (lenS t22.2.2.1) t22.2.1))) fun x23=>ob (catS x23 (ByteArray.mk #[46])) fun x24=>ob (subS t22.2.2.1 (wr .i64 (subI (lenS t22.2.2.1) t22.2.1)) (lenS t22.2.2.1)) fun x25=>ob (catS x24 x25) fun x26=>ob (α:=ByteArray×Unit⊕Empty) (bif t22.2.2.2.1 then ob (catS (ByteArray.mk #[45]) x26) fun x27=>some (.inl (x27,())) else some (.inl (x26,()))) fun q28=>onS q28 (fun t29=>some (t29.1,true,())) fun q30=>noS q30) fun q31=>noS q31) fun q32=>noS q32
def h_entity_Decimal:HT:=(.l (.l (.l (.seq (.join [(.ret,⟨[.slot 2,.slot 3],[.str,.bool]⟩),(.normal,⟨[.slot 1,.slot 4,.slot 5,.box 1 3],[.lit (.box 1 0),I6,.sl 1,.bool,.sl 1,.sl 1]⟩)] (.l (.cond (.l (.seq (.l (.one (.loop ⟨[.slot 1,.slot 5,.slot 6,.slot 7,.box 1 3],[.lit (.box 1 0),.sl 1,I6,.sl 1,.bool,.sl 1,.sl 1]⟩ [((.exit 0),⟨[.slot 1,.slot 5,.slot 6,.box 1 3],[.lit (.box 1 0),.sl 1,I6,.bool,.sl 1,.sl 1]⟩)] .leaf))) .leaf)) .leaf))) (.l (.seq (.join [(.normal,⟨[.slot 1,.slot 4,.slot 12,.box 1 3],[.lit (.box 1 0),I6,.str,.bool,.sl 1,.sl 1]⟩)] .leaf) (.l (.seq (.join [(.normal,⟨[.slot 12],[.str]⟩)] .leaf) .leaf))))))))
theorem ok_entity_Decimal:TabOK Tryz.prog [44,1000048,1000047,1000046,49,50] g_entity_Decimal:=(.cs Tryz.func42 k_natural_Shift (.cs Tryz.func43 k_entity_factors (.cs Tryz.func45 k_natural_Of (.cs Tryz.func44 k_natural_Cmp (TabOK.consP (fun _=>⟨_,Tryz.func48,by kernel_rfl,by kernel_rfl⟩) (trC_ok k_entity_power) (trC_nat (calleeOf_nat _ _)) (fun h=>by cases h) (fun _=>trC_pureP (calleeOf_nat _ _)) (fun _=>(trC_pureP (calleeOf_nat _ _)).framed) (by kernel_rfl) (TabOK.consP (fun _=>⟨_,Tryz.func47,by kernel_rfl,by kernel_rfl⟩) (trC_ok k_natural_Mul) (trC_nat (calleeOf_nat _ _)) (fun h=>by cases h) (fun _=>trC_pureP (calleeOf_nat _ _)) (fun _=>(trC_pureP (calleeOf_nat _ _)).framed) (by kernel_rfl) (TabOK.consP (fun _=>⟨_,Tryz.func46,by kernel_rfl,by kernel_rfl⟩) (trC_ok k_natural_Div) (trC_nat (calleeOf_nat _ _)) (fun h=>by cases h) (fun _=>trC_pureP (calleeOf_nat _ _)) (fun _=>(trC_pureP (calleeOf_nat _ _)).framed) (by kernel_rfl) (.cs Tryz.func49 k_natural_Text (.cs Tryz.func50 k_strings_Repeat TabOK.nil)))))))))
theorem e_entity_Decimal:∀t,bodyG Tryz.prog g_entity_Decimal [44,1000048,1000047,1000046,49,50] h_entity_Decimal Tryz.f19 sg_entity_Decimal t=u_entity_Decimal t:=fun _=>by kernel_rfl
theorem k_entity_Decimal:(calleeOf sg_entity_Decimal u_entity_Decimal).OK Tryz.prog 19:=mkK mixed [44,1000048,1000047,1000046,49,50] h_entity_Decimal ok_entity_Decimal Tryz.func19 e_entity_Decimal
def sg_entity_wrong:Sig:=⟨2,0,⟨[.slot 0,.slot 1],[I6,I6]⟩,1,[],0,⟨[.aggs 0 5],[I6,I6,I6,I6,I6]⟩,16⟩
noncomputable def u_entity_wrong(t:Int×Int×Unit):Option (Int×Int×Int×Int×Int×Unit):=some (t.1,t.2.1,(-1:Int),(-1:Int),(-1:Int),())
theorem k_entity_wrong:(calleeOf sg_entity_wrong u_entity_wrong).OK Tryz.prog 32:=mkK mixed [] .leaf .nil Tryz.func32 fun _=>by kernel_rfl
def sg_entity_references:Sig:=⟨1,0,⟨[.slot 0],[.sl 7]⟩,1,[],0,⟨[.slot 0],[.sl 1]⟩,60⟩
noncomputable def g_entity_references(self:((List T)×Unit)→Option ((List T)×Unit)):List (Go.FuncId×Callee):=[(27,(calleeOf sg_entity_references self))]
noncomputable def u_entity_references_l0(self:(List T×Unit)→Option (List T×Unit))(s0:List T×List T×Int×Int×Unit):Option (List T×List T×Int×Int×Unit⊕List T×Unit⊕Empty):=bif ltI s0.2.2.2.1 s0.2.2.1 then ob (α:=List T×List T×Int×Int×Unit⊕Empty) (ob (idxL s0.2.1 s0.2.2.2.1) fun x1=>ob (T.int? .i64 (T.cell x1 0)) fun x2=>bif eqI x2 (5:Int) then ob (T.int? .i64 (T.cell x1 5)) fun x3=>ob (room s0.1 [T.v (.int .i64 x3)] 8) fun x4=>some (.inl (x4,s0.2.1,s0.2.2.1,s0.2.2.2.1,())) else ob (T.int? .i64 (T.cell x1 0)) fun x5=>bif eqI x5 (6:Int) then ob (T.sl? 7 (T.cell x1 6)) fun x6=>ob (self (x6,())) fun x7=>ob (room s0.1 x7.1 8) fun x8=>some (.inl (x8,s0.2.1,s0.2.2.1,s0.2.2.2.1,())) else some (.inl (s0.1,s0.2.1,s0.2.2.1,s0.2.2.2.1,()))) fun q9=>onS q9 (fun t10=>some (.inl (t10.1,t10.2.1,t10.2.2.1,wr .i64 (addI t10.2.2.2.1 (1:Int)),()))) fun q11=>noS q11 else some (.inr (.inl (s0.1,())))
noncomputable def b_entity_references(self:((List T)×Unit)→Option ((List T)×Unit))(t:((List T)×Unit)):Option ((List T)×Unit):=
 (ob (loopU (u_entity_references_l0 self) ([],(t.1,((Go.Eng.lenL t.1),((0:Int),()))))) fun q12=>onS q12 (fun t13=>(some (t13.1,()))) fun q14=>noS q14)
def h_entity_references:HT:=(.l (.l (.seq (.l (.one (.loop ⟨[.slot 3,.slot 6,.slot 7,.slot 8],[.row 3 1 20,.sl 7,I6,I6]⟩ [((.exit 0),⟨[.slot 3],[.row 3 1 20]⟩)] (.l (.l (.seq (.join [(.normal,⟨[.slot 3,.slot 6,.slot 7,.slot 8],[.row 3 1 20,.sl 7,I6,I6]⟩)] .leaf) .leaf)))))) .leaf)))
theorem ok_entity_references(self:((List T)×Unit)→Option ((List T)×Unit))(hs:(calleeOf sg_entity_references self).OK Tryz.prog 27):TabOK Tryz.prog [] (g_entity_references self):=(TabOK.cons (fun _=>⟨_,Tryz.func27,by kernel_rfl,by kernel_rfl⟩) hs (calleeOf_nat _ _) (fun h=>by cases h) (by kernel_rfl) (fun _=>callK_framed (calleeOf_nat _ _) rfl rfl) (by kernel_rfl) TabOK.nil)
theorem e_entity_references(self:((List T)×Unit)→Option ((List T)×Unit)):∀t,bodyG Tryz.prog (g_entity_references self) [] h_entity_references Tryz.f27 sg_entity_references t=b_entity_references self t:=by
 intro t
 kernel_rfl
noncomputable def v_entity_references(n:Nat):((List T)×Unit)→Option ((List T)×Unit):=Nat.rec (motive:=fun _=>((List T)×Unit)→Option ((List T)×Unit)) (fun _=>none) (fun _ ih=>b_entity_references ih) n
theorem kv_entity_references(n:Nat):(calleeOf sg_entity_references (v_entity_references n)).OK Tryz.prog 27:=by
 induction n with
 | zero=>exact calleeOf_none _
 | succ n ih=>exact calleeG_ok mixed (ok_entity_references _ ih) Tryz.func27 (by kernel_rfl) (by kernel_rfl) (e_entity_references (v_entity_references n))
noncomputable def u_entity_references:((List T)×Unit)→Option ((List T)×Unit):=v_entity_references 20
theorem k_entity_references:(calleeOf sg_entity_references u_entity_references).OK Tryz.prog 27:=kv_entity_references 20
def sg_entity_Check:Sig:=⟨1,0,⟨[.aggs 0 2],[.sl 2,.sl 3]⟩,1,[],0,⟨[.slot 0],[.sl 5]⟩,134⟩
noncomputable def u_entity_Check_l0(s0:Unit×List T×List T×Int×Int×List T×List T×Unit):Option (Unit×List T×List T×Int×Int×List T×List T×Unit⊕Unit×List T×List T×List T×Unit⊕Empty):=bif ltI s0.2.2.2.2.1 s0.2.2.2.1 then ob (idxL s0.2.2.1 s0.2.2.2.2.1) fun x1=>ob (T.int? .i64 (T.cell x1 0)) fun x2=>some (.inl ((),mapPut (T.v (.int .i64 x2)) (T.v (.bool true)) s0.2.1,s0.2.2.1,s0.2.2.2.1,wr .i64 (addI s0.2.2.2.2.1 (1:Int)),s0.2.2.2.2.2.1,s0.2.2.2.2.2.2.1,())) else some (.inr (.inl ((),s0.2.1,s0.2.2.2.2.2.1,s0.2.2.2.2.2.2.1,())))
noncomputable def u_entity_Check_l2(s18:List T×List T×List T×Unit×List T×Int×Int×List T×Int×Int×T×T×T×Unit):Option (List T×List T×List T×Unit×List T×Int×Int×List T×Int×Int×T×T×T×Unit⊕List T×List T×List T×List T×Int×Int×Unit⊕Empty):=bif ltI s18.2.2.2.2.2.2.2.2.2.1 s18.2.2.2.2.2.2.2.2.1 then ob (α:=List T×List T×List T×Unit×List T×Int×Int×List T×Int×Int×T×T×T×Unit⊕Empty) (ob (idxL s18.2.2.2.2.2.2.2.1 s18.2.2.2.2.2.2.2.2.2.1) fun x19=>ob (T.int? .i64 (T.cell x19 0)) fun x20=>ob (T.one? (mapGetD (T.v (.int .i64 x20)) s18.1 (T.v (.bool false)))) fun x21=>ob (T.bool? x21) fun x22=>bif Bool.not x22 then ob (T.int? .i64 s18.2.2.2.2.2.2.2.2.2.2.1) fun x23=>ob (u_entity_wrong ((35:Int),x23,())) fun x24=>ob (room s18.2.2.1 [T.agg [T.v (.int .i64 x24.1),T.v (.int .i64 x24.2.1),T.v (.int .i64 x24.2.2.1),T.v (.int .i64 x24.2.2.2.1),T.v (.int .i64 x24.2.2.2.2.1)]] 40) fun x25=>some (.inl (s18.1,s18.2.1,x25,(),s18.2.2.2.2.1,s18.2.2.2.2.2.1,s18.2.2.2.2.2.2.1,s18.2.2.2.2.2.2.2.1,s18.2.2.2.2.2.2.2.2.1,s18.2.2.2.2.2.2.2.2.2.1,s18.2.2.2.2.2.2.2.2.2.2.1,s18.2.2.2.2.2.2.2.2.2.2.2.1,s18.2.2.2.2.2.2.2.2.2.2.2.2.1,())) else some (.inl (s18.1,s18.2.1,s18.2.2.1,(),s18.2.2.2.2.1,s18.2.2.2.2.2.1,s18.2.2.2.2.2.2.1,s18.2.2.2.2.2.2.2.1,s18.2.2.2.2.2.2.2.2.1,s18.2.2.2.2.2.2.2.2.2.1,s18.2.2.2.2.2.2.2.2.2.2.1,s18.2.2.2.2.2.2.2.2.2.2.2.1,s18.2.2.2.2.2.2.2.2.2.2.2.2.1,()))) fun q26=>onS q26 (fun t27=>some (.inl (t27.1,t27.2.1,t27.2.2.1,(),t27.2.2.2.2.1,t27.2.2.2.2.2.1,t27.2.2.2.2.2.2.1,t27.2.2.2.2.2.2.2.1,t27.2.2.2.2.2.2.2.2.1,wr .i64 (addI t27.2.2.2.2.2.2.2.2.2.1 (1:Int)),t27.2.2.2.2.2.2.2.2.2.2.1,t27.2.2.2.2.2.2.2.2.2.2.2.1,t27.2.2.2.2.2.2.2.2.2.2.2.2.1,()))) fun q28=>noS q28 else some (.inr (.inl (s18.1,s18.2.1,s18.2.2.1,s18.2.2.2.2.1,s18.2.2.2.2.2.1,s18.2.2.2.2.2.2.1,())))
noncomputable def u_entity_Check_l1(s5:List T×List T×List T×List T×Int×Int×Unit):Option (List T×List T×List T×List T×Int×Int×Unit⊕List T×Unit⊕Empty):=bif ltI s5.2.2.2.2.2.1 s5.2.2.2.2.1 then ob (idxL s5.2.2.2.1 s5.2.2.2.2.2.1) fun x6=>ob (α:=List T×List T×List T×Unit×List T×Int×Int×T×T×T×Unit⊕Empty) (ob (T.int? .i64 (T.cell x6 0)) fun x7=>ob (T.one? (mapGetD (T.v (.int .i64 x7)) s5.2.1 (T.v (.bool false)))) fun x8=>ob (T.bool? x8) fun x9=>bif x9 then ob (T.int? .i64 (T.cell x6 0)) fun x10=>ob (u_entity_wrong ((37:Int),x10,())) fun x11=>ob (room s5.2.2.1 [T.agg [T.v (.int .i64 x11.1),T.v (.int .i64 x11.2.1),T.v (.int .i64 x11.2.2.1),T.v (.int .i64 x11.2.2.2.1),T.v (.int .i64 x11.2.2.2.2.1)]] 40) fun x12=>some (.inl (s5.1,s5.2.1,x12,(),s5.2.2.2.1,s5.2.2.2.2.1,s5.2.2.2.2.2.1,T.cell x6 0,T.cell x6 1,T.cell x6 2,())) else some (.inl (s5.1,s5.2.1,s5.2.2.1,(),s5.2.2.2.1,s5.2.2.2.2.1,s5.2.2.2.2.2.1,T.cell x6 0,T.cell x6 1,T.cell x6 2,()))) fun q13=>onS q13 (fun t14=>ob (T.int? .i64 t14.2.2.2.2.2.2.2.1) fun x15=>ob (T.sl? 7 t14.2.2.2.2.2.2.2.2.2.1) fun x16=>ob (u_entity_references (x16,())) fun x17=>ob (loopU u_entity_Check_l2 (t14.1,mapPut (T.v (.int .i64 x15)) (T.v (.bool true)) t14.2.1,t14.2.2.1,(),t14.2.2.2.2.1,t14.2.2.2.2.2.1,t14.2.2.2.2.2.2.1,x17.1,lenL x17.1,(0:Int),t14.2.2.2.2.2.2.2.1,t14.2.2.2.2.2.2.2.2.1,t14.2.2.2.2.2.2.2.2.2.1,())) fun q29=>onS q29 (fun t30=>some (.inl (t30.1,t30.2.1,t30.2.2.1,t30.2.2.2.1,t30.2.2.2.2.1,wr .i64 (addI t30.2.2.2.2.2.1 (1:Int)),()))) fun q31=>noS q31) fun q32=>noS q32 else some (.inr (.inl (s5.2.2.1,())))
noncomputable def u_entity_Check(t:List T×List T×Unit):Option (List T×Unit):=ob (loopU u_entity_Check_l0 ((),[],t.2.1,lenL t.2.1,(0:Int),t.1,t.2.1,())) fun q3=>onS q3 (fun t4=>ob (loopU u_entity_Check_l1 (t4.2.1,[],[],t4.2.2.2.1,lenL t4.2.2.2.1,(0:Int),())) fun q33=>onS q33 (fun t34=>some (t34.1,())) fun q35=>noS q35) fun q36=>noS q36
theorem k_entity_Check:(calleeOf sg_entity_Check u_entity_Check).OK Tryz.prog 12:=mkK mixed [32] (.l (.l (.seq (.l (.one (.loop ⟨[.slot 1,.slot 3,.slot 14,.slot 15,.slot 16,.box 1 2],[.lit (.box 1 0),.row 68 1000000000 12,.sl 3,I6,I6,.sl 2,.sl 3]⟩ [((.exit 0),⟨[.slot 1,.slot 3,.box 1 2],[.lit (.box 1 0),.row 68 1000000000 12,.sl 2,.sl 3]⟩)] .leaf))) (.l (.l (.seq (.l (.one (.loop ⟨[.slot 3,.slot 6,.slot 7,.slot 26,.slot 27,.slot 28],[.row 68 1000000000 12,.row 68 1000000000 24,.row 59 5 41,.sl 3,I6,I6]⟩ [((.exit 2),⟨[.slot 7],[.row 59 5 41]⟩)] (.l (.l (.seq (.one (.l (.seq (.join [(.normal,⟨[.slot 3,.slot 6,.slot 7,.slot 9,.slot 26,.slot 27,.slot 28,.box 9 3],[.row 68 1000000000 12,.row 68 1000000000 24,.row 59 5 41,.lit (.box 9 0),.sl 3,I6,I6,.tree,.tree,.tree]⟩)] .leaf) (.l (.l (.one (.loop ⟨[.slot 3,.slot 6,.slot 7,.slot 9,.slot 26,.slot 27,.slot 28,.slot 48,.slot 49,.slot 50,.box 9 3],[.row 68 1000000000 12,.row 68 1000000000 24,.row 59 5 41,.lit (.box 9 0),.sl 3,I6,I6,.sl 1,I6,I6,.tree,.tree,.tree]⟩ [((.exit 4),⟨[.slot 3,.slot 6,.slot 7,.slot 26,.slot 27,.slot 28],[.row 68 1000000000 12,.row 68 1000000000 24,.row 59 5 41,.sl 3,I6,I6]⟩)] (.l (.l (.seq (.join [(.normal,⟨[.slot 3,.slot 6,.slot 7,.slot 9,.slot 26,.slot 27,.slot 28,.slot 48,.slot 49,.slot 50,.box 9 3],[.row 68 1000000000 12,.row 68 1000000000 24,.row 59 5 63,.lit (.box 9 0),.sl 3,I6,I6,.sl 1,I6,I6,.tree,.tree,.tree]⟩)] .leaf) .leaf)))))))))) .leaf)))))) .leaf)))))) (.cs Tryz.func32 k_entity_wrong <| .cs Tryz.func27 k_entity_references <| .nil) Tryz.func12 fun _=>by kernel_rfl
def sg_entity_Order_1:Sig:=⟨2,2,⟨[.slot 0,.slot 1,.box 0 1],[I6,.lit (.box 0 0),.row 68 1000000000 1]⟩,1,[],1,⟨[.slot 0,.box 0 1],[.bool,.row 68 1000000000 2]⟩,16⟩
noncomputable def u_entity_Order_1(t:Int×Unit×List T×Unit):Option (Bool×List T×Unit):=ob (T.one? (mapGetD (T.v (.int .i64 t.1)) t.2.2.1 (T.v (.bool false)))) fun x0=>ob (T.bool? x0) fun x1=>some (Bool.not x1,t.2.2.1,())
theorem k_entity_Order_1:(calleeOf sg_entity_Order_1 u_entity_Order_1).OK Tryz.prog 29:=mkK mixed [] .leaf .nil Tryz.func29 fun _=>by kernel_rfl
def sg_slices_IndexFunc___int_int_:Sig:=⟨2,2,⟨[.slot 0,.slot 1,.box 0 1],[.sl 1,.lit (.fn 29 [(0,0)]),.row 68 1000000000 1]⟩,1,[],1,⟨[.slot 0,.box 0 1],[I6,.row 68 1000000000 2]⟩,38⟩
noncomputable def u_slices_IndexFunc___int_int__l0(s0:List T×Unit×Int×Int×List T×Unit):Option (List T×Unit×Int×Int×List T×Unit⊕Int×List T×Unit⊕List T×Unit⊕Empty):=bif ltI s0.2.2.2.1 s0.2.2.1 then ob (idxL s0.1 s0.2.2.2.1) fun x1=>ob (T.int? .i64 (T.cell x1 0)) fun x2=>ob (u_entity_Order_1 (x2,(),s0.2.2.2.2.1,())) fun x3=>bif x3.1 then some (.inr (.inl (s0.2.2.2.1,x3.2.1,()))) else some (.inl (s0.1,(),s0.2.2.1,wr .i64 (addI s0.2.2.2.1 (1:Int)),x3.2.1,())) else some (.inr (.inr (.inl (s0.2.2.2.2.1,()))))
noncomputable def u_slices_IndexFunc___int_int_(t:List T×Unit×List T×Unit):Option (Int×List T×Unit):=ob (loopU u_slices_IndexFunc___int_int__l0 (t.1,(),lenL t.1,(0:Int),t.2.2.1,())) fun q4=>onS q4 (fun t5=>some (t5.1,t5.2.1,())) fun q6=>onS q6 (fun t7=>some ((-1:Int),t7.1,())) fun q8=>noS q8
theorem k_slices_IndexFunc___int_int_:(calleeOf sg_slices_IndexFunc___int_int_ u_slices_IndexFunc___int_int_).OK Tryz.prog 55:=mkK mixed [] (.l (.seq (.l (.one (.loop ⟨[.slot 0,.slot 1,.slot 7,.slot 8,.box 0 1],[.sl 1,.lit (.fn 29 [(0,0)]),I6,I6,.row 68 1000000000 18]⟩ [(.ret,⟨[.slot 4,.box 0 1],[I6,.row 68 1000000000 18]⟩),((.exit 0),⟨[.box 0 1],[.row 68 1000000000 18]⟩)] .leaf))) .leaf)) (.cs Tryz.func29 k_entity_Order_1 <| .nil) Tryz.func55 fun _=>by kernel_rfl
def sg_slices_ContainsFunc___int_int_:Sig:=⟨2,2,⟨[.slot 0,.slot 1,.box 0 1],[.sl 1,.lit (.fn 29 [(0,0)]),.row 68 1000000000 1]⟩,1,[],1,⟨[.slot 0,.box 0 1],[.bool,.row 68 1000000000 2]⟩,18⟩
noncomputable def u_slices_ContainsFunc___int_int_(t:List T×Unit×List T×Unit):Option (Bool×List T×Unit):=ob (u_slices_IndexFunc___int_int_ (t.1,(),t.2.2.1,())) fun x0=>some (leI (0:Int) x0.1,x0.2.1,())
theorem k_slices_ContainsFunc___int_int_:(calleeOf sg_slices_ContainsFunc___int_int_ u_slices_ContainsFunc___int_int_).OK Tryz.prog 28:=mkK mixed [] .leaf (.cs Tryz.func29 k_entity_Order_1 <| .cs Tryz.func55 k_slices_IndexFunc___int_int_ <| .nil) Tryz.func28 fun _=>by kernel_rfl
def sg_entity_Order:Sig:=⟨1,0,⟨[.aggs 0 2],[.sl 2,.sl 3]⟩,2,[],0,⟨[.slot 0,.slot 1],[.sl 1,.bool]⟩,166⟩
noncomputable def u_entity_Order_l0(s2:Unit×List T×List T×Int×Int×List T×List T×Unit):Option (Unit×List T×List T×Int×Int×List T×List T×Unit⊕Unit×List T×List T×List T×Unit⊕Empty):=bif ltI s2.2.2.2.2.1 s2.2.2.2.1 then ob (idxL s2.2.2.1 s2.2.2.2.2.1) fun x3=>ob (T.sl? 7 (T.cell x3 2)) fun x4=>ob (u_entity_references (x4,())) fun x5=>ob (chkI (lenL s2.2.1) s2.2.2.2.2.1) fun x6=>ob (idxN s2.2.1 x6) fun x7=>some (.inl ((),List.set s2.2.1 x6 (T.upd 1 x7 0 [T.sl 1 x5.1]),s2.2.2.1,s2.2.2.2.1,wr .i64 (addI s2.2.2.2.2.1 (1:Int)),s2.2.2.2.2.2.1,s2.2.2.2.2.2.2.1,())) else some (.inr (.inl ((),s2.2.1,s2.2.2.2.2.2.1,s2.2.2.2.2.2.2.1,())))
noncomputable def u_entity_Order_l2(s11:Unit×List T×Unit×List T×Int×List T×List T×List T×Unit):Option (Unit×List T×Unit×List T×Int×List T×List T×List T×Unit⊕Unit×List T×Unit×List T×Int×List T×List T×List T×Unit⊕Empty):=bif ltI s11.2.2.2.2.1 (lenL s11.2.2.2.2.2.2.1) then ob (idxL s11.2.2.2.2.2.2.1 s11.2.2.2.2.1) fun x12=>ob (T.int? .i64 (T.cell x12 0)) fun x13=>ob (T.one? (mapGetD (T.v (.int .i64 x13)) s11.2.2.2.2.2.2.2.1 (T.v (.bool false)))) fun x14=>ob (T.bool? x14) fun x15=>bif x15 then some (.inl ((),s11.2.1,(),s11.2.2.2.1,wr .i64 (addI s11.2.2.2.2.1 (1:Int)),s11.2.2.2.2.2.1,s11.2.2.2.2.2.2.1,s11.2.2.2.2.2.2.2.1,())) else ob (chkI (lenL s11.2.1) s11.2.2.2.2.1) fun x16=>ob (idxN s11.2.1 x16) fun x17=>ob (T.sl? 1 (T.cell x17 0)) fun x18=>ob (u_slices_ContainsFunc___int_int_ (x18,(),s11.2.2.2.2.2.2.2.1,())) fun x19=>bif x19.1 then some (.inl ((),s11.2.1,(),s11.2.2.2.1,wr .i64 (addI s11.2.2.2.2.1 (1:Int)),s11.2.2.2.2.2.1,s11.2.2.2.2.2.2.1,x19.2.1,())) else some (.inr (.inl ((),s11.2.1,(),s11.2.2.2.1,s11.2.2.2.2.1,s11.2.2.2.2.2.1,s11.2.2.2.2.2.2.1,x19.2.1,()))) else some (.inr (.inl ((),s11.2.1,(),s11.2.2.2.1,s11.2.2.2.2.1,s11.2.2.2.2.2.1,s11.2.2.2.2.2.2.1,s11.2.2.2.2.2.2.2.1,())))
noncomputable def u_entity_Order_l1(s10:Unit×List T×Unit×List T×List T×List T×List T×Unit):Option (Unit×List T×Unit×List T×List T×List T×List T×Unit⊕T×Bool×Unit⊕List T×Unit⊕Empty):=bif ltI (lenL s10.2.2.2.1) (lenL s10.2.2.2.2.2.1) then ob (loopU u_entity_Order_l2 ((),s10.2.1,(),s10.2.2.2.1,(0:Int),s10.2.2.2.2.1,s10.2.2.2.2.2.1,s10.2.2.2.2.2.2.1,())) fun q20=>onS q20 (fun t21=>bif eqI t21.2.2.2.2.1 (lenL t21.2.2.2.2.2.2.1) then some (.inr (.inl (T.v (.slice none 0 0),false,()))) else ob (idxL t21.2.2.2.2.2.2.1 t21.2.2.2.2.1) fun x22=>ob (T.int? .i64 (T.cell x22 0)) fun x23=>ob (room t21.2.2.2.1 [T.v (.int .i64 t21.2.2.2.2.1)] 8) fun x24=>some (.inl ((),t21.2.1,(),x24,t21.2.2.2.2.2.1,t21.2.2.2.2.2.2.1,mapPut (T.v (.int .i64 x23)) (T.v (.bool true)) t21.2.2.2.2.2.2.2.1,()))) fun q25=>noS q25 else some (.inr (.inr (.inl (s10.2.2.2.1,()))))
noncomputable def u_entity_Order(t:List T×List T×Unit):Option (List T×Bool×Unit):=ob (u_entity_Check (t.1,t.2.1,())) fun x0=>bif ltI (0:Int) (lenL x0.1) then some ([],false,()) else ob (mkLen (lenL t.2.1) (lenL t.2.1) 24) fun x1=>ob (loopU u_entity_Order_l0 ((),repL x1.1 (T.v (.slice none 0 0)),t.2.1,lenL t.2.1,(0:Int),t.1,t.2.1,())) fun q8=>onS q8 (fun t9=>ob (loopU u_entity_Order_l1 ((),t9.2.1,(),[],t9.2.2.1,t9.2.2.2.1,[],())) fun q26=>onS q26 (fun t27=>ob (T.sl? 1 t27.1) fun x28=>some (x28,t27.2.1,())) fun q29=>onS q29 (fun t30=>some (t30.1,true,())) fun q31=>noS q31) fun q32=>noS q32
theorem k_entity_Order:(calleeOf sg_entity_Order u_entity_Order).OK Tryz.prog 9:=mkK mixed [] (.l (.l (.l (.seq (.l (.one (.loop ⟨[.slot 1,.slot 4,.slot 19,.slot 20,.slot 21,.box 1 2],[.lit (.box 1 0),.row 22 1 17,.sl 3,I6,I6,.sl 2,.sl 3]⟩ [((.exit 0),⟨[.slot 1,.slot 4,.box 1 2],[.lit (.box 1 0),.row 22 1 17,.sl 2,.sl 3]⟩)] .leaf))) (.l (.l (.seq (.one (.loop ⟨[.slot 1,.slot 4,.slot 7,.slot 8,.box 1 2,.box 7 1],[.lit (.box 1 0),.row 22 1 17,.lit (.box 7 0),.row 3 1 81,.sl 2,.sl 3,.row 68 1000000000 34]⟩ [(.ret,⟨[.slot 2,.slot 3],[.tree,.bool]⟩),((.exit 2),⟨[.slot 8],[.row 3 1 81]⟩)] (.l (.one (.l (.seq (.one (.loop ⟨[.slot 1,.slot 4,.slot 7,.slot 8,.slot 9,.box 1 2,.box 7 1],[.lit (.box 1 0),.row 22 1 17,.lit (.box 7 0),.row 3 1 81,I6,.sl 2,.sl 3,.row 68 1000000000 34]⟩ [((.exit 4),⟨[.slot 1,.slot 4,.slot 7,.slot 8,.slot 9,.box 1 2,.box 7 1],[.lit (.box 1 0),.row 22 1 17,.lit (.box 7 0),.row 3 1 81,I6,.sl 2,.sl 3,.row 68 1000000000 61]⟩)] .leaf)) .leaf)))))) .leaf))))))) (.cs Tryz.func12 k_entity_Check <| .cs Tryz.func27 k_entity_references <| .cs Tryz.func28 k_slices_ContainsFunc___int_int_ <| .cs Tryz.func29 k_entity_Order_1 <| .nil) Tryz.func9 fun _=>by kernel_rfl
def sg___brepkernelmade_Dice__Word:Sig:=⟨1,1,⟨[.slot 0,.box 0 2],[.lit (.box 0 0),.sl 1,I6]⟩,1,[],0,⟨[.slot 0,.box 0 2],[.str,.sl 1,I6]⟩,16⟩
noncomputable def u___brepkernelmade_Dice__Word(t:Unit×List T×Int×Unit):Option (ByteArray×List T×Int×Unit):=ob (u___brepkernelmade_Dice__Next ((),(12:Int),t.2.1,t.2.2.1,())) fun x0=>ob (chkI (lenL [T.v (.string (ByteArray.mk #[97])),T.v (.string (ByteArray.mk #[98])),T.v (.string (ByteArray.mk #[120,48])),T.v (.string (ByteArray.mk #[115,48,46,49])),T.v (.string (ByteArray.mk #[])),T.v (.string (ByteArray.mk #[102,46,120,48])),T.v (.string (ByteArray.mk #[103,46,122,49])),T.v (.string (ByteArray.mk #[102,46,120,48,43,103,46,122,49])),T.v (.string (ByteArray.mk #[65,43])),T.v (.string (ByteArray.mk #[97,39,98])),T.v (.string (ByteArray.mk #[99,32,100])),T.v (.string (ByteArray.mk #[195,169]))]) x0.1) fun x1=>ob (idxN [T.v (.string (ByteArray.mk #[97])),T.v (.string (ByteArray.mk #[98])),T.v (.string (ByteArray.mk #[120,48])),T.v (.string (ByteArray.mk #[115,48,46,49])),T.v (.string (ByteArray.mk #[])),T.v (.string (ByteArray.mk #[102,46,120,48])),T.v (.string (ByteArray.mk #[103,46,122,49])),T.v (.string (ByteArray.mk #[102,46,120,48,43,103,46,122,49])),T.v (.string (ByteArray.mk #[65,43])),T.v (.string (ByteArray.mk #[97,39,98])),T.v (.string (ByteArray.mk #[99,32,100])),T.v (.string (ByteArray.mk #[195,169]))] x1) fun x2=>ob (T.str? (T.cell x2 0)) fun x3=>some (x3,x0.2.1,x0.2.2.1,())
theorem k___brepkernelmade_Dice__Word:(calleeOf sg___brepkernelmade_Dice__Word u___brepkernelmade_Dice__Word).OK Tryz.prog 53:=mkK mixed [] .leaf (.cs Tryz.func25 k___brepkernelmade_Dice__Next <| .nil) Tryz.func53 fun _=>by kernel_rfl
def sg___brepkernelmade_Dice__Arg:Sig:=⟨2,1,⟨[.slot 0,.slot 1,.box 0 2],[.lit (.box 0 0),I6,.sl 1,I6]⟩,1,[],0,⟨[.aggs 0 7,.box 0 2],[I6,.bool,.sl 1,.sl 1,.str,I6,.sl 7,.sl 1,I6]⟩,158⟩
noncomputable def g___brepkernelmade_Dice__Arg(self:(Unit×(Int×((List T)×(Int×Unit))))→Option (Int×(Bool×((List T)×((List T)×(ByteArray×(Int×((List T)×((List T)×(Int×Unit)))))))))):List (Go.FuncId×Callee):=[(25,(calleeOf sg___brepkernelmade_Dice__Next u___brepkernelmade_Dice__Next)),(21,(calleeOf sg_ref02_Int u_ref02_Int)),(20,(calleeOf sg_ref02_Frac u_ref02_Frac)),(53,(calleeOf sg___brepkernelmade_Dice__Word u___brepkernelmade_Dice__Word)),(24,(calleeOf sg___brepkernelmade_Dice__Arg self)),(2000000,flagC [6] [5,24,25,38,39,52,53,60000054,60000039,8999999])]
noncomputable def u___brepkernelmade_Dice__Arg_l0(self:(Unit×Int×List T×Int×Unit)→Option (Int×Bool×List T×List T×ByteArray×Int×List T×List T×Int×Unit))(s21:Unit×Int×Unit×Unit×Int×List T×Int×Int×Bool×T×T×ByteArray×Int×T×Int×Bool×T×T×ByteArray×Int×List T×Unit):Option (Unit×Int×Unit×Unit×Int×List T×Int×Int×Bool×T×T×ByteArray×Int×T×Int×Bool×T×T×ByteArray×Int×List T×Unit⊕Unit×Unit×List T×Int×Int×Bool×T×T×ByteArray×Int×T×Int×Bool×T×T×ByteArray×Int×List T×Unit⊕Empty):=bif ltI (0:Int) s21.2.2.2.2.1 then ob (self ((),wr .i64 (subI s21.2.1 (1:Int)),s21.2.2.2.2.2.1,s21.2.2.2.2.2.2.1,())) fun x22=>ob (room s21.2.2.2.2.2.2.2.2.2.2.2.2.2.2.2.2.2.2.2.2.1 [T.agg [T.v (.int .i64 x22.1),T.v (.bool x22.2.1),T.sl 1 x22.2.2.1,T.sl 1 x22.2.2.2.1,T.v (.string x22.2.2.2.2.1),T.v (.int .i64 x22.2.2.2.2.2.1),T.sl 7 x22.2.2.2.2.2.2.1]] 112) fun x23=>some (.inl ((),s21.2.1,(),(),wr .i64 (subI s21.2.2.2.2.1 (1:Int)),x22.2.2.2.2.2.2.2.1,x22.2.2.2.2.2.2.2.2.1,s21.2.2.2.2.2.2.2.1,s21.2.2.2.2.2.2.2.2.1,s21.2.2.2.2.2.2.2.2.2.1,s21.2.2.2.2.2.2.2.2.2.2.1,s21.2.2.2.2.2.2.2.2.2.2.2.1,s21.2.2.2.2.2.2.2.2.2.2.2.2.1,s21.2.2.2.2.2.2.2.2.2.2.2.2.2.1,s21.2.2.2.2.2.2.2.2.2.2.2.2.2.2.1,s21.2.2.2.2.2.2.2.2.2.2.2.2.2.2.2.1,s21.2.2.2.2.2.2.2.2.2.2.2.2.2.2.2.2.1,s21.2.2.2.2.2.2.2.2.2.2.2.2.2.2.2.2.2.1,s21.2.2.2.2.2.2.2.2.2.2.2.2.2.2.2.2.2.2.1,s21.2.2.2.2.2.2.2.2.2.2.2.2.2.2.2.2.2.2.2.1,x23,())) else some (.inr (.inl ((),(),s21.2.2.2.2.2.1,s21.2.2.2.2.2.2.1,s21.2.2.2.2.2.2.2.1,s21.2.2.2.2.2.2.2.2.1,s21.2.2.2.2.2.2.2.2.2.1,s21.2.2.2.2.2.2.2.2.2.2.1,s21.2.2.2.2.2.2.2.2.2.2.2.1,s21.2.2.2.2.2.2.2.2.2.2.2.2.1,s21.2.2.2.2.2.2.2.2.2.2.2.2.2.1,s21.2.2.2.2.2.2.2.2.2.2.2.2.2.2.1,s21.2.2.2.2.2.2.2.2.2.2.2.2.2.2.2.1,s21.2.2.2.2.2.2.2.2.2.2.2.2.2.2.2.2.1,s21.2.2.2.2.2.2.2.2.2.2.2.2.2.2.2.2.2.1,s21.2.2.2.2.2.2.2.2.2.2.2.2.2.2.2.2.2.2.1,s21.2.2.2.2.2.2.2.2.2.2.2.2.2.2.2.2.2.2.2.1,s21.2.2.2.2.2.2.2.2.2.2.2.2.2.2.2.2.2.2.2.2.1,())))
noncomputable def b___brepkernelmade_Dice__Arg(self:(Unit×(Int×((List T)×(Int×Unit))))→Option (Int×(Bool×((List T)×((List T)×(ByteArray×(Int×((List T)×((List T)×(Int×Unit))))))))))(t:(Unit×(Int×((List T)×(Int×Unit))))):Option (Int×(Bool×((List T)×((List T)×(ByteArray×(Int×((List T)×((List T)×(Int×Unit))))))))):=
 (ob (Go.Eng.u___brepkernelmade_Dice__Next ((),((9:Int),(t.2.2.1,(t.2.2.2.1,()))))) fun x0=>(bif (Go.Eng.eqI x0.1 (0:Int)) then (ob (Go.Eng.u___brepkernelmade_Dice__Next ((),((50:Int),(x0.2.1,(x0.2.2.1,()))))) fun x1=>(ob (Go.Eng.u_ref02_Int ((Go.Eng.wr Go.IntKind.i64 (Go.Eng.subI x1.1 (20:Int))),())) fun x2=>(some ((1:Int),(x2.1,(x2.2.1,(x2.2.2.1,((ByteArray.mk #[]),((0:Int),([],(x1.2.1,(x1.2.2.1,())))))))))))) else (bif (Go.Eng.eqI x0.1 (1:Int)) then (ob (Go.Eng.u___brepkernelmade_Dice__Next ((),((99:Int),(x0.2.1,(x0.2.2.1,()))))) fun x3=>(ob (Go.Eng.u___brepkernelmade_Dice__Next ((),((7:Int),(x3.2.1,(x3.2.2.1,()))))) fun x4=>(ob (Go.Eng.chkI (Go.Eng.lenL [(Go.Eng.T.v (Go.Value.int Go.IntKind.i64 (1:Int))),(Go.Eng.T.v (Go.Value.int Go.IntKind.i64 (2:Int))),(Go.Eng.T.v (Go.Value.int Go.IntKind.i64 (8:Int))),(Go.Eng.T.v (Go.Value.int Go.IntKind.i64 (5:Int))),(Go.Eng.T.v (Go.Value.int Go.IntKind.i64 (1:Int))),(Go.Eng.T.v (Go.Value.int Go.IntKind.i64 (10:Int))),(Go.Eng.T.v (Go.Value.int Go.IntKind.i64 (3:Int)))]) x4.1) fun x5=>(ob (Go.Eng.idxN [(Go.Eng.T.v (Go.Value.int Go.IntKind.i64 (1:Int))),(Go.Eng.T.v (Go.Value.int Go.IntKind.i64 (2:Int))),(Go.Eng.T.v (Go.Value.int Go.IntKind.i64 (8:Int))),(Go.Eng.T.v (Go.Value.int Go.IntKind.i64 (5:Int))),(Go.Eng.T.v (Go.Value.int Go.IntKind.i64 (1:Int))),(Go.Eng.T.v (Go.Value.int Go.IntKind.i64 (10:Int))),(Go.Eng.T.v (Go.Value.int Go.IntKind.i64 (3:Int)))] x5) fun x6=>(ob (Go.Eng.T.int? Go.IntKind.i64 (Go.Eng.T.cell x6 0)) fun x7=>(ob (Go.Eng.u_ref02_Frac ((Go.Eng.wr Go.IntKind.i64 (Go.Eng.subI x3.1 (40:Int))),(x7,()))) fun x8=>(some ((2:Int),(x8.1,(x8.2.1,(x8.2.2.1,((ByteArray.mk #[]),((0:Int),([],(x4.2.1,(x4.2.2.1,())))))))))))))))) else (bif (Go.Eng.eqI x0.1 (2:Int)) then (ob (Go.Eng.u___brepkernelmade_Dice__Word ((),(x0.2.1,(x0.2.2.1,())))) fun x9=>(some ((3:Int),(Bool.false,([],([],(x9.1,((0:Int),([],(x9.2.1,(x9.2.2.1,()))))))))))) else (bif (Go.Eng.eqI x0.1 (3:Int)) then (ob (Go.Eng.u___brepkernelmade_Dice__Next ((),((4:Int),(x0.2.1,(x0.2.2.1,()))))) fun x10=>(ob (Go.Eng.chkI (Go.Eng.lenL [(Go.Eng.T.v (Go.Value.string (ByteArray.mk #[84]))),(Go.Eng.T.v (Go.Value.string (ByteArray.mk #[70]))),(Go.Eng.T.v (Go.Value.string (ByteArray.mk #[65,66,95,49]))),(Go.Eng.T.v (Go.Value.string (ByteArray.mk #[116])))]) x10.1) fun x11=>(ob (Go.Eng.idxN [(Go.Eng.T.v (Go.Value.string (ByteArray.mk #[84]))),(Go.Eng.T.v (Go.Value.string (ByteArray.mk #[70]))),(Go.Eng.T.v (Go.Value.string (ByteArray.mk #[65,66,95,49]))),(Go.Eng.T.v (Go.Value.string (ByteArray.mk #[116])))] x11) fun x12=>(ob (Go.Eng.T.str? (Go.Eng.T.cell x12 0)) fun x13=>(some ((4:Int),(Bool.false,([],([],(x13,((0:Int),([],(x10.2.1,(x10.2.2.1,())))))))))))))) else (bif (Go.Eng.eqI x0.1 (4:Int)) then (ob (Go.Eng.u___brepkernelmade_Dice__Next ((),((6:Int),(x0.2.1,(x0.2.2.1,()))))) fun x14=>(some ((5:Int),(Bool.false,([],([],((ByteArray.mk #[]),((Go.Eng.wr Go.IntKind.i64 (Go.Eng.addI (1:Int) x14.1)),([],(x14.2.1,(x14.2.2.1,()))))))))))) else (bif (Go.Eng.eqI x0.1 (5:Int)) then (ob (Go.Eng.u___brepkernelmade_Dice__Next ((),((4:Int),(x0.2.1,(x0.2.2.1,()))))) fun x15=>(ob (Go.Eng.chkI (Go.Eng.lenL [(Go.Eng.T.v (Go.Value.int Go.IntKind.i64 (7:Int))),(Go.Eng.T.v (Go.Value.int Go.IntKind.i64 (8:Int))),(Go.Eng.T.v (Go.Value.int Go.IntKind.i64 (0:Int))),(Go.Eng.T.v (Go.Value.int Go.IntKind.i64 (9:Int)))]) x15.1) fun x16=>(ob (Go.Eng.idxN [(Go.Eng.T.v (Go.Value.int Go.IntKind.i64 (7:Int))),(Go.Eng.T.v (Go.Value.int Go.IntKind.i64 (8:Int))),(Go.Eng.T.v (Go.Value.int Go.IntKind.i64 (0:Int))),(Go.Eng.T.v (Go.Value.int Go.IntKind.i64 (9:Int)))] x16) fun x17=>(ob (Go.Eng.T.int? Go.IntKind.i64 (Go.Eng.T.cell x17 0)) fun x18=>(some (x18,(Bool.false,([],([],((ByteArray.mk #[]),((0:Int),([],(x15.2.1,(x15.2.2.1,())))))))))))))) else (bif (Go.Eng.eqI x0.1 (6:Int)) then (ob (Go.Eng.u___brepkernelmade_Dice__Next ((),((2:Int),(x0.2.1,(x0.2.2.1,()))))) fun x19=>(some ((7:Int),(Bool.false,([],([],((ByteArray.mk #[]),(x19.1,([],(x19.2.1,(x19.2.2.1,()))))))))))) else (ob (α:=((Unit×Unit×List T×Int×Int×Bool×T×T×ByteArray×Int×T×Int×Bool×T×T×ByteArray×Int×List T×Unit)⊕Empty)) (bif (Go.Eng.ltI (0:Int) t.2.1) then (ob (Go.Eng.u___brepkernelmade_Dice__Next ((),((4:Int),(x0.2.1,(x0.2.2.1,()))))) fun x20=>(ob (loopU (u___brepkernelmade_Dice__Arg_l0 self) ((),(t.2.1,((),((),(x20.1,(x20.2.1,(x20.2.2.1,((0:Int),(Bool.false,((Go.Eng.T.v (Go.Value.slice (Option.none) 0 0)),((Go.Eng.T.v (Go.Value.slice (Option.none) 0 0)),((ByteArray.mk #[]),((0:Int),((Go.Eng.T.v (Go.Value.slice (Option.none) 0 0)),((6:Int),(Bool.false,((Go.Eng.T.v (Go.Value.slice (Option.none) 0 0)),((Go.Eng.T.v (Go.Value.slice (Option.none) 0 0)),((ByteArray.mk #[]),((0:Int),([],())))))))))))))))))))))) fun q24=>onS q24 (fun t25=>(some (Sum.inl ((),((),(t25.2.2.1,(t25.2.2.2.1,(t25.2.2.2.2.1,(t25.2.2.2.2.2.1,(t25.2.2.2.2.2.2.1,(t25.2.2.2.2.2.2.2.1,(t25.2.2.2.2.2.2.2.2.1,(t25.2.2.2.2.2.2.2.2.2.1,(t25.2.2.2.2.2.2.2.2.2.2.1,(t25.2.2.2.2.2.2.2.2.2.2.2.1,(t25.2.2.2.2.2.2.2.2.2.2.2.2.1,(t25.2.2.2.2.2.2.2.2.2.2.2.2.2.1,(t25.2.2.2.2.2.2.2.2.2.2.2.2.2.2.1,(t25.2.2.2.2.2.2.2.2.2.2.2.2.2.2.2.1,(t25.2.2.2.2.2.2.2.2.2.2.2.2.2.2.2.2.1,(t25.2.2.2.2.2.2.2.2.2.2.2.2.2.2.2.2.2.1,()))))))))))))))))))))) fun q26=>noS q26)) else (some (Sum.inl ((),((),(x0.2.1,(x0.2.2.1,((0:Int),(Bool.false,((Go.Eng.T.v (Go.Value.slice (Option.none) 0 0)),((Go.Eng.T.v (Go.Value.slice (Option.none) 0 0)),((ByteArray.mk #[]),((0:Int),((Go.Eng.T.v (Go.Value.slice (Option.none) 0 0)),((6:Int),(Bool.false,((Go.Eng.T.v (Go.Value.slice (Option.none) 0 0)),((Go.Eng.T.v (Go.Value.slice (Option.none) 0 0)),((ByteArray.mk #[]),((0:Int),([],()))))))))))))))))))))) fun q27=>onS q27 (fun t28=>(ob (Go.Eng.T.sl? 1 t28.2.2.2.2.2.2.2.2.2.2.2.2.2.1) fun x29=>(ob (Go.Eng.T.sl? 1 t28.2.2.2.2.2.2.2.2.2.2.2.2.2.2.1) fun x30=>(some (t28.2.2.2.2.2.2.2.2.2.2.2.1,(t28.2.2.2.2.2.2.2.2.2.2.2.2.1,(x29,(x30,(t28.2.2.2.2.2.2.2.2.2.2.2.2.2.2.2.1,(t28.2.2.2.2.2.2.2.2.2.2.2.2.2.2.2.2.1,(t28.2.2.2.2.2.2.2.2.2.2.2.2.2.2.2.2.2.1,(t28.2.2.1,(t28.2.2.2.1,()))))))))))))) fun q31=>noS q31)))))))))
def h___brepkernelmade_Dice__Arg:HT:=(.l (.l (.l (.seq (.join [(.normal,⟨[.slot 4,.slot 5,.box 0 2,.box 5 7,.box 6 7],[.lit (.box 5 0),.lit (.box 6 0),.sl 1,I6,I6,.bool,.tree,.tree,.str,I6,.tree,I6,.bool,.tree,.tree,.str,I6,.row 54 7 77]⟩)] (.l (.cond (.l (.one (.loop ⟨[.slot 0,.slot 1,.slot 4,.slot 5,.slot 6,.box 0 2,.box 5 7,.box 6 7],[.lit (.box 0 0),I6,.lit (.box 5 0),.lit (.box 6 0),I6,.sl 1,I6,I6,.bool,.tree,.tree,.str,I6,.tree,I6,.bool,.tree,.tree,.str,I6,.row 54 7 77]⟩ [((.exit 1),⟨[.slot 4,.slot 5,.box 0 2,.box 5 7,.box 6 7],[.lit (.box 5 0),.lit (.box 6 0),.sl 1,I6,I6,.bool,.tree,.tree,.str,I6,.tree,I6,.bool,.tree,.tree,.str,I6,.row 54 7 77]⟩)] .leaf))) .leaf))) .leaf))))
theorem ok___brepkernelmade_Dice__Arg(self:(Unit×(Int×((List T)×(Int×Unit))))→Option (Int×(Bool×((List T)×((List T)×(ByteArray×(Int×((List T)×((List T)×(Int×Unit))))))))))(hs:(calleeOf sg___brepkernelmade_Dice__Arg self).OK Tryz.prog 24):TabOK Tryz.prog [9000000,4000025,4000021,4000020,4000053,4000024,20000005,20000024,20000025,20000038,20000039,20000052,20000053,80000054,80000039,28999999] (g___brepkernelmade_Dice__Arg self):=(TabOK.cons (fun _=>⟨_,Tryz.func25,by kernel_rfl,by kernel_rfl⟩) k___brepkernelmade_Dice__Next (calleeOf_nat _ _) (fun h=>by cases h) (by kernel_rfl) (fun _=>callK_framed (calleeOf_nat _ _) rfl rfl) (by kernel_rfl) (TabOK.cons (fun _=>⟨_,Tryz.func21,by kernel_rfl,by kernel_rfl⟩) k_ref02_Int (calleeOf_nat _ _) (fun h=>by cases h) (by kernel_rfl) (fun _=>callK_framed (calleeOf_nat _ _) rfl rfl) (by kernel_rfl) (TabOK.cons (fun _=>⟨_,Tryz.func20,by kernel_rfl,by kernel_rfl⟩) k_ref02_Frac (calleeOf_nat _ _) (fun h=>by cases h) (by kernel_rfl) (fun _=>callK_framed (calleeOf_nat _ _) rfl rfl) (by kernel_rfl) (TabOK.cons (fun _=>⟨_,Tryz.func53,by kernel_rfl,by kernel_rfl⟩) k___brepkernelmade_Dice__Word (calleeOf_nat _ _) (fun h=>by cases h) (by kernel_rfl) (fun _=>callK_framed (calleeOf_nat _ _) rfl rfl) (by kernel_rfl) (TabOK.cons (fun _=>⟨_,Tryz.func24,by kernel_rfl,by kernel_rfl⟩) hs (calleeOf_nat _ _) (fun h=>by cases h) (by kernel_rfl) (fun _=>callK_framed (calleeOf_nat _ _) rfl rfl) (by kernel_rfl) (TabOK.flag (by kernel_rfl) (by kernel_rfl) (by kernel_rfl) (by kernel_rfl) (by kernel_rfl)))))))
theorem e___brepkernelmade_Dice__Arg(self:(Unit×(Int×((List T)×(Int×Unit))))→Option (Int×(Bool×((List T)×((List T)×(ByteArray×(Int×((List T)×((List T)×(Int×Unit)))))))))):∀t,bodyG Tryz.prog (g___brepkernelmade_Dice__Arg self) [9000000,4000025,4000021,4000020,4000053,4000024,20000005,20000024,20000025,20000038,20000039,20000052,20000053,80000054,80000039,28999999] h___brepkernelmade_Dice__Arg Tryz.f24 sg___brepkernelmade_Dice__Arg t=b___brepkernelmade_Dice__Arg self t:=by
 intro t
 kernel_rfl
noncomputable def v___brepkernelmade_Dice__Arg(n:Nat):(Unit×(Int×((List T)×(Int×Unit))))→Option (Int×(Bool×((List T)×((List T)×(ByteArray×(Int×((List T)×((List T)×(Int×Unit))))))))):=Nat.rec (motive:=fun _=>(Unit×(Int×((List T)×(Int×Unit))))→Option (Int×(Bool×((List T)×((List T)×(ByteArray×(Int×((List T)×((List T)×(Int×Unit)))))))))) (fun _=>none) (fun _ ih=>b___brepkernelmade_Dice__Arg ih) n
theorem kv___brepkernelmade_Dice__Arg(n:Nat):(calleeOf sg___brepkernelmade_Dice__Arg (v___brepkernelmade_Dice__Arg n)).OK Tryz.prog 24:=by
 induction n with
 | zero=>exact calleeOf_none _
 | succ n ih=>exact calleeG_ok mixed (ok___brepkernelmade_Dice__Arg _ ih) Tryz.func24 (by kernel_rfl) (by kernel_rfl) (e___brepkernelmade_Dice__Arg (v___brepkernelmade_Dice__Arg n))
noncomputable def u___brepkernelmade_Dice__Arg:(Unit×(Int×((List T)×(Int×Unit))))→Option (Int×(Bool×((List T)×((List T)×(ByteArray×(Int×((List T)×((List T)×(Int×Unit))))))))):=v___brepkernelmade_Dice__Arg 20
theorem k___brepkernelmade_Dice__Arg:(calleeOf sg___brepkernelmade_Dice__Arg u___brepkernelmade_Dice__Arg).OK Tryz.prog 24:=kv___brepkernelmade_Dice__Arg 20
def sg___brepkernelmade_Dice__record:Sig:=⟨1,1,⟨[.slot 0,.box 0 2],[.lit (.box 0 0),.sl 1,I6]⟩,1,[],0,⟨[.aggs 0 2,.box 0 2],[.str,.sl 7,.sl 1,I6]⟩,50⟩
noncomputable def g___brepkernelmade_Dice__record:List (FuncId×Callee):=[(25,(calleeOf sg___brepkernelmade_Dice__Next u___brepkernelmade_Dice__Next)),(24,(calleeOf sg___brepkernelmade_Dice__Arg u___brepkernelmade_Dice__Arg)),(2000000,flagC [4] [3,8,9,60000041,60000039,8999999])]
noncomputable def u___brepkernelmade_Dice__record_l0(s4:Unit×Unit×Unit×Int×List T×Int×ByteArray×T×T×List T×Unit):Option (Unit×Unit×Unit×Int×List T×Int×ByteArray×T×T×List T×Unit⊕Unit×Unit×List T×Int×ByteArray×T×T×List T×Unit⊕Empty):=bif ltI (0:Int) s4.2.2.2.1 then ob (u___brepkernelmade_Dice__Arg ((),(2:Int),s4.2.2.2.2.1,s4.2.2.2.2.2.1,())) fun x5=>ob (room s4.2.2.2.2.2.2.2.2.2.1 [T.agg [T.v (.int .i64 x5.1),T.v (.bool x5.2.1),T.sl 1 x5.2.2.1,T.sl 1 x5.2.2.2.1,T.v (.string x5.2.2.2.2.1),T.v (.int .i64 x5.2.2.2.2.2.1),T.sl 7 x5.2.2.2.2.2.2.1]] 112) fun x6=>some (.inl ((),(),(),wr .i64 (subI s4.2.2.2.1 (1:Int)),x5.2.2.2.2.2.2.2.1,x5.2.2.2.2.2.2.2.2.1,s4.2.2.2.2.2.2.1,s4.2.2.2.2.2.2.2.1,s4.2.2.2.2.2.2.2.2.1,x6,())) else some (.inr (.inl ((),(),s4.2.2.2.2.1,s4.2.2.2.2.2.1,s4.2.2.2.2.2.2.1,s4.2.2.2.2.2.2.2.1,s4.2.2.2.2.2.2.2.2.1,s4.2.2.2.2.2.2.2.2.2.1,())))
noncomputable def u___brepkernelmade_Dice__record(t:Unit×List T×Int×Unit):Option (ByteArray×List T×List T×Int×Unit):=ob (u___brepkernelmade_Dice__Next ((),(12:Int),t.2.1,t.2.2.1,())) fun x0=>ob (chkI (lenL [T.v (.string (ByteArray.mk #[67,65,82,84,69,83,73,65,78,95,80,79,73,78,84])),T.v (.string (ByteArray.mk #[68,73,82,69,67,84,73,79,78])),T.v (.string (ByteArray.mk #[80,76,65,78,69])),T.v (.string (ByteArray.mk #[80,79,76,89,95,76,79,79,80])),T.v (.string (ByteArray.mk #[70,65,67,69,95,66,79,85,78,68])),T.v (.string (ByteArray.mk #[70,65,67,69,95,83,85,82,70,65,67,69])),T.v (.string (ByteArray.mk #[67,76,79,83,69,68,95,83,72,69,76,76])),T.v (.string (ByteArray.mk #[70,65,67,69,84,69,68,95,66,82,69,80])),T.v (.string (ByteArray.mk #[84,79,76,69,82,65,78,67,69])),T.v (.string (ByteArray.mk #[88])),T.v (.string (ByteArray.mk #[69,78,68,83,69,67])),T.v (.string (ByteArray.mk #[120]))]) x0.1) fun x1=>ob (idxN [T.v (.string (ByteArray.mk #[67,65,82,84,69,83,73,65,78,95,80,79,73,78,84])),T.v (.string (ByteArray.mk #[68,73,82,69,67,84,73,79,78])),T.v (.string (ByteArray.mk #[80,76,65,78,69])),T.v (.string (ByteArray.mk #[80,79,76,89,95,76,79,79,80])),T.v (.string (ByteArray.mk #[70,65,67,69,95,66,79,85,78,68])),T.v (.string (ByteArray.mk #[70,65,67,69,95,83,85,82,70,65,67,69])),T.v (.string (ByteArray.mk #[67,76,79,83,69,68,95,83,72,69,76,76])),T.v (.string (ByteArray.mk #[70,65,67,69,84,69,68,95,66,82,69,80])),T.v (.string (ByteArray.mk #[84,79,76,69,82,65,78,67,69])),T.v (.string (ByteArray.mk #[88])),T.v (.string (ByteArray.mk #[69,78,68,83,69,67])),T.v (.string (ByteArray.mk #[120]))] x1) fun x2=>ob (u___brepkernelmade_Dice__Next ((),(4:Int),x0.2.1,x0.2.2.1,())) fun x3=>ob (loopU u___brepkernelmade_Dice__record_l0 ((),(),(),x3.1,x3.2.1,x3.2.2.1,ByteArray.mk #[],T.v (.slice none 0 0),T.cell x2 0,[],())) fun q7=>onS q7 (fun t8=>ob (T.str? t8.2.2.2.2.2.2.1) fun x9=>some (x9,t8.2.2.2.2.2.2.2.1,t8.2.2.1,t8.2.2.2.1,())) fun q10=>noS q10
def h___brepkernelmade_Dice__record:HT:=(.l (.l (.seq (.l (.one (.loop ⟨[.slot 0,.slot 2,.slot 3,.slot 4,.box 0 2,.box 3 2,.box 4 2],[.lit (.box 0 0),.lit (.box 3 0),.lit (.box 4 0),I6,.sl 1,I6,.str,.tree,.tree,.row 54 7 23]⟩ [((.exit 0),⟨[.slot 2,.slot 3,.box 0 2,.box 3 2,.box 4 2],[.lit (.box 3 0),.lit (.box 4 0),.sl 1,I6,.str,.tree,.tree,.row 54 7 23]⟩)] .leaf))) .leaf)))
theorem ok___brepkernelmade_Dice__record:TabOK Tryz.prog [9000000,4000025,4000024,20000003,20000008,20000009,80000041,80000039,28999999] g___brepkernelmade_Dice__record:=(.cs Tryz.func25 k___brepkernelmade_Dice__Next (.cs Tryz.func24 k___brepkernelmade_Dice__Arg (TabOK.flag (by kernel_rfl) (by kernel_rfl) (by kernel_rfl) (by kernel_rfl) (by kernel_rfl))))
theorem e___brepkernelmade_Dice__record:∀t,bodyG Tryz.prog g___brepkernelmade_Dice__record [9000000,4000025,4000024,20000003,20000008,20000009,80000041,80000039,28999999] h___brepkernelmade_Dice__record Tryz.f26 sg___brepkernelmade_Dice__record t=u___brepkernelmade_Dice__record t:=fun _=>by kernel_rfl
theorem k___brepkernelmade_Dice__record:(calleeOf sg___brepkernelmade_Dice__record u___brepkernelmade_Dice__record).OK Tryz.prog 26:=mkK mixed [9000000,4000025,4000024,20000003,20000008,20000009,80000041,80000039,28999999] h___brepkernelmade_Dice__record ok___brepkernelmade_Dice__record Tryz.func26 e___brepkernelmade_Dice__record
def sg_ref24_Refs:Sig:=⟨1,0,⟨[.slot 0],[.sl 7]⟩,1,[],0,⟨[.slot 0],[.sl 1]⟩,80⟩
noncomputable def g_ref24_Refs(self:((List T)×Unit)→Option ((List T)×Unit)):List (Go.FuncId×Callee):=[(30,(calleeOf sg_ref24_Refs self))]
noncomputable def u_ref24_Refs_l0(self:(List T×Unit)→Option (List T×Unit))(s0:List T×List T×Int×Unit):Option (List T×List T×Int×Unit⊕List T×Unit⊕Empty):=bif ltI s0.2.2.1 (lenL s0.1) then ob (α:=List T×List T×Int×Unit⊕Empty) (ob (α:=List T×List T×Int×Unit⊕Empty) (ob (idxL s0.1 s0.2.2.1) fun x1=>ob (T.int? .i64 (T.cell x1 0)) fun x2=>bif eqI x2 (5:Int) then ob (idxL s0.1 s0.2.2.1) fun x3=>ob (T.int? .i64 (T.cell x3 5)) fun x4=>ob (room s0.2.1 [T.v (.int .i64 x4)] 8) fun x5=>some (.inl (s0.1,x5,s0.2.2.1,())) else some (.inl (s0.1,s0.2.1,s0.2.2.1,()))) fun q6=>onS q6 (fun t7=>ob (idxL t7.1 t7.2.2.1) fun x8=>ob (T.int? .i64 (T.cell x8 0)) fun x9=>bif eqI x9 (6:Int) then ob (idxL t7.1 t7.2.2.1) fun x10=>ob (T.sl? 7 (T.cell x10 6)) fun x11=>ob (self (x11,())) fun x12=>ob (room t7.2.1 x12.1 8) fun x13=>some (.inl (t7.1,x13,t7.2.2.1,())) else some (.inl (t7.1,t7.2.1,t7.2.2.1,()))) fun q14=>noS q14) fun q15=>onS q15 (fun t16=>some (.inl (t16.1,t16.2.1,wr .i64 (addI t16.2.2.1 (1:Int)),()))) fun q17=>noS q17 else some (.inr (.inl (s0.2.1,())))
noncomputable def b_ref24_Refs(self:((List T)×Unit)→Option ((List T)×Unit))(t:((List T)×Unit)):Option ((List T)×Unit):=
 (ob (loopU (u_ref24_Refs_l0 self) (t.1,([],((0:Int),())))) fun q18=>onS q18 (fun t19=>(some (t19.1,()))) fun q20=>noS q20)
def h_ref24_Refs:HT:=(.l (.l (.seq (.l (.one (.loop ⟨[.slot 0,.slot 3,.slot 4],[.sl 7,.row 3 1 38,I6]⟩ [((.exit 0),⟨[.slot 3],[.row 3 1 38]⟩)] (.l (.seq (.join [(.normal,⟨[.slot 0,.slot 3,.slot 4],[.sl 7,.row 3 1 38,I6]⟩)] (.one (.seq (.join [(.normal,⟨[.slot 0,.slot 3,.slot 4],[.sl 7,.row 3 1 24,I6]⟩)] .leaf) .leaf))) .leaf))))) .leaf)))
theorem ok_ref24_Refs(self:((List T)×Unit)→Option ((List T)×Unit))(hs:(calleeOf sg_ref24_Refs self).OK Tryz.prog 30):TabOK Tryz.prog [] (g_ref24_Refs self):=(TabOK.cons (fun _=>⟨_,Tryz.func30,by kernel_rfl,by kernel_rfl⟩) hs (calleeOf_nat _ _) (fun h=>by cases h) (by kernel_rfl) (fun _=>callK_framed (calleeOf_nat _ _) rfl rfl) (by kernel_rfl) TabOK.nil)
theorem e_ref24_Refs(self:((List T)×Unit)→Option ((List T)×Unit)):∀t,bodyG Tryz.prog (g_ref24_Refs self) [] h_ref24_Refs Tryz.f30 sg_ref24_Refs t=b_ref24_Refs self t:=by
 intro t
 kernel_rfl
noncomputable def v_ref24_Refs(n:Nat):((List T)×Unit)→Option ((List T)×Unit):=Nat.rec (motive:=fun _=>((List T)×Unit)→Option ((List T)×Unit)) (fun _=>none) (fun _ ih=>b_ref24_Refs ih) n
theorem kv_ref24_Refs(n:Nat):(calleeOf sg_ref24_Refs (v_ref24_Refs n)).OK Tryz.prog 30:=by
 induction n with
 | zero=>exact calleeOf_none _
 | succ n ih=>exact calleeG_ok mixed (ok_ref24_Refs _ ih) Tryz.func30 (by kernel_rfl) (by kernel_rfl) (e_ref24_Refs (v_ref24_Refs n))
noncomputable def u_ref24_Refs:((List T)×Unit)→Option ((List T)×Unit):=v_ref24_Refs 20
theorem k_ref24_Refs:(calleeOf sg_ref24_Refs u_ref24_Refs).OK Tryz.prog 30:=kv_ref24_Refs 20
def sg_entity_rules_1:Sig:=⟨1,0,⟨[.slot 0],[.sl 1]⟩,1,[],0,⟨[.aggs 0 4],[.sl 1,I6,I6,.sl 1]⟩,12⟩
noncomputable def u_entity_rules_1(t:List T×Unit):Option (List T×Int×Int×List T×Unit):=some ([T.v (.int .i64 (5:Int))],(0:Int),(0:Int),t.1,())
theorem k_entity_rules_1:(calleeOf sg_entity_rules_1 u_entity_rules_1).OK Tryz.prog 83:=mkK mixed [] .leaf .nil Tryz.func83 fun _=>by kernel_rfl
def sg_entity_rules_2:Sig:=⟨3,0,⟨[.aggs 0 4,.slot 1,.slot 2],[.sl 1,I6,I6,.sl 1,I6,I6]⟩,1,[],0,⟨[.aggs 0 4],[.sl 1,I6,I6,.sl 1]⟩,24⟩
noncomputable def u_entity_rules_2(t:List T×Int×Int×List T×Int×Int×Unit):Option (List T×Int×Int×List T×Unit):=some (t.1,t.2.2.2.2.1,t.2.2.2.2.2.1,t.2.2.2.1,())
theorem k_entity_rules_2:(calleeOf sg_entity_rules_2 u_entity_rules_2).OK Tryz.prog 84:=mkK mixed [] .leaf .nil Tryz.func84 fun _=>by kernel_rfl
def sg_entity_rules_3:Sig:=⟨1,0,⟨[.slot 0],[.sl 1]⟩,1,[],0,⟨[.aggs 0 4],[.sl 1,I6,I6,.sl 1]⟩,12⟩
noncomputable def u_entity_rules_3(t:List T×Unit):Option (List T×Int×Int×List T×Unit):=some ([T.v (.int .i64 (4:Int))],(0:Int),(0:Int),t.1,())
theorem k_entity_rules_3:(calleeOf sg_entity_rules_3 u_entity_rules_3).OK Tryz.prog 85:=mkK mixed [] .leaf .nil Tryz.func85 fun _=>by kernel_rfl
def sg___brepkernelmade_Dice__File:Sig:=⟨2,1,⟨[.slot 0,.slot 1,.box 0 2],[.lit (.box 0 0),I6,.sl 1,I6]⟩,1,[],0,⟨[.aggs 0 2,.box 0 2],[.sl 2,.sl 3,.sl 1,I6]⟩,96⟩
noncomputable def g___brepkernelmade_Dice__File:List (FuncId×Callee):=[(25,(calleeOf sg___brepkernelmade_Dice__Next u___brepkernelmade_Dice__Next)),(26,(calleeOf sg___brepkernelmade_Dice__record u___brepkernelmade_Dice__record)),(23,(calleeOf sg___brepkernelmade_Dice__Bool u___brepkernelmade_Dice__Bool)),(2000000,flagC [6] [5,32,60000027,60000028,8999999])]
noncomputable def u___brepkernelmade_Dice__File_l0(s1:Unit×Int×Unit×Unit×Int×List T×Int×T×T×List T×List T×Unit):Option (Unit×Int×Unit×Unit×Int×List T×Int×T×T×List T×List T×Unit⊕Unit×Int×Unit×Unit×List T×Int×T×T×List T×List T×Unit⊕Empty):=bif ltI (0:Int) s1.2.2.2.2.1 then ob (u___brepkernelmade_Dice__record ((),s1.2.2.2.2.2.1,s1.2.2.2.2.2.2.1,())) fun x2=>ob (room s1.2.2.2.2.2.2.2.2.2.1 [T.agg [T.v (.string x2.1),T.sl 7 x2.2.1]] 40) fun x3=>some (.inl ((),s1.2.1,(),(),wr .i64 (subI s1.2.2.2.2.1 (1:Int)),x2.2.2.1,x2.2.2.2.1,s1.2.2.2.2.2.2.2.1,s1.2.2.2.2.2.2.2.2.1,x3,s1.2.2.2.2.2.2.2.2.2.2.1,())) else some (.inr (.inl ((),s1.2.1,(),(),s1.2.2.2.2.2.1,s1.2.2.2.2.2.2.1,s1.2.2.2.2.2.2.2.1,s1.2.2.2.2.2.2.2.2.1,s1.2.2.2.2.2.2.2.2.2.1,s1.2.2.2.2.2.2.2.2.2.2.1,())))
noncomputable def u___brepkernelmade_Dice__File_l1(s7:Unit×Unit×Unit×Int×List T×Int×T×T×List T×List T×Unit):Option (Unit×Unit×Unit×Int×List T×Int×T×T×List T×List T×Unit⊕Unit×Unit×List T×Int×T×T×List T×List T×Unit⊕Empty):=bif ltI (0:Int) s7.2.2.2.1 then ob (α:=Unit×Unit×Unit×Int×Int×List T×Int×T×T×List T×List T×Unit⊕Empty) (ob (u___brepkernelmade_Dice__Bool ((),(8:Int),s7.2.2.2.2.1,s7.2.2.2.2.2.1,())) fun x8=>bif x8.1 then ob (u___brepkernelmade_Dice__Next ((),(5:Int),x8.2.1,x8.2.2.1,())) fun x9=>some (.inl ((),(),(),s7.2.2.2.1,x9.1,x9.2.1,x9.2.2.1,s7.2.2.2.2.2.2.1,s7.2.2.2.2.2.2.2.1,s7.2.2.2.2.2.2.2.2.1,s7.2.2.2.2.2.2.2.2.2.1,())) else some (.inl ((),(),(),s7.2.2.2.1,wr .i64 (addI (lenL s7.2.2.2.2.2.2.2.2.2.1) (1:Int)),x8.2.1,x8.2.2.1,s7.2.2.2.2.2.2.1,s7.2.2.2.2.2.2.2.1,s7.2.2.2.2.2.2.2.2.1,s7.2.2.2.2.2.2.2.2.2.1,()))) fun q10=>onS q10 (fun t11=>ob (u___brepkernelmade_Dice__record ((),t11.2.2.2.2.2.1,t11.2.2.2.2.2.2.1,())) fun x12=>ob (room t11.2.2.2.2.2.2.2.2.2.2.1 [T.agg [T.v (.int .i64 t11.2.2.2.2.1),T.v (.string x12.1),T.sl 7 x12.2.1]] 48) fun x13=>some (.inl ((),(),(),wr .i64 (subI t11.2.2.2.1 (1:Int)),x12.2.2.1,x12.2.2.2.1,t11.2.2.2.2.2.2.2.1,t11.2.2.2.2.2.2.2.2.1,t11.2.2.2.2.2.2.2.2.2.1,x13,()))) fun q14=>noS q14 else some (.inr (.inl ((),(),s7.2.2.2.2.1,s7.2.2.2.2.2.1,s7.2.2.2.2.2.2.1,s7.2.2.2.2.2.2.2.1,s7.2.2.2.2.2.2.2.2.1,s7.2.2.2.2.2.2.2.2.2.1,())))
noncomputable def u___brepkernelmade_Dice__File(t:Unit×Int×List T×Int×Unit):Option (List T×List T×List T×Int×Unit):=ob (u___brepkernelmade_Dice__Next ((),(3:Int),t.2.2.1,t.2.2.2.1,())) fun x0=>ob (loopU u___brepkernelmade_Dice__File_l0 ((),t.2.1,(),(),x0.1,x0.2.1,x0.2.2.1,T.v (.slice none 0 0),T.v (.slice none 0 0),[],[],())) fun q4=>onS q4 (fun t5=>ob (u___brepkernelmade_Dice__Next ((),wr .i64 (addI t5.2.1 (1:Int)),t5.2.2.2.2.1,t5.2.2.2.2.2.1,())) fun x6=>ob (loopU u___brepkernelmade_Dice__File_l1 ((),(),(),x6.1,x6.2.1,x6.2.2.1,t5.2.2.2.2.2.2.1,t5.2.2.2.2.2.2.2.1,t5.2.2.2.2.2.2.2.2.1,t5.2.2.2.2.2.2.2.2.2.1,())) fun q15=>onS q15 (fun t16=>some (t16.2.2.2.2.2.2.1,t16.2.2.2.2.2.2.2.1,t16.2.2.1,t16.2.2.2.1,())) fun q17=>noS q17) fun q18=>noS q18
def h___brepkernelmade_Dice__File:HT:=(.l (.l (.seq (.l (.one (.loop ⟨[.slot 0,.slot 1,.slot 4,.slot 5,.slot 6,.box 0 2,.box 5 2,.box 6 2],[.lit (.box 0 0),I6,.lit (.box 5 0),.lit (.box 6 0),I6,.sl 1,I6,.tree,.tree,.row 41 2 21,.row 56 3 46]⟩ [((.exit 0),⟨[.slot 0,.slot 1,.slot 4,.slot 5,.box 0 2,.box 5 2,.box 6 2],[.lit (.box 0 0),I6,.lit (.box 5 0),.lit (.box 6 0),.sl 1,I6,.tree,.tree,.row 41 2 21,.row 56 3 46]⟩)] .leaf))) (.seq (.l (.one (.loop ⟨[.slot 0,.slot 4,.slot 5,.slot 7,.box 0 2,.box 5 2,.box 6 2],[.lit (.box 0 0),.lit (.box 5 0),.lit (.box 6 0),I6,.sl 1,I6,.tree,.tree,.row 41 2 21,.row 56 3 46]⟩ [((.exit 2),⟨[.slot 4,.slot 5,.box 0 2,.box 5 2,.box 6 2],[.lit (.box 5 0),.lit (.box 6 0),.sl 1,I6,.tree,.tree,.row 41 2 21,.row 56 3 46]⟩)] (.l (.seq (.one (.l (.seq (.join [(.normal,⟨[.slot 0,.slot 4,.slot 5,.slot 7,.slot 8,.box 0 2,.box 5 2,.box 6 2],[.lit (.box 0 0),.lit (.box 5 0),.lit (.box 6 0),I6,I6,.sl 1,I6,.tree,.tree,.row 41 2 21,.row 56 3 46]⟩)] .leaf) .leaf))) .leaf))))) .leaf))))
theorem ok___brepkernelmade_Dice__File:TabOK Tryz.prog [9000000,4000025,4000026,4000023,20000005,20000032,80000027,80000028,28999999] g___brepkernelmade_Dice__File:=(.cs Tryz.func25 k___brepkernelmade_Dice__Next (.cs Tryz.func26 k___brepkernelmade_Dice__record (.cs Tryz.func23 k___brepkernelmade_Dice__Bool (TabOK.flag (by kernel_rfl) (by kernel_rfl) (by kernel_rfl) (by kernel_rfl) (by kernel_rfl)))))
theorem e___brepkernelmade_Dice__File:∀t,bodyG Tryz.prog g___brepkernelmade_Dice__File [9000000,4000025,4000026,4000023,20000005,20000032,80000027,80000028,28999999] h___brepkernelmade_Dice__File Tryz.f8 sg___brepkernelmade_Dice__File t=u___brepkernelmade_Dice__File t:=fun _=>by kernel_rfl
theorem k___brepkernelmade_Dice__File:(calleeOf sg___brepkernelmade_Dice__File u___brepkernelmade_Dice__File).OK Tryz.prog 8:=mkK mixed [9000000,4000025,4000026,4000023,20000005,20000032,80000027,80000028,28999999] h___brepkernelmade_Dice__File ok___brepkernelmade_Dice__File Tryz.func8 e___brepkernelmade_Dice__File
def sg_entity_rules:Sig:=⟨1,0,⟨[.slot 0],[.str]⟩,1,[],0,⟨[.slot 0],[.sl 4]⟩,182⟩
noncomputable def g_entity_rules:List (FuncId×Callee):=[(83,(calleeOf sg_entity_rules_1 u_entity_rules_1)),(84,(calleeOf sg_entity_rules_2 u_entity_rules_2)),(85,(calleeOf sg_entity_rules_3 u_entity_rules_3)),(2000000,flagC [3,4,5] [3,4,5,60000110,8999999]),(2000002,flagC [] [500028,500031,500039,500048,500051,500059,500063,500066,500074,500082])]
noncomputable def u_entity_rules(t:ByteArray×Unit):Option (List T×Unit):=ob (α:=Unit×Unit×Unit×Unit×Unit×Unit×ByteArray×Bool×List T×Int×Int×T×List T×Int×Int×T×List T×Int×Int×T×Unit⊕Empty) (bif eqS t.1 (ByteArray.mk #[67,65,82,84,69,83,73,65,78,95,80,79,73,78,84]) then some (.inl ((),(),(),(),(),(),t.1,eqS t.1 (ByteArray.mk #[67,65,82,84,69,83,73,65,78,95,80,79,73,78,84]),[T.v (.int .i64 (3:Int))],(0:Int),(0:Int),T.v (.slice none 0 0),[T.v (.int .i64 (1:Int)),T.v (.int .i64 (2:Int))],(0:Int),(0:Int),T.v (.slice none 0 0),[T.v (.int .i64 (1:Int))],(0:Int),(0:Int),T.v (.slice none 0 0),())) else some (.inl ((),(),(),(),(),(),t.1,eqS t.1 (ByteArray.mk #[68,73,82,69,67,84,73,79,78]),[T.v (.int .i64 (3:Int))],(0:Int),(0:Int),T.v (.slice none 0 0),[T.v (.int .i64 (1:Int)),T.v (.int .i64 (2:Int))],(0:Int),(0:Int),T.v (.slice none 0 0),[T.v (.int .i64 (1:Int))],(0:Int),(0:Int),T.v (.slice none 0 0),()))) fun q0=>onS q0 (fun t1=>bif t1.2.2.2.2.2.2.2.1 then ob (T.sl? 1 t1.2.2.2.2.2.2.2.2.2.2.2.2.2.2.2.1) fun x2=>ob (u_entity_rules_2 (t1.2.2.2.2.2.2.2.2.2.2.2.2.1,t1.2.2.2.2.2.2.2.2.2.2.2.2.2.1,t1.2.2.2.2.2.2.2.2.2.2.2.2.2.2.1,x2,(3:Int),(3:Int),())) fun x3=>ob (T.sl? 1 t1.2.2.2.2.2.2.2.2.2.2.2.1) fun x4=>some ([T.agg [T.sl 1 t1.2.2.2.2.2.2.2.2.1,T.v (.int .i64 t1.2.2.2.2.2.2.2.2.2.1),T.v (.int .i64 t1.2.2.2.2.2.2.2.2.2.2.1),T.sl 1 x4],T.agg [T.sl 1 x3.1,T.v (.int .i64 x3.2.1),T.v (.int .i64 x3.2.2.1),T.sl 1 x3.2.2.2.1]],()) else bif eqS t1.2.2.2.2.2.2.1 (ByteArray.mk #[80,76,65,78,69]) then ob (u_entity_rules_1 ([T.v (.string (ByteArray.mk #[67,65,82,84,69,83,73,65,78,95,80,79,73,78,84]))],())) fun x5=>ob (u_entity_rules_1 ([T.v (.string (ByteArray.mk #[68,73,82,69,67,84,73,79,78]))],())) fun x6=>ob (T.sl? 1 t1.2.2.2.2.2.2.2.2.2.2.2.1) fun x7=>some ([T.agg [T.sl 1 t1.2.2.2.2.2.2.2.2.1,T.v (.int .i64 t1.2.2.2.2.2.2.2.2.2.1),T.v (.int .i64 t1.2.2.2.2.2.2.2.2.2.2.1),T.sl 1 x7],T.agg [T.sl 1 x5.1,T.v (.int .i64 x5.2.1),T.v (.int .i64 x5.2.2.1),T.sl 1 x5.2.2.2.1],T.agg [T.sl 1 x6.1,T.v (.int .i64 x6.2.1),T.v (.int .i64 x6.2.2.1),T.sl 1 x6.2.2.2.1]],()) else bif eqS t1.2.2.2.2.2.2.1 (ByteArray.mk #[80,79,76,89,95,76,79,79,80]) then ob (u_entity_rules_1 ([T.v (.string (ByteArray.mk #[67,65,82,84,69,83,73,65,78,95,80,79,73,78,84]))],())) fun x8=>ob (u_entity_rules_2 (x8.1,x8.2.1,x8.2.2.1,x8.2.2.2.1,(3:Int),(1073741824:Int),())) fun x9=>ob (T.sl? 1 t1.2.2.2.2.2.2.2.2.2.2.2.1) fun x10=>some ([T.agg [T.sl 1 t1.2.2.2.2.2.2.2.2.1,T.v (.int .i64 t1.2.2.2.2.2.2.2.2.2.1),T.v (.int .i64 t1.2.2.2.2.2.2.2.2.2.2.1),T.sl 1 x10],T.agg [T.sl 1 x9.1,T.v (.int .i64 x9.2.1),T.v (.int .i64 x9.2.2.1),T.sl 1 x9.2.2.2.1]],()) else ob (α:=Unit×Unit×Unit×Unit×Unit×Unit×ByteArray×Bool×List T×Int×Int×T×List T×Int×Int×T×List T×Int×Int×T×Unit⊕Empty) (bif eqS t1.2.2.2.2.2.2.1 (ByteArray.mk #[70,65,67,69,95,79,85,84,69,82,95,66,79,85,78,68]) then some (.inl ((),(),(),(),(),(),t1.2.2.2.2.2.2.1,eqS t1.2.2.2.2.2.2.1 (ByteArray.mk #[70,65,67,69,95,79,85,84,69,82,95,66,79,85,78,68]),t1.2.2.2.2.2.2.2.2.1,t1.2.2.2.2.2.2.2.2.2.1,t1.2.2.2.2.2.2.2.2.2.2.1,t1.2.2.2.2.2.2.2.2.2.2.2.1,t1.2.2.2.2.2.2.2.2.2.2.2.2.1,t1.2.2.2.2.2.2.2.2.2.2.2.2.2.1,t1.2.2.2.2.2.2.2.2.2.2.2.2.2.2.1,t1.2.2.2.2.2.2.2.2.2.2.2.2.2.2.2.1,t1.2.2.2.2.2.2.2.2.2.2.2.2.2.2.2.2.1,t1.2.2.2.2.2.2.2.2.2.2.2.2.2.2.2.2.2.1,t1.2.2.2.2.2.2.2.2.2.2.2.2.2.2.2.2.2.2.1,t1.2.2.2.2.2.2.2.2.2.2.2.2.2.2.2.2.2.2.2.1,())) else some (.inl ((),(),(),(),(),(),t1.2.2.2.2.2.2.1,eqS t1.2.2.2.2.2.2.1 (ByteArray.mk #[70,65,67,69,95,66,79,85,78,68]),t1.2.2.2.2.2.2.2.2.1,t1.2.2.2.2.2.2.2.2.2.1,t1.2.2.2.2.2.2.2.2.2.2.1,t1.2.2.2.2.2.2.2.2.2.2.2.1,t1.2.2.2.2.2.2.2.2.2.2.2.2.1,t1.2.2.2.2.2.2.2.2.2.2.2.2.2.1,t1.2.2.2.2.2.2.2.2.2.2.2.2.2.2.1,t1.2.2.2.2.2.2.2.2.2.2.2.2.2.2.2.1,t1.2.2.2.2.2.2.2.2.2.2.2.2.2.2.2.2.1,t1.2.2.2.2.2.2.2.2.2.2.2.2.2.2.2.2.2.1,t1.2.2.2.2.2.2.2.2.2.2.2.2.2.2.2.2.2.2.1,t1.2.2.2.2.2.2.2.2.2.2.2.2.2.2.2.2.2.2.2.1,()))) fun q11=>onS q11 (fun t12=>bif t12.2.2.2.2.2.2.2.1 then ob (u_entity_rules_1 ([T.v (.string (ByteArray.mk #[80,79,76,89,95,76,79,79,80]))],())) fun x13=>ob (u_entity_rules_3 ([T.v (.string (ByteArray.mk #[84])),T.v (.string (ByteArray.mk #[70]))],())) fun x14=>ob (T.sl? 1 t12.2.2.2.2.2.2.2.2.2.2.2.1) fun x15=>some ([T.agg [T.sl 1 t12.2.2.2.2.2.2.2.2.1,T.v (.int .i64 t12.2.2.2.2.2.2.2.2.2.1),T.v (.int .i64 t12.2.2.2.2.2.2.2.2.2.2.1),T.sl 1 x15],T.agg [T.sl 1 x13.1,T.v (.int .i64 x13.2.1),T.v (.int .i64 x13.2.2.1),T.sl 1 x13.2.2.2.1],T.agg [T.sl 1 x14.1,T.v (.int .i64 x14.2.1),T.v (.int .i64 x14.2.2.1),T.sl 1 x14.2.2.2.1]],()) else bif eqS t12.2.2.2.2.2.2.1 (ByteArray.mk #[70,65,67,69,95,83,85,82,70,65,67,69]) then ob (u_entity_rules_1 ([T.v (.string (ByteArray.mk #[70,65,67,69,95,79,85,84,69,82,95,66,79,85,78,68])),T.v (.string (ByteArray.mk #[70,65,67,69,95,66,79,85,78,68]))],())) fun x16=>ob (u_entity_rules_2 (x16.1,x16.2.1,x16.2.2.1,x16.2.2.2.1,(1:Int),(1073741824:Int),())) fun x17=>ob (u_entity_rules_1 ([T.v (.string (ByteArray.mk #[80,76,65,78,69]))],())) fun x18=>ob (u_entity_rules_3 ([T.v (.string (ByteArray.mk #[84]))],())) fun x19=>ob (T.sl? 1 t12.2.2.2.2.2.2.2.2.2.2.2.1) fun x20=>some ([T.agg [T.sl 1 t12.2.2.2.2.2.2.2.2.1,T.v (.int .i64 t12.2.2.2.2.2.2.2.2.2.1),T.v (.int .i64 t12.2.2.2.2.2.2.2.2.2.2.1),T.sl 1 x20],T.agg [T.sl 1 x17.1,T.v (.int .i64 x17.2.1),T.v (.int .i64 x17.2.2.1),T.sl 1 x17.2.2.2.1],T.agg [T.sl 1 x18.1,T.v (.int .i64 x18.2.1),T.v (.int .i64 x18.2.2.1),T.sl 1 x18.2.2.2.1],T.agg [T.sl 1 x19.1,T.v (.int .i64 x19.2.1),T.v (.int .i64 x19.2.2.1),T.sl 1 x19.2.2.2.1]],()) else bif eqS t12.2.2.2.2.2.2.1 (ByteArray.mk #[67,76,79,83,69,68,95,83,72,69,76,76]) then ob (u_entity_rules_1 ([T.v (.string (ByteArray.mk #[70,65,67,69,95,83,85,82,70,65,67,69]))],())) fun x21=>ob (u_entity_rules_2 (x21.1,x21.2.1,x21.2.2.1,x21.2.2.2.1,(0:Int),(1073741824:Int),())) fun x22=>ob (T.sl? 1 t12.2.2.2.2.2.2.2.2.2.2.2.1) fun x23=>some ([T.agg [T.sl 1 t12.2.2.2.2.2.2.2.2.1,T.v (.int .i64 t12.2.2.2.2.2.2.2.2.2.1),T.v (.int .i64 t12.2.2.2.2.2.2.2.2.2.2.1),T.sl 1 x23],T.agg [T.sl 1 x22.1,T.v (.int .i64 x22.2.1),T.v (.int .i64 x22.2.2.1),T.sl 1 x22.2.2.2.1]],()) else bif eqS t12.2.2.2.2.2.2.1 (ByteArray.mk #[70,65,67,69,84,69,68,95,66,82,69,80]) then ob (u_entity_rules_1 ([T.v (.string (ByteArray.mk #[67,76,79,83,69,68,95,83,72,69,76,76]))],())) fun x24=>ob (T.sl? 1 t12.2.2.2.2.2.2.2.2.2.2.2.1) fun x25=>some ([T.agg [T.sl 1 t12.2.2.2.2.2.2.2.2.1,T.v (.int .i64 t12.2.2.2.2.2.2.2.2.2.1),T.v (.int .i64 t12.2.2.2.2.2.2.2.2.2.2.1),T.sl 1 x25],T.agg [T.sl 1 x24.1,T.v (.int .i64 x24.2.1),T.v (.int .i64 x24.2.2.1),T.sl 1 x24.2.2.2.1]],()) else bif eqS t12.2.2.2.2.2.2.1 (ByteArray.mk #[84,79,76,69,82,65,78,67,69]) then ob (T.sl? 1 t12.2.2.2.2.2.2.2.2.2.2.2.2.2.2.2.2.2.2.2.1) fun x26=>ob (T.sl? 1 t12.2.2.2.2.2.2.2.2.2.2.2.2.2.2.2.2.2.2.2.1) fun x27=>ob (T.sl? 1 t12.2.2.2.2.2.2.2.2.2.2.2.2.2.2.2.1) fun x28=>some ([T.agg [T.sl 1 t12.2.2.2.2.2.2.2.2.2.2.2.2.2.2.2.2.1,T.v (.int .i64 t12.2.2.2.2.2.2.2.2.2.2.2.2.2.2.2.2.2.1),T.v (.int .i64 t12.2.2.2.2.2.2.2.2.2.2.2.2.2.2.2.2.2.2.1),T.sl 1 x26],T.agg [T.sl 1 t12.2.2.2.2.2.2.2.2.2.2.2.2.2.2.2.2.1,T.v (.int .i64 t12.2.2.2.2.2.2.2.2.2.2.2.2.2.2.2.2.2.1),T.v (.int .i64 t12.2.2.2.2.2.2.2.2.2.2.2.2.2.2.2.2.2.2.1),T.sl 1 x27],T.agg [T.sl 1 t12.2.2.2.2.2.2.2.2.2.2.2.2.1,T.v (.int .i64 t12.2.2.2.2.2.2.2.2.2.2.2.2.2.1),T.v (.int .i64 t12.2.2.2.2.2.2.2.2.2.2.2.2.2.2.1),T.sl 1 x28]],()) else some ([],())) fun q29=>noS q29) fun q30=>noS q30
def h_entity_rules:HT:=(.l (.l (.l (.l (.l (.l (.l (.seq (.l (.one (.seq (.join [(.normal,⟨[.slot 3,.slot 4,.slot 5,.slot 6,.slot 7,.slot 8,.slot 15,.slot 16,.box 3 4,.box 4 4,.box 5 4],[.lit (.box 3 0),.lit (.box 4 0),.lit (.box 5 0),.lit (C.t (T.v (Go.Value.func (Go.Fn.func 83) #[] #[]))),.lit (C.t (T.v (Go.Value.func (Go.Fn.func 84) #[] #[]))),.lit (C.t (T.v (Go.Value.func (Go.Fn.func 85) #[] #[]))),.str,.bool,.row 3 1 9,I6,I6,.tree,.row 3 1 11,I6,I6,.tree,.row 3 1 13,I6,I6,.tree]⟩)] .leaf) (.cond .leaf (.l (.cond .leaf (.l (.cond .leaf (.seq (.join [(.normal,⟨[.slot 3,.slot 4,.slot 5,.slot 6,.slot 7,.slot 8,.slot 15,.slot 43,.box 3 4,.box 4 4,.box 5 4],[.lit (.box 3 0),.lit (.box 4 0),.lit (.box 5 0),.lit (C.t (T.v (Go.Value.func (Go.Fn.func 83) #[] #[]))),.lit (C.t (T.v (Go.Value.func (Go.Fn.func 84) #[] #[]))),.lit (C.t (T.v (Go.Value.func (Go.Fn.func 85) #[] #[]))),.str,.bool,.row 3 1 9,I6,I6,.tree,.row 3 1 11,I6,I6,.tree,.row 3 1 13,I6,I6,.tree]⟩)] .leaf) .leaf))))))))) .leaf))))))))
theorem ok_entity_rules:TabOK Tryz.prog [9000000,4000083,4000084,4000085,20000003,20000004,20000005,80000110,28999999,9000002,90500028,90500031,90500039,90500048,90500051,90500059,90500063,90500066,90500074,90500082] g_entity_rules:=(.cs Tryz.func83 k_entity_rules_1 (.cs Tryz.func84 k_entity_rules_2 (.cs Tryz.func85 k_entity_rules_3 (TabOK.flagG (by kernel_rfl) (by kernel_rfl) (by kernel_rfl) (by kernel_rfl)))))
theorem e_entity_rules:∀t,bodyG Tryz.prog g_entity_rules [9000000,4000083,4000084,4000085,20000003,20000004,20000005,80000110,28999999,9000002,90500028,90500031,90500039,90500048,90500051,90500059,90500063,90500066,90500074,90500082] h_entity_rules Tryz.f57 sg_entity_rules t=u_entity_rules t:=fun _=>by kernel_rfl
theorem k_entity_rules:(calleeOf sg_entity_rules u_entity_rules).OK Tryz.prog 57:=mkK mixed [9000000,4000083,4000084,4000085,20000003,20000004,20000005,80000110,28999999,9000002,90500028,90500031,90500039,90500048,90500051,90500059,90500063,90500066,90500074,90500082] h_entity_rules ok_entity_rules Tryz.func57 e_entity_rules
def sg_slices_Index___int_int_:Sig:=⟨2,0,⟨[.slot 0,.slot 1],[.sl 1,I6]⟩,1,[],0,⟨[.slot 0],[I6]⟩,38⟩
noncomputable def u_slices_Index___int_int__l0(s0:List T×Int×Int×Int×Unit):Option (List T×Int×Int×Int×Unit⊕Int×Unit⊕Unit⊕Empty):=bif ltI s0.2.2.2.1 s0.2.2.1 then ob (idxL s0.1 s0.2.2.2.1) fun x1=>ob (T.int? .i64 (T.cell x1 0)) fun x2=>bif eqI s0.2.1 x2 then some (.inr (.inl (s0.2.2.2.1,()))) else some (.inl (s0.1,s0.2.1,s0.2.2.1,wr .i64 (addI s0.2.2.2.1 (1:Int)),())) else some (.inr (.inr (.inl ())))
noncomputable def u_slices_Index___int_int_(t:List T×Int×Unit):Option (Int×Unit):=ob (loopU u_slices_Index___int_int__l0 (t.1,t.2.1,lenL t.1,(0:Int),())) fun q3=>onS q3 (fun t4=>some (t4.1,())) fun q5=>onS q5 (fun t6=>some ((-1:Int),())) fun q7=>noS q7
theorem k_slices_Index___int_int_:(calleeOf sg_slices_Index___int_int_ u_slices_Index___int_int_).OK Tryz.prog 101:=mkK mixed [] (.l (.seq (.l (.one (.loop ⟨[.slot 0,.slot 1,.slot 7,.slot 8],[.sl 1,I6,I6,I6]⟩ [(.ret,⟨[.slot 4],[I6]⟩),((.exit 0),⟨[],[]⟩)] .leaf))) .leaf)) .nil Tryz.func101 fun _=>by kernel_rfl
def sg_slices_Contains___int_int_:Sig:=⟨2,0,⟨[.slot 0,.slot 1],[.sl 1,I6]⟩,1,[],0,⟨[.slot 0],[.bool]⟩,18⟩
noncomputable def u_slices_Contains___int_int_(t:List T×Int×Unit):Option (Bool×Unit):=ob (u_slices_Index___int_int_ (t.1,t.2.1,())) fun x0=>some (leI (0:Int) x0.1,())
theorem k_slices_Contains___int_int_:(calleeOf sg_slices_Contains___int_int_ u_slices_Contains___int_int_).OK Tryz.prog 87:=mkK mixed [101] .leaf (.cs Tryz.func101 k_slices_Index___int_int_ <| .nil) Tryz.func87 fun _=>by kernel_rfl
def sg_slices_Index___string_string_:Sig:=⟨2,0,⟨[.slot 0,.slot 1],[.sl 1,.str]⟩,1,[],0,⟨[.slot 0],[I6]⟩,38⟩
noncomputable def u_slices_Index___string_string__l0(s0:List T×ByteArray×Int×Int×Unit):Option (List T×ByteArray×Int×Int×Unit⊕Int×Unit⊕Unit⊕Empty):=bif ltI s0.2.2.2.1 s0.2.2.1 then ob (idxL s0.1 s0.2.2.2.1) fun x1=>ob (T.str? (T.cell x1 0)) fun x2=>bif eqS s0.2.1 x2 then some (.inr (.inl (s0.2.2.2.1,()))) else some (.inl (s0.1,s0.2.1,s0.2.2.1,wr .i64 (addI s0.2.2.2.1 (1:Int)),())) else some (.inr (.inr (.inl ())))
noncomputable def u_slices_Index___string_string_(t:List T×ByteArray×Unit):Option (Int×Unit):=ob (loopU u_slices_Index___string_string__l0 (t.1,t.2.1,lenL t.1,(0:Int),())) fun q3=>onS q3 (fun t4=>some (t4.1,())) fun q5=>onS q5 (fun t6=>some ((-1:Int),())) fun q7=>noS q7
theorem k_slices_Index___string_string_:(calleeOf sg_slices_Index___string_string_ u_slices_Index___string_string_).OK Tryz.prog 88:=mkK mixed [] (.l (.seq (.l (.one (.loop ⟨[.slot 0,.slot 1,.slot 7,.slot 8],[.sl 1,.str,I6,I6]⟩ [(.ret,⟨[.slot 4],[I6]⟩),((.exit 0),⟨[],[]⟩)] .leaf))) .leaf)) .nil Tryz.func88 fun _=>by kernel_rfl
def sg_slices_Contains___string_string_:Sig:=⟨2,0,⟨[.slot 0,.slot 1],[.sl 1,.str]⟩,1,[],0,⟨[.slot 0],[.bool]⟩,18⟩
noncomputable def u_slices_Contains___string_string_(t:List T×ByteArray×Unit):Option (Bool×Unit):=ob (u_slices_Index___string_string_ (t.1,t.2.1,())) fun x0=>some (leI (0:Int) x0.1,())
theorem k_slices_Contains___string_string_:(calleeOf sg_slices_Contains___string_string_ u_slices_Contains___string_string_).OK Tryz.prog 62:=mkK mixed [88] .leaf (.cs Tryz.func88 k_slices_Index___string_string_ <| .nil) Tryz.func62 fun _=>by kernel_rfl
def sg__entity_rule__fits:Sig:=⟨2,0,⟨[.aggs 0 4,.aggs 1 7],[.sl 1,I6,I6,.sl 1,I6,.bool,.sl 1,.sl 1,.str,I6,.sl 7]⟩,1,[],0,⟨[.slot 0],[.bool]⟩,44⟩
noncomputable def u__entity_rule__fits(t:List T×Int×Int×List T×Int×Bool×List T×List T×ByteArray×Int×List T×Unit):Option (Bool×Unit):=ob (u_slices_Contains___int_int_ (t.1,t.2.2.2.2.1,())) fun x0=>bif x0.1 then bif Bool.not (eqI t.2.2.2.2.1 (4:Int)) then some (true,()) else ob (u_slices_Contains___string_string_ (t.2.2.2.1,t.2.2.2.2.2.2.2.2.1,())) fun x1=>some (x1.1,()) else some (false,())
theorem k__entity_rule__fits:(calleeOf sg__entity_rule__fits u__entity_rule__fits).OK Tryz.prog 61:=mkK mixed [87,62] .leaf (.cs Tryz.func87 k_slices_Contains___int_int_ <| .cs Tryz.func62 k_slices_Contains___string_string_ <| .nil) Tryz.func61 fun _=>by kernel_rfl
def sg__entity_rule__elements:Sig:=⟨2,0,⟨[.aggs 0 4,.aggs 1 7],[.sl 1,I6,I6,.sl 1,I6,.bool,.sl 1,.sl 1,.str,I6,.sl 7]⟩,2,[],0,⟨[.slot 0,.slot 1],[.sl 7,.bool]⟩,64⟩
noncomputable def u__entity_rule__elements(t:List T×Int×Int×List T×Int×Bool×List T×List T×ByteArray×Int×List T×Unit):Option (List T×Bool×Unit):=bif eqI t.2.2.1 (0:Int) then some ([T.agg [T.v (.int .i64 t.2.2.2.2.1),T.v (.bool t.2.2.2.2.2.1),T.sl 1 t.2.2.2.2.2.2.1,T.sl 1 t.2.2.2.2.2.2.2.1,T.v (.string t.2.2.2.2.2.2.2.2.1),T.v (.int .i64 t.2.2.2.2.2.2.2.2.2.1),T.sl 7 t.2.2.2.2.2.2.2.2.2.2.1]],true,()) else bif eqI t.2.2.2.2.1 (6:Int) then bif leI t.2.1 (lenL t.2.2.2.2.2.2.2.2.2.2.1) then some (t.2.2.2.2.2.2.2.2.2.2.1,leI (lenL t.2.2.2.2.2.2.2.2.2.2.1) t.2.2.1,()) else some (t.2.2.2.2.2.2.2.2.2.2.1,false,()) else some (t.2.2.2.2.2.2.2.2.2.2.1,false,())
theorem k__entity_rule__elements:(calleeOf sg__entity_rule__elements u__entity_rule__elements).OK Tryz.prog 58:=mkK mixed [] .leaf .nil Tryz.func58 fun _=>by kernel_rfl
def sg_entity_typed_1:Sig:=⟨2,1,⟨[.aggs 0 7,.slot 1,.box 0 4],[I6,.bool,.sl 1,.sl 1,.str,I6,.sl 7,.lit (.box 0 0),.sl 1,I6,I6,.sl 1]⟩,1,[],0,⟨[.slot 0,.box 0 4],[.bool,.sl 1,I6,I6,.sl 1]⟩,16⟩
noncomputable def u_entity_typed_1(t:Int×Bool×List T×List T×ByteArray×Int×List T×Unit×List T×Int×Int×List T×Unit):Option (Bool×List T×Int×Int×List T×Unit):=ob (u__entity_rule__fits (t.2.2.2.2.2.2.2.2.1,t.2.2.2.2.2.2.2.2.2.1,t.2.2.2.2.2.2.2.2.2.2.1,t.2.2.2.2.2.2.2.2.2.2.2.1,t.1,t.2.1,t.2.2.1,t.2.2.2.1,t.2.2.2.2.1,t.2.2.2.2.2.1,t.2.2.2.2.2.2.1,())) fun x0=>some (Bool.not x0.1,t.2.2.2.2.2.2.2.2.1,t.2.2.2.2.2.2.2.2.2.1,t.2.2.2.2.2.2.2.2.2.2.1,t.2.2.2.2.2.2.2.2.2.2.2.1,())
theorem k_entity_typed_1:(calleeOf sg_entity_typed_1 u_entity_typed_1).OK Tryz.prog 60:=mkK mixed [61] .leaf (.cs Tryz.func61 k__entity_rule__fits <| .nil) Tryz.func60 fun _=>by kernel_rfl
def sg_slices_IndexFunc___api_Arg_api_Arg_:Sig:=⟨2,1,⟨[.slot 0,.slot 1,.box 0 4],[.sl 7,.lit (.fn 60 [(0,0)]),.sl 1,I6,I6,.sl 1]⟩,1,[],0,⟨[.slot 0,.box 0 4],[I6,.sl 1,I6,I6,.sl 1]⟩,38⟩
noncomputable def u_slices_IndexFunc___api_Arg_api_Arg__l0(s0:List T×Unit×Int×Int×List T×Int×Int×List T×Unit):Option (List T×Unit×Int×Int×List T×Int×Int×List T×Unit⊕Int×List T×Int×Int×List T×Unit⊕List T×Int×Int×List T×Unit⊕Empty):=bif ltI s0.2.2.2.1 s0.2.2.1 then ob (idxL s0.1 s0.2.2.2.1) fun x1=>ob (T.int? .i64 (T.cell x1 0)) fun x2=>ob (T.bool? (T.cell x1 1)) fun x3=>ob (T.sl? 1 (T.cell x1 2)) fun x4=>ob (T.sl? 1 (T.cell x1 3)) fun x5=>ob (T.str? (T.cell x1 4)) fun x6=>ob (T.int? .i64 (T.cell x1 5)) fun x7=>ob (T.sl? 7 (T.cell x1 6)) fun x8=>ob (u_entity_typed_1 (x2,x3,x4,x5,x6,x7,x8,(),s0.2.2.2.2.1,s0.2.2.2.2.2.1,s0.2.2.2.2.2.2.1,s0.2.2.2.2.2.2.2.1,())) fun x9=>bif x9.1 then some (.inr (.inl (s0.2.2.2.1,x9.2.1,x9.2.2.1,x9.2.2.2.1,x9.2.2.2.2.1,()))) else some (.inl (s0.1,(),s0.2.2.1,wr .i64 (addI s0.2.2.2.1 (1:Int)),x9.2.1,x9.2.2.1,x9.2.2.2.1,x9.2.2.2.2.1,())) else some (.inr (.inr (.inl (s0.2.2.2.2.1,s0.2.2.2.2.2.1,s0.2.2.2.2.2.2.1,s0.2.2.2.2.2.2.2.1,()))))
noncomputable def u_slices_IndexFunc___api_Arg_api_Arg_(t:List T×Unit×List T×Int×Int×List T×Unit):Option (Int×List T×Int×Int×List T×Unit):=ob (loopU u_slices_IndexFunc___api_Arg_api_Arg__l0 (t.1,(),lenL t.1,(0:Int),t.2.2.1,t.2.2.2.1,t.2.2.2.2.1,t.2.2.2.2.2.1,())) fun q10=>onS q10 (fun t11=>some (t11.1,t11.2.1,t11.2.2.1,t11.2.2.2.1,t11.2.2.2.2.1,())) fun q12=>onS q12 (fun t13=>some ((-1:Int),t13.1,t13.2.1,t13.2.2.1,t13.2.2.2.1,())) fun q14=>noS q14
theorem k_slices_IndexFunc___api_Arg_api_Arg_:(calleeOf sg_slices_IndexFunc___api_Arg_api_Arg_ u_slices_IndexFunc___api_Arg_api_Arg_).OK Tryz.prog 86:=mkK mixed [] (.l (.seq (.l (.one (.loop ⟨[.slot 0,.slot 1,.slot 7,.slot 8,.box 0 4],[.sl 7,.lit (.fn 60 [(0,0)]),I6,I6,.sl 1,I6,I6,.sl 1]⟩ [(.ret,⟨[.slot 4,.box 0 4],[I6,.sl 1,I6,I6,.sl 1]⟩),((.exit 0),⟨[.box 0 4],[.sl 1,I6,I6,.sl 1]⟩)] .leaf))) .leaf)) (.cs Tryz.func60 k_entity_typed_1 <| .nil) Tryz.func86 fun _=>by kernel_rfl
def sg_slices_ContainsFunc___api_Arg_api_Arg_:Sig:=⟨2,1,⟨[.slot 0,.slot 1,.box 0 4],[.sl 7,.lit (.fn 60 [(0,0)]),.sl 1,I6,I6,.sl 1]⟩,1,[],0,⟨[.slot 0,.box 0 4],[.bool,.sl 1,I6,I6,.sl 1]⟩,18⟩
noncomputable def u_slices_ContainsFunc___api_Arg_api_Arg_(t:List T×Unit×List T×Int×Int×List T×Unit):Option (Bool×List T×Int×Int×List T×Unit):=ob (u_slices_IndexFunc___api_Arg_api_Arg_ (t.1,(),t.2.2.1,t.2.2.2.1,t.2.2.2.2.1,t.2.2.2.2.2.1,())) fun x0=>some (leI (0:Int) x0.1,x0.2.1,x0.2.2.1,x0.2.2.2.1,x0.2.2.2.2.1,())
theorem k_slices_ContainsFunc___api_Arg_api_Arg_:(calleeOf sg_slices_ContainsFunc___api_Arg_api_Arg_ u_slices_ContainsFunc___api_Arg_api_Arg_).OK Tryz.prog 59:=mkK mixed [] .leaf (.cs Tryz.func60 k_entity_typed_1 <| .cs Tryz.func86 k_slices_IndexFunc___api_Arg_api_Arg_ <| .nil) Tryz.func59 fun _=>by kernel_rfl
def sg_entity_typed:Sig:=⟨2,0,⟨[.slot 0,.aggs 1 2],[.sl 1000000000,.str,.sl 7]⟩,1,[],0,⟨[.slot 0],[I6]⟩,200⟩
noncomputable def u_entity_typed_l0(s1:List T×Unit×List T×List T×Int×Int×ByteArray×List T×Unit):Option (List T×Unit×List T×List T×Int×Int×ByteArray×List T×Unit⊕Int×Unit⊕List T×Unit×List T×ByteArray×List T×Unit⊕Empty):=bif ltI s1.2.2.2.2.2.1 s1.2.2.2.2.1 then ob (idxL s1.2.2.2.1 s1.2.2.2.2.2.1) fun x2=>ob (idxL s1.2.2.2.2.2.2.2.1 s1.2.2.2.2.2.1) fun x3=>ob (T.sl? 1 (T.cell x2 0)) fun x4=>ob (T.int? .i64 (T.cell x2 1)) fun x5=>ob (T.int? .i64 (T.cell x2 2)) fun x6=>ob (T.sl? 1 (T.cell x2 3)) fun x7=>ob (T.int? .i64 (T.cell x3 0)) fun x8=>ob (T.bool? (T.cell x3 1)) fun x9=>ob (T.sl? 1 (T.cell x3 2)) fun x10=>ob (T.sl? 1 (T.cell x3 3)) fun x11=>ob (T.str? (T.cell x3 4)) fun x12=>ob (T.int? .i64 (T.cell x3 5)) fun x13=>ob (T.sl? 7 (T.cell x3 6)) fun x14=>ob (u__entity_rule__elements (x4,x5,x6,x7,x8,x9,x10,x11,x12,x13,x14,())) fun x15=>bif Bool.not x15.2.1 then some (.inr (.inl ((36:Int),()))) else ob (T.sl? 1 (T.cell x2 0)) fun x16=>ob (T.int? .i64 (T.cell x2 1)) fun x17=>ob (T.int? .i64 (T.cell x2 2)) fun x18=>ob (T.sl? 1 (T.cell x2 3)) fun x19=>ob (u_slices_ContainsFunc___api_Arg_api_Arg_ (x15.1,(),x16,x17,x18,x19,())) fun x20=>bif x20.1 then some (.inr (.inl ((36:Int),()))) else some (.inl (s1.1,(),s1.2.2.1,s1.2.2.2.1,s1.2.2.2.2.1,wr .i64 (addI s1.2.2.2.2.2.1 (1:Int)),s1.2.2.2.2.2.2.1,s1.2.2.2.2.2.2.2.1,())) else some (.inr (.inr (.inl (s1.1,(),s1.2.2.1,s1.2.2.2.2.2.2.1,s1.2.2.2.2.2.2.2.1,()))))
noncomputable def u_entity_typed_l2(s40:List T×Unit×Unit×List T×Int×Int×List T×Int×Int×ByteArray×List T×T×T×T×T×Unit):Option (List T×Unit×Unit×List T×Int×Int×List T×Int×Int×ByteArray×List T×T×T×T×T×Unit⊕Int×Unit⊕List T×Unit×List T×Int×Int×ByteArray×List T×Unit⊕Empty):=bif ltI s40.2.2.2.2.2.2.2.2.1 s40.2.2.2.2.2.2.2.1 then ob (idxL s40.2.2.2.2.2.2.1 s40.2.2.2.2.2.2.2.2.1) fun x41=>ob (T.int? .i64 (T.cell x41 5)) fun x42=>ob (T.one? (mapGetD (T.v (.int .i64 x42)) s40.1 (T.v (.string (ByteArray.mk #[]))))) fun x43=>ob (T.int? .i64 (T.cell x41 0)) fun x44=>bif eqI x44 (5:Int) then bif Bool.not (mapHas (T.v (.int .i64 x42)) s40.1) then some (.inr (.inl ((35:Int),()))) else ob (T.sl? 1 s40.2.2.2.2.2.2.2.2.2.2.2.2.2.2.1) fun x45=>ob (T.str? x43) fun x46=>ob (u_slices_Contains___string_string_ (x45,x46,())) fun x47=>bif Bool.not x47.1 then some (.inr (.inl ((35:Int),()))) else some (.inl (s40.1,(),(),s40.2.2.2.1,s40.2.2.2.2.1,s40.2.2.2.2.2.1,s40.2.2.2.2.2.2.1,s40.2.2.2.2.2.2.2.1,wr .i64 (addI s40.2.2.2.2.2.2.2.2.1 (1:Int)),s40.2.2.2.2.2.2.2.2.2.1,s40.2.2.2.2.2.2.2.2.2.2.1,s40.2.2.2.2.2.2.2.2.2.2.2.1,s40.2.2.2.2.2.2.2.2.2.2.2.2.1,s40.2.2.2.2.2.2.2.2.2.2.2.2.2.1,s40.2.2.2.2.2.2.2.2.2.2.2.2.2.2.1,())) else some (.inl (s40.1,(),(),s40.2.2.2.1,s40.2.2.2.2.1,s40.2.2.2.2.2.1,s40.2.2.2.2.2.2.1,s40.2.2.2.2.2.2.2.1,wr .i64 (addI s40.2.2.2.2.2.2.2.2.1 (1:Int)),s40.2.2.2.2.2.2.2.2.2.1,s40.2.2.2.2.2.2.2.2.2.2.1,s40.2.2.2.2.2.2.2.2.2.2.2.1,s40.2.2.2.2.2.2.2.2.2.2.2.2.1,s40.2.2.2.2.2.2.2.2.2.2.2.2.2.1,s40.2.2.2.2.2.2.2.2.2.2.2.2.2.2.1,())) else some (.inr (.inr (.inl (s40.1,(),s40.2.2.2.1,s40.2.2.2.2.1,s40.2.2.2.2.2.1,s40.2.2.2.2.2.2.2.2.2.1,s40.2.2.2.2.2.2.2.2.2.2.1,()))))
noncomputable def u_entity_typed_l1(s25:List T×Unit×List T×Int×Int×ByteArray×List T×Unit):Option (List T×Unit×List T×Int×Int×ByteArray×List T×Unit⊕Int×Unit⊕Unit⊕Empty):=bif ltI s25.2.2.2.2.1 s25.2.2.2.1 then ob (idxL s25.2.2.1 s25.2.2.2.2.1) fun x26=>ob (idxL s25.2.2.2.2.2.2.1 s25.2.2.2.2.1) fun x27=>ob (T.sl? 1 (T.cell x26 0)) fun x28=>ob (T.int? .i64 (T.cell x26 1)) fun x29=>ob (T.int? .i64 (T.cell x26 2)) fun x30=>ob (T.sl? 1 (T.cell x26 3)) fun x31=>ob (T.int? .i64 (T.cell x27 0)) fun x32=>ob (T.bool? (T.cell x27 1)) fun x33=>ob (T.sl? 1 (T.cell x27 2)) fun x34=>ob (T.sl? 1 (T.cell x27 3)) fun x35=>ob (T.str? (T.cell x27 4)) fun x36=>ob (T.int? .i64 (T.cell x27 5)) fun x37=>ob (T.sl? 7 (T.cell x27 6)) fun x38=>ob (u__entity_rule__elements (x28,x29,x30,x31,x32,x33,x34,x35,x36,x37,x38,())) fun x39=>ob (loopU u_entity_typed_l2 (s25.1,(),(),s25.2.2.1,s25.2.2.2.1,s25.2.2.2.2.1,x39.1,lenL x39.1,(0:Int),s25.2.2.2.2.2.1,s25.2.2.2.2.2.2.1,T.cell x26 0,T.cell x26 1,T.cell x26 2,T.cell x26 3,())) fun q48=>onS q48 (fun t49=>some (.inr (.inl (t49.1,())))) fun q50=>onS q50 (fun t51=>some (.inl (t51.1,(),t51.2.2.1,t51.2.2.2.1,wr .i64 (addI t51.2.2.2.2.1 (1:Int)),t51.2.2.2.2.2.1,t51.2.2.2.2.2.2.1,()))) fun q52=>noS q52 else some (.inr (.inr (.inl ())))
noncomputable def u_entity_typed(t:List T×ByteArray×List T×Unit):Option (Int×Unit):=ob (u_entity_rules (t.2.1,())) fun x0=>bif nilL x0.1 then bothU (some ((38:Int),())) (bif Bool.not (eqI (lenL t.2.2.1) (lenL x0.1)) then some ((36:Int),()) else ob (loopU u_entity_typed_l0 (t.1,(),x0.1,x0.1,lenL x0.1,(0:Int),t.2.1,t.2.2.1,())) fun q21=>onS q21 (fun t22=>some (t22.1,())) fun q23=>onS q23 (fun t24=>ob (loopU u_entity_typed_l1 (t24.1,(),t24.2.2.1,lenL t24.2.2.1,(0:Int),t24.2.2.2.1,t24.2.2.2.2.1,())) fun q53=>onS q53 (fun t54=>some (t54.1,())) fun q55=>onS q55 (fun t56=>some ((0:Int),())) fun q57=>noS q57) fun q58=>noS q58) else bif Bool.not (eqI (lenL t.2.2.1) (lenL x0.1)) then some ((36:Int),()) else ob (loopU u_entity_typed_l0 (t.1,(),x0.1,x0.1,lenL x0.1,(0:Int),t.2.1,t.2.2.1,())) fun q79=>onS q79 (fun t80=>some (t80.1,())) fun q81=>onS q81 (fun t82=>ob (loopU u_entity_typed_l1 (t82.1,(),t82.2.2.1,lenL t82.2.2.1,(0:Int),t82.2.2.2.1,t82.2.2.2.2.1,())) fun q111=>onS q111 (fun t112=>some (t112.1,())) fun q113=>onS q113 (fun t114=>some ((0:Int),())) fun q115=>noS q115) fun q116=>noS q116
theorem k_entity_typed:(calleeOf sg_entity_typed u_entity_typed).OK Tryz.prog 35:=mkK mixed [62] (.l (.l (.l (.l (.seq (.l (.one (.loop ⟨[.slot 0,.slot 3,.slot 5,.slot 29,.slot 30,.slot 31,.box 3 2],[.sl 1000000000,.lit (.box 3 0),.sl 4,.sl 4,I6,I6,.str,.sl 7]⟩ [(.ret,⟨[.slot 4],[I6]⟩),((.exit 0),⟨[.slot 0,.slot 3,.slot 5,.box 3 2],[.sl 1000000000,.lit (.box 3 0),.sl 4,.str,.sl 7]⟩)] .leaf))) (.seq (.l (.one (.loop ⟨[.slot 0,.slot 3,.slot 54,.slot 55,.slot 56,.box 3 2],[.sl 1000000000,.lit (.box 3 0),.sl 4,I6,I6,.str,.sl 7]⟩ [(.ret,⟨[.slot 4],[I6]⟩),((.exit 2),⟨[],[]⟩)] (.l (.l (.seq (.one (.l (.l (.l (.one (.loop ⟨[.slot 0,.slot 3,.slot 11,.slot 54,.slot 55,.slot 56,.slot 71,.slot 72,.slot 73,.box 3 2,.box 11 4],[.sl 1000000000,.lit (.box 3 0),.lit (.box 11 0),.sl 4,I6,I6,.sl 7,I6,I6,.str,.sl 7,.tree,.tree,.tree,.tree]⟩ [(.ret,⟨[.slot 4],[I6]⟩),((.exit 4),⟨[.slot 0,.slot 3,.slot 54,.slot 55,.slot 56,.box 3 2],[.sl 1000000000,.lit (.box 3 0),.sl 4,I6,I6,.str,.sl 7]⟩)] .leaf)))))) .leaf)))))) .leaf)))))) (.cs Tryz.func57 k_entity_rules <| .cs Tryz.func58 k__entity_rule__elements <| .cs Tryz.func59 k_slices_ContainsFunc___api_Arg_api_Arg_ <| .cs Tryz.func60 k_entity_typed_1 <| .cs Tryz.func62 k_slices_Contains___string_string_ <| .nil) Tryz.func35 fun _=>by kernel_rfl
def sg_ref24_At:Sig:=⟨2,0,⟨[.slot 0,.slot 1],[I6,I6]⟩,1,[],0,⟨[.aggs 0 5],[I6,I6,I6,I6,I6]⟩,16⟩
noncomputable def u_ref24_At(t:Int×Int×Unit):Option (Int×Int×Int×Int×Int×Unit):=some (t.1,t.2.1,(-1:Int),(-1:Int),(-1:Int),())
theorem k_ref24_At:(calleeOf sg_ref24_At u_ref24_At).OK Tryz.prog 33:=mkK mixed [] .leaf .nil Tryz.func33 fun _=>by kernel_rfl
def sg_ref24_place:Sig:=⟨2,0,⟨[.aggs 0 2,.slot 1],[.sl 2,.sl 3,I6]⟩,1,[],0,⟨[.slot 0],[I6]⟩,44⟩
noncomputable def u_ref24_place_l0(s0:Int×Unit×Int×List T×List T×Unit):Option (Int×Unit×Int×List T×List T×Unit⊕Int×Unit⊕Unit⊕Empty):=bif ltI s0.2.2.1 (lenL s0.2.2.2.2.1) then ob (idxL s0.2.2.2.2.1 s0.2.2.1) fun x1=>ob (T.int? .i64 (T.cell x1 0)) fun x2=>bif eqI x2 s0.1 then some (.inr (.inl (s0.2.2.1,()))) else some (.inl (s0.1,(),wr .i64 (addI s0.2.2.1 (1:Int)),s0.2.2.2.1,s0.2.2.2.2.1,())) else some (.inr (.inr (.inl ())))
noncomputable def u_ref24_place(t:List T×List T×Int×Unit):Option (Int×Unit):=ob (loopU u_ref24_place_l0 (t.2.2.1,(),(0:Int),t.1,t.2.1,())) fun q3=>onS q3 (fun t4=>some (t4.1,())) fun q5=>onS q5 (fun t6=>some ((-1:Int),())) fun q7=>noS q7
theorem k_ref24_place:(calleeOf sg_ref24_place u_ref24_place).OK Tryz.prog 31:=mkK mixed [] (.l (.seq (.l (.one (.loop ⟨[.slot 1,.slot 2,.slot 5,.box 2 2],[I6,.lit (.box 2 0),I6,.sl 2,.sl 3]⟩ [(.ret,⟨[.slot 4],[I6]⟩),((.exit 0),⟨[],[]⟩)] .leaf))) .leaf)) .nil Tryz.func31 fun _=>by kernel_rfl
def sg_ref24_Check:Sig:=⟨1,0,⟨[.aggs 0 2],[.sl 2,.sl 3]⟩,1,[],0,⟨[.slot 0],[.sl 5]⟩,132⟩
noncomputable def u_ref24_Check_l1(s13:Unit×List T×Int×List T×Int×List T×List T×Unit):Option (Unit×List T×Int×List T×Int×List T×List T×Unit⊕Unit×List T×Int×List T×List T×Unit⊕Empty):=bif ltI s13.2.2.2.2.1 (lenL s13.2.2.2.1) then ob (α:=Unit×List T×Int×List T×Int×List T×List T×Unit⊕Empty) (ob (idxL s13.2.2.2.1 s13.2.2.2.2.1) fun x14=>ob (T.int? .i64 (T.cell x14 0)) fun x15=>ob (u_ref24_place (s13.2.2.2.2.2.1,s13.2.2.2.2.2.2.1,x15,())) fun x16=>bif ltI x16.1 (0:Int) then ob (idxL s13.2.2.2.2.2.2.1 s13.2.2.1) fun x17=>ob (T.int? .i64 (T.cell x17 0)) fun x18=>ob (u_ref24_At ((35:Int),x18,())) fun x19=>ob (room s13.2.1 [T.agg [T.v (.int .i64 x19.1),T.v (.int .i64 x19.2.1),T.v (.int .i64 x19.2.2.1),T.v (.int .i64 x19.2.2.2.1),T.v (.int .i64 x19.2.2.2.2.1)]] 40) fun x20=>some (.inl ((),x20,s13.2.2.1,s13.2.2.2.1,s13.2.2.2.2.1,s13.2.2.2.2.2.1,s13.2.2.2.2.2.2.1,())) else some (.inl ((),s13.2.1,s13.2.2.1,s13.2.2.2.1,s13.2.2.2.2.1,s13.2.2.2.2.2.1,s13.2.2.2.2.2.2.1,()))) fun q21=>onS q21 (fun t22=>some (.inl ((),t22.2.1,t22.2.2.1,t22.2.2.2.1,wr .i64 (addI t22.2.2.2.2.1 (1:Int)),t22.2.2.2.2.2.1,t22.2.2.2.2.2.2.1,()))) fun q23=>noS q23 else some (.inr (.inl ((),s13.2.1,s13.2.2.1,s13.2.2.2.2.2.1,s13.2.2.2.2.2.2.1,())))
noncomputable def u_ref24_Check_l0(s0:Unit×List T×Int×List T×List T×Unit):Option (Unit×List T×Int×List T×List T×Unit⊕List T×Unit⊕Empty):=bif ltI s0.2.2.1 (lenL s0.2.2.2.2.1) then ob (α:=Unit×List T×Int×List T×List T×Unit⊕Empty) (ob (idxL s0.2.2.2.2.1 s0.2.2.1) fun x1=>ob (T.int? .i64 (T.cell x1 0)) fun x2=>ob (u_ref24_place (s0.2.2.2.1,s0.2.2.2.2.1,x2,())) fun x3=>bif ltI x3.1 s0.2.2.1 then ob (idxL s0.2.2.2.2.1 s0.2.2.1) fun x4=>ob (T.int? .i64 (T.cell x4 0)) fun x5=>ob (u_ref24_At ((37:Int),x5,())) fun x6=>ob (room s0.2.1 [T.agg [T.v (.int .i64 x6.1),T.v (.int .i64 x6.2.1),T.v (.int .i64 x6.2.2.1),T.v (.int .i64 x6.2.2.2.1),T.v (.int .i64 x6.2.2.2.2.1)]] 40) fun x7=>some (.inl ((),x7,s0.2.2.1,s0.2.2.2.1,s0.2.2.2.2.1,())) else some (.inl ((),s0.2.1,s0.2.2.1,s0.2.2.2.1,s0.2.2.2.2.1,()))) fun q8=>onS q8 (fun t9=>ob (idxL t9.2.2.2.2.1 t9.2.2.1) fun x10=>ob (T.sl? 7 (T.cell x10 2)) fun x11=>ob (u_ref24_Refs (x11,())) fun x12=>ob (loopU u_ref24_Check_l1 ((),t9.2.1,t9.2.2.1,x12.1,(0:Int),t9.2.2.2.1,t9.2.2.2.2.1,())) fun q24=>onS q24 (fun t25=>some (.inl ((),t25.2.1,wr .i64 (addI t25.2.2.1 (1:Int)),t25.2.2.2.1,t25.2.2.2.2.1,()))) fun q26=>noS q26) fun q27=>noS q27 else some (.inr (.inl (s0.2.1,())))
noncomputable def u_ref24_Check(t:List T×List T×Unit):Option (List T×Unit):=ob (loopU u_ref24_Check_l0 ((),[],(0:Int),t.1,t.2.1,())) fun q28=>onS q28 (fun t29=>some (t29.1,())) fun q30=>noS q30
theorem k_ref24_Check:(calleeOf sg_ref24_Check u_ref24_Check).OK Tryz.prog 13:=mkK mixed [31,33] (.l (.l (.seq (.l (.one (.loop ⟨[.slot 1,.slot 3,.slot 4,.box 1 2],[.lit (.box 1 0),.row 59 5 33,I6,.sl 2,.sl 3]⟩ [((.exit 0),⟨[.slot 3],[.row 59 5 33]⟩)] (.l (.seq (.one (.seq (.join [(.normal,⟨[.slot 1,.slot 3,.slot 4,.box 1 2],[.lit (.box 1 0),.row 59 5 33,I6,.sl 2,.sl 3]⟩)] .leaf) (.l (.l (.one (.loop ⟨[.slot 1,.slot 3,.slot 4,.slot 5,.slot 6,.box 1 2],[.lit (.box 1 0),.row 59 5 33,I6,.sl 1,I6,.sl 2,.sl 3]⟩ [((.exit 2),⟨[.slot 1,.slot 3,.slot 4,.box 1 2],[.lit (.box 1 0),.row 59 5 33,I6,.sl 2,.sl 3]⟩)] (.l (.seq (.join [(.normal,⟨[.slot 1,.slot 3,.slot 4,.slot 5,.slot 6,.box 1 2],[.lit (.box 1 0),.row 59 5 64,I6,.sl 1,I6,.sl 2,.sl 3]⟩)] .leaf) .leaf)))))))) .leaf))))) .leaf))) (.cs Tryz.func31 k_ref24_place <| .cs Tryz.func33 k_ref24_At <| .cs Tryz.func30 k_ref24_Refs <| .nil) Tryz.func13 fun _=>by kernel_rfl
def sg_ref24_Order:Sig:=⟨1,0,⟨[.aggs 0 2],[.sl 2,.sl 3]⟩,2,[],0,⟨[.slot 0,.slot 1],[.sl 1,.bool]⟩,158⟩
noncomputable def u_ref24_Order_l2(s10:Unit×List T×List T×Int×Int×Bool×List T×Int×List T×List T×Unit):Option (Unit×List T×List T×Int×Int×Bool×List T×Int×List T×List T×Unit⊕Unit×List T×List T×Int×Int×Bool×List T×List T×Unit⊕Empty):=bif ltI s10.2.2.2.2.2.2.2.1 (lenL s10.2.2.2.2.2.2.1) then bif s10.2.2.2.2.2.1 then ob (idxL s10.2.2.2.2.2.2.1 s10.2.2.2.2.2.2.2.1) fun x11=>ob (T.int? .i64 (T.cell x11 0)) fun x12=>ob (u_ref24_place (s10.2.2.2.2.2.2.2.2.1,s10.2.2.2.2.2.2.2.2.2.1,x12,())) fun x13=>ob (chkI (lenL s10.2.1) x13.1) fun x14=>ob (idxN s10.2.1 x14) fun x15=>ob (T.bool? (T.cell x15 0)) fun x16=>some (.inl ((),s10.2.1,s10.2.2.1,s10.2.2.2.1,s10.2.2.2.2.1,x16,s10.2.2.2.2.2.2.1,wr .i64 (addI s10.2.2.2.2.2.2.2.1 (1:Int)),s10.2.2.2.2.2.2.2.2.1,s10.2.2.2.2.2.2.2.2.2.1,())) else some (.inr (.inl ((),s10.2.1,s10.2.2.1,s10.2.2.2.1,s10.2.2.2.2.1,s10.2.2.2.2.2.1,s10.2.2.2.2.2.2.2.2.1,s10.2.2.2.2.2.2.2.2.2.1,()))) else some (.inr (.inl ((),s10.2.1,s10.2.2.1,s10.2.2.2.1,s10.2.2.2.2.1,s10.2.2.2.2.2.1,s10.2.2.2.2.2.2.2.2.1,s10.2.2.2.2.2.2.2.2.2.1,())))
noncomputable def u_ref24_Order_l1(s3:Unit×List T×List T×Int×Int×List T×List T×Unit):Option (Unit×List T×List T×Int×Int×List T×List T×Unit⊕Unit×List T×List T×Int×List T×List T×Unit⊕Empty):=bif ltI s3.2.2.2.2.1 (lenL s3.2.2.2.2.2.2.1) then bif ltI s3.2.2.2.1 (0:Int) then ob (α:=Unit×List T×List T×Int×Int×List T×List T×Unit⊕Empty) (ob (chkI (lenL s3.2.1) s3.2.2.2.2.1) fun x4=>ob (idxN s3.2.1 x4) fun x5=>ob (T.bool? (T.cell x5 0)) fun x6=>ob (idxL s3.2.2.2.2.2.2.1 s3.2.2.2.2.1) fun x7=>ob (T.sl? 7 (T.cell x7 2)) fun x8=>ob (u_ref24_Refs (x8,())) fun x9=>ob (loopU u_ref24_Order_l2 ((),s3.2.1,s3.2.2.1,s3.2.2.2.1,s3.2.2.2.2.1,Bool.not x6,x9.1,(0:Int),s3.2.2.2.2.2.1,s3.2.2.2.2.2.2.1,())) fun q17=>onS q17 (fun t18=>bif t18.2.2.2.2.2.1 then some (.inl ((),t18.2.1,t18.2.2.1,t18.2.2.2.2.1,t18.2.2.2.2.1,t18.2.2.2.2.2.2.1,t18.2.2.2.2.2.2.2.1,())) else some (.inl ((),t18.2.1,t18.2.2.1,t18.2.2.2.1,t18.2.2.2.2.1,t18.2.2.2.2.2.2.1,t18.2.2.2.2.2.2.2.1,()))) fun q19=>noS q19) fun q20=>onS q20 (fun t21=>some (.inl ((),t21.2.1,t21.2.2.1,t21.2.2.2.1,wr .i64 (addI t21.2.2.2.2.1 (1:Int)),t21.2.2.2.2.2.1,t21.2.2.2.2.2.2.1,()))) fun q22=>noS q22 else some (.inr (.inl ((),s3.2.1,s3.2.2.1,s3.2.2.2.1,s3.2.2.2.2.2.1,s3.2.2.2.2.2.2.1,()))) else some (.inr (.inl ((),s3.2.1,s3.2.2.1,s3.2.2.2.1,s3.2.2.2.2.2.1,s3.2.2.2.2.2.2.1,())))
noncomputable def u_ref24_Order_l0(s2:Unit×List T×List T×List T×List T×Unit):Option (Unit×List T×List T×List T×List T×Unit⊕T×Bool×Unit⊕List T×Unit⊕Empty):=bif ltI (lenL s2.2.2.1) (lenL s2.2.2.2.2.1) then ob (loopU u_ref24_Order_l1 ((),s2.2.1,s2.2.2.1,(-1:Int),(0:Int),s2.2.2.2.1,s2.2.2.2.2.1,())) fun q23=>onS q23 (fun t24=>bif ltI t24.2.2.2.1 (0:Int) then some (.inr (.inl (T.v (.slice none 0 0),false,()))) else ob (chkI (lenL t24.2.1) t24.2.2.2.1) fun x25=>ob (idxN t24.2.1 x25) fun x26=>ob (room t24.2.2.1 [T.v (.int .i64 t24.2.2.2.1)] 8) fun x27=>some (.inl ((),List.set t24.2.1 x25 (T.upd 1 x26 0 [T.v (.bool true)]),x27,t24.2.2.2.2.1,t24.2.2.2.2.2.1,()))) fun q28=>noS q28 else some (.inr (.inr (.inl (s2.2.2.1,()))))
noncomputable def u_ref24_Order(t:List T×List T×Unit):Option (List T×Bool×Unit):=ob (u_ref24_Check (t.1,t.2.1,())) fun x0=>bif ltI (0:Int) (lenL x0.1) then some ([],false,()) else ob (mkLen (lenL t.2.1) (lenL t.2.1) 1) fun x1=>ob (loopU u_ref24_Order_l0 ((),repL x1.1 (T.v (.bool false)),[],t.1,t.2.1,())) fun q29=>onS q29 (fun t30=>ob (T.sl? 1 t30.1) fun x31=>some (x31,t30.2.1,())) fun q32=>onS q32 (fun t33=>some (t33.1,true,())) fun q34=>noS q34
theorem k_ref24_Order:(calleeOf sg_ref24_Order u_ref24_Order).OK Tryz.prog 10:=mkK mixed [31] (.l (.l (.l (.l (.seq (.one (.loop ⟨[.slot 1,.slot 4,.slot 5,.box 1 2],[.lit (.box 1 0),.row 4 1 18,.row 3 1 77,.sl 2,.sl 3]⟩ [(.ret,⟨[.slot 2,.slot 3],[.tree,.bool]⟩),((.exit 0),⟨[.slot 5],[.row 3 1 77]⟩)] (.l (.one (.l (.seq (.l (.one (.loop ⟨[.slot 1,.slot 4,.slot 5,.slot 6,.slot 7,.box 1 2],[.lit (.box 1 0),.row 4 1 18,.row 3 1 77,I6,I6,.sl 2,.sl 3]⟩ [((.exit 2),⟨[.slot 1,.slot 4,.slot 5,.slot 6,.box 1 2],[.lit (.box 1 0),.row 4 1 18,.row 3 1 77,I6,.sl 2,.sl 3]⟩)] (.l (.seq (.join [(.normal,⟨[.slot 1,.slot 4,.slot 5,.slot 6,.slot 7,.box 1 2],[.lit (.box 1 0),.row 4 1 18,.row 3 1 77,I6,I6,.sl 2,.sl 3]⟩)] (.one (.l (.l (.seq (.l (.one (.loop ⟨[.slot 1,.slot 4,.slot 5,.slot 6,.slot 7,.slot 8,.slot 9,.slot 10,.box 1 2],[.lit (.box 1 0),.row 4 1 18,.row 3 1 77,I6,I6,.bool,.sl 1,I6,.sl 2,.sl 3]⟩ [((.exit 4),⟨[.slot 1,.slot 4,.slot 5,.slot 6,.slot 7,.slot 8,.box 1 2],[.lit (.box 1 0),.row 4 1 18,.row 3 1 77,I6,I6,.bool,.sl 2,.sl 3]⟩)] .leaf))) .leaf))))) .leaf))))) .leaf)))))) .leaf))))) (.cs Tryz.func13 k_ref24_Check <| .cs Tryz.func30 k_ref24_Refs <| .cs Tryz.func31 k_ref24_place <| .nil) Tryz.func10 fun _=>by kernel_rfl
def sg_ref24_SameDiags:Sig:=⟨2,0,⟨[.slot 0,.slot 1],[.sl 5,.sl 5]⟩,1,[],0,⟨[.slot 0],[.bool]⟩,52⟩
noncomputable def u_ref24_SameDiags_l0(s0:List T×List T×Int×Unit):Option (List T×List T×Int×Unit⊕Bool×Unit⊕Unit⊕Empty):=bif ltI s0.2.2.1 (lenL s0.1) then ob (idxL s0.1 s0.2.2.1) fun x1=>ob (idxL s0.2.1 s0.2.2.1) fun x2=>ob (T.int? .i64 (T.cell x1 0)) fun x3=>ob (T.int? .i64 (T.cell x2 0)) fun x4=>ob (T.int? .i64 (T.cell x1 1)) fun x5=>ob (T.int? .i64 (T.cell x2 1)) fun x6=>ob (T.int? .i64 (T.cell x1 2)) fun x7=>ob (T.int? .i64 (T.cell x2 2)) fun x8=>ob (T.int? .i64 (T.cell x1 3)) fun x9=>ob (T.int? .i64 (T.cell x2 3)) fun x10=>ob (T.int? .i64 (T.cell x1 4)) fun x11=>ob (T.int? .i64 (T.cell x2 4)) fun x12=>bif Bool.not (andB (eqI x3 x4) (andB (eqI x5 x6) (andB (eqI x7 x8) (andB (eqI x9 x10) (andB (eqI x11 x12) true))))) then some (.inr (.inl (false,()))) else some (.inl (s0.1,s0.2.1,wr .i64 (addI s0.2.2.1 (1:Int)),())) else some (.inr (.inr (.inl ())))
noncomputable def u_ref24_SameDiags(t:List T×List T×Unit):Option (Bool×Unit):=bif Bool.not (eqI (lenL t.1) (lenL t.2.1)) then some (false,()) else ob (loopU u_ref24_SameDiags_l0 (t.1,t.2.1,(0:Int),())) fun q13=>onS q13 (fun t14=>some (t14.1,())) fun q15=>onS q15 (fun t16=>some (true,())) fun q17=>noS q17
theorem k_ref24_SameDiags:(calleeOf sg_ref24_SameDiags u_ref24_SameDiags).OK Tryz.prog 11:=mkK mixed [] (.l (.l (.seq (.l (.one (.loop ⟨[.slot 0,.slot 1,.slot 5],[.sl 5,.sl 5,I6]⟩ [(.ret,⟨[.slot 4],[.bool]⟩),((.exit 0),⟨[],[]⟩)] .leaf))) .leaf))) .nil Tryz.func11 fun _=>by kernel_rfl
def sg_ref24_shape:Sig:=⟨1,0,⟨[.slot 0],[.str]⟩,2,[],0,⟨[.slot 0,.slot 1],[.str,.bool]⟩,46⟩
noncomputable def u_ref24_shape(t:ByteArray×Unit):Option (ByteArray×Bool×Unit):=ob (α:=ByteArray×Bool×Unit⊕Empty) (bif eqS t.1 (ByteArray.mk #[67,65,82,84,69,83,73,65,78,95,80,79,73,78,84]) then some (.inl (t.1,eqS t.1 (ByteArray.mk #[67,65,82,84,69,83,73,65,78,95,80,79,73,78,84]),())) else some (.inl (t.1,eqS t.1 (ByteArray.mk #[68,73,82,69,67,84,73,79,78]),()))) fun q0=>onS q0 (fun t1=>bif t1.2.1 then some (ByteArray.mk #[116,51],true,()) else bif eqS t1.1 (ByteArray.mk #[80,76,65,78,69]) then some (ByteArray.mk #[116,80,68],true,()) else bif eqS t1.1 (ByteArray.mk #[80,79,76,89,95,76,79,79,80]) then some (ByteArray.mk #[116,112],true,()) else ob (α:=ByteArray×Bool×Unit⊕Empty) (bif eqS t1.1 (ByteArray.mk #[70,65,67,69,95,79,85,84,69,82,95,66,79,85,78,68]) then some (.inl (t1.1,eqS t1.1 (ByteArray.mk #[70,65,67,69,95,79,85,84,69,82,95,66,79,85,78,68]),())) else some (.inl (t1.1,eqS t1.1 (ByteArray.mk #[70,65,67,69,95,66,79,85,78,68]),()))) fun q2=>onS q2 (fun t3=>bif t3.2.1 then some (ByteArray.mk #[116,76,98],true,()) else bif eqS t3.1 (ByteArray.mk #[70,65,67,69,95,83,85,82,70,65,67,69]) then some (ByteArray.mk #[116,102,65,121],true,()) else bif eqS t3.1 (ByteArray.mk #[67,76,79,83,69,68,95,83,72,69,76,76]) then some (ByteArray.mk #[116,115],true,()) else bif eqS t3.1 (ByteArray.mk #[70,65,67,69,84,69,68,95,66,82,69,80]) then some (ByteArray.mk #[116,83],true,()) else bif eqS t3.1 (ByteArray.mk #[84,79,76,69,82,65,78,67,69]) then some (ByteArray.mk #[105,105,114],true,()) else some (ByteArray.mk #[],false,())) fun q4=>noS q4) fun q5=>noS q5
theorem k_ref24_shape:(calleeOf sg_ref24_shape u_ref24_shape).OK Tryz.prog 63:=mkK mixed [] (.l (.seq (.l (.one (.seq (.join [(.normal,⟨[.slot 4,.slot 5],[.str,.bool]⟩)] .leaf) (.cond .leaf (.l (.cond .leaf (.l (.cond .leaf (.seq (.join [(.normal,⟨[.slot 4,.slot 12],[.str,.bool]⟩)] .leaf) .leaf))))))))) .leaf)) .nil Tryz.func63 fun _=>by kernel_rfl
def sg_ref24_target:Sig:=⟨2,0,⟨[.slot 0,.slot 1],[.int .u8,.str]⟩,1,[],0,⟨[.slot 0],[.bool]⟩,82⟩
noncomputable def u_ref24_target(t:Int×ByteArray×Unit):Option (Bool×Unit):=ob (α:=Int×ByteArray×Int×Bool×Unit⊕Empty) (bif eqI t.1 (80:Int) then some (.inl (t.1,t.2.1,t.1,eqI t.1 (80:Int),())) else some (.inl (t.1,t.2.1,t.1,eqI t.1 (112:Int),()))) fun q0=>onS q0 (fun t1=>bif t1.2.2.2.1 then some (eqS t1.2.1 (ByteArray.mk #[67,65,82,84,69,83,73,65,78,95,80,79,73,78,84]),()) else bif eqI t1.2.2.1 (68:Int) then some (eqS t1.2.1 (ByteArray.mk #[68,73,82,69,67,84,73,79,78]),()) else bif eqI t1.2.2.1 (76:Int) then some (eqS t1.2.1 (ByteArray.mk #[80,79,76,89,95,76,79,79,80]),()) else bif eqI t1.2.2.1 (102:Int) then bif eqS t1.2.1 (ByteArray.mk #[70,65,67,69,95,79,85,84,69,82,95,66,79,85,78,68]) then some (true,()) else some (eqS t1.2.1 (ByteArray.mk #[70,65,67,69,95,66,79,85,78,68]),()) else bif eqI t1.2.2.1 (65:Int) then some (eqS t1.2.1 (ByteArray.mk #[80,76,65,78,69]),()) else bif eqI t1.2.2.1 (115:Int) then some (eqS t1.2.1 (ByteArray.mk #[70,65,67,69,95,83,85,82,70,65,67,69]),()) else bif eqI t1.1 (83:Int) then some (eqS t1.2.1 (ByteArray.mk #[67,76,79,83,69,68,95,83,72,69,76,76]),()) else some (false,())) fun q2=>noS q2
theorem k_ref24_target:(calleeOf sg_ref24_target u_ref24_target).OK Tryz.prog 65:=mkK mixed [] (.l (.seq (.l (.one (.seq (.join [(.normal,⟨[.slot 0,.slot 1,.slot 5,.slot 6],[.int .u8,.str,.int .u8,.bool]⟩)] .leaf) .leaf))) .leaf)) .nil Tryz.func65 fun _=>by kernel_rfl
def sg_ref24_all:Sig:=⟨2,0,⟨[.slot 0,.slot 1],[.sl 7,I6]⟩,1,[],0,⟨[.slot 0],[.bool]⟩,64⟩
noncomputable def u_ref24_all_l0(s0:List T×Int×Int×Unit):Option (List T×Int×Int×Unit⊕Bool×Unit⊕Unit⊕Empty):=bif ltI s0.2.2.1 (lenL s0.1) then ob (idxL s0.1 s0.2.2.1) fun x1=>ob (T.int? .i64 (T.cell x1 0)) fun x2=>bif Bool.not (eqI x2 s0.2.1) then bif eqI s0.2.1 (2:Int) then ob (idxL s0.1 s0.2.2.1) fun x3=>ob (T.int? .i64 (T.cell x3 0)) fun x4=>bif Bool.not (eqI x4 (1:Int)) then some (.inr (.inl (false,()))) else some (.inl (s0.1,s0.2.1,wr .i64 (addI s0.2.2.1 (1:Int)),())) else some (.inr (.inl (false,()))) else some (.inl (s0.1,s0.2.1,wr .i64 (addI s0.2.2.1 (1:Int)),())) else some (.inr (.inr (.inl ())))
noncomputable def u_ref24_all(t:List T×Int×Unit):Option (Bool×Unit):=ob (loopU u_ref24_all_l0 (t.1,t.2.1,(0:Int),())) fun q5=>onS q5 (fun t6=>some (t6.1,())) fun q7=>onS q7 (fun t8=>some (true,())) fun q9=>noS q9
theorem k_ref24_all:(calleeOf sg_ref24_all u_ref24_all).OK Tryz.prog 89:=mkK mixed [] (.l (.seq (.l (.one (.loop ⟨[.slot 0,.slot 1,.slot 5],[.sl 7,I6,I6]⟩ [(.ret,⟨[.slot 4],[.bool]⟩),((.exit 0),⟨[],[]⟩)] .leaf))) .leaf)) .nil Tryz.func89 fun _=>by kernel_rfl
def sg_ref24_fits:Sig:=⟨2,0,⟨[.aggs 0 7,.slot 1],[I6,.bool,.sl 1,.sl 1,.str,I6,.sl 7,.int .u8]⟩,1,[],0,⟨[.slot 0],[.bool]⟩,200⟩
noncomputable def u_ref24_fits(t:Int×Bool×List T×List T×ByteArray×Int×List T×Int×Unit):Option (Bool×Unit):=bif eqI t.2.2.2.2.2.2.2.1 (116:Int) then ob (u_ref24_all ([T.agg [T.v (.int .i64 t.1),T.v (.bool t.2.1),T.sl 1 t.2.2.1,T.sl 1 t.2.2.2.1,T.v (.string t.2.2.2.2.1),T.v (.int .i64 t.2.2.2.2.2.1),T.sl 7 t.2.2.2.2.2.2.1]],(3:Int),())) fun x0=>some (x0.1,()) else bif eqI t.2.2.2.2.2.2.2.1 (105:Int) then ob (u_ref24_all ([T.agg [T.v (.int .i64 t.1),T.v (.bool t.2.1),T.sl 1 t.2.2.1,T.sl 1 t.2.2.2.1,T.v (.string t.2.2.2.2.1),T.v (.int .i64 t.2.2.2.2.2.1),T.sl 7 t.2.2.2.2.2.2.1]],(1:Int),())) fun x1=>some (x1.1,()) else bif eqI t.2.2.2.2.2.2.2.1 (114:Int) then ob (u_ref24_all ([T.agg [T.v (.int .i64 t.1),T.v (.bool t.2.1),T.sl 1 t.2.2.1,T.sl 1 t.2.2.2.1,T.v (.string t.2.2.2.2.1),T.v (.int .i64 t.2.2.2.2.2.1),T.sl 7 t.2.2.2.2.2.2.1]],(2:Int),())) fun x2=>some (x2.1,()) else bif eqI t.2.2.2.2.2.2.2.1 (98:Int) then ob (u_ref24_all ([T.agg [T.v (.int .i64 t.1),T.v (.bool t.2.1),T.sl 1 t.2.2.1,T.sl 1 t.2.2.2.1,T.v (.string t.2.2.2.2.1),T.v (.int .i64 t.2.2.2.2.2.1),T.sl 7 t.2.2.2.2.2.2.1]],(4:Int),())) fun x3=>bif x3.1 then bif eqS t.2.2.2.2.1 (ByteArray.mk #[84]) then some (true,()) else some (eqS t.2.2.2.2.1 (ByteArray.mk #[70]),()) else some (false,()) else bif eqI t.2.2.2.2.2.2.2.1 (121:Int) then ob (u_ref24_all ([T.agg [T.v (.int .i64 t.1),T.v (.bool t.2.1),T.sl 1 t.2.2.1,T.sl 1 t.2.2.2.1,T.v (.string t.2.2.2.2.1),T.v (.int .i64 t.2.2.2.2.2.1),T.sl 7 t.2.2.2.2.2.2.1]],(4:Int),())) fun x4=>bif x4.1 then some (eqS t.2.2.2.2.1 (ByteArray.mk #[84]),()) else some (false,()) else bif eqI t.2.2.2.2.2.2.2.1 (51:Int) then ob (u_ref24_all ([T.agg [T.v (.int .i64 t.1),T.v (.bool t.2.1),T.sl 1 t.2.2.1,T.sl 1 t.2.2.2.1,T.v (.string t.2.2.2.2.1),T.v (.int .i64 t.2.2.2.2.2.1),T.sl 7 t.2.2.2.2.2.2.1]],(6:Int),())) fun x5=>bif x5.1 then bif eqI (lenL t.2.2.2.2.2.2.1) (3:Int) then ob (u_ref24_all (t.2.2.2.2.2.2.1,(2:Int),())) fun x6=>some (x6.1,()) else some (false,()) else some (false,()) else bif eqI t.2.2.2.2.2.2.2.1 (112:Int) then ob (u_ref24_all ([T.agg [T.v (.int .i64 t.1),T.v (.bool t.2.1),T.sl 1 t.2.2.1,T.sl 1 t.2.2.2.1,T.v (.string t.2.2.2.2.1),T.v (.int .i64 t.2.2.2.2.2.1),T.sl 7 t.2.2.2.2.2.2.1]],(6:Int),())) fun x7=>bif x7.1 then bif leI (3:Int) (lenL t.2.2.2.2.2.2.1) then ob (u_ref24_all (t.2.2.2.2.2.2.1,(5:Int),())) fun x8=>some (x8.1,()) else some (false,()) else some (false,()) else bif eqI t.2.2.2.2.2.2.2.1 (102:Int) then ob (u_ref24_all ([T.agg [T.v (.int .i64 t.1),T.v (.bool t.2.1),T.sl 1 t.2.2.1,T.sl 1 t.2.2.2.1,T.v (.string t.2.2.2.2.1),T.v (.int .i64 t.2.2.2.2.2.1),T.sl 7 t.2.2.2.2.2.2.1]],(6:Int),())) fun x9=>bif x9.1 then bif leI (1:Int) (lenL t.2.2.2.2.2.2.1) then ob (u_ref24_all (t.2.2.2.2.2.2.1,(5:Int),())) fun x10=>some (x10.1,()) else some (false,()) else some (false,()) else bif eqI t.2.2.2.2.2.2.2.1 (115:Int) then ob (u_ref24_all ([T.agg [T.v (.int .i64 t.1),T.v (.bool t.2.1),T.sl 1 t.2.2.1,T.sl 1 t.2.2.2.1,T.v (.string t.2.2.2.2.1),T.v (.int .i64 t.2.2.2.2.2.1),T.sl 7 t.2.2.2.2.2.2.1]],(6:Int),())) fun x11=>bif x11.1 then ob (u_ref24_all (t.2.2.2.2.2.2.1,(5:Int),())) fun x12=>some (x12.1,()) else some (false,()) else ob (u_ref24_all ([T.agg [T.v (.int .i64 t.1),T.v (.bool t.2.1),T.sl 1 t.2.2.1,T.sl 1 t.2.2.2.1,T.v (.string t.2.2.2.2.1),T.v (.int .i64 t.2.2.2.2.2.1),T.sl 7 t.2.2.2.2.2.2.1]],(5:Int),())) fun x13=>some (x13.1,())
theorem k_ref24_fits:(calleeOf sg_ref24_fits u_ref24_fits).OK Tryz.prog 64:=mkK mixed [89] .leaf (.cs Tryz.func89 k_ref24_all <| .nil) Tryz.func64 fun _=>by kernel_rfl
def sg_ref24_typed:Sig:=⟨2,0,⟨[.aggs 0 2,.aggs 1 2],[.sl 2,.sl 3,.str,.sl 7]⟩,1,[],0,⟨[.slot 0],[I6]⟩,166⟩
noncomputable def u_ref24_typed_l0(s1:Unit×Unit×ByteArray×Int×List T×List T×ByteArray×List T×Unit):Option (Unit×Unit×ByteArray×Int×List T×List T×ByteArray×List T×Unit⊕Int×Unit⊕Unit×Unit×ByteArray×List T×List T×ByteArray×List T×Unit⊕Empty):=bif ltI s1.2.2.2.1 (lenS s1.2.2.1) then ob (idxL s1.2.2.2.2.2.2.2.1 s1.2.2.2.1) fun x2=>ob (idxS s1.2.2.1 s1.2.2.2.1) fun x3=>ob (T.int? .i64 (T.cell x2 0)) fun x4=>ob (T.bool? (T.cell x2 1)) fun x5=>ob (T.sl? 1 (T.cell x2 2)) fun x6=>ob (T.sl? 1 (T.cell x2 3)) fun x7=>ob (T.str? (T.cell x2 4)) fun x8=>ob (T.int? .i64 (T.cell x2 5)) fun x9=>ob (T.sl? 7 (T.cell x2 6)) fun x10=>ob (u_ref24_fits (x4,x5,x6,x7,x8,x9,x10,x3,())) fun x11=>bif Bool.not x11.1 then some (.inr (.inl ((36:Int),()))) else some (.inl ((),(),s1.2.2.1,wr .i64 (addI s1.2.2.2.1 (1:Int)),s1.2.2.2.2.1,s1.2.2.2.2.2.1,s1.2.2.2.2.2.2.1,s1.2.2.2.2.2.2.2.1,())) else some (.inr (.inr (.inl ((),(),s1.2.2.1,s1.2.2.2.2.1,s1.2.2.2.2.2.1,s1.2.2.2.2.2.2.1,s1.2.2.2.2.2.2.2.1,()))))
noncomputable def u_ref24_typed_l2(s19:Unit×Unit×ByteArray×Int×List T×Int×List T×List T×ByteArray×List T×Unit):Option (Unit×Unit×ByteArray×Int×List T×Int×List T×List T×ByteArray×List T×Unit⊕Int×Unit⊕Unit×Unit×ByteArray×Int×List T×List T×ByteArray×List T×Unit⊕Empty):=bif ltI s19.2.2.2.2.2.1 (lenL s19.2.2.2.2.1) then ob (idxL s19.2.2.2.2.1 s19.2.2.2.2.2.1) fun x20=>ob (T.int? .i64 (T.cell x20 0)) fun x21=>ob (u_ref24_place (s19.2.2.2.2.2.2.1,s19.2.2.2.2.2.2.2.1,x21,())) fun x22=>bif ltI x22.1 (0:Int) then some (.inr (.inl ((35:Int),()))) else ob (idxS s19.2.2.1 s19.2.2.2.1) fun x23=>ob (idxL s19.2.2.2.2.2.2.2.1 x22.1) fun x24=>ob (T.str? (T.cell x24 1)) fun x25=>ob (u_ref24_target (x23,x25,())) fun x26=>bif Bool.not x26.1 then some (.inr (.inl ((35:Int),()))) else some (.inl ((),(),s19.2.2.1,s19.2.2.2.1,s19.2.2.2.2.1,wr .i64 (addI s19.2.2.2.2.2.1 (1:Int)),s19.2.2.2.2.2.2.1,s19.2.2.2.2.2.2.2.1,s19.2.2.2.2.2.2.2.2.1,s19.2.2.2.2.2.2.2.2.2.1,())) else some (.inr (.inr (.inl ((),(),s19.2.2.1,s19.2.2.2.1,s19.2.2.2.2.2.2.1,s19.2.2.2.2.2.2.2.1,s19.2.2.2.2.2.2.2.2.1,s19.2.2.2.2.2.2.2.2.2.1,()))))
noncomputable def u_ref24_typed_l1(s16:Unit×Unit×ByteArray×Int×List T×List T×ByteArray×List T×Unit):Option (Unit×Unit×ByteArray×Int×List T×List T×ByteArray×List T×Unit⊕Int×Unit⊕Unit⊕Empty):=bif ltI s16.2.2.2.1 (lenS s16.2.2.1) then ob (cutL s16.2.2.2.2.2.2.2.1 s16.2.2.2.1 (wr .i64 (addI s16.2.2.2.1 (1:Int)))) fun x17=>ob (u_ref24_Refs (x17,())) fun x18=>ob (loopU u_ref24_typed_l2 ((),(),s16.2.2.1,s16.2.2.2.1,x18.1,(0:Int),s16.2.2.2.2.1,s16.2.2.2.2.2.1,s16.2.2.2.2.2.2.1,s16.2.2.2.2.2.2.2.1,())) fun q27=>onS q27 (fun t28=>some (.inr (.inl (t28.1,())))) fun q29=>onS q29 (fun t30=>some (.inl ((),(),t30.2.2.1,wr .i64 (addI t30.2.2.2.1 (1:Int)),t30.2.2.2.2.1,t30.2.2.2.2.2.1,t30.2.2.2.2.2.2.1,t30.2.2.2.2.2.2.2.1,()))) fun q31=>noS q31 else some (.inr (.inr (.inl ())))
noncomputable def u_ref24_typed(t:List T×List T×ByteArray×List T×Unit):Option (Int×Unit):=ob (u_ref24_shape (t.2.2.1,())) fun x0=>bif Bool.not x0.2.1 then some ((38:Int),()) else bif Bool.not (eqI (lenL t.2.2.2.1) (lenS x0.1)) then some ((36:Int),()) else ob (loopU u_ref24_typed_l0 ((),(),x0.1,(0:Int),t.1,t.2.1,t.2.2.1,t.2.2.2.1,())) fun q12=>onS q12 (fun t13=>some (t13.1,())) fun q14=>onS q14 (fun t15=>ob (loopU u_ref24_typed_l1 ((),(),t15.2.2.1,(0:Int),t15.2.2.2.1,t15.2.2.2.2.1,t15.2.2.2.2.2.1,t15.2.2.2.2.2.2.1,())) fun q32=>onS q32 (fun t33=>some (t33.1,())) fun q34=>onS q34 (fun t35=>some ((0:Int),())) fun q36=>noS q36) fun q37=>noS q37
theorem k_ref24_typed:(calleeOf sg_ref24_typed u_ref24_typed).OK Tryz.prog 36:=mkK mixed [63,64,31,65] (.l (.l (.l (.l (.seq (.l (.one (.loop ⟨[.slot 2,.slot 3,.slot 5,.slot 7,.box 2 2,.box 3 2],[.lit (.box 2 0),.lit (.box 3 0),.str,I6,.sl 2,.sl 3,.str,.sl 7]⟩ [(.ret,⟨[.slot 4],[I6]⟩),((.exit 0),⟨[.slot 2,.slot 3,.slot 5,.box 2 2,.box 3 2],[.lit (.box 2 0),.lit (.box 3 0),.str,.sl 2,.sl 3,.str,.sl 7]⟩)] .leaf))) (.seq (.l (.one (.loop ⟨[.slot 2,.slot 3,.slot 5,.slot 8,.box 2 2,.box 3 2],[.lit (.box 2 0),.lit (.box 3 0),.str,I6,.sl 2,.sl 3,.str,.sl 7]⟩ [(.ret,⟨[.slot 4],[I6]⟩),((.exit 2),⟨[],[]⟩)] (.l (.seq (.one (.l (.l (.one (.loop ⟨[.slot 2,.slot 3,.slot 5,.slot 8,.slot 9,.slot 10,.box 2 2,.box 3 2],[.lit (.box 2 0),.lit (.box 3 0),.str,I6,.sl 1,I6,.sl 2,.sl 3,.str,.sl 7]⟩ [(.ret,⟨[.slot 4],[I6]⟩),((.exit 4),⟨[.slot 2,.slot 3,.slot 5,.slot 8,.box 2 2,.box 3 2],[.lit (.box 2 0),.lit (.box 3 0),.str,I6,.sl 2,.sl 3,.str,.sl 7]⟩)] .leaf))))) .leaf))))) .leaf)))))) (.cs Tryz.func63 k_ref24_shape <| .cs Tryz.func64 k_ref24_fits <| .cs Tryz.func30 k_ref24_Refs <| .cs Tryz.func31 k_ref24_place <| .cs Tryz.func65 k_ref24_target <| .nil) Tryz.func36 fun _=>by kernel_rfl
def sg_ref24_Typed:Sig:=⟨1,0,⟨[.aggs 0 2],[.sl 2,.sl 3]⟩,1,[],0,⟨[.slot 0],[.sl 5]⟩,70⟩
noncomputable def u_ref24_Typed_l0(s0:Unit×List T×Int×List T×List T×Unit):Option (Unit×List T×Int×List T×List T×Unit⊕List T×Unit⊕Empty):=bif ltI s0.2.2.1 (lenL s0.2.2.2.2.1) then ob (α:=Unit×List T×Int×List T×List T×Unit⊕Empty) (ob (idxL s0.2.2.2.2.1 s0.2.2.1) fun x1=>ob (T.str? (T.cell x1 1)) fun x2=>ob (T.sl? 7 (T.cell x1 2)) fun x3=>ob (u_ref24_typed (s0.2.2.2.1,s0.2.2.2.2.1,x2,x3,())) fun x4=>bif Bool.not (eqI x4.1 (0:Int)) then ob (idxL s0.2.2.2.2.1 s0.2.2.1) fun x5=>ob (T.int? .i64 (T.cell x5 0)) fun x6=>ob (u_ref24_At (x4.1,x6,())) fun x7=>ob (room s0.2.1 [T.agg [T.v (.int .i64 x7.1),T.v (.int .i64 x7.2.1),T.v (.int .i64 x7.2.2.1),T.v (.int .i64 x7.2.2.2.1),T.v (.int .i64 x7.2.2.2.2.1)]] 40) fun x8=>some (.inl ((),x8,s0.2.2.1,s0.2.2.2.1,s0.2.2.2.2.1,())) else some (.inl ((),s0.2.1,s0.2.2.1,s0.2.2.2.1,s0.2.2.2.2.1,()))) fun q9=>onS q9 (fun t10=>some (.inl ((),t10.2.1,wr .i64 (addI t10.2.2.1 (1:Int)),t10.2.2.2.1,t10.2.2.2.2.1,()))) fun q11=>noS q11 else some (.inr (.inl (s0.2.1,())))
noncomputable def u_ref24_Typed(t:List T×List T×Unit):Option (List T×Unit):=ob (loopU u_ref24_Typed_l0 ((),[],(0:Int),t.1,t.2.1,())) fun q12=>onS q12 (fun t13=>some (t13.1,())) fun q14=>noS q14
theorem k_ref24_Typed:(calleeOf sg_ref24_Typed u_ref24_Typed).OK Tryz.prog 15:=mkK mixed [36,33] (.l (.l (.seq (.l (.one (.loop ⟨[.slot 1,.slot 3,.slot 4,.box 1 2],[.lit (.box 1 0),.row 59 5 33,I6,.sl 2,.sl 3]⟩ [((.exit 0),⟨[.slot 3],[.row 59 5 33]⟩)] (.l (.seq (.join [(.normal,⟨[.slot 1,.slot 3,.slot 4,.box 1 2],[.lit (.box 1 0),.row 59 5 33,I6,.sl 2,.sl 3]⟩)] .leaf) .leaf))))) .leaf))) (.cs Tryz.func36 k_ref24_typed <| .cs Tryz.func33 k_ref24_At <| .nil) Tryz.func15 fun _=>by kernel_rfl
def sg_entity_Find_1:Sig:=⟨2,1,⟨[.aggs 0 3,.slot 1,.box 0 1],[I6,.str,.sl 7,.lit (.box 0 0),I6]⟩,1,[],0,⟨[.slot 0,.box 0 1],[.bool,I6]⟩,16⟩
noncomputable def u_entity_Find_1(t:Int×ByteArray×List T×Unit×Int×Unit):Option (Bool×Int×Unit):=some (eqI t.1 t.2.2.2.2.1,t.2.2.2.2.1,())
theorem k_entity_Find_1:(calleeOf sg_entity_Find_1 u_entity_Find_1).OK Tryz.prog 38:=mkK mixed [] .leaf .nil Tryz.func38 fun _=>by kernel_rfl
def sg_slices_IndexFunc___api_Entity_api_Entity_:Sig:=⟨2,1,⟨[.slot 0,.slot 1,.box 0 1],[.sl 3,.lit (.fn 38 [(0,0)]),I6]⟩,1,[],0,⟨[.slot 0,.box 0 1],[I6,I6]⟩,38⟩
noncomputable def u_slices_IndexFunc___api_Entity_api_Entity__l0(s0:List T×Unit×Int×Int×Int×Unit):Option (List T×Unit×Int×Int×Int×Unit⊕Int×Int×Unit⊕Int×Unit⊕Empty):=bif ltI s0.2.2.2.1 s0.2.2.1 then ob (idxL s0.1 s0.2.2.2.1) fun x1=>ob (T.int? .i64 (T.cell x1 0)) fun x2=>ob (T.str? (T.cell x1 1)) fun x3=>ob (T.sl? 7 (T.cell x1 2)) fun x4=>ob (u_entity_Find_1 (x2,x3,x4,(),s0.2.2.2.2.1,())) fun x5=>bif x5.1 then some (.inr (.inl (s0.2.2.2.1,x5.2.1,()))) else some (.inl (s0.1,(),s0.2.2.1,wr .i64 (addI s0.2.2.2.1 (1:Int)),x5.2.1,())) else some (.inr (.inr (.inl (s0.2.2.2.2.1,()))))
noncomputable def u_slices_IndexFunc___api_Entity_api_Entity_(t:List T×Unit×Int×Unit):Option (Int×Int×Unit):=ob (loopU u_slices_IndexFunc___api_Entity_api_Entity__l0 (t.1,(),lenL t.1,(0:Int),t.2.2.1,())) fun q6=>onS q6 (fun t7=>some (t7.1,t7.2.1,())) fun q8=>onS q8 (fun t9=>some ((-1:Int),t9.1,())) fun q10=>noS q10
theorem k_slices_IndexFunc___api_Entity_api_Entity_:(calleeOf sg_slices_IndexFunc___api_Entity_api_Entity_ u_slices_IndexFunc___api_Entity_api_Entity_).OK Tryz.prog 37:=mkK mixed [] (.l (.seq (.l (.one (.loop ⟨[.slot 0,.slot 1,.slot 7,.slot 8,.box 0 1],[.sl 3,.lit (.fn 38 [(0,0)]),I6,I6,I6]⟩ [(.ret,⟨[.slot 4,.box 0 1],[I6,I6]⟩),((.exit 0),⟨[.box 0 1],[I6]⟩)] .leaf))) .leaf)) (.cs Tryz.func38 k_entity_Find_1 <| .nil) Tryz.func37 fun _=>by kernel_rfl
def sg_slices_Clone___api_Arg_api_Arg__r:Sig:=⟨1,0,⟨[.slot 0],[.sl 7]⟩,1,[],1,⟨[.slot 0],[.row 54 7 0]⟩,16⟩
noncomputable def u_slices_Clone___api_Arg_api_Arg__r(t:List T×Unit):Option (List T×Unit):=bif nilL t.1 then bothU (some ([],())) (ob (room [] t.1 112) fun x0=>some (x0,())) else ob (room [] t.1 112) fun x1=>some (x1,())
theorem k_slices_Clone___api_Arg_api_Arg__r:(calleeOf sg_slices_Clone___api_Arg_api_Arg__r u_slices_Clone___api_Arg_api_Arg__r).OK Tryz.prog 90:=mkK mixed [] .leaf .nil Tryz.func90 fun _=>by kernel_rfl
def sg_ref24_copyArgs:Sig:=⟨1,0,⟨[.slot 0],[.sl 7]⟩,1,[],0,⟨[.slot 0],[.sl 7]⟩,50⟩
noncomputable def g_ref24_copyArgs(self:((List T)×Unit)→Option ((List T)×Unit)):List (Go.FuncId×Callee):=[(67,(calleeOf sg_ref24_copyArgs self))]
noncomputable def u_ref24_copyArgs_l0(self:(List T×Unit)→Option (List T×Unit))(s0:List T×List T×Int×Unit):Option (List T×List T×Int×Unit⊕List T×Unit⊕Empty):=bif ltI s0.2.2.1 (lenL s0.1) then ob (idxL s0.1 s0.2.2.1) fun x1=>ob (T.sl? 7 (T.cell x1 6)) fun x2=>ob (self (x2,())) fun x3=>ob (T.int? .i64 (T.cell x1 0)) fun x4=>ob (T.bool? (T.cell x1 1)) fun x5=>ob (T.sl? 1 (T.cell x1 2)) fun x6=>ob (T.sl? 1 (T.cell x1 3)) fun x7=>ob (T.str? (T.cell x1 4)) fun x8=>ob (T.int? .i64 (T.cell x1 5)) fun x9=>ob (room s0.2.1 [T.agg [T.v (.int .i64 x4),T.v (.bool x5),T.sl 1 x6,T.sl 1 x7,T.v (.string x8),T.v (.int .i64 x9),T.sl 7 x3.1]] 112) fun x10=>some (.inl (s0.1,x10,wr .i64 (addI s0.2.2.1 (1:Int)),())) else some (.inr (.inl (s0.2.1,())))
noncomputable def b_ref24_copyArgs(self:((List T)×Unit)→Option ((List T)×Unit))(t:((List T)×Unit)):Option ((List T)×Unit):=
 (ob (loopU (u_ref24_copyArgs_l0 self) (t.1,([],((0:Int),())))) fun q11=>onS q11 (fun t12=>(some (t12.1,()))) fun q13=>noS q13)
def h_ref24_copyArgs:HT:=(.l (.l (.seq (.l (.one (.loop ⟨[.slot 0,.slot 3,.slot 4],[.sl 7,.row 54 7 23,I6]⟩ [((.exit 0),⟨[.slot 3],[.row 54 7 23]⟩)] .leaf))) .leaf)))
theorem ok_ref24_copyArgs(self:((List T)×Unit)→Option ((List T)×Unit))(hs:(calleeOf sg_ref24_copyArgs self).OK Tryz.prog 67):TabOK Tryz.prog [] (g_ref24_copyArgs self):=(TabOK.cons (fun _=>⟨_,Tryz.func67,by kernel_rfl,by kernel_rfl⟩) hs (calleeOf_nat _ _) (fun h=>by cases h) (by kernel_rfl) (fun _=>callK_framed (calleeOf_nat _ _) rfl rfl) (by kernel_rfl) TabOK.nil)
theorem e_ref24_copyArgs(self:((List T)×Unit)→Option ((List T)×Unit)):∀t,bodyG Tryz.prog (g_ref24_copyArgs self) [] h_ref24_copyArgs Tryz.f67 sg_ref24_copyArgs t=b_ref24_copyArgs self t:=by
 intro t
 kernel_rfl
noncomputable def v_ref24_copyArgs(n:Nat):((List T)×Unit)→Option ((List T)×Unit):=Nat.rec (motive:=fun _=>((List T)×Unit)→Option ((List T)×Unit)) (fun _=>none) (fun _ ih=>b_ref24_copyArgs ih) n
theorem kv_ref24_copyArgs(n:Nat):(calleeOf sg_ref24_copyArgs (v_ref24_copyArgs n)).OK Tryz.prog 67:=by
 induction n with
 | zero=>exact calleeOf_none _
 | succ n ih=>exact calleeG_ok mixed (ok_ref24_copyArgs _ ih) Tryz.func67 (by kernel_rfl) (by kernel_rfl) (e_ref24_copyArgs (v_ref24_copyArgs n))
noncomputable def u_ref24_copyArgs:((List T)×Unit)→Option ((List T)×Unit):=v_ref24_copyArgs 20
theorem k_ref24_copyArgs:(calleeOf sg_ref24_copyArgs u_ref24_copyArgs).OK Tryz.prog 67:=kv_ref24_copyArgs 20
def sg_ref24_CopyRecord:Sig:=⟨1,0,⟨[.aggs 0 2],[.str,.sl 7]⟩,1,[],0,⟨[.aggs 0 2],[.str,.sl 7]⟩,16⟩
noncomputable def u_ref24_CopyRecord(t:ByteArray×List T×Unit):Option (ByteArray×List T×Unit):=ob (u_ref24_copyArgs (t.2.1,())) fun x0=>some (t.1,x0.1,())
theorem k_ref24_CopyRecord:(calleeOf sg_ref24_CopyRecord u_ref24_CopyRecord).OK Tryz.prog 40:=mkK mixed [] .leaf (.cs Tryz.func67 k_ref24_copyArgs <| .nil) Tryz.func40 fun _=>by kernel_rfl
def sg_ref24_Find:Sig:=⟨2,0,⟨[.aggs 0 2,.slot 1],[.sl 2,.sl 3,I6]⟩,2,[],0,⟨[.aggs 0 2,.slot 1],[.str,.sl 7,.bool]⟩,40⟩
noncomputable def u_ref24_Find(t:List T×List T×Int×Unit):Option (ByteArray×List T×Bool×Unit):=ob (u_ref24_place (t.1,t.2.1,t.2.2.1,())) fun x0=>bif ltI x0.1 (0:Int) then some (ByteArray.mk #[],[],false,()) else ob (idxL t.2.1 x0.1) fun x1=>ob (T.str? (T.cell x1 1)) fun x2=>ob (T.sl? 7 (T.cell x1 2)) fun x3=>ob (u_ref24_CopyRecord (x2,x3,())) fun x4=>some (x4.1,x4.2.1,true,())
theorem k_ref24_Find:(calleeOf sg_ref24_Find u_ref24_Find).OK Tryz.prog 17:=mkK mixed [31] .leaf (.cs Tryz.func31 k_ref24_place <| .cs Tryz.func40 k_ref24_CopyRecord <| .nil) Tryz.func17 fun _=>by kernel_rfl
def sg_ref02_Same:Sig:=⟨2,0,⟨[.aggs 0 3,.aggs 1 3],[.bool,.sl 1,.sl 1,.bool,.sl 1,.sl 1]⟩,1,[],0,⟨[.slot 0],[.bool]⟩,52⟩
noncomputable def u_ref02_Same(t:Bool×List T×List T×Bool×List T×List T×Unit):Option (Bool×Unit):=bif eqB t.1 t.2.2.2.1 then ob (u_ref01_Cmp (t.2.1,t.2.2.2.2.1,())) fun x0=>bif eqI x0.1 (0:Int) then ob (u_ref01_Cmp (t.2.2.1,t.2.2.2.2.2.1,())) fun x1=>some (eqI x1.1 (0:Int),()) else some (false,()) else some (false,())
theorem k_ref02_Same:(calleeOf sg_ref02_Same u_ref02_Same).OK Tryz.prog 68:=mkK mixed [91] .leaf (.cs Tryz.func91 k_ref01_Cmp <| .nil) Tryz.func68 fun _=>by kernel_rfl
def sg___brepkernelmade_Dice__Small_1:Sig:=⟨1,0,⟨[.slot 0],[I6]⟩,1,[],0,⟨[.aggs 0 7],[I6,.bool,.sl 1,.sl 1,.str,I6,.sl 7]⟩,10⟩
noncomputable def u___brepkernelmade_Dice__Small_1(t:Int×Unit):Option (Int×Bool×List T×List T×ByteArray×Int×List T×Unit):=some ((5:Int),false,[],[],ByteArray.mk #[],t.1,[],())
theorem k___brepkernelmade_Dice__Small_1:(calleeOf sg___brepkernelmade_Dice__Small_1 u___brepkernelmade_Dice__Small_1).OK Tryz.prog 22:=mkK mixed [] .leaf .nil Tryz.func22 fun _=>by kernel_rfl
def sg_ref24_SameArgs:Sig:=⟨2,0,⟨[.slot 0,.slot 1],[.sl 7,.sl 7]⟩,1,[],0,⟨[.slot 0],[.bool]⟩,124⟩
noncomputable def g_ref24_SameArgs(self:((List T)×((List T)×Unit))→Option (Bool×Unit)):List (Go.FuncId×Callee):=[(68,(calleeOf sg_ref02_Same u_ref02_Same)),(41,(calleeOf sg_ref24_SameArgs self)),(2000000,flagC [99999] [28,30,34,36,41,43,48,50,56,58])]
noncomputable def u_ref24_SameArgs_l0(self:(List T×List T×Unit)→Option (Bool×Unit))(s0:List T×List T×Int×Unit):Option (List T×List T×Int×Unit⊕Bool×Unit⊕Unit⊕Empty):=bif ltI s0.2.2.1 (lenL s0.1) then ob (idxL s0.1 s0.2.2.1) fun x1=>ob (idxL s0.2.1 s0.2.2.1) fun x2=>ob (T.int? .i64 (T.cell x1 0)) fun x3=>ob (T.int? .i64 (T.cell x2 0)) fun x4=>bif Bool.not (eqI x3 x4) then some (.inr (.inl (false,()))) else ob (T.str? (T.cell x1 4)) fun x5=>ob (T.str? (T.cell x2 4)) fun x6=>bif Bool.not (eqS x5 x6) then some (.inr (.inl (false,()))) else ob (T.int? .i64 (T.cell x1 5)) fun x7=>ob (T.int? .i64 (T.cell x2 5)) fun x8=>bif Bool.not (eqI x7 x8) then some (.inr (.inl (false,()))) else ob (T.bool? (T.cell x1 1)) fun x9=>ob (T.sl? 1 (T.cell x1 2)) fun x10=>ob (T.sl? 1 (T.cell x1 3)) fun x11=>ob (T.bool? (T.cell x2 1)) fun x12=>ob (T.sl? 1 (T.cell x2 2)) fun x13=>ob (T.sl? 1 (T.cell x2 3)) fun x14=>ob (u_ref02_Same (x9,x10,x11,x12,x13,x14,())) fun x15=>bif Bool.not x15.1 then some (.inr (.inl (false,()))) else ob (T.sl? 7 (T.cell x1 6)) fun x16=>ob (T.sl? 7 (T.cell x2 6)) fun x17=>ob (self (x16,x17,())) fun x18=>bif Bool.not x18.1 then some (.inr (.inl (false,()))) else some (.inl (s0.1,s0.2.1,wr .i64 (addI s0.2.2.1 (1:Int)),())) else some (.inr (.inr (.inl ())))
noncomputable def b_ref24_SameArgs(self:((List T)×((List T)×Unit))→Option (Bool×Unit))(t:((List T)×((List T)×Unit))):Option (Bool×Unit):=
 (bif (Bool.not (Go.Eng.eqI (Go.Eng.lenL t.1) (Go.Eng.lenL t.2.1))) then (some (Bool.false,())) else (ob (loopU (u_ref24_SameArgs_l0 self) (t.1,(t.2.1,((0:Int),())))) fun q19=>onS q19 (fun t20=>(some (t20.1,()))) fun q21=>onS q21 (fun t22=>(some (Bool.true,()))) fun q23=>noS q23))
def h_ref24_SameArgs:HT:=(.l (.l (.seq (.l (.one (.loop ⟨[.slot 0,.slot 1,.slot 5],[.sl 7,.sl 7,I6]⟩ [(.ret,⟨[.slot 4],[.bool]⟩),((.exit 0),⟨[],[]⟩)] .leaf))) .leaf)))
theorem ok_ref24_SameArgs(self:((List T)×((List T)×Unit))→Option (Bool×Unit))(hs:(calleeOf sg_ref24_SameArgs self).OK Tryz.prog 41):TabOK Tryz.prog [68,41,9000000,4000068,4000041,20000028,20000030,20000034,20000036,20000041,20000043,20000048,20000050,20000056,20000058] (g_ref24_SameArgs self):=(TabOK.cons (fun _=>⟨_,Tryz.func68,by kernel_rfl,by kernel_rfl⟩) k_ref02_Same (calleeOf_nat _ _) (fun _=>(calleeOf_pure (by kernel_rfl))) (by kernel_rfl) (fun _=>callK_framed (calleeOf_nat _ _) rfl rfl) (by kernel_rfl) (TabOK.cons (fun _=>⟨_,Tryz.func41,by kernel_rfl,by kernel_rfl⟩) hs (calleeOf_nat _ _) (fun _=>(calleeOf_pure (by kernel_rfl))) (by kernel_rfl) (fun _=>callK_framed (calleeOf_nat _ _) rfl rfl) (by kernel_rfl) (TabOK.flag (by kernel_rfl) (by kernel_rfl) (by kernel_rfl) (by kernel_rfl) (by kernel_rfl))))
theorem e_ref24_SameArgs(self:((List T)×((List T)×Unit))→Option (Bool×Unit)):∀t,bodyG Tryz.prog (g_ref24_SameArgs self) [68,41,9000000,4000068,4000041,20000028,20000030,20000034,20000036,20000041,20000043,20000048,20000050,20000056,20000058] h_ref24_SameArgs Tryz.f41 sg_ref24_SameArgs t=b_ref24_SameArgs self t:=by
 intro t
 kernel_rfl
noncomputable def v_ref24_SameArgs(n:Nat):((List T)×((List T)×Unit))→Option (Bool×Unit):=Nat.rec (motive:=fun _=>((List T)×((List T)×Unit))→Option (Bool×Unit)) (fun _=>none) (fun _ ih=>b_ref24_SameArgs ih) n
theorem kv_ref24_SameArgs(n:Nat):(calleeOf sg_ref24_SameArgs (v_ref24_SameArgs n)).OK Tryz.prog 41:=by
 induction n with
 | zero=>exact calleeOf_none _
 | succ n ih=>exact calleeG_ok mixed (ok_ref24_SameArgs _ ih) Tryz.func41 (by kernel_rfl) (by kernel_rfl) (e_ref24_SameArgs (v_ref24_SameArgs n))
noncomputable def u_ref24_SameArgs:((List T)×((List T)×Unit))→Option (Bool×Unit):=v_ref24_SameArgs 20
theorem k_ref24_SameArgs:(calleeOf sg_ref24_SameArgs u_ref24_SameArgs).OK Tryz.prog 41:=kv_ref24_SameArgs 20
def sg_ref24_SameRecord:Sig:=⟨2,0,⟨[.aggs 0 2,.aggs 1 2],[.str,.sl 7,.str,.sl 7]⟩,1,[],0,⟨[.slot 0],[.bool]⟩,34⟩
noncomputable def u_ref24_SameRecord(t:ByteArray×List T×ByteArray×List T×Unit):Option (Bool×Unit):=bif eqS t.1 t.2.2.1 then ob (u_ref24_SameArgs (t.2.1,t.2.2.2.1,())) fun x0=>some (x0.1,()) else some (false,())
theorem k_ref24_SameRecord:(calleeOf sg_ref24_SameRecord u_ref24_SameRecord).OK Tryz.prog 18:=mkK mixed [41] .leaf (.cs Tryz.func41 k_ref24_SameArgs <| .nil) Tryz.func18 fun _=>by kernel_rfl
def sg___brepkernelmade_Dice__Small:Sig:=⟨1,1,⟨[.slot 0,.box 0 2],[.lit (.box 0 0),.sl 1,I6]⟩,1,[],0,⟨[.aggs 0 2,.box 0 2],[.sl 2,.sl 3,.sl 1,I6]⟩,244⟩
noncomputable def g___brepkernelmade_Dice__Small:List (FuncId×Callee):=[(22,(calleeOf sg___brepkernelmade_Dice__Small_1 u___brepkernelmade_Dice__Small_1)),(21,(calleeOf sg_ref02_Int u_ref02_Int)),(23,(calleeOf sg___brepkernelmade_Dice__Bool u___brepkernelmade_Dice__Bool)),(25,(calleeOf sg___brepkernelmade_Dice__Next u___brepkernelmade_Dice__Next)),(24,(calleeOf sg___brepkernelmade_Dice__Arg u___brepkernelmade_Dice__Arg)),(2000000,flagC [4,6,8,10] [3,5,7,9,79,85,86,98,102,107,60000054,60000041,60000039,60000028,60000009,8999999]),(2000002,flagC [] [500015,500019,500023,500030,500039,500041,500047,500052,500057,500062,500064,500069,500074,500076])]
noncomputable def u___brepkernelmade_Dice__Small_l0(s11:Unit×Unit×List T×Unit×Int×List T×Int×T×T×T×List T×Unit):Option (Unit×Unit×List T×Unit×Int×List T×Int×T×T×T×List T×Unit⊕Unit×Unit×List T×Int×T×T×T×List T×Unit⊕Empty):=bif ltI s11.2.2.2.2.1 (lenL s11.2.2.1) then ob (idxL s11.2.2.1 s11.2.2.2.2.1) fun x12=>ob (T.rw? 7 (T.cell x12 1)) fun x13=>ob (room [] x13 112) fun x14=>ob (α:=Unit×Unit×List T×Unit×Int×Unit×List T×Int×T×T×T×List T×T×List T×Unit⊕Empty) (ob (u___brepkernelmade_Dice__Bool ((),(12:Int),s11.2.2.2.2.2.1,s11.2.2.2.2.2.2.1,())) fun x15=>bif x15.1 then ob (u___brepkernelmade_Dice__Next ((),lenL x14,x15.2.1,x15.2.2.1,())) fun x16=>ob (u___brepkernelmade_Dice__Arg ((),(1:Int),x16.2.1,x16.2.2.1,())) fun x17=>ob (chkI (lenL x14) x16.1) fun x18=>ob (idxN x14 x18) fun x19=>some (.inl ((),(),s11.2.2.1,(),s11.2.2.2.2.1,(),x17.2.2.2.2.2.2.2.1,x17.2.2.2.2.2.2.2.2.1,s11.2.2.2.2.2.2.2.1,s11.2.2.2.2.2.2.2.2.1,s11.2.2.2.2.2.2.2.2.2.1,s11.2.2.2.2.2.2.2.2.2.2.1,T.cell x12 0,List.set x14 x18 (T.upd 7 x19 0 [T.v (.int .i64 x17.1),T.v (.bool x17.2.1),T.sl 1 x17.2.2.1,T.sl 1 x17.2.2.2.1,T.v (.string x17.2.2.2.2.1),T.v (.int .i64 x17.2.2.2.2.2.1),T.sl 7 x17.2.2.2.2.2.2.1]),())) else some (.inl ((),(),s11.2.2.1,(),s11.2.2.2.2.1,(),x15.2.1,x15.2.2.1,s11.2.2.2.2.2.2.2.1,s11.2.2.2.2.2.2.2.2.1,s11.2.2.2.2.2.2.2.2.2.1,s11.2.2.2.2.2.2.2.2.2.2.1,T.cell x12 0,x14,()))) fun q20=>onS q20 (fun t21=>ob (α:=Unit×Unit×List T×Unit×Int×Unit×List T×Int×T×T×T×List T×T×List T×Unit⊕Empty) (ob (u___brepkernelmade_Dice__Bool ((),(30:Int),t21.2.2.2.2.2.2.1,t21.2.2.2.2.2.2.2.1,())) fun x22=>bif x22.1 then ob (cutI (lenL t21.2.2.2.2.2.2.2.2.2.2.2.2.2.1) (1:Int) (lenL t21.2.2.2.2.2.2.2.2.2.2.2.2.2.1)) fun x23=>some (.inl ((),(),t21.2.2.1,(),t21.2.2.2.2.1,(),x22.2.1,x22.2.2.1,t21.2.2.2.2.2.2.2.2.1,t21.2.2.2.2.2.2.2.2.2.1,t21.2.2.2.2.2.2.2.2.2.2.1,t21.2.2.2.2.2.2.2.2.2.2.2.1,t21.2.2.2.2.2.2.2.2.2.2.2.2.1,cutN t21.2.2.2.2.2.2.2.2.2.2.2.2.2.1 x23.1 x23.2,())) else some (.inl ((),(),t21.2.2.1,(),t21.2.2.2.2.1,(),x22.2.1,x22.2.2.1,t21.2.2.2.2.2.2.2.2.1,t21.2.2.2.2.2.2.2.2.2.1,t21.2.2.2.2.2.2.2.2.2.2.1,t21.2.2.2.2.2.2.2.2.2.2.2.1,t21.2.2.2.2.2.2.2.2.2.2.2.2.1,t21.2.2.2.2.2.2.2.2.2.2.2.2.2.1,()))) fun q24=>onS q24 (fun t25=>ob (α:=Unit×Unit×List T×Unit×Int×Unit×List T×Int×T×T×T×List T×ByteArray×List T×Unit⊕Empty) (ob (u___brepkernelmade_Dice__Bool ((),(30:Int),t25.2.2.2.2.2.2.1,t25.2.2.2.2.2.2.2.1,())) fun x26=>bif x26.1 then some (.inl ((),(),t25.2.2.1,(),t25.2.2.2.2.1,(),x26.2.1,x26.2.2.1,t25.2.2.2.2.2.2.2.2.1,t25.2.2.2.2.2.2.2.2.2.1,t25.2.2.2.2.2.2.2.2.2.2.1,t25.2.2.2.2.2.2.2.2.2.2.2.1,ByteArray.mk #[88],t25.2.2.2.2.2.2.2.2.2.2.2.2.2.1,())) else ob (T.str? t25.2.2.2.2.2.2.2.2.2.2.2.2.1) fun x27=>some (.inl ((),(),t25.2.2.1,(),t25.2.2.2.2.1,(),x26.2.1,x26.2.2.1,t25.2.2.2.2.2.2.2.2.1,t25.2.2.2.2.2.2.2.2.2.1,t25.2.2.2.2.2.2.2.2.2.2.1,t25.2.2.2.2.2.2.2.2.2.2.2.1,x27,t25.2.2.2.2.2.2.2.2.2.2.2.2.2.1,()))) fun q28=>onS q28 (fun t29=>ob (room t29.2.2.2.2.2.2.2.2.2.2.2.1 [T.agg [T.v (.int .i64 (wr .i64 (addI t29.2.2.2.2.1 (1:Int)))),T.v (.string t29.2.2.2.2.2.2.2.2.2.2.2.2.1),T.sl 7 t29.2.2.2.2.2.2.2.2.2.2.2.2.2.1]] 48) fun x30=>some (.inl ((),(),t29.2.2.1,(),wr .i64 (addI t29.2.2.2.2.1 (1:Int)),t29.2.2.2.2.2.2.1,t29.2.2.2.2.2.2.2.1,t29.2.2.2.2.2.2.2.2.1,t29.2.2.2.2.2.2.2.2.2.1,t29.2.2.2.2.2.2.2.2.2.2.1,x30,()))) fun q31=>noS q31) fun q32=>noS q32) fun q33=>noS q33 else some (.inr (.inl ((),(),s11.2.2.2.2.2.1,s11.2.2.2.2.2.2.1,s11.2.2.2.2.2.2.2.1,s11.2.2.2.2.2.2.2.2.1,s11.2.2.2.2.2.2.2.2.2.1,s11.2.2.2.2.2.2.2.2.2.2.1,())))
noncomputable def u___brepkernelmade_Dice__Small(t:Unit×List T×Int×Unit):Option (List T×List T×List T×Int×Unit):=ob (u_ref02_Int ((1:Int),())) fun x0=>ob (u___brepkernelmade_Dice__Small_1 ((1:Int),())) fun x1=>ob (u___brepkernelmade_Dice__Small_1 ((2:Int),())) fun x2=>ob (u___brepkernelmade_Dice__Small_1 ((1:Int),())) fun x3=>ob (u___brepkernelmade_Dice__Small_1 ((1:Int),())) fun x4=>ob (u___brepkernelmade_Dice__Small_1 ((1:Int),())) fun x5=>ob (u___brepkernelmade_Dice__Small_1 ((4:Int),())) fun x6=>ob (u___brepkernelmade_Dice__Small_1 ((5:Int),())) fun x7=>ob (u___brepkernelmade_Dice__Small_1 ((3:Int),())) fun x8=>ob (u___brepkernelmade_Dice__Small_1 ((6:Int),())) fun x9=>ob (u___brepkernelmade_Dice__Small_1 ((7:Int),())) fun x10=>ob (loopU u___brepkernelmade_Dice__Small_l0 ((),(),[T.agg [T.v (.string (ByteArray.mk #[67,65,82,84,69,83,73,65,78,95,80,79,73,78,84])),T.sl 7 [T.agg [T.v (.int .i64 (3:Int)),T.v (.bool false),T.sl 1 [],T.sl 1 [],T.v (.string (ByteArray.mk #[])),T.v (.int .i64 (0:Int)),T.sl 7 []],T.agg [T.v (.int .i64 (6:Int)),T.v (.bool false),T.sl 1 [],T.sl 1 [],T.v (.string (ByteArray.mk #[])),T.v (.int .i64 (0:Int)),T.sl 7 [T.agg [T.v (.int .i64 (2:Int)),T.v (.bool false),T.sl 1 [],T.sl 1 [],T.v (.string (ByteArray.mk #[])),T.v (.int .i64 (0:Int)),T.sl 7 []],T.agg [T.v (.int .i64 (1:Int)),T.v (.bool false),T.sl 1 [],T.sl 1 [],T.v (.string (ByteArray.mk #[])),T.v (.int .i64 (0:Int)),T.sl 7 []],T.agg [T.v (.int .i64 (2:Int)),T.v (.bool x0.1),T.sl 1 x0.2.1,T.sl 1 x0.2.2.1,T.v (.string (ByteArray.mk #[])),T.v (.int .i64 (0:Int)),T.sl 7 []]]]]],T.agg [T.v (.string (ByteArray.mk #[68,73,82,69,67,84,73,79,78])),T.sl 7 [T.agg [T.v (.int .i64 (3:Int)),T.v (.bool false),T.sl 1 [],T.sl 1 [],T.v (.string (ByteArray.mk #[])),T.v (.int .i64 (0:Int)),T.sl 7 []],T.agg [T.v (.int .i64 (6:Int)),T.v (.bool false),T.sl 1 [],T.sl 1 [],T.v (.string (ByteArray.mk #[])),T.v (.int .i64 (0:Int)),T.sl 7 [T.agg [T.v (.int .i64 (2:Int)),T.v (.bool false),T.sl 1 [],T.sl 1 [],T.v (.string (ByteArray.mk #[])),T.v (.int .i64 (0:Int)),T.sl 7 []],T.agg [T.v (.int .i64 (1:Int)),T.v (.bool false),T.sl 1 [],T.sl 1 [],T.v (.string (ByteArray.mk #[])),T.v (.int .i64 (0:Int)),T.sl 7 []],T.agg [T.v (.int .i64 (2:Int)),T.v (.bool x0.1),T.sl 1 x0.2.1,T.sl 1 x0.2.2.1,T.v (.string (ByteArray.mk #[])),T.v (.int .i64 (0:Int)),T.sl 7 []]]]]],T.agg [T.v (.string (ByteArray.mk #[80,76,65,78,69])),T.sl 7 [T.agg [T.v (.int .i64 (3:Int)),T.v (.bool false),T.sl 1 [],T.sl 1 [],T.v (.string (ByteArray.mk #[])),T.v (.int .i64 (0:Int)),T.sl 7 []],T.agg [T.v (.int .i64 x1.1),T.v (.bool x1.2.1),T.sl 1 x1.2.2.1,T.sl 1 x1.2.2.2.1,T.v (.string x1.2.2.2.2.1),T.v (.int .i64 x1.2.2.2.2.2.1),T.sl 7 x1.2.2.2.2.2.2.1],T.agg [T.v (.int .i64 x2.1),T.v (.bool x2.2.1),T.sl 1 x2.2.2.1,T.sl 1 x2.2.2.2.1,T.v (.string x2.2.2.2.2.1),T.v (.int .i64 x2.2.2.2.2.2.1),T.sl 7 x2.2.2.2.2.2.2.1]]],T.agg [T.v (.string (ByteArray.mk #[80,79,76,89,95,76,79,79,80])),T.sl 7 [T.agg [T.v (.int .i64 (3:Int)),T.v (.bool false),T.sl 1 [],T.sl 1 [],T.v (.string (ByteArray.mk #[])),T.v (.int .i64 (0:Int)),T.sl 7 []],T.agg [T.v (.int .i64 (6:Int)),T.v (.bool false),T.sl 1 [],T.sl 1 [],T.v (.string (ByteArray.mk #[])),T.v (.int .i64 (0:Int)),T.sl 7 [T.agg [T.v (.int .i64 x3.1),T.v (.bool x3.2.1),T.sl 1 x3.2.2.1,T.sl 1 x3.2.2.2.1,T.v (.string x3.2.2.2.2.1),T.v (.int .i64 x3.2.2.2.2.2.1),T.sl 7 x3.2.2.2.2.2.2.1],T.agg [T.v (.int .i64 x4.1),T.v (.bool x4.2.1),T.sl 1 x4.2.2.1,T.sl 1 x4.2.2.2.1,T.v (.string x4.2.2.2.2.1),T.v (.int .i64 x4.2.2.2.2.2.1),T.sl 7 x4.2.2.2.2.2.2.1],T.agg [T.v (.int .i64 x5.1),T.v (.bool x5.2.1),T.sl 1 x5.2.2.1,T.sl 1 x5.2.2.2.1,T.v (.string x5.2.2.2.2.1),T.v (.int .i64 x5.2.2.2.2.2.1),T.sl 7 x5.2.2.2.2.2.2.1]]]]],T.agg [T.v (.string (ByteArray.mk #[70,65,67,69,95,66,79,85,78,68])),T.sl 7 [T.agg [T.v (.int .i64 (3:Int)),T.v (.bool false),T.sl 1 [],T.sl 1 [],T.v (.string (ByteArray.mk #[])),T.v (.int .i64 (0:Int)),T.sl 7 []],T.agg [T.v (.int .i64 x6.1),T.v (.bool x6.2.1),T.sl 1 x6.2.2.1,T.sl 1 x6.2.2.2.1,T.v (.string x6.2.2.2.2.1),T.v (.int .i64 x6.2.2.2.2.2.1),T.sl 7 x6.2.2.2.2.2.2.1],T.agg [T.v (.int .i64 (4:Int)),T.v (.bool false),T.sl 1 [],T.sl 1 [],T.v (.string (ByteArray.mk #[70])),T.v (.int .i64 (0:Int)),T.sl 7 []]]],T.agg [T.v (.string (ByteArray.mk #[70,65,67,69,95,83,85,82,70,65,67,69])),T.sl 7 [T.agg [T.v (.int .i64 (3:Int)),T.v (.bool false),T.sl 1 [],T.sl 1 [],T.v (.string (ByteArray.mk #[])),T.v (.int .i64 (0:Int)),T.sl 7 []],T.agg [T.v (.int .i64 (6:Int)),T.v (.bool false),T.sl 1 [],T.sl 1 [],T.v (.string (ByteArray.mk #[])),T.v (.int .i64 (0:Int)),T.sl 7 [T.agg [T.v (.int .i64 x7.1),T.v (.bool x7.2.1),T.sl 1 x7.2.2.1,T.sl 1 x7.2.2.2.1,T.v (.string x7.2.2.2.2.1),T.v (.int .i64 x7.2.2.2.2.2.1),T.sl 7 x7.2.2.2.2.2.2.1]]],T.agg [T.v (.int .i64 x8.1),T.v (.bool x8.2.1),T.sl 1 x8.2.2.1,T.sl 1 x8.2.2.2.1,T.v (.string x8.2.2.2.2.1),T.v (.int .i64 x8.2.2.2.2.2.1),T.sl 7 x8.2.2.2.2.2.2.1],T.agg [T.v (.int .i64 (4:Int)),T.v (.bool false),T.sl 1 [],T.sl 1 [],T.v (.string (ByteArray.mk #[84])),T.v (.int .i64 (0:Int)),T.sl 7 []]]],T.agg [T.v (.string (ByteArray.mk #[67,76,79,83,69,68,95,83,72,69,76,76])),T.sl 7 [T.agg [T.v (.int .i64 (3:Int)),T.v (.bool false),T.sl 1 [],T.sl 1 [],T.v (.string (ByteArray.mk #[])),T.v (.int .i64 (0:Int)),T.sl 7 []],T.agg [T.v (.int .i64 (6:Int)),T.v (.bool false),T.sl 1 [],T.sl 1 [],T.v (.string (ByteArray.mk #[])),T.v (.int .i64 (0:Int)),T.sl 7 [T.agg [T.v (.int .i64 x9.1),T.v (.bool x9.2.1),T.sl 1 x9.2.2.1,T.sl 1 x9.2.2.2.1,T.v (.string x9.2.2.2.2.1),T.v (.int .i64 x9.2.2.2.2.2.1),T.sl 7 x9.2.2.2.2.2.2.1]]]]],T.agg [T.v (.string (ByteArray.mk #[70,65,67,69,84,69,68,95,66,82,69,80])),T.sl 7 [T.agg [T.v (.int .i64 (3:Int)),T.v (.bool false),T.sl 1 [],T.sl 1 [],T.v (.string (ByteArray.mk #[])),T.v (.int .i64 (0:Int)),T.sl 7 []],T.agg [T.v (.int .i64 x10.1),T.v (.bool x10.2.1),T.sl 1 x10.2.2.1,T.sl 1 x10.2.2.2.1,T.v (.string x10.2.2.2.2.1),T.v (.int .i64 x10.2.2.2.2.2.1),T.sl 7 x10.2.2.2.2.2.2.1]]],T.agg [T.v (.string (ByteArray.mk #[84,79,76,69,82,65,78,67,69])),T.sl 7 [T.agg [T.v (.int .i64 (1:Int)),T.v (.bool false),T.sl 1 [],T.sl 1 [],T.v (.string (ByteArray.mk #[])),T.v (.int .i64 (0:Int)),T.sl 7 []],T.agg [T.v (.int .i64 (1:Int)),T.v (.bool false),T.sl 1 [],T.sl 1 [],T.v (.string (ByteArray.mk #[])),T.v (.int .i64 (0:Int)),T.sl 7 []],T.agg [T.v (.int .i64 (2:Int)),T.v (.bool false),T.sl 1 [],T.sl 1 [],T.v (.string (ByteArray.mk #[])),T.v (.int .i64 (0:Int)),T.sl 7 []]]]],(),(0:Int),t.2.1,t.2.2.1,T.v (.slice none 0 0),T.v (.slice none 0 0),T.v (.slice none 0 0),[],())) fun q34=>onS q34 (fun t35=>ob (T.sl? 2 t35.2.2.2.2.2.2.1) fun x36=>some (x36,t35.2.2.2.2.2.2.2.1,t35.2.2.1,t35.2.2.2.1,())) fun q37=>noS q37
def h___brepkernelmade_Dice__Small:HT:=(.l (.l (.l (.l (.l (.l (.seq (.l (.one (.loop ⟨[.slot 0,.slot 2,.slot 6,.slot 7,.slot 8,.box 0 2,.box 3 2,.box 8 2],[.lit (.box 0 0),.lit (.box 3 0),.sl 2,.lit (.box 8 0),I6,.sl 1,I6,.tree,.tree,.tree,.row 56 3 120]⟩ [((.exit 0),⟨[.slot 2,.slot 7,.box 0 2,.box 3 2,.box 8 2],[.lit (.box 3 0),.lit (.box 8 0),.sl 1,I6,.tree,.tree,.tree,.row 56 3 120]⟩)] (.l (.seq (.one (.l (.l (.seq (.join [(.normal,⟨[.slot 0,.slot 2,.slot 6,.slot 7,.slot 8,.slot 9,.box 0 2,.box 3 2,.box 8 2,.box 10 2],[.lit (.box 0 0),.lit (.box 3 0),.sl 2,.lit (.box 8 0),I6,.lit (.box 10 0),.sl 1,I6,.tree,.tree,.tree,.row 56 3 120,.tree,.row 54 7 90]⟩)] .leaf) (.seq (.join [(.normal,⟨[.slot 0,.slot 2,.slot 6,.slot 7,.slot 8,.slot 9,.box 0 2,.box 3 2,.box 8 2,.box 10 2],[.lit (.box 0 0),.lit (.box 3 0),.sl 2,.lit (.box 8 0),I6,.lit (.box 10 0),.sl 1,I6,.tree,.tree,.tree,.row 56 3 120,.tree,.row 54 7 90]⟩)] .leaf) (.seq (.join [(.normal,⟨[.slot 0,.slot 2,.slot 6,.slot 7,.slot 8,.slot 9,.box 0 2,.box 3 2,.box 8 2,.box 10 2],[.lit (.box 0 0),.lit (.box 3 0),.sl 2,.lit (.box 8 0),I6,.lit (.box 10 0),.sl 1,I6,.tree,.tree,.tree,.row 56 3 120,.str,.row 54 7 90]⟩)] .leaf) .leaf)))))) .leaf))))) .leaf)))))))
theorem ok___brepkernelmade_Dice__Small:TabOK Tryz.prog [9000000,4000022,4000021,4000023,4000025,4000024,20000003,20000005,20000007,20000009,20000079,20000085,20000086,20000098,20000102,20000107,80000054,80000041,80000039,80000028,80000009,28999999,9000002,90500015,90500019,90500023,90500030,90500039,90500041,90500047,90500052,90500057,90500062,90500064,90500069,90500074,90500076] g___brepkernelmade_Dice__Small:=(.cs Tryz.func22 k___brepkernelmade_Dice__Small_1 (.cs Tryz.func21 k_ref02_Int (.cs Tryz.func23 k___brepkernelmade_Dice__Bool (.cs Tryz.func25 k___brepkernelmade_Dice__Next (.cs Tryz.func24 k___brepkernelmade_Dice__Arg (TabOK.flagG (by kernel_rfl) (by kernel_rfl) (by kernel_rfl) (by kernel_rfl)))))))
theorem e___brepkernelmade_Dice__Small:∀t,bodyG Tryz.prog g___brepkernelmade_Dice__Small [9000000,4000022,4000021,4000023,4000025,4000024,20000003,20000005,20000007,20000009,20000079,20000085,20000086,20000098,20000102,20000107,80000054,80000041,80000039,80000028,80000009,28999999,9000002,90500015,90500019,90500023,90500030,90500039,90500041,90500047,90500052,90500057,90500062,90500064,90500069,90500074,90500076] h___brepkernelmade_Dice__Small Tryz.f7 sg___brepkernelmade_Dice__Small t=u___brepkernelmade_Dice__Small t:=fun _=>by kernel_rfl
theorem k___brepkernelmade_Dice__Small:(calleeOf sg___brepkernelmade_Dice__Small u___brepkernelmade_Dice__Small).OK Tryz.prog 7:=mkK mixed [9000000,4000022,4000021,4000023,4000025,4000024,20000003,20000005,20000007,20000009,20000079,20000085,20000086,20000098,20000102,20000107,80000054,80000041,80000039,80000028,80000009,28999999,9000002,90500015,90500019,90500023,90500030,90500039,90500041,90500047,90500052,90500057,90500062,90500064,90500069,90500074,90500076] h___brepkernelmade_Dice__Small ok___brepkernelmade_Dice__Small Tryz.func7 e___brepkernelmade_Dice__Small
end Go.Eng
namespace Go.Eng.En
open Go.Eng Go.RowKit Go.Proofs
theorem zipV_lookup:∀(vs:List Value) (k t:Nat) (v:Value),(zipV k vs).lookup t=some v→k≤t∧vs[t-k]?=some v
 | [],k,t,v,h=>by simp[zipV] at h
 | x::vs,k,t,v,h=>by
  simp only[zipV] at h
  rw[List.lookup_cons] at h
  by_cases hk:t=k
  ·subst hk;simp at h;subst h;exact⟨Nat.le_refl _,by simp⟩
  ·rw[beq_eq_false_iff_ne.2 hk] at h
   obtain⟨h1,h2⟩:=zipV_lookup vs (k+1) t v h
   refine⟨by omega,?_⟩
   rw[show t-k=t-(k+1)+1 from by omega]
   exact h2
theorem Fr.start(vs:List Value)(m n:Nat)(h:vs.length+m=n):Fr n (zipV 0 vs) { tmps:=vs.toArray++Array.replicate m undef,defers:=[] }:=by
 refine⟨by simp[h],rfl,fun t v hl=>?_⟩
 obtain⟨_,h2⟩:=zipV_lookup vs 0 t v hl
 have hlt:t<vs.length:=(List.getElem?_eq_some_iff.1 h2).1
 rw[Array.getD_eq_getD_getElem?,Array.getElem?_append_left (by simpa using hlt)]
 simp at h2
 simp[h2]
theorem calls_start{P:Program}{f:FuncId}{fn:Func}{c:Code}{w:World}{R:Ending→World→Prop}(vs:List Value)(m n:Nat)(hf:P.funcs[f]?=some fn)(hb:fn.body=some c)(hm:vs.length+m=n)(hn:fn.ntmps=n)
 (h:∀a,Fr n (zipV 0 vs) a→c.wp P (bodyPost P fn R) a w):Calls P f vs.toArray w R:=by
 refine calls_of_wp hf hb (h _ ?_)
 rw[show fn.ntmps-vs.toArray.size=m from by rw[hn,List.size_toArray];omega]
 exact Fr.start vs m n hm
theorem callsM_start{P:Program}{f:FuncId}{fn:Func}{c:Code}{w:World}{R:Ending→World→Prop}{k:Nat}(vs:List Value)(m n:Nat)(hf:P.funcs[f]?=some fn)(hb:fn.body=some c)(hm:vs.length+m=n)(hn:fn.ntmps=n)
 (h:∀a,Fr n (zipV 0 vs) a→c.wp P (bodyPostM Fence.wide k P fn R) a w):Calls P f vs.toArray w R:=by
 refine callsIn_wide.1 (callsIn_of_wp_marks (n:=k) hf hb trivial (wpIn_wide.2 (h _ ?_)))
 rw[show fn.ntmps-vs.toArray.size=m from by rw[hn,List.size_toArray];omega]
 exact Fr.start vs m n hm
theorem ret_one{P:Program}{fn:Func}{t n:Nat}{env:List (Nat×Value)}{a:Act}{w:World}{v:Value}{R:Ending→World→Prop}(hr:fn.results=#[.tmp t])(hf:Fr n env a)(hv:env.lookup t=some v)(h:R (.returned v) w):bodyPost P fn R .ret a w:=by
 refine⟨hf.defers,v,?_,h⟩
 unfold results
 rw[hr]
 have:=hf.get t v hv
 rw[Array.getD_eq_getD_getElem?] at this
 simp[this]
abbrev vI(i:Int):Value:=.int .i64 i
def Kp(nS gm:Nat)(A B:World):Prop:=∀b,b<nS→b≠gm→B.heap[b]?=A.heap[b]?
theorem Kp.trans{nS gm:Nat}{A B C:World}(h:Kp nS gm A B)(k:Kp nS gm B C):Kp nS gm A C:=fun b h1 h2=>(k b h1 h2).trans (h b h1 h2)
theorem Kp.cell{nS gm:Nat}{A B:World}(h:Kp nS gm A B){p:Addr}{v:Value}(hp:p.block<nS)(hg:p.block≠gm)(hc:A.cell? p=some v):B.cell? p=some v:=
 (World.cell?_of_block (h p.block hp hg)).trans hc
theorem u26:Tryz.prog.underlying 28=some (.slice 56):=by kernel_rfl
theorem s39:szO Tryz.prog 56=some 3:=by kernel_rfl
theorem a39:aggO Tryz.prog 56=some true:=by kernel_rfl
theorem s26:szO Tryz.prog 28=some 1:=by kernel_rfl
theorem a26:aggO Tryz.prog 28=some false:=by kernel_rfl
theorem wide_fn(f:Nat):Fence.wide.fn f:=trivial
theorem ret_none{P:Program}{fn:Func}{n:Nat}{env:List (Nat×Value)}{a:Act}{w:World}{R:Ending→World→Prop}(hr:fn.results=#[])(hf:Fr n env a)(h:∀v,R (.returned v) w):bodyPost P fn R .ret a w:=
 ⟨hf.defers,_,results_none hr _ _ _,h _⟩
theorem norm_none{P:Program}{fn:Func}{n:Nat}{env:List (Nat×Value)}{a:Act}{w:World}{R:Ending→World→Prop}(hr:fn.results=#[])(hf:Fr n env a)(h:∀v,R (.returned v) w):bodyPost P fn R .normal a w:=
 ⟨hf.defers,_,results_none hr _ _ _,h _⟩
def pre(len k:Nat):List Nat:=(List.range (len-k)).map fun i=>len-1-i
theorem pre_len(len:Nat):pre len len=[]:=by unfold pre;rw[Nat.sub_self];rfl
theorem pre_step{len m:Nat}(h:m<len):pre len (m+1)++[m]=pre len m:=by
 unfold pre
 rw[show len-m=len-(m+1)+1 from by omega,List.range_succ,List.map_append,List.map_singleton]
 congr 2
 omega
theorem pre_length(len m:Nat):(pre len m).length=len-m:=by unfold pre;rw[List.length_map,List.length_range]
theorem bk_add(x y:Int):binK Tryz.prog .add 3 3 (dV (vI x)) (dV (vI y)) some=some (dV (vI (wr .i64 (x+y)))):=by rw[←addI_eq];kernel_rfl
theorem bk_sub(x y:Int):binK Tryz.prog .sub 3 3 (dV (vI x)) (dV (vI y)) some=some (dV (vI (wr .i64 (x-y)))):=by rw[←subI_eq];kernel_rfl
theorem bk_lss(x y:Int):binK Tryz.prog .lss 3 3 (dV (vI x)) (dV (vI y)) some=some (dV (.bool (ltI x y))):=by kernel_rfl
theorem bk_geq(x y:Int):binK Tryz.prog .geq 3 3 (dV (vI x)) (dV (vI y)) some=some (dV (.bool (leI y x))):=by kernel_rfl
set_option maxRecDepth 20000 in
set_option maxHeartbeats 4000000 in
theorem back52{n gb gm nS len cap:Nat}{p:Option Addr}{el:Nat→List Value}{l:Nat}{J Jx:List Nat→World→Prop}{W:World}
 (hgb:gb<nS∧gb≠gm) (hb:W.cell? ⟨gb,0,none⟩=some (.slice p len cap))
 (hel:0<len→∃A,p=some A∧A.block<nS∧A.block≠gm∧∀i,i<len→(el i).length=3∧∀(j:Nat) y,(el i)[j]?=some y→W.cell? ((A.add (i*3)).add j)=some y)
 (hmax:len≤maxLen)
 (hY:∀pre x W1,J pre W1→pre.length<len→YieldAt Fence.wide (n-1) Tryz.prog l #[vI (x:Nat),.agg (el x).toArray] W1 fun e W'=>
  (e=.returned (.bool true)∧J (pre++[x]) W'∧Kp nS gm W1 W')∨(e=.returned (.bool false)∧Jx (pre++[x]) W')) (h0:J [] W):
 CallsIn Fence.wide n Tryz.prog 56 #[.func (.yield l) #[] #[],.pointer (some ⟨gb,0,none⟩)] W fun e W'=>(∃v,e=.returned v) ∧
  ((∃xs,xs=pre len 0∧J xs W')∨(∃pre,True∧Jx pre W')):=by
 suffices H:∀R:Ending→World→Prop,(∀v W',J (pre len 0) W'→R (.returned v) W')→(∀v p W',Jx p W'→R (.returned v) W')→Calls Tryz.prog 56 #[.func (.yield l) #[] #[],.pointer (some ⟨gb,0,none⟩)] W R from
  callsIn_wide.2 (H _ (fun v W' h=>⟨⟨v,rfl⟩,.inl ⟨_,rfl,h⟩⟩) fun v p W' h=>⟨⟨v,rfl⟩,.inr ⟨p,trivial,h⟩⟩)
 intro R hR1 hR2
 refine calls_start (c:=cdOf Tryz.f56) [.func (.yield l) #[] #[],.pointer (some ⟨gb,0,none⟩)] 17 19 Tryz.func56 (by kernel_rfl) rfl (by kernel_rfl) fun a hf=>?_
 refine wp_seq (wp_reg (by kernel_rfl) ?_)
 refine op_load hf rfl rfl (by decide) s26 a26 rfl hb fun a hf=>?_
 refine op_len hf rfl rfl (by decide) u26 rfl fun a hf=>?_
 refine op_bin (v:=vI ((len:Int)-1)) hf rfl rfl (by decide) rfl rfl rfl rfl ?_ fun a hf=>?_
 ·rw[bk_sub,wr64 (by omega) (by have h:maxLen≤9223372036854775807:=(by decide);omega)]
 refine op_assign hf rfl rfl (by decide) rfl fun a hf=>?_
 refine wp_block ?_
 refine loop_ind (m:=len) (fun k a wr=>k≤len∧Fr 19 [(3,vI ((k:Int)-1)),(1,.pointer (some ⟨gb,0,none⟩)),(0,.func (.yield l) #[] #[])] a∧J (pre len k) wr∧Kp nS gm W wr) ?_ ?_
  ⟨Nat.le_refl _,hf.weak ⟨rfl,rfl,rfl,trivial⟩,by rw[pre_len];exact h0,fun _ _ _=>rfl⟩
 ·rintro K a wr ⟨_,hf,hJ,_⟩
  refine wp_seq (wp_seq (wp_reg (by kernel_rfl) ?_))
  refine op_move hf rfl rfl (by decide) rfl fun a hf=>?_
  refine op_bin (v:=.bool false) hf rfl rfl (by decide) rfl rfl rfl rfl (by kernel_rfl) fun a hf=>?_
  refine wp_cond_false (hf.ev rfl) (wp_exit ?_)
  exact norm_none (fn:=Tryz.f56) rfl hf fun v=>hR1 v _ hJ
 ·rintro m K hK a wr ⟨hm,hg,hJ,hk⟩
  obtain⟨A,rfl,hA1,hA2,hA⟩:=hel (by omega)
  have hf:=hg
  rw[show ((m+1:Nat):Int)-1=(m:Int) from by omega] at hf
  obtain⟨e1,e2⟩:=hA m (by omega)
  refine wp_seq (wp_seq (wp_reg (by kernel_rfl) ?_))
  refine op_move hf rfl rfl (by decide) rfl fun a hf=>?_
  refine op_bin (v:=.bool true) hf rfl rfl (by decide) rfl rfl rfl rfl ?_ fun a hf=>?_
  ·rw[bk_geq,leI_eq,decide_eq_true (by omega)]
  refine wp_cond_true (hf.ev rfl) (wp_skip ?_)
  refine wp_seq ((wpIn_wide (n:=n)).1 (wpIn_block (wpIn_seq (wp_regI (by kernel_rfl) ?_))))
  refine in_val wide_fn (fun c h=>by cases h) hf rfl (by decide) (rn_move hf rfl rfl) fun a hf=>?_
  refine in_val wide_fn (fun c h=>by cases h) hf rfl (by decide) (rn_move hf rfl rfl) fun a hf=>?_
  refine in_val wide_fn (fun c h=>by cases h) hf rfl (by decide) (rn_load hf rfl s26 a26 rfl (hk.cell hgb.1 hgb.2 hb)) fun a hf=>?_
  refine in_val wide_fn (fun c h=>by cases h) hf rfl (by decide) (rn_move hf rfl rfl) fun a hf=>?_
  refine in_val wide_fn (fun c h=>by cases h) hf rfl (by decide) (rn_index (m:=3) hf rfl u26 s39 rfl rfl (by omega) (by omega)) fun a hf=>?_
  refine in_val wide_fn (fun c h=>by cases h) hf rfl (by decide) (rn_loadA (ys:=el m) hf rfl (by rw[e1];exact s39) a39 rfl fun i y hi=>?_) fun a hf=>?_
  ·rw[Int.toNat_natCast]
   exact hk.cell (by rw[add_block,add_block];exact hA1) (by rw[add_block,add_block];exact hA2) (e2 i y hi)
  refine in_yield wide_fn hf rfl rfl rfl rfl (by decide) rfl (fun h=>by cases h) (hY (pre len (m+1)) m wr hJ (by rw[pre_length];omega)) fun e w1 he=>?_
  rcases he with⟨rfl,hJ2,hk2⟩ | ⟨rfl,hJx⟩
  ·refine⟨_,rfl,fun a hf=>?_⟩
   refine in_val wide_fn (fun c h=>by cases h) hf rfl (by decide) (rn_not hf rfl rfl) fun a hf=>?_
   refine wpIn_cond_false (hf.ev rfl) (wpIn_skip ?_)
   refine wp_reg (by kernel_rfl) ?_
   refine op_move hf rfl rfl (by decide) rfl fun a hf=>?_
   refine op_bin (v:=vI ((m:Int)-1)) hf rfl rfl (by decide) rfl rfl rfl rfl ?_ fun a hf=>?_
   ·rw[bk_sub,wr64 (by omega) (by have h:maxLen≤9223372036854775807:=(by decide);omega)]
   refine op_assign hf rfl rfl (by decide) rfl fun a hf=>?_
   exact hK a w1 ⟨by omega,hf.weak ⟨rfl,rfl,rfl,trivial⟩,by rw[←pre_step (by omega)];exact hJ2,hk.trans hk2⟩
  ·refine⟨_,rfl,fun a hf=>?_⟩
   refine in_val wide_fn (fun c h=>by cases h) hf rfl (by decide) (rn_not hf rfl rfl) fun a hf=>?_
   refine wpIn_cond_true (hf.ev rfl) (wpIn_ret ?_)
   exact ret_none (fn:=Tryz.f56) rfl hf fun v=>hR2 v _ _ hJx
theorem back32(v:Value)(w:World)(hv:v.cells=#[v]):Calls Tryz.prog 34 #[v] w fun e w'=>e=.returned (.func (.func 56) #[] #[.pointer (some ⟨w.heap.size,0,none⟩)])∧w'=w.alloc (.cells #[v] 28):=by
 refine calls_start (c:=cdOf Tryz.f34) [v] 3 4 Tryz.func34 (by kernel_rfl) rfl (by kernel_rfl) fun a hf=>?_
 refine wp_seq (wp_reg (by kernel_rfl) ?_)
 refine op_val hf rfl (by decide) (rn_box hf rfl rfl) fun a hf=>?_
 refine op_assign hf rfl rfl (by decide) rfl fun a hf=>?_
 refine wp_seq (wp_reg (by kernel_rfl) ?_)
 refine op_val hf rfl (by decide) (rn_func hf rfl rfl) fun a hf=>?_
 refine op_assign hf rfl rfl (by decide) rfl fun a hf=>?_
 exact wp_ret (ret_one rfl hf rfl ⟨rfl,by rw[hv]⟩)
end Go.Eng.En
namespace Go.Eng.En
open Go.Eng Go.RowKit Go.Proofs
def IsD(idN:Nat→Int)(nmN:Nat→ByteArray)(argN:Nat→List T)(D:List T):Prop:=∀(i:Nat) x,D[i]?=some x→T.cell x 0=.v (vI (idN i))∧T.cell x 1=.v (.string (nmN i))∧T.sl? 7 (T.cell x 2)=some (argN i)
theorem sl_rd{w:World}{X:Nat→Prop}{k:Nat}{t:T}{l:List T}{v:Value}(h:T.sl? k t=some l)(hr:Rd w X t v)(hk:k<1000000000):Rd w X (.sl k l) v:=by
 unfold T.sl? at h
 split at h
 ·rw[if_pos hk] at h;cases h
  cases hr
  exact .nil k hk
 ·split at h
  ·rename_i e;cases h;subst e;exact hr
  ·cases h
 ·cases h
theorem ents{w:World}{X:Nat→Prop}{idN:Nat→Int}{nmN:Nat→ByteArray}{argN:Nat→List T}{D:List T}{vd:Value}(h:Rd w X (.sl 3 D) vd)(hd:IsD idN nmN argN D):
 ∃(p:Option Addr) (cap:Nat) (slN:Nat→Value),vd=.slice p D.length cap∧D.length≤maxLen∧(∀i,(slN i:Value).oneCell'=true) ∧
  (0<D.length→∃A,p=some A∧A.block<w.heap.size∧∀i,i<D.length→∀(j:Nat) y,[vI (idN i),.string (nmN i),slN i][j]?=some y→w.cell? ((A.add (i*3)).add j)=some y) ∧
  ∀i,i<D.length→Rd w (fun _=>False) (.sl 7 (argN i)) (slN i):=by
 have hr:=h
 cases h with
 | mp n l g es clock hn=>omega
 | nil k hk=>exact⟨none,0,fun _=>.slice none 0 0,rfl,by decide,fun _=>rfl,fun h=>(by simp at h),fun i hi=>(by simp at hi)⟩
 | sl k l A c ys hk hc hm hu hy hcell hrr=>
  have key:∀i,∃v:Value,v.oneCell'=true∧(i<D.length→Rd w (fun _=>False) (.sl 7 (argN i)) v∧A.block<w.heap.size∧∀(j:Nat) y,[vI (idN i),.string (nmN i),v][j]?=some y→w.cell? ((A.add (i*3)).add j)=some y):=by
   intro i
   by_cases hi:i<D.length
   ·obtain⟨x,hx⟩:∃x,D[i]?=some x:=⟨_,List.getElem?_eq_getElem hi⟩
    obtain⟨_,hl,ys,h1,h2,h3⟩:=hr.elem hx
    obtain⟨d0,d1,d2⟩:=hd i x hx
    match ys,h1 with
    | [y0,y1,y2],_=>
    match hxc:x.cells,hl with
    | [c0,c1,c2],_=>
    have e0:c0=.v (vI (idN i)):=by unfold T.cell at d0;rw[hxc] at d0;exact d0
    have e1:c1=.v (.string (nmN i)):=by unfold T.cell at d1;rw[hxc] at d1;exact d1
    have e2:T.sl? 7 c2=some (argN i):=by unfold T.cell at d2;rw[hxc] at d2;exact d2
    have r0:=h3 0 c0 y0 (by rw[hxc];rfl) rfl
    have r1:=h3 1 c1 y1 (by rw[hxc];rfl) rfl
    have r2:=h3 2 c2 y2 (by rw[hxc];rfl) rfl
    rw[e0] at r0
    rw[e1] at r1
    have f0:=r0.inv_v
    have f1:=r1.inv_v
    subst f0;subst f1
    have hb:=World.block_lt_of_cell? w _ (h2 0 _ rfl).1
    rw[add_block,add_block] at hb
    exact⟨y2,(h2 2 y2 rfl).2.2,fun _=>⟨(sl_rd e2 r2 (by decide)).weak fun _ h=>h.elim,hb,fun j y hj=>(h2 j y hj).1⟩⟩
   ·exact⟨.slice none 0 0,rfl,fun h=>absurd h hi⟩
  have hsl:=fun i=>Classical.choose_spec (key i)
  refine⟨some A,c,fun i=>Classical.choose (key i),rfl,by omega,fun i=>(hsl i).1,fun h0=>⟨A,rfl,((hsl 0).2 h0).2.1,fun i hi=>((hsl i).2 hi).2.2⟩,fun i hi=>((hsl i).2 hi).1⟩
noncomputable def wordsF(idN:Nat→Int)(nmN:Nat→ByteArray)(l:List Nat):List T:=l.foldl (fun m i=>mapPut (.v (vI (idN i))) (.v (.string (nmN i))) m) []
theorem wordsF_snoc(idN:Nat→Int)(nmN:Nat→ByteArray)(l:List Nat)(i:Nat):wordsF idN nmN (l++[i])=mapPut (.v (vI (idN i))) (.v (.string (nmN i))) (wordsF idN nmN l):=by
 unfold wordsF;rw[List.foldl_append];rfl
structure Bk (w W:World) (vh vd:Value) (m:List T):Prop where
 stp:Stp (fun _=>False) w W
 b1:W.heap[w.heap.size]?=some (.cells #[vh,vd] 30 (0,0))
 bm:∃es clock,W.heap[w.heap.size+1]?=some (.map es clock)∧EntL W (fun b=>w.heap.size≤b) 1000000000 m es clock
 b3:W.heap[w.heap.size+2]?=some (.cells #[.map (some (w.heap.size+1))] 73 (0,0))
 sz:w.heap.size+4≤W.heap.size
theorem Bk.step{w W W':World}{vh vd:Value}{m:List T}(h:Bk w W vh vd m)(hs:Stp (fun b=>w.heap.size+4≤b) W W'):Bk w W' vh vd m:=by
 have lt:∀{k:Nat} {o:Obj},W.heap[k]?=some o→k<W.heap.size:=fun h=>(Array.getElem?_eq_some_iff.1 h).1
 obtain⟨es,clock,hm,he⟩:=h.bm
 exact⟨h.stp.after hs fun b hb hlt=>by omega,(hs.blk _ (lt h.b1) (by omega)).trans h.b1,⟨es,clock,(hs.blk _ (lt hm) (by omega)).trans hm,he.step hs (fun b hb=>by omega) fun b hb=>.inl hb⟩,(hs.blk _ (lt h.b3) (by omega)).trans h.b3,Nat.le_trans h.sz hs.size⟩
def Ax(w:World)(el:Nat→List Value)(x:Nat)(a:Act)(W:World):Prop:=∃g,w.heap.size+4≤g∧W.heap[g]?=some (.cells (el x).toArray 56 (0,0))∧Fr 44 [(5,.pointer (some ⟨g,0,none⟩)),(3,.pointer (some ⟨w.heap.size+2,0,none⟩))] a
theorem s80:szO Tryz.prog 73=some 1:=by kernel_rfl
theorem a80:aggO Tryz.prog 73=some false:=by kernel_rfl
theorem s3:szO Tryz.prog 3=some 1:=by kernel_rfl
theorem a3:aggO Tryz.prog 3=some false:=by kernel_rfl
theorem s9:szO Tryz.prog 9=some 1:=by kernel_rfl
theorem a9:aggO Tryz.prog 9=some false:=by kernel_rfl
theorem u80:Tryz.prog.underlying 73=some (.map 3 9):=by kernel_rfl
theorem k3:keyKd Tryz.prog 3=some 0:=by kernel_rfl
theorem f39:∃fs,Tryz.prog.underlying 56=some (.struct fs)∧fs.toList.map (fun f=>(f.type,f.offset))=[(3,0),(41,1)]:=by
 have h:(match Tryz.prog.underlying 56 with
  | some (.struct fs)=>decide (fs.toList.map (fun f=>(f.type,f.offset))=[(3,0),(41,1)])
  | _=>false)=true:=by kernel_rfl
 split at h
 ·rename_i fs e;exact⟨fs,e,of_decide_eq_true h⟩
 ·cases h
end Go.Eng.En
namespace Go.Eng.En
open Go.Eng Go.RowKit Go.Proofs
def cdGo:List Nat→Code→Code
 | [],c=>c
 | 0::p,.seq x _=>cdGo p x
 | _::p,.seq _ y=>cdGo p y
 | 0::p,.cond _ x _=>cdGo p x
 | _::p,.cond _ _ y=>cdGo p y
 | _::p,.block _ x=>cdGo p x
 | _::p,.loop x=>cdGo p x
 | _::_,c=>c
theorem f37:∃fs,Tryz.prog.underlying 41=some (.struct fs)∧fs.toList.map (fun f=>(f.type,f.offset))=[(9,0),(39,1)]:=by
 have h:(match Tryz.prog.underlying 41 with
  | some (.struct fs)=>decide (fs.toList.map (fun f=>(f.type,f.offset))=[(9,0),(39,1)])
  | _=>false)=true:=by kernel_rfl
 split at h
 ·rename_i fs e;exact⟨fs,e,of_decide_eq_true h⟩
 ·cases h
theorem f28:∃fs,Tryz.prog.underlying 30=some (.struct fs)∧fs.toList.map (fun f=>(f.type,f.offset))=[(27,0),(28,1)]:=by
 have h:(match Tryz.prog.underlying 30 with
  | some (.struct fs)=>decide (fs.toList.map (fun f=>(f.type,f.offset))=[(27,0),(28,1)])
  | _=>false)=true:=by kernel_rfl
 split at h
 ·rename_i fs e;exact⟨fs,e,of_decide_eq_true h⟩
 ·cases h
theorem s37:szO Tryz.prog 41=some 2:=by kernel_rfl
theorem a37:aggO Tryz.prog 41=some true:=by kernel_rfl
theorem fld{fs:Array Field}{l:List (TypeId×Nat)}(h:fs.toList.map (fun f=>(f.type,f.offset))=l)(i:Nat){t o:Nat}(hi:l[i]?=some (t,o)):∃fd,fs[i]?=some fd∧fd.type=t∧fd.offset=o:=by
 rw[←h,List.getElem?_map,Array.getElem?_toList] at hi
 cases hf:fs[i]? with
 | none=>rw[hf] at hi;cases hi
 | some fd=>rw[hf] at hi;simp only[Option.map_some,Option.some.injEq,Prod.mk.injEq] at hi;exact⟨fd,rfl,hi.1,hi.2⟩
section
variable {F:Fence} {m:Nat} {n:Nat} {env:List (Nat×Value)} {Df:List Deferred} {a:Act} {w w':World} {Q:Exit→Act→World→Prop} {o:Oper} {next:Act→World→Prop}
theorem rn_fld{P:Program}{x:Operand}{t:TypeId}{f z off ty:Nat}{A:Addr}{l:List (TypeId×Nat)}(hf:Fr n env a Df)(hop:o.op=.fieldAddr t x f)(hu:∃fs,P.underlying t=some (.struct fs)∧fs.toList.map (fun f=>(f.type,f.offset))=l)(hi:l[f]?=some (ty,off))(hz:szO P ty=some z)(hz0:z≠0)
 (hx:evE env x=some (.pointer (some A))):(execOp a.eval o).run P w=.ok (.value (.pointer (some (A.add off)))) w:=by
 obtain⟨fs,h1,h2⟩:=hu
 obtain⟨fd,h3,h4,h5⟩:=fld h2 f hi
 rw[←h5]
 exact rn_field hf hop h1 h3 (by rw[h4];exact hz) hz0 hx
theorem rn_mapUpd{P:Program}{t:TypeId}{x y z:Operand}{vm vk vv:Value}(hf:Fr n env a Df)(hop:o.op=.mapUpdate t x y z)(hx:evE env x=some vm)(hy:evE env y=some vk)(hz:evE env z=some vv)(hrun:(Instr.mapUpdate t vm vk vv).run P w=.ok () w'):
 (execOp a.eval o).run P w=.ok .skip w':=by
 unfold execOp;rw[hop];simp only[hf.ev hx,hf.ev hy,hf.ev hz,Sem.run_bind,hrun,Result.andThen_ok];rfl
theorem Fr.rnd(h:Fr n env a){p q:Nat}(hp:p<n)(hq:q<n)(u v:Value):Fr n ((q,v)::(p,u)::env) { tmps:=((#[p,q]:Array Nat).zip #[u,v]).foldl (fun t (p,v)=>t.setIfInBounds p v) a.tmps,defers:=[] }:=by
 have e:(#[p,q]:Array Nat).zip #[u,v]=#[(p,u),(q,v)]:=by simp[Array.zip]
 rw[e]
 have e2:(#[(p,u),(q,v)]:Array (Nat×Value)).foldl (fun t (p,v)=>t.setIfInBounds p v) a.tmps=(a.tmps.setIfInBounds p u).setIfInBounds q v:=rfl
 rw[e2]
 have h1:=((h.put hp u).put hq v)
 exact⟨h1.size,rfl,h1.get⟩
end
theorem al{w:World}(o:Obj){k:Nat}{x:Obj}(h:w.heap[k]?=some x):(w.alloc o).heap[k]?=some x:=(Below.heap_alloc w o k (Array.getElem?_eq_some_iff.1 h).1).trans h
theorem al0(w:World)(o:Obj){k:Nat}(h:k=w.heap.size):(w.alloc o).heap[k]?=some o:=by subst h;exact World.alloc_heap_new w o
def elF(idN:Nat→Int)(nmN:Nat→ByteArray)(slN:Nat→Value)(i:Nat):List Value:=[vI (idN i),.string (nmN i),slN i]
def wS(w:World)(vh vd:Value):World:=(((w.alloc (.cells #[vh,vd] 30)).alloc (.map #[] 0)).alloc (.cells #[.map (some (w.heap.size+1))] 73)).alloc (.cells #[vd] 28)
theorem wS_size(w:World)(vh vd:Value):(wS w vh vd).heap.size=w.heap.size+4:=by unfold wS;simp only[World.size_alloc]
theorem wS_stp(w:World)(vh vd:Value):Stp (fun _=>False) w (wS w vh vd):=(((Stp.alloc _ _ _).trans (Stp.alloc _ _ _)).trans (Stp.alloc _ _ _)).trans (Stp.alloc _ _ _)
theorem wS_bk(w:World)(vh vd:Value):Bk w (wS w vh vd) vh vd []:=by
 refine⟨wS_stp w vh vd,?_,⟨#[],0,?_,⟨rfl,fun i t e h1 _=>by simp at h1,fun i k v e h1 _=>by simp at h1,rfl,fun i e h1=>by simp at h1⟩⟩,?_,Nat.le_of_eq (wS_size w vh vd).symm⟩
 ·exact al _ (al _ (al _ (al0 _ _ rfl)))
 ·exact al _ (al _ (al0 _ _ (by simp only[World.size_alloc])))
 ·exact al _ (al0 _ _ (by simp only[World.size_alloc]))
theorem wS_gb(w:World)(vh vd:Value):(wS w vh vd).cell? ⟨w.heap.size+3,0,none⟩=some vd:=by
 have h:(wS w vh vd).heap[w.heap.size+3]?=some (.cells #[vd] 28):=al0 _ _ (by simp only[World.size_alloc])
 simp only[World.cell?,h]
 rfl
set_option maxRecDepth 20000 in
set_option maxHeartbeats 4000000 in
theorem round{idN:Nat→Int}{nmN:Nat→ByteArray}{slN:Nat→Value}{w W:World}{vh vd:Value}{mp:List T}{x l k:Nat}{a:Act}{c:Code}{Q:Exit→Act→World→Prop}
 (hc:c=(match cdGo [1,1,0,1] (cdOf Tryz.f14) with | .block _ (.rangeFunc _ _ _ b)=>b | c=>c)) (hB:Bk w W vh vd mp) (hA:Ax w (elF idN nmN slN) x a W)
 (hn:∀a' es clock,Bk w (setMap W (w.heap.size+1) es clock) vh vd (mapPut (.v (vI (idN x))) (.v (.string (nmN x))) mp)→Q .normal a' (setMap W (w.heap.size+1) es clock)):c.wpIn (Fence.wide.inRound l) k Tryz.prog Q a W:=by
 subst hc
 obtain⟨g,hg,hcell,hf⟩:=hA
 have hfn:∀f,(Fence.wide.inRound l).fn f:=fun f=>trivial
 have hcl:∀(j:Nat) y,(elF idN nmN slN x)[j]?=some y→W.cell? ⟨g,j,none⟩=some y:=fun j y hj=>by
  simp only[World.cell?,hcell]
  simpa using hj
 obtain⟨es,clock,hm,he⟩:=hB.bm
 refine wpIn_block (wp_regI (by kernel_rfl) ?_)
 refine in_val hfn (fun c h=>by cases h) hf rfl (by decide) (rn_load hf rfl s80 a80 rfl (by simp only[World.cell?,hB.b3];rfl)) fun a hf=>?_
 refine in_val hfn (fun c h=>by cases h) hf rfl (by decide) (rn_fld hf rfl f39 rfl s3 (by decide) rfl) fun a hf=>?_
 refine in_val hfn (fun c h=>by cases h) hf rfl (by decide) (rn_load hf rfl s3 a3 rfl (hcl 0 _ rfl)) fun a hf=>?_
 refine in_val hfn (fun c h=>by cases h) hf rfl (by decide) (rn_fld hf rfl f39 rfl s37 (by decide) rfl) fun a hf=>?_
 refine in_val hfn (fun c h=>by cases h) hf rfl (by decide) (rn_fld hf rfl f37 rfl s9 (by decide) rfl) fun a hf=>?_
 refine in_val hfn (fun c h=>by cases h) hf rfl (by decide) (rn_load hf rfl s9 a9 rfl (hcl 1 _ rfl)) fun a hf=>?_
 have hkk:keyV 0 (.v (vI (idN x)))=some (vI (idN x)):=rfl
 have hr:Rd W (fun b=>w.heap.size≤b) (.v (.string (nmN x))) (.string (nmN x)):=.v _
 obtain⟨p1,p2⟩:=ent_put (kk:=.v (vI (idN x))) (kv:=vI (idN x)) (tv:=.v (.string (nmN x))) he rfl hkk hr (.inr rfl)
 have fin:∀es' clock',(Instr.mapUpdate 73 (.map (some (w.heap.size+1))) (vI (idN x)) (.string (nmN x))).run Tryz.prog W=.ok () (setMap W (w.heap.size+1) es' clock') →
  EntL W (fun b=>w.heap.size≤b) 1000000000 (mapPut (.v (vI (idN x))) (.v (.string (nmN x))) mp) es' clock'→∃es clock,(Instr.mapUpdate 73 (.map (some (w.heap.size+1))) (vI (idN x)) (.string (nmN x))).run Tryz.prog W=.ok () (setMap W (w.heap.size+1) es clock) ∧
  Bk w (setMap W (w.heap.size+1) es clock) vh vd (mapPut (.v (vI (idN x))) (.v (.string (nmN x))) mp):=fun es' clock' h1 h2=>by
  have hs:=setMap_stp W (w.heap.size+1) es' clock'
  have lt:∀{k:Nat} {o:Obj},W.heap[k]?=some o→k<W.heap.size:=fun h=>(Array.getElem?_eq_some_iff.1 h).1
  refine⟨es',clock',h1,hB.stp.after hs fun b hb hlt=>by omega,(hs.blk _ (lt hB.b1) (by omega)).trans hB.b1,⟨es',clock',?_,h2.step hs (fun b hb=>by omega) fun b hb=>.inl hb⟩,(hs.blk _ (lt hB.b3) (by omega)).trans hB.b3,Nat.le_trans hB.sz hs.size⟩
  have:=lt hm
  simp[setMap,this]
 obtain⟨es1,clock1,r1,r2⟩:∃es clock,(Instr.mapUpdate 73 (.map (some (w.heap.size+1))) (vI (idN x)) (.string (nmN x))).run Tryz.prog W=.ok () (setMap W (w.heap.size+1) es clock) ∧
  Bk w (setMap W (w.heap.size+1) es clock) vh vd (mapPut (.v (vI (idN x))) (.v (.string (nmN x))) mp):=by
  rcases run_mapUpdate u80 k3 hkk rfl hm he.1 he.2.1 (.string (nmN x)) with⟨q1,q2⟩ | ⟨j,q1,q2⟩
  ·exact fin _ _ q2 (p1 q1)
  ·exact fin _ _ q2 (p2 j q1)
 refine in_skip hfn (fun c h=>by cases h) hf rfl (rn_mapUpd hf rfl rfl rfl rfl r1) fun a hf=>?_
 exact hn a _ _ r2
end Go.Eng.En
namespace Go.Eng.En
open Go.Eng Go.RowKit Go.Proofs
abbrev mkD(D:Nat):List Deferred:=[{ target:=.collected D,args:=#[] }]
noncomputable def infoB(t n:Nat):Bool:=match Tryz.prog.info? t with
 | some i=>match i.zero with
  | some z=>decide (z.cells.size=n)
  | none=>false
 | none=>false
theorem infoB_ok{t n:Nat}(h:infoB t n=true):∃i z,Tryz.prog.info? t=some i∧i.zero=some z∧z.cells.size=n:=by
 unfold infoB at h
 split at h
 ·rename_i i hi
  split at h
  ·rename_i z hz
   exact⟨i,z,hi,hz,of_decide_eq_true h⟩
  ·cases h
 ·cases h
theorem Fr.mark1{n:Nat}{env:List (Nat×Value)}{a:Act}(h:Fr n env a)(d:Deferred):Fr n env { a with defers:=d::a.defers } [d]:=⟨h.size,by rw[h.defers],h.get⟩
theorem c32:Callable Tryz.prog 34:=⟨_,Tryz.func34,by kernel_rfl,by kernel_rfl⟩
theorem c52:Callable Tryz.prog 56:=⟨_,Tryz.func56,by kernel_rfl,by kernel_rfl⟩
set_option maxRecDepth 20000 in
set_option maxHeartbeats 8000000 in
theorem typed1{idN:Nat→Int}{nmN:Nat→ByteArray}{slN:Nat→Value}{w:World}{vh:Value}{p:Option Addr}{len cap:Nat}{R:Ending→World→Prop}(hmax:len≤maxLen)(h1:∀i,(slN i).oneCell'=true)(hvh:vh.oneCell'=true)
 (hel:0<len→∃A,p=some A∧A.block<w.heap.size∧∀i,i<len→∀(j:Nat) y,[vI (idN i),.string (nmN i),slN i][j]?=some y→w.cell? ((A.add (i*3)).add j)=some y)
 (hpost:∀a W D,Fr 44 [(3,.pointer (some ⟨w.heap.size+2,0,none⟩)),(2,.slice none 0 0),(1,.pointer (some ⟨w.heap.size,0,none⟩))] a (mkD D)→Bk w W vh (.slice p len cap) (wordsF idN nmN (pre len 0))→W.heap[D]?=some (.deferred (some []))→w.heap.size+4≤D →
  (cdGo [1,1,1] (cdOf Tryz.f14)).wp Tryz.prog (bodyPostM Fence.wide 10 Tryz.prog Tryz.f14 R) a W):
 Calls Tryz.prog 14 #[.agg #[vh,.slice p len cap]] w R:=by
 refine callsM_start (c:=cdOf Tryz.f14) (k:=10) [.agg #[vh,.slice p len cap]] 43 44 Tryz.func14 (by kernel_rfl) rfl (by kernel_rfl) fun a hf=>?_
 refine wp_seq (wp_reg (by kernel_rfl) ?_)
 refine op_val hf rfl (by decide) (rn_box hf rfl rfl) fun a hf=>?_
 refine op_assign hf rfl rfl (by decide) rfl fun a hf=>?_
 refine wp_seq (wp_reg (by kernel_rfl) ?_)
 refine op_val hf rfl (by decide) (rn_makeMap rfl) fun a hf=>?_
 obtain⟨i80,z80,hi80,hz80,hs80⟩:=infoB_ok (t:=73) (n:=1) (by kernel_rfl)
 obtain⟨i39,z39,hi39,hz39,hs39⟩:=infoB_ok (t:=56) (n:=3) (by kernel_rfl)
 refine op_val hf rfl (by decide) (rn_alloc rfl hi80 hz80) fun a hf=>?_
 refine op_skip hf rfl (rn_storeN hf rfl (cs:=#[.map (some (w.heap.size+1))]) s80 rfl (by simp only[World.size_alloc];rfl) rfl (by simp;rfl) (World.alloc_heap_new _ _) (by rw[hs80];rfl)) fun a hf=>?_
 rw[World.setRow_alloc_new]
 refine wp_seq (wp_seq (wp_reg (by kernel_rfl) ?_))
 refine op_val hf rfl (by decide) (rn_fld hf rfl f28 rfl s26 (by decide) rfl) fun a hf=>?_
 have hw3:∀(W:World),W=((w.alloc (.cells #[vh,.slice p len cap] 30)).alloc (.map #[] 0)).alloc (.cells #[.map (some (w.heap.size+1))] 73)→W.cell? ⟨w.heap.size,1,none⟩=some (.slice p len cap)∧W.heap.size=w.heap.size+3:=fun W hW=>by
  subst hW
  have h:(((w.alloc (.cells #[vh,.slice p len cap] 30)).alloc (.map #[] 0)).alloc (.cells #[.map (some (w.heap.size+1))] 73)).heap[w.heap.size]?=some (.cells #[vh,.slice p len cap] 30):=al _ (al _ (al0 _ _ rfl))
  exact⟨by simp only[World.cell?,h];rfl,by simp only[World.size_alloc]⟩
 refine op_load hf rfl rfl (by decide) s26 a26 rfl (hw3 _ rfl).1 fun a hf=>?_
 refine op_call hf rfl rfl rfl (by decide) c32 rfl (back32 (.slice p len cap) _ rfl) fun e w' he=>?_
 obtain⟨rfl,rfl⟩:=he
 refine⟨_,rfl,fun a hf=>?_⟩
 simp only[World.size_alloc] at hf
 show Code.wp Tryz.prog (.block 0 _) _ a (wS w vh (.slice p len cap))
 have hS:=wS_size w vh (.slice p len cap)
 refine wp_block ((wpIn_wide (n:=10)).1 ?_)
 refine wpIn_rangeFunc_ownH (α:=Nat) rfl (by decide) (gf:=56) (lb:=#[.pointer (some ⟨w.heap.size+3,0,none⟩)]) (hf.ev rfl) trivial (fun args w=>callFunc_run c52)
  (encs:=fun i=>#[vI (i:Nat),.agg (elF idN nmN slN i).toArray]) (Kp:=Kp (w.heap.size+4) (w.heap.size+1)) (S:=fun xs=>xs=pre len 0) (Sp:=fun _=>True) (N:=len) (w0:=wS w vh (.slice p len cap)) ?seq
  (fun h k=>h.trans k) (fun W l o o' hl _ _ _ b hb _=>?kb) (Below.refl _ _) (fun _=>rfl)
  (fun pre W=>Bk w W vh (.slice p len cap) (wordsF idN nmN pre)) (fun _ _ _=>False) ?own (fun _ _ _ _ _ hs _ _=>hs) (wS_bk w vh _) (Ax w (elF idN nmN slN)) ?axo ?assign ?body ?done ?stop
 case kb=>exact World.putObj_heap_other (by rw[hS] at hl;omega)
 case own=>
  intro s A B row hs hg hr
  refine hs.step (Stp.grown hg fun g e=>?_)
  have:=(hr g e).1
  rw[hS] at this
  exact this
 case axo=>
  rintro x a' _ A B row ⟨g,hg1,hg2,hf⟩ hgr hr
  refine⟨g,hg1,(hgr.block g (Array.getElem?_eq_some_iff.1 hg2).1 fun e=>?_).trans hg2,hf⟩
  obtain⟨o,ho,hc⟩:=(hr g e.symm).2
  rw[hg2] at ho
  cases ho
  cases hc
 case stop=>exact fun D c pre W _ _ h _=>h.elim
 case done=>
  intro D xs W hD hxs hI hd
  subst hxs
  rw[hS] at hD
  exact hpost _ W D ((Fr.mark1 hf _).weak ⟨rfl,rfl,rfl,trivial⟩) hI hd hD
 case body=>
  intro l pre x a' W hl hrec hI hA hlen
  have hA0:=hA
  refine round rfl hI hA0 fun a' es clock hB=>?_
  have hst:=setMap_stp W (w.heap.size+1) es clock
  refine⟨⟨hst.size,fun k o hk h1 _=>(hst.blk k (Array.getElem?_eq_some_iff.1 h1).1 (by rw[hS] at hk;omega)).trans h1⟩,fun b hb hne=>?_,by show Bk w _ vh _ (wordsF idN nmN (pre++[x]));rw[wordsF_snoc];exact hB⟩
  have hsz:=hI.b3
  have:=(Array.getElem?_eq_some_iff.1 hsz).1
  by_cases hbl:b<W.heap.size
  ·exact hst.blk b hbl hne
  ·rw[Array.getElem?_eq_none (by have:=hst.size;show (setMap W _ _ _).heap.size≤b;simp[setMap];omega),Array.getElem?_eq_none (by omega)]
 case assign=>
  intro l pre x W K hI hK
  have hfn:∀f,(Fence.wide.inRound l).fn f:=fun f=>trivial
  have hfr:=Fr.rnd hf (p:=14) (q:=15) (by decide) (by decide) (vI (x:Nat)) (.agg (elF idN nmN slN x).toArray)
  refine wp_regI (by kernel_rfl) ?_
  refine in_val hfn (fun c h=>by cases h) hfr rfl (by decide) (rn_alloc rfl hi39 hz39) fun a hf=>?_
  refine in_skip hfn (fun c h=>by cases h) hf rfl (rn_storeN hf rfl (cs:=(elF idN nmN slN x).toArray) s39 rfl rfl rfl (fun v hv=>?_) (World.alloc_heap_new _ _) (by rw[hs39];rfl)) fun a hf=>?_
  ·simp only[elF,List.mem_cons,List.not_mem_nil,or_false] at hv
   rcases hv with rfl | rfl | rfl
   ·rfl
   ·rfl
   ·exact h1 x
  rw[World.setRow_alloc_new]
  have hst:=Stp.alloc (fun _=>False) W (.cells (elF idN nmN slN x).toArray 56)
  have hbl:∀(k:Nat) (o:Obj),W.heap[k]?=some o→(W.alloc (.cells (elF idN nmN slN x).toArray 56)).heap[k]?=some o:=fun k o h=>al _ h
  refine hK a _ ⟨hst.size,fun k o _ h1 _=>hbl k o h1⟩ (fun b hb _=>hst.blk b (by have:=hI.sz;omega) id) (hI.step (hst.mono fun _ h=>h.elim)) ⟨W.heap.size,hI.sz,World.alloc_heap_new _ _,hf.weak ⟨rfl,rfl,trivial⟩⟩
 case seq=>
  intro l J Jx W hW _ _ hY h0
  rw[hS] at hW
  have hcw:∀{q:Addr} {v:Value},q.block<w.heap.size+4→(wS w vh (.slice p len cap)).cell? q=some v→W.cell? q=some v:=fun hq hc=>(World.cell?_of_block (hW.block _ hq)).trans hc
  refine(back52 (n:=9) (gb:=w.heap.size+3) (gm:=w.heap.size+1) (nS:=w.heap.size+4) (el:=elF idN nmN slN) (p:=p) (len:=len) (cap:=cap) ⟨by omega,by omega⟩ (hcw (by show w.heap.size+3<_;omega) (wS_gb w vh _)) (fun h0=>?_) hmax hY h0).mono fun e W' h=>h
  obtain⟨A,rfl,hA1,hA2⟩:=hel h0
  refine⟨A,rfl,by omega,by omega,fun i hi=>⟨rfl,fun j y hj=>hcw (by rw[add_block,add_block];omega) ?_⟩⟩
  exact(wS_stp w vh _).cell (hA2 i hi j y hj) id
end Go.Eng.En
namespace Go.Eng
open Go.Proofs
def sg_entity_rulesT:Sig:={ na:=1,np:=0,hin:={ items:=[.slot 0],shapes:=[.str] },nres:=1,kept:=[],nnew:=0,hout:={ items:=[.slot 0],shapes:=[.tree] },nob:=182 }
noncomputable def u_entity_rulesT(t:(ByteArray×Unit)):Option (T×Unit):=
 (ob (α:=((Unit×Unit×Unit×Unit×Unit×Unit×ByteArray×Bool×List T×Int×Int×T×List T×Int×Int×T×List T×Int×Int×T×Unit)⊕Empty)) (bif (Go.Eng.eqS t.1 (ByteArray.mk #[67,65,82,84,69,83,73,65,78,95,80,79,73,78,84])) then (some (Sum.inl ((),(),(),(),(),(),t.1,(Go.Eng.eqS t.1 (ByteArray.mk #[67,65,82,84,69,83,73,65,78,95,80,79,73,78,84])),[(Go.Eng.T.v (Go.Value.int Go.IntKind.i64 (3:Int)))],(0:Int),(0:Int),(Go.Eng.T.v (Go.Value.slice (Option.none) 0 0)),[(Go.Eng.T.v (Go.Value.int Go.IntKind.i64 (1:Int))),(Go.Eng.T.v (Go.Value.int Go.IntKind.i64 (2:Int)))],(0:Int),(0:Int),(Go.Eng.T.v (Go.Value.slice (Option.none) 0 0)),[(Go.Eng.T.v (Go.Value.int Go.IntKind.i64 (1:Int)))],(0:Int),(0:Int),(Go.Eng.T.v (Go.Value.slice (Option.none) 0 0)),()))) else (some (Sum.inl ((),(),(),(),(),(),t.1,(Go.Eng.eqS t.1 (ByteArray.mk #[68,73,82,69,67,84,73,79,78])),[(Go.Eng.T.v (Go.Value.int Go.IntKind.i64 (3:Int)))],(0:Int),(0:Int),(Go.Eng.T.v (Go.Value.slice (Option.none) 0 0)),[(Go.Eng.T.v (Go.Value.int Go.IntKind.i64 (1:Int))),(Go.Eng.T.v (Go.Value.int Go.IntKind.i64 (2:Int)))],(0:Int),(0:Int),(Go.Eng.T.v (Go.Value.slice (Option.none) 0 0)),[(Go.Eng.T.v (Go.Value.int Go.IntKind.i64 (1:Int)))],(0:Int),(0:Int),(Go.Eng.T.v (Go.Value.slice (Option.none) 0 0)),())))) fun q0=>onS q0 (fun t1=>(bif t1.2.2.2.2.2.2.2.1 then (ob (Go.Eng.T.sl? 1 t1.2.2.2.2.2.2.2.2.2.2.2.2.2.2.2.1) fun x2=>(ob (Go.Eng.u_entity_rules_2 (t1.2.2.2.2.2.2.2.2.2.2.2.2.1,t1.2.2.2.2.2.2.2.2.2.2.2.2.2.1,t1.2.2.2.2.2.2.2.2.2.2.2.2.2.2.1,x2,(3:Int),(3:Int),())) fun x3=>(ob (Go.Eng.T.sl? 1 t1.2.2.2.2.2.2.2.2.2.2.2.1) fun x4=>none))) else (bif (Go.Eng.eqS t1.2.2.2.2.2.2.1 (ByteArray.mk #[80,76,65,78,69])) then (ob (Go.Eng.u_entity_rules_1 ([(Go.Eng.T.v (Go.Value.string (ByteArray.mk #[67,65,82,84,69,83,73,65,78,95,80,79,73,78,84])))],())) fun x5=>(ob (Go.Eng.u_entity_rules_1 ([(Go.Eng.T.v (Go.Value.string (ByteArray.mk #[68,73,82,69,67,84,73,79,78])))],())) fun x6=>(ob (Go.Eng.T.sl? 1 t1.2.2.2.2.2.2.2.2.2.2.2.1) fun x7=>none))) else (bif (Go.Eng.eqS t1.2.2.2.2.2.2.1 (ByteArray.mk #[80,79,76,89,95,76,79,79,80])) then (ob (Go.Eng.u_entity_rules_1 ([(Go.Eng.T.v (Go.Value.string (ByteArray.mk #[67,65,82,84,69,83,73,65,78,95,80,79,73,78,84])))],())) fun x8=>(ob (Go.Eng.u_entity_rules_2 (x8.1,x8.2.1,x8.2.2.1,x8.2.2.2.1,(3:Int),(1073741824:Int),())) fun x9=>(ob (Go.Eng.T.sl? 1 t1.2.2.2.2.2.2.2.2.2.2.2.1) fun x10=>none))) else (ob (α:=((Unit×Unit×Unit×Unit×Unit×Unit×ByteArray×Bool×List T×Int×Int×T×List T×Int×Int×T×List T×Int×Int×T×Unit)⊕Empty)) (bif (Go.Eng.eqS t1.2.2.2.2.2.2.1 (ByteArray.mk #[70,65,67,69,95,79,85,84,69,82,95,66,79,85,78,68])) then (some (Sum.inl ((),(),(),(),(),(),t1.2.2.2.2.2.2.1,(Go.Eng.eqS t1.2.2.2.2.2.2.1 (ByteArray.mk #[70,65,67,69,95,79,85,84,69,82,95,66,79,85,78,68])),t1.2.2.2.2.2.2.2.2.1,t1.2.2.2.2.2.2.2.2.2.1,t1.2.2.2.2.2.2.2.2.2.2.1,t1.2.2.2.2.2.2.2.2.2.2.2.1,t1.2.2.2.2.2.2.2.2.2.2.2.2.1,t1.2.2.2.2.2.2.2.2.2.2.2.2.2.1,t1.2.2.2.2.2.2.2.2.2.2.2.2.2.2.1,t1.2.2.2.2.2.2.2.2.2.2.2.2.2.2.2.1,t1.2.2.2.2.2.2.2.2.2.2.2.2.2.2.2.2.1,t1.2.2.2.2.2.2.2.2.2.2.2.2.2.2.2.2.2.1,t1.2.2.2.2.2.2.2.2.2.2.2.2.2.2.2.2.2.2.1,t1.2.2.2.2.2.2.2.2.2.2.2.2.2.2.2.2.2.2.2.1,()))) else (some (Sum.inl ((),(),(),(),(),(),t1.2.2.2.2.2.2.1,(Go.Eng.eqS t1.2.2.2.2.2.2.1 (ByteArray.mk #[70,65,67,69,95,66,79,85,78,68])),t1.2.2.2.2.2.2.2.2.1,t1.2.2.2.2.2.2.2.2.2.1,t1.2.2.2.2.2.2.2.2.2.2.1,t1.2.2.2.2.2.2.2.2.2.2.2.1,t1.2.2.2.2.2.2.2.2.2.2.2.2.1,t1.2.2.2.2.2.2.2.2.2.2.2.2.2.1,t1.2.2.2.2.2.2.2.2.2.2.2.2.2.2.1,t1.2.2.2.2.2.2.2.2.2.2.2.2.2.2.2.1,t1.2.2.2.2.2.2.2.2.2.2.2.2.2.2.2.2.1,t1.2.2.2.2.2.2.2.2.2.2.2.2.2.2.2.2.2.1,t1.2.2.2.2.2.2.2.2.2.2.2.2.2.2.2.2.2.2.1,t1.2.2.2.2.2.2.2.2.2.2.2.2.2.2.2.2.2.2.2.1,())))) fun q11=>onS q11 (fun t12=>(bif t12.2.2.2.2.2.2.2.1 then (ob (Go.Eng.u_entity_rules_1 ([(Go.Eng.T.v (Go.Value.string (ByteArray.mk #[80,79,76,89,95,76,79,79,80])))],())) fun x13=>(ob (Go.Eng.u_entity_rules_3 ([(Go.Eng.T.v (Go.Value.string (ByteArray.mk #[84]))),(Go.Eng.T.v (Go.Value.string (ByteArray.mk #[70])))],())) fun x14=>(ob (Go.Eng.T.sl? 1 t12.2.2.2.2.2.2.2.2.2.2.2.1) fun x15=>none))) else (bif (Go.Eng.eqS t12.2.2.2.2.2.2.1 (ByteArray.mk #[70,65,67,69,95,83,85,82,70,65,67,69])) then (ob (Go.Eng.u_entity_rules_1 ([(Go.Eng.T.v (Go.Value.string (ByteArray.mk #[70,65,67,69,95,79,85,84,69,82,95,66,79,85,78,68]))),(Go.Eng.T.v (Go.Value.string (ByteArray.mk #[70,65,67,69,95,66,79,85,78,68])))],())) fun x16=>(ob (Go.Eng.u_entity_rules_2 (x16.1,x16.2.1,x16.2.2.1,x16.2.2.2.1,(1:Int),(1073741824:Int),())) fun x17=>(ob (Go.Eng.u_entity_rules_1 ([(Go.Eng.T.v (Go.Value.string (ByteArray.mk #[80,76,65,78,69])))],())) fun x18=>(ob (Go.Eng.u_entity_rules_3 ([(Go.Eng.T.v (Go.Value.string (ByteArray.mk #[84])))],())) fun x19=>(ob (Go.Eng.T.sl? 1 t12.2.2.2.2.2.2.2.2.2.2.2.1) fun x20=>none))))) else (bif (Go.Eng.eqS t12.2.2.2.2.2.2.1 (ByteArray.mk #[67,76,79,83,69,68,95,83,72,69,76,76])) then (ob (Go.Eng.u_entity_rules_1 ([(Go.Eng.T.v (Go.Value.string (ByteArray.mk #[70,65,67,69,95,83,85,82,70,65,67,69])))],())) fun x21=>(ob (Go.Eng.u_entity_rules_2 (x21.1,x21.2.1,x21.2.2.1,x21.2.2.2.1,(0:Int),(1073741824:Int),())) fun x22=>(ob (Go.Eng.T.sl? 1 t12.2.2.2.2.2.2.2.2.2.2.2.1) fun x23=>none))) else (bif (Go.Eng.eqS t12.2.2.2.2.2.2.1 (ByteArray.mk #[70,65,67,69,84,69,68,95,66,82,69,80])) then (ob (Go.Eng.u_entity_rules_1 ([(Go.Eng.T.v (Go.Value.string (ByteArray.mk #[67,76,79,83,69,68,95,83,72,69,76,76])))],())) fun x24=>(ob (Go.Eng.T.sl? 1 t12.2.2.2.2.2.2.2.2.2.2.2.1) fun x25=>none)) else (bif (Go.Eng.eqS t12.2.2.2.2.2.2.1 (ByteArray.mk #[84,79,76,69,82,65,78,67,69])) then (ob (Go.Eng.T.sl? 1 t12.2.2.2.2.2.2.2.2.2.2.2.2.2.2.2.2.2.2.2.1) fun x26=>(ob (Go.Eng.T.sl? 1 t12.2.2.2.2.2.2.2.2.2.2.2.2.2.2.2.2.2.2.2.1) fun x27=>(ob (Go.Eng.T.sl? 1 t12.2.2.2.2.2.2.2.2.2.2.2.2.2.2.2.1) fun x28=>none))) else (some ((Go.Eng.T.v (Go.Value.slice (Option.none) 0 0)),())))))))) fun q29=>noS q29))))) fun q30=>noS q30)
def h_entity_rulesT:HT:=(.seq .leaf (.seq .leaf (.seq .leaf (.seq .leaf (.seq .leaf (.seq .leaf (.seq .leaf (.seq (.seq .leaf (.one (.seq (.join [(AEx.normal,{ items:=[.slot 3,.slot 4,.slot 5,.slot 6,.slot 7,.slot 8,.slot 15,.slot 16,.box 3 4,.box 4 4,.box 5 4],shapes:=[.lit (Go.Eng.C.box 3 0),.lit (Go.Eng.C.box 4 0),.lit (Go.Eng.C.box 5 0),.lit (Go.Eng.C.t (Go.Eng.T.v (Go.Value.func (Go.Fn.func 83) #[] #[]))),.lit (Go.Eng.C.t (Go.Eng.T.v (Go.Value.func (Go.Fn.func 84) #[] #[]))),.lit (Go.Eng.C.t (Go.Eng.T.v (Go.Value.func (Go.Fn.func 85) #[] #[]))),.str,.bool,.row 3 1 9,.int Go.IntKind.i64,.int Go.IntKind.i64,.tree,.row 3 1 11,.int Go.IntKind.i64,.int Go.IntKind.i64,.tree,.row 3 1 13,.int Go.IntKind.i64,.int Go.IntKind.i64,.tree] })] .leaf) (.cond .leaf (.seq .leaf (.cond .leaf (.seq .leaf (.cond .leaf (.seq (.join [(AEx.normal,{ items:=[.slot 3,.slot 4,.slot 5,.slot 6,.slot 7,.slot 8,.slot 15,.slot 43,.box 3 4,.box 4 4,.box 5 4],shapes:=[.lit (Go.Eng.C.box 3 0),.lit (Go.Eng.C.box 4 0),.lit (Go.Eng.C.box 5 0),.lit (Go.Eng.C.t (Go.Eng.T.v (Go.Value.func (Go.Fn.func 83) #[] #[]))),.lit (Go.Eng.C.t (Go.Eng.T.v (Go.Value.func (Go.Fn.func 84) #[] #[]))),.lit (Go.Eng.C.t (Go.Eng.T.v (Go.Value.func (Go.Fn.func 85) #[] #[]))),.str,.bool,.row 3 1 9,.int Go.IntKind.i64,.int Go.IntKind.i64,.tree,.row 3 1 11,.int Go.IntKind.i64,.int Go.IntKind.i64,.tree,.row 3 1 13,.int Go.IntKind.i64,.int Go.IntKind.i64,.tree] })] .leaf) .leaf))))))))) .leaf))))))))
theorem e_entity_rulesT:∀t,bodyG Tryz.prog g_entity_rules [9000000,4000083,4000084,4000085,20000003,20000004,20000005,80000110,28999999,9000002,90500028,90500031,90500039,90500048,90500051,90500059,90500063,90500066,90500074,90500082] h_entity_rulesT Tryz.f57 sg_entity_rulesT t=u_entity_rulesT t:=by
 intro t
 kernel_rfl
theorem k_entity_rulesT:(calleeOf sg_entity_rulesT u_entity_rulesT).OK Tryz.prog 57:=calleeG_ok mixed ok_entity_rules Tryz.func57 (by kernel_rfl) (by kernel_rfl) e_entity_rulesT
def sg_entity_rulesN:Sig:={ na:=1,np:=0,hin:={ items:=[.slot 0],shapes:=[.str] },nres:=1,kept:=[],nnew:=0,hout:={ items:=[.slot 0],shapes:=[.lit (.t (.v (.slice none 0 0)))] },nob:=182 }
def isNilT:T→Bool
 | .v (.slice none 0 0)=>true
 | _=>false
theorem isNilT_eq:∀{x:T},isNilT x=true→x=.v (.slice none 0 0)
 | .v (.slice none 0 0),_=>rfl
noncomputable def u_entity_rulesN(t:(ByteArray×Unit)):Option (Unit×Unit):=ob (u_entity_rulesT t) fun q=>bif isNilT q.1 then some ((),()) else none
theorem c_rulesT(s:ByteArray):((calleeOf sg_entity_rulesT u_entity_rulesT).call [.c (.t (.v (.string s)))] [] fun rs po=>some (rs,po))=ob (u_entity_rulesT (s,())) fun q=>some ([.c (.t q.1)],[]):=by kernel_rfl
theorem k_entity_rulesN:(calleeOf sg_entity_rulesN u_entity_rulesN).OK Tryz.prog 57:=by
 refine libCallee rfl rfl fun t q hq w X F ρ vals hG hX hvl hv rs hrs=>?_
 unfold u_entity_rulesN at hq
 obtain⟨x,hx,hq⟩:=ob_some hq
 cases hn:isNilT x.1 with
 | false=>rw[hn] at hq;cases hq
 | true=>
 obtain⟨s,u⟩:=t
 have hk:=c_rulesT s
 rw[show u_entity_rulesT (s,())=some x from hx] at hk
 simp only[obS,isNilT_eq hn] at hk
 have hvs:vals=[.string s]:=by
  match vals,hvl with
  | [v],_=>
   have hr:RdC1 w X ρ (.t (.v (.string s))) v:=hv 0 _ v rfl rfl
   rcases hr with hr | ⟨hr,_⟩
   ·cases hr
   ·rw[Rd.inv_v hr]
 subst hvs
 obtain⟨rs',po',h1,h2⟩:=k_entity_rulesT.1 _ [] _ _ hk
 simp only[Option.some.injEq] at h1
 cases h1
 have hm:∀b,¬mutB [] (fun _=>none) b:=fun b ⟨k,o,v,h1,_⟩=>by simp at h1
 have hrs':rs=[.c (.t (.v (.slice none 0 0)))]:=by
  have h:s1s [.s (.c (.t (.v (.slice none 0 0))))]=some rs:=hrs
  simp only[s1s,Option.map_some,Option.some.injEq] at h
  exact h.symm
 subst hrs'
 refine(h2 w X (fun _=>none) [.string s] (fun k o h=>by simp at h) (fun k k' b ⟨o,v,h1,_⟩=>by simp at h1) hX (fun b h=>(hm b h).elim)
  (fun g k hg=>⟨fun hh=>hm g hh,(hG g k hg).2⟩) ?_).mono fun e w' hp=>?_
 ·exact rdss_one (.inr ⟨.v _,rfl⟩)
 ·obtain⟨v,ρ',rfl,p1,_,_,_,_,_,p7⟩:=hp
  refine⟨v,rfl,p1.mono fun b hb _=>hm b hb,?_⟩
  have p8:RdC1 w' (XB [] ρ' X) ρ' (.t (.v (.slice none 0 0))) v:=p7
  rcases p8 with p8 | ⟨p8,p9⟩
  ·cases p8
  ·exact .inr ⟨Rd.weak p8 fun b hb=>.inr hb,p9⟩
noncomputable def g_entity_typedN:List (Go.FuncId×Callee):=[(57,calleeOf sg_entity_rulesN u_entity_rulesN)]
noncomputable def u_entity_typedN(t:((List T)×ByteArray×(List T)×Unit)):Option (Int×Unit):=
 (ob (Go.Eng.u_entity_rulesN (t.2.1,())) fun x0=>(some ((38:Int),())))
theorem ok_entity_typedN:TabOK Tryz.prog [] g_entity_typedN:=TabOK.cons (fun _=>⟨_,Tryz.func57,by kernel_rfl,by kernel_rfl⟩) k_entity_rulesN (calleeOf_nat _ _) (fun h=>by cases h) (by kernel_rfl) (fun _=>callK_framed (calleeOf_nat _ _) rfl rfl) (by kernel_rfl) TabOK.nil
def h_entity_typedN:HT:=(.seq .leaf (.seq .leaf (.seq .leaf (.seq .leaf (.seq (.seq .leaf (.one (.loop { items:=[.slot 0,.slot 3,.slot 5,.slot 29,.slot 30,.slot 31,.box 3 2],shapes:=[.sl 1000000000,.lit (Go.Eng.C.box 3 0),.sl 4,.sl 4,.int Go.IntKind.i64,.int Go.IntKind.i64,.str,.sl 7] } [(AEx.ret,{ items:=[.slot 4],shapes:=[.int Go.IntKind.i64] }),((AEx.exit 0),{ items:=[.slot 0,.slot 3,.slot 5,.box 3 2],shapes:=[.sl 1000000000,.lit (Go.Eng.C.box 3 0),.sl 4,.str,.sl 7] })] .leaf))) (.seq (.seq .leaf (.one (.loop { items:=[.slot 0,.slot 3,.slot 54,.slot 55,.slot 56,.box 3 2],shapes:=[.sl 1000000000,.lit (Go.Eng.C.box 3 0),.sl 4,.int Go.IntKind.i64,.int Go.IntKind.i64,.str,.sl 7] } [(AEx.ret,{ items:=[.slot 4],shapes:=[.int Go.IntKind.i64] }),((AEx.exit 2),{ items:=[],shapes:=[] })] (.seq .leaf (.seq .leaf (.seq (.one (.seq .leaf (.seq .leaf (.seq .leaf (.one (.loop { items:=[.slot 0,.slot 3,.slot 11,.slot 54,.slot 55,.slot 56,.slot 71,.slot 72,.slot 73,.box 3 2,.box 11 4],shapes:=[.sl 1000000000,.lit (Go.Eng.C.box 3 0),.lit (Go.Eng.C.box 11 0),.sl 4,.int Go.IntKind.i64,.int Go.IntKind.i64,.sl 7,.int Go.IntKind.i64,.int Go.IntKind.i64,.str,.sl 7,.tree,.tree,.tree,.tree] } [(AEx.ret,{ items:=[.slot 4],shapes:=[.int Go.IntKind.i64] }),((AEx.exit 4),{ items:=[.slot 0,.slot 3,.slot 54,.slot 55,.slot 56,.box 3 2],shapes:=[.sl 1000000000,.lit (Go.Eng.C.box 3 0),.sl 4,.int Go.IntKind.i64,.int Go.IntKind.i64,.str,.sl 7] })] .leaf)))))) .leaf)))))) .leaf))))))
theorem e_entity_typedN:∀t,bodyG Tryz.prog g_entity_typedN [] h_entity_typedN Tryz.f35 sg_entity_typed t=u_entity_typedN t:=by
 intro t
 kernel_rfl
theorem k_entity_typedN:(calleeOf sg_entity_typed u_entity_typedN).OK Tryz.prog 35:=calleeG_ok mixed ok_entity_typedN Tryz.func35 (by kernel_rfl) (by kernel_rfl) e_entity_typedN
theorem calleeOf_or{P:Program}{f:FuncId}{sg:Sig}{U V W:Tup sg.hin.shapes→Option (Tup sg.hout.shapes)}(hU:(calleeOf sg U).OK P f)(hV:(calleeOf sg V).OK P f)(h:∀t q,W t=some q→U t=some q∨V t=some q):(calleeOf sg W).OK P f:=by
 refine⟨?_,fun I h=>(by cases h),fun I h=>(by cases h)⟩
 intro R args po k r hk
 have key:∀{Z:Tup sg.hin.shapes→Option (Tup sg.hout.shapes)} {t q},packK sg.hin (inSt sg args po) some=some t→W t=some q→Z t=some q→(calleeOf sg Z).call args po k=some r:=fun {Z t q} hp hw hz=>by
  rw[←hk]
  simp only[calleeOf]
  split
  ·refine(packK_nat _).trans (Eq.trans ?_ (packK_nat _).symm)
   rw[hp]
   simp only[Option.bind_some,hz,hw]
  ·rfl
 have hk0:=hk
 simp only[calleeOf] at hk
 split at hk
 case isFalse=>cases hk
 rw[packK_nat] at hk
 cases hpk:packK sg.hin (inSt sg args po) some with
 | none=>rw[hpk] at hk;cases hk
 | some t=>
 rw[hpk] at hk
 simp only[Option.bind_some] at hk
 obtain⟨q,hq,_⟩:=ob_some hk
 rcases h t q hq with h1 | h1
 ·exact hU.1 args po k r (key hpk hq h1)
 ·exact hV.1 args po k r (key hpk hq h1)
noncomputable def u_entity_typedC(t:((List T)×ByteArray×(List T)×Unit)):Option (Int×Unit):=@ite _ ((u_entity_typedN t).isSome=true) (Classical.propDecidable _) (u_entity_typedN t) (u_entity_typed t)
theorem k_entity_typedC:(calleeOf sg_entity_typed u_entity_typedC).OK Tryz.prog 35:=calleeOf_or k_entity_typed k_entity_typedN fun t q h=>by
 unfold u_entity_typedC at h
 split at h
 ·exact .inr h
 ·exact .inl h
theorem typedC_N{t:((List T)×ByteArray×(List T)×Unit)}{q:Int×Unit}(h:u_entity_typedN t=some q):u_entity_typedC t=some q:=by
 unfold u_entity_typedC
 rw[if_pos (by rw[h];rfl),h]
theorem typedC_O{t:((List T)×ByteArray×(List T)×Unit)}(h:u_entity_typedN t=none):u_entity_typedC t=u_entity_typed t:=by
 unfold u_entity_typedC
 rw[if_neg (by rw[h];decide)]
end Go.Eng
namespace Go.Eng.En
open Go.Eng Go.RowKit Go.Proofs
def dT(p:Int×Int):T:=.agg [.v (vI p.1),.v (vI p.2),.v (vI (-1)),.v (vI (-1)),.v (vI (-1))]
def dV1(p:Int×Int):List Value:=[vI p.1,vI p.2,vI (-1),vI (-1),vI (-1)]
def dv(L:List (Int×Int)):List Value:=L.flatMap dV1
noncomputable def typL(words:List T):List T→List T→Option (List T)
 | [],out=>some out
 | x::l,out=>ob (T.int? .i64 (T.cell x 0)) fun id=>ob (T.str? (T.cell x 1)) fun nm=>ob (T.sl? 7 (T.cell x 2)) fun args=>ob (u_entity_typedC (words,nm,args,())) fun e=>
  bif eqI e.1 0 then typL words l out else ob (room out [dT (e.1,id)] 40) fun out=>typL words l out
structure Pk (WD W:World) (lv:Value) (L:List (Int×Int)):Prop where
 stp:Stp (fun _=>False) WD W
 row:rowAt W 59 5 lv L.length (dv L)
 lb:∀b,blk lv=some b→WD.heap.size≤b
theorem Pk.step{WD W W':World}{lv:Value}{L:List (Int×Int)}(h:Pk WD W lv L)(hs:Stp (fun _=>False) W W'):Pk WD W' lv L:=⟨h.stp.trans hs,h.row.step hs fun _ _ h=>h,h.lb⟩
noncomputable def info54:Bool:=match Tryz.prog.info? 59 with
 | some i=>match i.zero with
  | some z=>decide (z.cells.size=5∧i.size=5∧i.bytes=40)
  | none=>false
 | none=>false
theorem info54_ok:∃i z,Tryz.prog.info? 59=some i∧i.zero=some z∧z.cells.size=5∧i.size=5∧i.bytes=40:=by
 have h:info54=true:=by kernel_rfl
 unfold info54 at h
 split at h
 ·rename_i i hi
  split at h
  ·rename_i z hz
   exact⟨i,z,hi,hz,of_decide_eq_true h⟩
  ·cases h
 ·cases h
theorem u50:Tryz.prog.underlying 37=some (.slice 59):=by kernel_rfl
theorem bk_neq(x:Int):binK Tryz.prog .neq 57 57 (dV (vI x)) (dV (vI 0)) some=some (dV (.bool (!eqI x 0))):=by kernel_rfl
theorem c_typed(m:List T)(s:ByteArray)(l:List T):((calleeOf sg_entity_typed u_entity_typedC).call [.c (.t (.sl 1000000000 m)),.agg [.t (.v (.string s)),.t (.sl 7 l)]] [] fun rs po=>some (rs,po))=ob (u_entity_typedC (m,s,l,())) fun q=>some ([.c (.t (.v (.int .i64 q.1)))],[]):=by kernel_rfl
theorem c_wrong(x y:Int):((calleeOf sg_entity_wrong u_entity_wrong).call [.c (.t (.v (.int .i64 x))),.c (.t (.v (.int .i64 y)))] [] fun rs po=>some (rs,po))=some ([.agg [.t (.v (vI x)),.t (.v (vI y)),.t (.v (vI (-1))),.t (.v (vI (-1))),.t (.v (vI (-1)))]],[]):=by kernel_rfl
theorem c33:Callable Tryz.prog 35:=⟨_,Tryz.func35,by kernel_rfl,by kernel_rfl⟩
theorem c34:Callable Tryz.prog 32:=⟨_,Tryz.func32,by kernel_rfl,by kernel_rfl⟩
theorem res_int{w:World}{b:Int}{v:Value}(h:RdRes w (fun _=>False) (fun _=>none) [.c (.t (.v (.int .i64 b)))] v):v=vI b:=by
 rcases(h:RdC1 _ _ _ _ _) with h | ⟨h,_⟩
 ·cases h
 ·exact Rd.inv_v h
theorem res_vals{w:World}{vs:List Value}{v:Value}(h:RdRes w (fun _=>False) (fun _=>none) [.agg (vs.map fun v=>.t (.v v))] v):v=.agg vs.toArray:=by
 have h':RdS w (fun _=>False) (fun _=>none) (.agg (vs.map fun v=>.t (.v v))) v:=h
 obtain⟨ys,rfl,h1,h2⟩:=h'
 rw[List.length_map] at h1
 congr 1
 apply Array.ext'
 apply List.ext_getElem?
 intro i
 cases hi:vs[i]? with
 | none=>
  have:=List.getElem?_eq_none_iff.1 hi
  rw[List.getElem?_eq_none (by omega)]
 | some u=>
  have hlt:i<vs.length:=(List.getElem?_eq_some_iff.1 hi).1
  rw[List.getElem?_eq_getElem (by omega)]
  rcases h2 i (.t (.v u)) _ (by rw[List.getElem?_map,hi];rfl) (List.getElem?_eq_getElem (by omega)) with h | ⟨h,_⟩
  ·cases h
  ·rw[Rd.inv_v h]
theorem Bk.words{w W:World}{vh vd:Value}{m:List T}(h:Bk w W vh vd m):RdC1 W (fun _=>False) (fun _=>none) (.t (.sl 1000000000 m)) (.map (some (w.heap.size+1))):=by
 obtain⟨es,clock,hm,h1,h2,h3,h4,h5⟩:=h.bm
 exact .inr ⟨.mp _ _ _ es clock (Nat.le_refl _) hm id h1 h2 ⟨h4,h5⟩ fun i k v e a b=>(h3 i k v e a b).weak fun _ h=>h.elim,rfl⟩
theorem dv_snoc(L:List (Int×Int))(p:Int×Int):dv (L++[p])=dv L++dV1 p:=by unfold dv;rw[List.flatMap_append];simp
theorem dv_rd{W:World}{X:Nat→Prop}:∀L:List (Int×Int),RdT W X (flat (L.map dT)) (dv L)
 | []=>⟨rfl,fun i t y h1 _=>by simp[flat] at h1⟩
 | p::L=>by
  have h:RdT W X (dT p).cells (dV1 p):=⟨rfl,fun i t y h1 h2=>by
   match i,h1,h2 with
   | 0,h1,h2=>cases h1;cases h2;exact⟨.v _,rfl⟩
   | 1,h1,h2=>cases h1;cases h2;exact⟨.v _,rfl⟩
   | 2,h1,h2=>cases h1;cases h2;exact⟨.v _,rfl⟩
   | 3,h1,h2=>cases h1;cases h2;exact⟨.v _,rfl⟩
   | 4,h1,h2=>cases h1;cases h2;exact⟨.v _,rfl⟩
   | n+5,h1,h2=>simp[dV1] at h2⟩
  have:=h.append (dv_rd L)
  rw[List.map_cons,flat_cons]
  exact this
theorem row_rd{W:World}{X:Nat→Prop}{lv:Value}{L:List (Int×Int)}(h:rowAt W 59 5 lv L.length (dv L))(hX:∀b,blk lv=some b→¬X b):Rd W X (.sl 5 (L.map dT)) lv:=by
 have ho:okO W X (fun _=>none) lv (.row false 59 5 (L.map dT)):=⟨⟨by decide,by decide⟩,fun t ht=>(by obtain⟨p,_,rfl⟩:=List.mem_map.1 ht;rfl),⟨_,by rw[List.length_map];exact h,dv_rd L⟩,fun h=>by cases h⟩
 exact row_tree ho (fun _ h=>h) hX
section
variable {idN:Nat→Int} {nmN:Nat→ByteArray} {slN:Nat→Value} {argN:Nat→List T} {w WD:World} {vh:Value} {p:Option Addr} {len cap D:Nat} {m:List T} {Df:List Deferred}
abbrev lenv(w:World)(p:Option Addr)(len cap i:Nat)(lv:Value):List (Nat×Value):=[(25,vI (i:Nat)),(24,vI (len:Nat)),(23,.slice p len cap),(6,lv),(3,.pointer (some ⟨w.heap.size+2,0,none⟩)),(1,.pointer (some ⟨w.heap.size,0,none⟩))]
set_option maxRecDepth 20000 in
set_option maxHeartbeats 8000000 in
theorem rnd2{c:Code}{i:Nat}{lv:Value}{L:List (Int×Int)}{a:Act}{W:World}{Q:Exit→Act→World→Prop}{fin:List T}{Dl:List T}{x:T}
 (hc:c=cdGo [1,1,1,1,0,1,0,0,1,1] (cdOf Tryz.f14)) (hG:Good Tryz.prog w fun _=>False) (hB:Bk w WD vh (.slice p len cap) m) (hi:i<len) (hmax:len≤maxLen)
 (hel:∃A,p=some A∧A.block<w.heap.size∧∀i,i<len→∀(j:Nat) y,[vI (idN i),.string (nmN i),slN i][j]?=some y→w.cell? ((A.add (i*3)).add j)=some y)
 (h1:∀i,(slN i).oneCell'=true) (hsl:Rd w (fun _=>False) (.sl 7 (argN i)) (slN i))
 (hx:T.cell x 0=.v (vI (idN i))∧T.cell x 1=.v (.string (nmN i))∧T.sl? 7 (T.cell x 2)=some (argN i))
 (hty:typL m (x::Dl) (L.map dT)=some fin) (hP:Pk WD W lv L) (hf:Fr 44 (lenv w p len cap i lv) a Df)
 (hn:∀a' W' lv' L',Fr 44 (lenv w p len cap (i+1) lv') a' Df→Pk WD W' lv' L'→typL m Dl (L'.map dT)=some fin→Q .normal a' W'):c.wp Tryz.prog Q a W:=by
 subst hc
 obtain⟨A,rfl,hA1,hA2⟩:=hel
 obtain⟨x0,x1,x2⟩:=hx
 have hty':=hty
 simp only[typL,x0,x1,x2] at hty'
 obtain⟨i0,e0,hty1⟩:=ob_some hty'
 obtain⟨s0,e1,hty2⟩:=ob_some hty1
 obtain⟨l0,e2,hty3⟩:=ob_some hty2
 have f0:i0=idN i:=by rw[T_int] at e0;cases e0;rfl
 have f1:s0=nmN i:=by rw[T_str] at e1;cases e1;rfl
 cases e2
 subst f0;subst f1
 obtain⟨q,hq,hty4⟩:=ob_some hty3
 obtain⟨i39,z39,hi39,hz39,hs39⟩:=infoB_ok (t:=56) (n:=3) (by kernel_rfl)
 have hstp:Stp (fun _=>False) w W:=hB.stp.trans hP.stp
 refine wp_seq (wp_block (wp_seq (wp_reg (by kernel_rfl) ?_)))
 refine op_index (m:=3) hf rfl rfl (by decide) u26 s39 rfl rfl (by omega) (by omega) fun a hf=>?_
 refine op_val hf rfl (by decide) (rn_loadA (ys:=elF idN nmN slN i) hf rfl s39 a39 rfl fun j y hj=>hstp.cell (by rw[Int.toNat_natCast];exact hA2 i hi j y hj) id) fun a hf=>?_
 refine op_val hf rfl (by decide) (rn_alloc rfl hi39 hz39) fun a hf=>?_
 refine op_skip hf rfl (rn_storeN hf rfl (cs:=(elF idN nmN slN i).toArray) s39 rfl rfl rfl (fun v hv=>?_) (World.alloc_heap_new _ _) (by rw[hs39];rfl)) fun a hf=>?_
 ·simp only[elF,List.mem_cons,List.not_mem_nil,or_false] at hv
  rcases hv with rfl | rfl | rfl
  ·rfl
  ·rfl
  ·exact h1 i
 rw[World.setRow_alloc_new]
 have hP1:=hP.step (Stp.alloc (fun _=>False) W (.cells (elF idN nmN slN i).toArray 56))
 have hbox:=World.alloc_heap_new W (.cells (elF idN nmN slN i).toArray 56)
 have hcl:∀W',Stp (fun _=>False) (W.alloc (.cells (elF idN nmN slN i).toArray 56)) W'→∀(j:Nat) y,(elF idN nmN slN i)[j]?=some y→W'.cell? ⟨W.heap.size,j,none⟩=some y:=fun W' hs j y hj=>hs.cell (by
  simp only[World.cell?,hbox]
  simpa using hj) id
 generalize W.alloc (.cells (elF idN nmN slN i).toArray 56)=W1 at hP1 hbox hcl
 have hB1:Bk w W1 vh (.slice (some A) len cap) m:=hB.step (hP1.stp.mono fun _ h=>h.elim)
 refine wp_seq (wp_reg (by kernel_rfl) ?_)
 refine op_load hf rfl rfl (by decide) s80 a80 rfl (by simp only[World.cell?,hB1.b3];rfl) fun a hf=>?_
 refine op_val hf rfl (by decide) (rn_fld hf rfl f39 rfl s37 (by decide) rfl) fun a hf=>?_
 refine op_val hf rfl (by decide) (rn_loadA (ys:=[.string (nmN i),slN i]) hf rfl s37 a37 rfl fun j y hj=>?_) fun a hf=>?_
 ·have:=hcl W1 (.refl _ _) (j+1) y (by simpa[elF] using hj)
  rw[show ((⟨W.heap.size,0,none⟩:Addr).add 1).add j=⟨W.heap.size,j+1,none⟩ from by rw[add_add,Nat.add_comm];unfold Addr.add;split <;> simp_all]
  exact this
 have hrd:Rd W1 (fun _=>False) (.sl 7 (argN i)) (slN i):=hsl.step hB1.stp (fun _ h=>h) fun _ h=>h.elim
 refine op_tree (args:=[.c (.t (.sl 1000000000 m)),.agg [.t (.v (.string (nmN i))),.t (.sl 7 (argN i))]]) hf rfl rfl rfl (by decide) c33 rfl k_entity_typedC (by rw[c_typed,hq];rfl) (hG.call hB1.stp fun b h=>h.elim) (rdss_two hB1.words ⟨_,rfl,rfl,fun j c y h1' h2'=>?_⟩) (fun v a W2 hf hs2 hr=>?_) rfl
 ·match j,h1',h2' with
  | 0,h1',h2'=>cases h1';cases h2';exact .inr ⟨.v _,rfl⟩
  | 1,h1',h2'=>cases h1';cases h2';exact .inr ⟨hrd,h1 i⟩
  | n+2,h1',_=>simp at h1'
 rw[res_int hr] at hf
 have hP2:=hP1.step hs2
 have hB2:=hB1.step (hs2.mono fun _ h=>h.elim)
 refine op_assign hf rfl rfl (by decide) rfl fun a hf=>?_
 refine wp_seq (wp_reg (by kernel_rfl) ?_)
 refine op_move hf rfl rfl (by decide) rfl fun a hf=>?_
 refine op_bin (v:=.bool (!eqI q.1 0)) hf rfl rfl (by decide) rfl rfl rfl rfl (bk_neq q.1) fun a hf=>?_
 have hnext:∀(a:Act) (W':World) (lv':Value) (L':List (Int×Int)),Fr 44 [(25,vI (i:Nat)),(24,vI (len:Nat)),(23,.slice (some A) len cap),(6,lv'),(3,.pointer (some ⟨w.heap.size+2,0,none⟩)),(1,.pointer (some ⟨w.heap.size,0,none⟩))] a Df→Pk WD W' lv' L'→typL m Dl (L'.map dT)=some fin →
  (cdGo [1,1,1,1,0,1,0,0,1,1,1] (cdOf Tryz.f14)).wp Tryz.prog Q a W':=by
  intro a W' lv' L' hf hP' ht
  refine wp_reg (by kernel_rfl) ?_
  refine op_bin (v:=vI ((i+1:Nat):Int)) hf rfl rfl (by decide) rfl rfl rfl rfl ?_ fun a hf=>?_
  ·rw[bk_add,wr64 (by omega) (by have h:maxLen≤9223372036854775807:=(by decide);omega)]
   rfl
  refine op_move hf rfl rfl (by decide) rfl fun a hf=>?_
  exact hn a W' lv' L' (hf.weak ⟨rfl,rfl,rfl,rfl,rfl,rfl,trivial⟩) hP' ht
 cases hq0:eqI q.1 0 with
 | true=>
  rw[hq0] at hf hty4
  refine wp_cond_false (hf.ev rfl) (wp_skip ?_)
  exact hnext a W2 lv L (hf.weak ⟨rfl,rfl,rfl,rfl,rfl,rfl,trivial⟩) hP2 hty4
 | false=>
  rw[hq0] at hf hty4
  obtain⟨out,ho,hty5⟩:=ob_some hty4
  obtain⟨rfl,r1,r2⟩:=room_some ho
  obtain⟨i54,z54,q1,q2,q3,q4,q5⟩:=info54_ok
  refine wp_cond_true (hf.ev rfl) (wp_reg (by kernel_rfl) ?_)
  refine op_move hf rfl rfl (by decide) rfl fun a hf=>?_
  refine op_move hf rfl rfl (by decide) rfl fun a hf=>?_
  refine op_val hf rfl (by decide) (rn_fld hf rfl f39 rfl s3 (by decide) rfl) fun a hf=>?_
  refine op_load hf rfl rfl (by decide) s3 a3 rfl (hcl W2 hs2 0 _ rfl) fun a hf=>?_
  refine op_tree (args:=[.c (.t (.v (vI q.1))),.c (.t (.v (vI (idN i))))]) hf rfl rfl rfl (by decide) c34 rfl k_entity_wrong (c_wrong _ _) (hG.call hB2.stp fun b h=>h.elim) (rdss_two (.inr ⟨.v _,rfl⟩) (.inr ⟨.v _,rfl⟩)) (fun v a W3 hf hs3 hr=>?_) rfl
  rw[res_vals (vs:=dV1 (q.1,idN i)) hr] at hf
  have hP3:=hP2.step hs3
  refine op_bs1 (cs:=(dV1 (q.1,idN i)).toArray) hf rfl rfl (by decide) u50 q1 q2 (by rw[q3];rfl) (by rw[q4];rfl) (show 0<5 by decide) (show 5≤1000 by decide) rfl fun a hf=>?_
  have hr1:=rowAt_one W3 59 (dV1 (q.1,idN i)).toArray (show 0<5 by decide)
  have hP4:=hP3.step (Stp.alloc (fun _=>False) W3 (.cells (dV1 (q.1,idN i)).toArray 59))
  have hsrc:Src Tryz.prog 5 37 (.slice (some ⟨W3.heap.size,0,none⟩) 1 1) 1 (dV1 (q.1,idN i)) (W3.alloc (.cells (dV1 (q.1,idN i)).toArray 59)):=
   .ofSlice _ u50 ⟨W3.heap.size,0,none⟩ _ _ _ rfl (fun j u hj=>hr1.cells rfl j u hj) (fun u hu=>by
    simp only[dV1,List.mem_cons,List.not_mem_nil,or_false] at hu
    rcases hu with rfl | rfl | rfl | rfl | rfl <;> rfl)
  generalize W3.alloc (.cells (dV1 (q.1,idN i)).toArray 59)=W4 at hP4 hsrc
  rw[List.length_map] at r1 r2
  refine op_append (m:=L.length) (q:=1) (xs:=dv L) (news:=dV1 (q.1,idN i)) hf rfl rfl (by decide) u50 q1 q2 (by rw[q3,q4]) (by omega) rfl rfl (by rw[q4];exact hP4.row) (by rw[q4];exact hsrc) r1 (by rw[q5];exact r2) fun a v' W5 hf hrow hg hb=>?_
  rw[q4] at hrow
  refine op_assign hf rfl rfl (by decide) rfl fun a hf=>?_
  have hs5:Stp (fun b=>blk lv=some b) W4 W5:=Stp.grown hg fun b e=>e
  refine hnext a W5 v' (L++[(q.1,idN i)]) (hf.weak ⟨rfl,rfl,rfl,rfl,rfl,rfl,trivial⟩) ⟨hP4.stp.after hs5 fun b hb hlt=>?_,?_,fun b e=>?_⟩ (by rw[List.map_append];exact hty5)
  ·have:=hP4.lb b hb;omega
  ·rw[List.length_append,dv_snoc];exact hrow
  ·rcases hb with hb | hb
   ·exact hP4.lb b (hb▸e)
   ·rw[hb] at e;cases e;exact hP4.stp.size
set_option maxRecDepth 20000 in
set_option maxHeartbeats 8000000 in
theorem typed2{a:Act}{vh:Value}{Dl fin:List T}{R:Ending→World→Prop}(hG:Good Tryz.prog w fun _=>False)(hB:Bk w WD vh (.slice p len cap) m)(hlen:len=Dl.length)(hmax:len≤maxLen)
 (hel:0<len→∃A,p=some A∧A.block<w.heap.size∧∀i,i<len→∀(j:Nat) y,[vI (idN i),.string (nmN i),slN i][j]?=some y→w.cell? ((A.add (i*3)).add j)=some y)
 (h1:∀i,(slN i).oneCell'=true) (hsl:∀i,i<len→Rd w (fun _=>False) (.sl 7 (argN i)) (slN i)) (hD:IsD idN nmN argN Dl) (hty:typL m Dl []=some fin)
 (hf:Fr 44 [(3,.pointer (some ⟨w.heap.size+2,0,none⟩)),(2,.slice none 0 0),(1,.pointer (some ⟨w.heap.size,0,none⟩))] a (mkD D)) (hd:WD.heap[D]?=some (.deferred (some []))) (hD4:w.heap.size+4≤D)
 (hR:∀v w' L,Stp (fun _=>False) w w'→rowAt w' 59 5 v L.length (dv L)→(∀b,blk v=some b→w.heap.size≤b)→fin=L.map dT→R (.returned v) w'):
 (cdGo [1,1,1] (cdOf Tryz.f14)).wp Tryz.prog (bodyPostM Fence.wide 10 Tryz.prog Tryz.f14 R) a WD:=by
 have hcd:∀W,Bk w W vh (.slice p len cap) m→W.cell? ⟨w.heap.size,1,none⟩=some (.slice p len cap):=fun W h=>by simp only[World.cell?,h.b1];rfl
 refine wp_seq (wp_reg (by kernel_rfl) ?_)
 refine op_assign hf rfl rfl (by decide) rfl fun a hf=>?_
 refine wp_seq (wp_seq (wp_reg (by kernel_rfl) ?_))
 refine op_val hf rfl (by decide) (rn_fld hf rfl f28 rfl s26 (by decide) rfl) fun a hf=>?_
 refine op_load hf rfl rfl (by decide) s26 a26 rfl (hcd WD hB) fun a hf=>?_
 refine op_len hf rfl rfl (by decide) u26 rfl fun a hf=>?_
 refine op_move hf rfl rfl (by decide) rfl fun a hf=>?_
 refine wp_block ?_
 refine loop_ind (m:=len) (fun k a W=>∃(i:Nat) (lv:Value) (L:List (Int×Int)),i+k=len∧typL m (Dl.drop i) (L.map dT)=some fin∧Fr 44 (lenv w p len cap i lv) a (mkD D)∧Pk WD W lv L) ?_ ?_
  ⟨0,_,[],Nat.zero_add _,hty,hf.weak ⟨rfl,rfl,rfl,rfl,rfl,rfl,trivial⟩,.refl _ _,rowAt.nil _ _ _,fun b hb=>by cases hb⟩
 ·rintro K a W ⟨i,lv,L,hi,ht,hf,hP⟩
  have hil:i=len:=by omega
  subst hil
  rw[List.drop_of_length_le (by omega)] at ht
  simp only[typL,Option.some.injEq] at ht
  refine wp_seq (wp_reg (by kernel_rfl) ?_)
  refine op_bin (v:=.bool false) hf rfl rfl (by decide) rfl rfl rfl rfl ?_ fun a hf=>?_
  ·rw[bk_lss,ltI_eq,decide_eq_false (by omega)]
  refine wp_seq (wp_cond_false (hf.ev rfl) (wp_exit ?_))
  show Code.wp Tryz.prog (cdGo [1,1,1,1,1] (cdOf Tryz.f14)) _ a W
  refine wp_seq (wp_reg (by kernel_rfl) ?_)
  refine op_move hf rfl rfl (by decide) rfl fun a hf=>?_
  refine op_assign hf rfl rfl (by decide) rfl fun a hf=>?_
  refine wp_ret ?_
  have hdl:D<WD.heap.size:=(Array.getElem?_eq_some_iff.1 hd).1
  have hd':W.heap[D]?=some (.deferred (some [])):=(hP.stp.blk D hdl id).trans hd
  have hput:Stp (fun b=>b=D) W (W.putObj D (.deferred none)):=Stp.grown (grownBy_putObj' W D _) fun g e=>by cases e;rfl
  show LeavesInM Fence.wide 10 Tryz.prog Tryz.f14 a.tmps R a.defers .returning W
  rw[hf.defers]
  refine⟨by simp,.inl ⟨D,_,rfl,run_takeDeferred hd',lv,?_,?_⟩⟩
  ·unfold results
   rw[show Tryz.f14.results=#[.tmp 2] from rfl]
   have:=hf.get 2 lv rfl
   rw[Array.getD_eq_getD_getElem?] at this
   simp[this]
  ·refine hR lv _ L ((hB.stp.trans hP.stp).after hput fun b hb hlt=>by subst hb;omega) (hP.row.step hput fun b hb e=>?_) (fun b hb=>?_) ht.symm
   ·have:=hP.lb b hb;omega
   ·exact Nat.le_trans (Nat.le_trans (by omega) hB.sz) (hP.lb b hb)
 ·rintro k K hK a W ⟨i,lv,L,hi,ht,hg,hP⟩
  have hil:i<len:=by omega
  obtain⟨x,hx⟩:∃x,Dl[i]?=some x:=⟨_,List.getElem?_eq_getElem (by omega)⟩
  have hdr:Dl.drop i=x::Dl.drop (i+1):=by
   obtain⟨h,rfl⟩:=List.getElem?_eq_some_iff.1 hx
   exact List.drop_eq_getElem_cons h
  rw[hdr] at ht
  refine wp_seq (wp_reg (by kernel_rfl) ?_)
  refine op_bin (v:=.bool true) hg rfl rfl (by decide) rfl rfl rfl rfl ?_ fun a hf=>?_
  ·rw[bk_lss,ltI_eq,decide_eq_true (by omega)]
  refine wp_seq (wp_cond_true (hf.ev rfl) (wp_skip ?_))
  exact rnd2 (argN:=argN) rfl hG hB hil hmax (hel (by omega)) h1 (hsl i hil) (hD i x hx) ht hP (hf.weak ⟨rfl,rfl,rfl,rfl,rfl,rfl,trivial⟩) fun a' W' lv' L' hf' hP' ht'=>hK a' W' ⟨i+1,lv',L',by omega,ht',hf',hP'⟩
end
end Go.Eng.En
namespace Go.Eng.En
open Go.Eng Go.RowKit Go.Proofs
noncomputable def wordsL:List T→Option (List T)
 | []=>some []
 | x::l=>ob (wordsL l) fun m=>ob (T.int? .i64 (T.cell x 0)) fun id=>ob (T.str? (T.cell x 1)) fun nm=>some (mapPut (.v (vI id)) (.v (.string nm)) m)
theorem words_eq{idN:Nat→Int}{nmN:Nat→ByteArray}{argN:Nat→List T}{D:List T}(hD:IsD idN nmN argN D):∀(j k:Nat) (m:List T),k+j=D.length→wordsL (D.drop k)=some m→m=wordsF idN nmN (pre D.length k)
 | 0,k,m,hk,h=>by
  rw[List.drop_of_length_le (by omega)] at h
  simp only[wordsL,Option.some.injEq] at h
  rw[show k=D.length from by omega,pre_len,←h];rfl
 | j+1,k,m,hk,h=>by
  obtain⟨x,hx⟩:∃x,D[k]?=some x:=⟨_,List.getElem?_eq_getElem (by omega)⟩
  have hdr:D.drop k=x::D.drop (k+1):=by
   obtain⟨h,rfl⟩:=List.getElem?_eq_some_iff.1 hx
   exact List.drop_eq_getElem_cons h
  rw[hdr] at h
  simp only[wordsL] at h
  obtain⟨m1,h1,h⟩:=ob_some h
  obtain⟨d0,d1,_⟩:=hD k x hx
  rw[d0,d1,T_int,T_str] at h
  obtain⟨_,e1,h⟩:=ob_some h
  cases e1
  obtain⟨_,e2,h⟩:=ob_some h
  cases e2
  cases h
  rw[words_eq hD j (k+1) m1 (by omega) h1,←wordsF_snoc,pre_step (by omega)]
theorem typL_all{m:List T}:∀(l out fin:List T),typL m l out=some fin→∀x∈l,∃id nm args,T.int? .i64 (T.cell x 0)=some id∧T.str? (T.cell x 1)=some nm∧T.sl? 7 (T.cell x 2)=some args
 | [],_,_,_=>fun x hx=>by cases hx
 | y::l,out,fin,h=>fun x hx=>by
  simp only[typL] at h
  obtain⟨id,h0,h⟩:=ob_some h
  obtain⟨nm,h1,h⟩:=ob_some h
  obtain⟨args,h2,h⟩:=ob_some h
  rcases List.mem_cons.1 hx with rfl | hx
  ·exact⟨id,nm,args,h0,h1,h2⟩
  ·obtain⟨e,_,h⟩:=ob_some h
   cases hc:eqI e.1 0 with
   | true=>rw[hc] at h;exact typL_all l _ _ h x hx
   | false=>
    rw[hc] at h
    obtain⟨o,_,h⟩:=ob_some h
    exact typL_all l _ _ h x hx
theorem isD_of{m D fin:List T}(h:typL m D []=some fin):∃idN nmN argN,IsD idN nmN argN D:=by
 refine⟨fun i=>((D[i]?).bind fun x=>T.int? .i64 (T.cell x 0)).getD 0,fun i=>((D[i]?).bind fun x=>T.str? (T.cell x 1)).getD ByteArray.empty,fun i=>((D[i]?).bind fun x=>T.sl? 7 (T.cell x 2)).getD [],fun i x hx=>?_⟩
 obtain⟨id,nm,args,h0,h1,h2⟩:=typL_all _ _ _ h x (List.mem_of_getElem? hx)
 simp only[hx,Option.bind_some,h0,h1,h2,Option.getD_some]
 exact⟨T_int_some h0,T_str_some h1,trivial⟩
end Go.Eng.En
namespace Go.Eng
open Go.Proofs Go.RowKit En
def sg_entity_Typed:Sig:={ na:=1,np:=0,hin:={ items:=[.aggs 0 2],shapes:=[.sl 2,.sl 3] },nres:=1,kept:=[],nnew:=0,hout:={ items:=[.slot 0],shapes:=[.sl 5] },nob:=16 }
noncomputable def u_entity_Typed(t:((List T)×(List T)×Unit)):Option ((List T)×Unit):=ob (wordsL t.2.1) fun m=>ob (typL m t.2.1 []) fun out=>some (out,())
theorem k_entity_Typed:(calleeOf sg_entity_Typed u_entity_Typed).OK Tryz.prog 14:=by
 refine libCallee rfl rfl fun t q hq w X F ρ vals hG hX hvl hv rs hrs=>?_
 unfold u_entity_Typed at hq
 obtain⟨m,hm,hq⟩:=ob_some hq
 obtain⟨fin,hfin,hq⟩:=ob_some hq
 cases hq
 obtain⟨H,D,u⟩:=t
 obtain⟨idN,nmN,argN,hD⟩:=isD_of hfin
 match vals,hvl with
 | [v],_=>
 have hr:RdS w X ρ (.agg [.t (.sl 2 H),.t (.sl 3 D)]) v:=hv 0 _ v rfl rfl
 obtain⟨ys,rfl,h1,h2⟩:=hr
 obtain⟨l⟩:=ys
 match l,h1 with
 | [vh,vd],_=>
 have r1:RdC1 w X ρ (.t (.sl 3 D)) vd:=h2 1 _ _ rfl rfl
 rcases r1 with r1 | ⟨r1,_⟩
 ·cases r1
 have r0:RdC1 w X ρ (.t (.sl 2 H)) vh:=h2 0 _ _ rfl rfl
 rcases r0 with r0 | ⟨_,o0⟩
 ·cases r0
 have hr1:Rd w X (.sl 3 D) vd:=r1
 obtain⟨p,cap,slN,rfl,hmax,hone,hel,hsl⟩:=ents hr1 hD
 have hw:=words_eq hD D.length 0 m (Nat.zero_add _) hm
 subst hw
 refine typed1 (idN:=idN) (nmN:=nmN) (slN:=slN) hmax hone o0 hel fun a W Dm hf hB hd hD4=>?_
 refine typed2 (argN:=argN) (fun g k hg=>⟨id,(hG g k hg).2⟩) hB rfl hmax hel hone hsl hD hfin hf hd hD4 fun v w' L hs hrow hb he=>⟨v,rfl,hs,?_⟩
 subst he
 have:rs=[.c (.t (.sl 5 (L.map dT)))]:=by
  have h:s1s [.s (.c (.t (.sl 5 (L.map dT))))]=some rs:=hrs
  simp only[s1s,Option.map_some,Option.some.injEq] at h
  exact h.symm
 subst this
 exact .inr ⟨row_rd hrow fun b hb' hx=>by have:=hX b hx;have:=hb b hb';omega,rowAt.one hrow⟩
end Go.Eng
namespace Go.Eng.En
open Go.Eng Go.RowKit Go.Proofs
structure Rw (X:Nat→Prop) (w W:World) (lv:Value) (l:List T):Prop where
 stp:Stp (fun _=>False) w W
 ok:okO W (fun b=>blk lv=some b∨X b) (fun _=>none) lv (.row false 54 7 l)
 lb:∀b,blk lv=some b→w.heap.size≤b
 one:lv.oneCell'=true
theorem Rw.step{X:Nat→Prop}{w W W':World}{lv:Value}{l:List T}(h:Rw X w W lv l)(hs:Stp (fun _=>False) W W'):Rw X w W' lv l:=
 ⟨h.stp.trans hs,h.ok.step hs (fun _ h=>h.elim) (fun _ hb=>.inl hb) (.refl _) (fun _ _ h=>h),h.lb,h.one⟩
theorem Rw.open_{X:Nat→Prop}{w W:World}{lv:Value}{l:List T}(h:Rw X w W lv l){i:Nat}{x:T}(hx:l[i]?=some x):∃g off cap cur,lv=.slice (some ⟨g,off,none⟩) l.length cap∧blk lv=some g∧W.heap[g]?=some (.cells cur 54 (0,0)) ∧
 off+l.length*7≤cur.size∧∀j t,j<7→x.cells[j]?=some t→∃y,cur.toList[off+(i*7+j)]?=some y∧Rd W (fun b=>blk lv=some b∨X b) t y∧y.oneCell'=true:=by
 obtain⟨_,hu,⟨xs,hr,ht⟩,_⟩:=h.ok
 have hil:i<l.length:=(List.getElem?_eq_some_iff.1 hx).1
 rcases hr.2 with⟨_,h0⟩ | ⟨g,off,cap,cur,e1,h1,h2,h3,h4,h5,h6⟩
 ·omega
 ·have h7:l.length*7≤cap*7:=Nat.mul_le_mul_right _ h3
  refine⟨g,off,cap,cur,e1,by rw[e1];show (if cap=0 then none else some g)=some g;rw[if_neg (by omega)],h2,by omega,fun j t hj hjt=>?_⟩
  have h8:(i+1)*7≤l.length*7:=Nat.mul_le_mul_right _ hil
  have hlt:i*7+j<xs.length:=by rw[hr.1];omega
  have hf:(flat l)[i*7+j]?=some t:=by rw[hu.cell hx j hj,hjt]
  have hy:xs[i*7+j]?=some xs[i*7+j]:=List.getElem?_eq_getElem hlt
  refine⟨xs[i*7+j],?_,ht.2 _ t _ hf hy⟩
  rw[←hy,←h6,List.getElem?_take,if_pos (by omega),List.getElem?_drop]
theorem Rw.put{X:Nat→Prop}{w W:World}{lv:Value}{l:List T}(h:Rw X w W lv l){i j g off cap:Nat}{x t:T}{cur:Array Value}{y:Value}(hx:l[i]?=some x)(hj:j<7)(hjt:x.cells[j]?=some t)(hlv:lv=.slice (some ⟨g,off,none⟩) l.length cap)(hbk:blk lv=some g)
 (hg:W.heap[g]?=some (.cells cur 54 (0,0))) (hy:Rd W (fun b=>blk lv=some b∨X b) t y) (h1:y.oneCell'=true):Rw X w (W.setRow g (cur.toList.set (off+(i*7+j)) y).toArray) lv l:=by
 obtain⟨h7,hu,⟨xs,hr,ht⟩,_⟩:=h.ok
 have hil:i<l.length:=(List.getElem?_eq_some_iff.1 hx).1
 have hs:=setRow_stp W g (cur.toList.set (off+(i*7+j)) y).toArray
 have h8:(i+1)*7≤l.length*7:=Nat.mul_le_mul_right _ hil
 refine⟨h.stp.after hs fun b hb hlt=>by subst hb;have:=h.lb b hbk;omega,?_,h.lb,h.one⟩
 have hlen:i*7+j<xs.length:=by rw[hr.1];omega
 have hf:(flat l)[i*7+j]?=some t:=by rw[hu.cell hx j hj,hjt]
 refine⟨h7,hu,⟨xs.set (i*7+j) y,⟨by rw[List.length_set];exact hr.1,?_⟩,⟨by rw[List.length_set];exact ht.1,fun q tq yq h2 h3=>?_⟩⟩,fun h=>by cases h⟩
 ·rcases hr.2 with⟨_,h0⟩ | ⟨g',off',cap',cur',e1,h1',h2,h3,h4,h5,h6⟩
  ·omega
  ·rw[hlv] at e1
   simp only[Value.slice.injEq,Option.some.injEq,Addr.mk.injEq,true_and,and_true] at e1
   obtain⟨⟨rfl,rfl⟩,rfl⟩:=e1
   rw[hg] at h2
   simp only[Option.some.injEq,Obj.cells.injEq,and_true] at h2
   subst h2
   refine .inr ⟨g,off,cap,_,hlv,h1',setRow_heap W g cur _ 54 (0,0) hg,h3,h4,by simpa using h5,?_⟩
   rw[←h6]
   simp only[List.toList_toArray]
   rw[List.drop_set,if_neg (by omega),List.take_set]
   congr 1
   omega
 ·rw[List.getElem?_set] at h3
  split at h3
  ·rename_i e
   subst e
   cases h3
   rw[hf] at h2
   cases h2
   exact⟨hy.step hs (fun b hb=>by subst hb;exact .inl hbk) fun b hb=>.inl hb,h1⟩
  ·have:=ht.2 q tq yq h2 h3
   exact⟨this.1.step hs (fun b hb=>by subst hb;exact .inl hbk) fun b hb=>.inl hb,this.2⟩
theorem Rw.tree{X:Nat→Prop}{w W:World}{lv:Value}{l:List T}(h:Rw X w W lv l)(hX:∀b,X b→b<w.heap.size):Rd W X (.sl 7 l) lv:=
 row_tree h.ok (fun _ hb=>.inr hb) fun b hb hx=>by have:=hX b hx;have:=h.lb b hb;omega
section
variable {P:Program} {n:Nat} {env:List (Nat×Value)} {Df:List Deferred} {a:Act} {w w':World} {Q:Exit→Act→World→Prop} {o:Oper} {next:Act→World→Prop} {X:Nat→Prop}
theorem xb_nil{ρ:Rho}{b:Nat}:XB [] ρ X b↔X b:=⟨fun hh=>hh.elim (fun⟨k,o,v,h1,_⟩=>by simp at h1) id,.inr⟩
theorem op_treeX{d f:Nat}{c:Call}{vals:List Value}{A:Callee}{args:List S1}{t:T}(hf:Fr n env a Df)(hop:o.op=.call c)(hc:c.callee=.value (.func f))(hd:o.dst=some d)(hlt:d<n)(hcall:Callable P f)(hv:evL env c.args.toList=some vals)
 (hA:A.OK P f) (hk:(A.call args [] fun rs po=>some (rs,po))=some ([.c (.t t)],[])) (hG:Good P w (fun _=>False)) (hX:∀b,X b→b<w.heap.size) (hargs:RdSs w X (fun _=>none) args vals)
 (hn:∀v a' w',Fr n ((d,v)::env) a' Df→Stp (fun _=>False) w w'→Rd w' X t v→v.oneCell'=true→next a' w'):o.wp P a w next Q:=by
 obtain⟨rs',po',h1,h2⟩:=hA.1 args [] _ _ hk
 simp only[Option.some.injEq,Prod.mk.injEq] at h1
 obtain⟨e1,e2⟩:=h1
 subst e1;subst e2
 have hm:∀b,¬mutB [] (fun _=>none) b:=fun b ⟨k,o,v,h1,_⟩=>by simp at h1
 refine op_call hf hop hc hd hlt hcall hv (h2 w X (fun _=>none) vals (fun k o h=>by simp at h) (fun k k' b ⟨o,v,h1,_⟩=>by simp at h1) hX (fun b h=>(hm b h).elim)
  (fun g k hg=>⟨fun hh=>hm g hh,(hG g k hg).2⟩) (hargs.step (Stp.refl (fun _=>False) w) (fun _ h=>h.elim) (fun b hb=>.inl (xb_nil.1 hb)) (.refl _))) fun e w' hp=>?_
 obtain⟨v,ρ',rfl,p1,_,_,_,_,_,p7⟩:=hp
 refine⟨v,rfl,fun a' hf'=>?_⟩
 have p8:RdC1 w' (XB [] ρ' X) ρ' (.t t) v:=p7
 rcases p8 with p8 | ⟨p8,p9⟩
 ·cases p8
 ·exact hn v a' w' hf' (p1.mono fun b hb _=>hm b hb) (Rd.weak p8 fun b hb=>.inr hb) p9
theorem op_rowX{d f:Nat}{c:Call}{vals:List Value}{A:Callee}{args:List S1}{l:List T}(hf:Fr n env a Df)(hop:o.op=.call c)(hc:c.callee=.value (.func f))(hd:o.dst=some d)(hlt:d<n)(hcall:Callable P f)(hv:evL env c.args.toList=some vals)
 (hA:A.OK P f) (hk:(A.call args [] fun rs po=>some (rs,po))=some ([.c (.row 0)],[.row false 54 7 l])) (hG:Good P w (fun _=>False)) (hX:∀b,X b→b<w.heap.size) (hargs:RdSs w X (fun _=>none) args vals)
 (hn:∀v a' w',Fr n ((d,v)::env) a' Df→Rw X w w' v l→next a' w'):o.wp P a w next Q:=by
 obtain⟨rs',po',h1,h2⟩:=hA.1 args [] _ _ hk
 simp only[Option.some.injEq,Prod.mk.injEq] at h1
 obtain⟨e1,e2⟩:=h1
 subst e1;subst e2
 have hm:∀b,¬mutB [] (fun _=>none) b:=fun b ⟨k,o,v,h1,_⟩=>by simp at h1
 refine op_call hf hop hc hd hlt hcall hv (h2 w X (fun _=>none) vals (fun k o h=>by simp at h) (fun k k' b ⟨o,v,h1,_⟩=>by simp at h1) hX (fun b h=>(hm b h).elim)
  (fun g k hg=>⟨fun hh=>hm g hh,(hG g k hg).2⟩) (hargs.step (Stp.refl (fun _=>False) w) (fun _ h=>h.elim) (fun b hb=>.inl (xb_nil.1 hb)) (.refl _))) fun e w' hp=>?_
 obtain⟨v,ρ',rfl,p1,_,_,p4,_,p6,p7⟩:=hp
 refine⟨v,rfl,fun a' hf'=>?_⟩
 have p8:RdC1 w' (XB [.row false 54 7 l] ρ' X) ρ' (.row 0) v:=p7
 rcases p8 with p8 | ⟨p8,p9⟩
 ·cases p8
 have p8':ρ' 0=some v:=p8
 obtain⟨h,q1,q2⟩:=p4 0 _ rfl
 rw[p8'] at q1
 cases q1
 have hhas:∀b,blk v=some b→Has [.row false 54 7 l] ρ' 0 b:=fun b hb=>⟨_,_,rfl,rfl,p8',.inl hb⟩
 refine hn v a' w' hf' ⟨p1.mono fun b hb _=>hm b hb,(okO.step q2 (.refl (fun _=>False) _) (fun _ h=>h.elim) (fun b hb=>.inl ?_) (.refl ρ') (fun _ _ h=>h):okO w' _ ρ' v (.row false 54 7 l)),fun b hb=>?_,p9⟩
 ·rcases hb with hb | hb
  ·exact .inl ⟨0,hhas b hb⟩
  ·exact .inr hb
 ·rcases p6 0 b (hhas b hb) with⟨k',o,hh,h1,_⟩ | h
  ·simp at h1
  ·exact h
end
end Go.Eng.En
namespace Go.Eng.Rt
open Go.Eng
abbrev BB:Nat:=4294967296
def val:List Nat→Nat
 | []=>0
 | a::l=>a+BB*val l
def limbs(n:Nat):List Nat:=if h:n=0 then [] else (n%BB)::limbs (n/BB)
termination_by n
decreasing_by exact Nat.div_lt_self (Nat.pos_of_ne_zero h) (by decide)
def Lim(l:List Nat):Prop:=∀x∈l,x<BB
theorem limbs_zero:limbs 0=[]:=by rw[limbs];simp
theorem limbs_pos{n:Nat}(h:n≠0):limbs n=(n%BB)::limbs (n/BB):=by rw[limbs];simp[h]
theorem limbs_one{n:Nat}(h:n≠0)(hn:n<BB):limbs n=[n]:=by
 rw[limbs_pos h,Nat.mod_eq_of_lt hn,Nat.div_eq_of_lt hn,limbs_zero]
theorem val_limbs(n:Nat):val (limbs n)=n:=by
 induction n using Nat.strongRecOn with
 | _ n ih=>
  by_cases h:n=0
  ·subst h;rw[limbs_zero];rfl
  ·rw[limbs_pos h,val,ih _ (Nat.div_lt_self (Nat.pos_of_ne_zero h) (by decide))]
   exact Nat.mod_add_div n BB
theorem lim_limbs(n:Nat):Lim (limbs n):=by
 induction n using Nat.strongRecOn with
 | _ n ih=>
  by_cases h:n=0
  ·subst h;rw[limbs_zero];intro x hx;cases hx
  ·rw[limbs_pos h]
   intro x hx
   rcases List.mem_cons.1 hx with rfl | hx
   ·exact Nat.mod_lt _ (by decide)
   ·exact ih _ (Nat.div_lt_self (Nat.pos_of_ne_zero h) (by decide)) x hx
theorem Lim.nil:Lim []:=fun x h=>by cases h
theorem Lim.cons{a:Nat}{l:List Nat}(h:a<BB)(hl:Lim l):Lim (a::l):=fun x hx=>by
 rcases List.mem_cons.1 hx with rfl | hx
 ·exact h
 ·exact hl x hx
theorem Lim.head{a:Nat}{l:List Nat}(h:Lim (a::l)):a<BB:=h a (by simp)
theorem Lim.tail{a:Nat}{l:List Nat}(h:Lim (a::l)):Lim l:=fun x hx=>h x (by simp[hx])
theorem Lim.append{l m:List Nat}(h:Lim l)(h':Lim m):Lim (l++m):=fun x hx=>(List.mem_append.1 hx).elim (h x) (h' x)
theorem val_lt{l:List Nat}(h:Lim l):val l<BB ^ l.length:=by
 induction l with
 | nil=>simp[val]
 | cons a l ih=>
  have h1:=h.head
  have h2:=ih h.tail
  rw[val,List.length_cons,Nat.pow_succ]
  have h3:val l+1≤BB ^ l.length:=h2
  have h4:BB*(val l+1)≤BB*BB ^ l.length:=Nat.mul_le_mul_left _ h3
  have h5:BB*(val l+1)=BB*val l+BB:=by rw[Nat.mul_add];simp
  rw[Nat.mul_comm (BB ^ l.length)]
  omega
def trimN(l:List Nat):List Nat:=(l.reverse.dropWhile (·==0)).reverse
theorem trimN_snoc0(l:List Nat):trimN (l++[0])=trimN l:=by
 unfold trimN;simp
theorem trimN_snoc{l:List Nat}{a:Nat}(h:a≠0):trimN (l++[a])=l++[a]:=by
 unfold trimN;simp[h]
theorem val_append(l m:List Nat):val (l++m)=val l+BB ^ l.length*val m:=by
 induction l with
 | nil=>simp[val]
 | cons a l ih=>
  rw[List.cons_append,val,val,ih,List.length_cons,Nat.pow_succ,Nat.mul_add,Nat.mul_comm (BB ^ l.length) BB,Nat.mul_assoc]
  omega
theorem limbs_snoc{l:List Nat}{a:Nat}(hl:Lim l)(ha:a<BB)(h0:a≠0):limbs (val (l++[a]))=l++[a]:=by
 induction l with
 | nil=>rw[List.nil_append];show limbs (a+BB*0)=[a];rw[Nat.mul_zero,Nat.add_zero,limbs_one h0 ha]
 | cons b l ih=>
  have h1:=hl.head
  rw[List.cons_append,val]
  have hp:val (l++[a])≠0:=by
   intro h
   have:=ih hl.tail
   rw[h,limbs_zero] at this
   simp at this
  rw[limbs_pos (by simp only[BB];omega),Nat.add_mul_mod_self_left,Nat.mod_eq_of_lt h1,Nat.add_mul_div_left _ _ (by decide),Nat.div_eq_of_lt h1,Nat.zero_add,ih hl.tail]
theorem limbs_val{l:List Nat}(h:Lim l):limbs (val l)=trimN l:=by
 have key:∀k (l:List Nat),l.length=k→Lim l→limbs (val l)=trimN l:=by
  intro k
  induction k with
  | zero=>
   intro l hl _
   have:=List.eq_nil_of_length_eq_zero hl
   subst this
   exact limbs_zero
  | succ k ih=>
   intro l hl h
   have hne:l≠[]:=by intro e;subst e;simp at hl
   obtain⟨m,a,rfl⟩:∃m a,l=m++[a]:=⟨l.dropLast,l.getLast hne,(List.dropLast_concat_getLast hne).symm⟩
   have hm:Lim m:=fun x hx=>h x (List.mem_append.2 (.inl hx))
   have ha:a<BB:=h a (by simp)
   by_cases h0:a=0
   ·subst h0
    rw[trimN_snoc0,val_append,show val [0]=0 from rfl,Nat.mul_zero,Nat.add_zero]
    exact ih m (by simp at hl;exact hl) hm
   ·rw[limbs_snoc hm ha h0,trimN_snoc h0]
 exact key _ l rfl h
theorem limbs_len{n k:Nat}:(limbs n).length≤k↔n<BB ^ k:=by
 constructor
 ·intro h
  have:=val_lt (lim_limbs n)
  rw[val_limbs] at this
  exact Nat.lt_of_lt_of_le this (Nat.pow_le_pow_right (by decide) h)
 ·intro h
  induction k generalizing n with
  | zero=>
   have:n=0:=by simpa using h
   subst this;simp[limbs_zero]
  | succ k ih=>
   by_cases h0:n=0
   ·subst h0;simp[limbs_zero]
   ·rw[limbs_pos h0,List.length_cons]
    have:=ih (n:=n/BB) (Nat.div_lt_of_lt_mul (by rw[Nat.mul_comm,←Nat.pow_succ];exact h))
    omega
def limT(n:Nat):T:=.v (.int .u32 (n:Int))
def lmL(l:List Nat):List T:=l.map limT
def lm(n:Nat):List T:=lmL (limbs n)
def dn(d:Nat):List T:=if d=1 then [] else lm d
theorem lmL_len(l:List Nat):(lmL l).length=l.length:=by simp[lmL]
theorem lm_zero:lm 0=[]:=by rw[lm,limbs_zero];rfl
theorem lm_one{n:Nat}(h:n≠0)(hn:n<BB):lm n=[limT n]:=by rw[lm,limbs_one h hn];rfl
end Go.Eng.Rt
namespace Go.Eng.Rt
open Go.Eng
def rNeg(q:Rat):Bool:=decide (q.num<0)
def rNum(q:Rat):List T:=lm q.num.natAbs
def rDen(q:Rat):List T:=dn q.den
def sg(neg:Bool)(n:Nat):Int:=if neg then -(n:Int) else n
theorem sg_abs(neg:Bool)(n:Nat):(sg neg n).natAbs=n:=by cases neg <;> simp[sg]
theorem mk_den{n:Int}{d:Nat}(hd:d≠0):(mkRat n d).den=d/n.natAbs.gcd d:=by
 rw[Rat.mkRat_def,dif_neg hd,Rat.normalize_eq]
theorem mk_num{n:Int}{d:Nat}(hd:d≠0):(mkRat n d).num=n/(n.natAbs.gcd d:Nat):=by
 rw[Rat.mkRat_def,dif_neg hd,Rat.normalize_eq]
theorem mk_abs(neg:Bool){n d:Nat}(hd:d≠0):(mkRat (sg neg n) d).num.natAbs=n/n.gcd d:=by
 rw[mk_num hd,sg_abs]
 unfold sg
 have hg:0<n.gcd d:=Nat.gcd_pos_of_pos_right _ (Nat.pos_of_ne_zero hd)
 cases neg with
 | false=>simp only[Bool.false_eq_true,if_false];rw[←Int.natCast_ediv];exact Int.natAbs_natCast _
 | true=>
  simp only[if_true]
  rw[Int.neg_ediv_of_dvd (Int.natCast_dvd_natCast.2 (Nat.gcd_dvd_left n d)),Int.natAbs_neg,←Int.natCast_ediv];exact Int.natAbs_natCast _
theorem mk_neg(neg:Bool){n d:Nat}(hd:d≠0)(hn:n≠0):rNeg (mkRat (sg neg n) d)=neg:=by
 unfold rNeg
 rw[mk_num hd,sg_abs]
 have hg:0<n.gcd d:=Nat.gcd_pos_of_pos_right _ (Nat.pos_of_ne_zero hd)
 have hq:0<n/n.gcd d:=Nat.div_pos (Nat.le_of_dvd (Nat.pos_of_ne_zero hn) (Nat.gcd_dvd_left n d)) hg
 unfold sg
 cases neg with
 | false=>
  simp only[Bool.false_eq_true,if_false];rw[←Int.natCast_ediv]
  exact decide_eq_false (by omega)
 | true=>
  simp only[if_true]
  rw[Int.neg_ediv_of_dvd (Int.natCast_dvd_natCast.2 (Nat.gcd_dvd_left n d)),←Int.natCast_ediv]
  exact decide_eq_true (by omega)
theorem mk_zero(neg:Bool)(d:Nat):mkRat (sg neg 0) d=0:=by
 cases neg <;> simp[sg,Rat.zero_mkRat]
theorem rNum_mk(neg:Bool){n d:Nat}(hd:d≠0):rNum (mkRat (sg neg n) d)=lm (n/n.gcd d):=by unfold rNum;rw[mk_abs neg hd]
theorem rDen_mk(neg:Bool){n d:Nat}(hd:d≠0):rDen (mkRat (sg neg n) d)=dn (d/n.gcd d):=by unfold rDen;rw[mk_den hd,sg_abs]
theorem rNeg_zero:rNeg 0=false:=rfl
theorem rNum_zero:rNum 0=[]:=lm_zero
theorem rDen_zero:rDen 0=[]:=rfl
def Sm(q:Rat):Prop:=q.num.natAbs<2147483648∧q.den<2147483648
theorem Sm.zero:Sm 0:=⟨by decide,by decide⟩
theorem rNum_sm{q:Rat}(h:q.num.natAbs<BB):rNum q=if q.num.natAbs=0 then [] else [limT q.num.natAbs]:=by
 unfold rNum
 split
 ·rename_i e;rw[e,lm_zero]
 ·rename_i e;rw[lm_one e h]
theorem rDen_sm{q:Rat}(h:q.den<BB):rDen q=if q.den=1 then [] else [limT q.den]:=by
 unfold rDen dn
 split
 ·rfl
 ·rw[lm_one q.den_nz h]
end Go.Eng.Rt
namespace Go.Eng.En
open Go.Eng
abbrev tI(z:Int):T:=.v (.int .i64 z)
abbrev tB(b:Bool):T:=.v (.bool b)
theorem find_cons(k t:T)(l:List T):mapFind k (t::l)=if keyB k (entKey t) then some 0 else (mapFind k l).map (·+1):=by
 unfold mapFind;rw[List.findIdx?_cons]
theorem get_cons_pos{k t z:T}{l:List T}(h:keyB k (entKey t)=true):mapGetD k (t::l) z=entVal t:=by
 unfold mapGetD;rw[find_cons,if_pos h];rfl
theorem get_cons_neg{k t z:T}{l:List T}(h:keyB k (entKey t)=false):mapGetD k (t::l) z=mapGetD k l z:=by
 unfold mapGetD;rw[find_cons,if_neg (by simp[h])]
 cases mapFind k l <;> rfl
theorem put_cons_pos{k v t:T}{l:List T}(h:keyB k (entKey t)=true):mapPut k v (t::l)=.agg [k,v]::l:=by
 unfold mapPut;rw[find_cons,if_pos h];rfl
theorem put_cons_neg{k v t:T}{l:List T}(h:keyB k (entKey t)=false):mapPut k v (t::l)=t::mapPut k v l:=by
 unfold mapPut;rw[find_cons,if_neg (by simp[h])]
 cases mapFind k l <;> rfl
theorem get_nil(k z:T):mapGetD k [] z=z:=by unfold mapGetD;rfl
theorem put_nil(k v:T):mapPut k v []=[.agg [k,v]]:=by unfold mapPut;rfl
theorem key_int(i j:Int):keyB (tI i) (tI j)=decide (i=j):=by
 have e:keyB (tI i) (tI j)=(i==j):=rfl
 rw[e,Bool.eq_iff_iff];simp
theorem key_same{i j:Int}{t:T}(h1:keyB (tI i) t=true)(h2:keyB (tI j) t=true):i=j:=by
 cases t with
 | v a=>
  cases a with
  | int k x=>
   cases k <;> first
    | (have e1:(i==x)=true:=h1;have e2:(j==x)=true:=h2;simp at e1 e2;omega)
    | (cases h1)
  | _=>cases h1
 | agg l=>cases h1
 | sl n l=>cases h1
theorem get_put(i j:Int)(v z:T):∀M:List T,mapGetD (tI i) (mapPut (tI j) v M) z=if i=j then v else mapGetD (tI i) M z
 | []=>by
  rw[put_nil]
  by_cases h:i=j
  ·rw[if_pos h,get_cons_pos (by show keyB (tI i) (tI j)=true;rw[key_int];simp[h])];rfl
  ·rw[if_neg h,get_cons_neg (by show keyB (tI i) (tI j)=false;rw[key_int];simp[h])]
 | t::M=>by
  cases hj:keyB (tI j) (entKey t) with
  | true=>
   rw[put_cons_pos hj]
   by_cases h:i=j
   ·rw[if_pos h,get_cons_pos (by show keyB (tI i) (tI j)=true;rw[key_int];simp[h])];rfl
   ·rw[if_neg h,get_cons_neg (by show keyB (tI i) (tI j)=false;rw[key_int];simp[h])]
    cases hi:keyB (tI i) (entKey t) with
    | true=>exact absurd (key_same hi hj) h
    | false=>rw[get_cons_neg hi]
  | false=>
   rw[put_cons_neg hj]
   cases hi:keyB (tI i) (entKey t) with
   | true=>
    rw[get_cons_pos hi,get_cons_pos hi,if_neg]
    intro e;subst e;rw[hi] at hj;cases hj
   | false=>rw[get_cons_neg hi,get_cons_neg hi,get_put i j v z M]
def IsS(M:List T)(S:Int→Bool):Prop:=∀i,mapGetD (tI i) M (tB false)=tB (S i)
theorem IsS.nil:IsS [] fun _=>false:=fun i=>get_nil _ _
theorem IsS.put{M:List T}{S:Int→Bool}(h:IsS M S)(j:Int):IsS (mapPut (tI j) (tB true) M) fun i=>decide (i=j)||S i:=fun i=>by
 rw[get_put]
 by_cases hi:i=j
 ·rw[if_pos hi];simp[hi]
 ·rw[if_neg hi,h i];simp[hi]
def argT(k:Int)(neg:Bool)(num den:List T)(text:ByteArray)(ref:Int)(l:List T):T:=.agg [tI k,tB neg,.sl 1 num,.sl 1 den,.v (.string text),tI ref,.sl 7 l]
def kd(t:T):Int:=(T.int? .i64 (T.cell t 0)).getD 0
def rf(t:T):Int:=(T.int? .i64 (T.cell t 5)).getD 0
def sb(t:T):List T:=(T.sl? 7 (T.cell t 6)).getD []
def refs:Nat→List T→List Int
 | 0,_=>[]
 | n+1,l=>l.flatMap fun t=>if kd t=5 then [rf t] else if kd t=6 then refs n (sb t) else []
def OkA:Nat→T→Prop
 | 0,_=>False
 | n+1,t=>∃k neg num den text ref l,t=argT k neg num den text ref l∧l.length≤4∧(∀x∈l,OkA n x)∧∃q:Rat,Rt.Sm q∧neg=Rt.rNeg q∧num=Rt.rNum q∧den=Rt.rDen q
theorem kd_arg{k:Int}{neg:Bool}{num den:List T}{text:ByteArray}{ref:Int}{l:List T}:kd (argT k neg num den text ref l)=k:=by unfold kd;rw[show T.cell (argT k neg num den text ref l) 0=tI k from rfl,T_int];rfl
theorem rf_arg{k:Int}{neg:Bool}{num den:List T}{text:ByteArray}{ref:Int}{l:List T}:rf (argT k neg num den text ref l)=ref:=by unfold rf;rw[show T.cell (argT k neg num den text ref l) 5=tI ref from rfl,T_int];rfl
theorem sb_arg{k:Int}{neg:Bool}{num den:List T}{text:ByteArray}{ref:Int}{l:List T}:sb (argT k neg num den text ref l)=l:=by unfold sb;rw[show T.cell (argT k neg num den text ref l) 6=.sl 7 l from rfl,T_sl];rfl
theorem refs_len:∀(m n:Nat) (l:List T),(∀x∈l,OkA n x)→(refs m l).length≤l.length*4 ^ n
 | 0,n,l,_=>by simp[refs]
 | m+1,n,[],_=>by simp[refs]
 | m+1,n,t::l,h=>by
  have ih:=refs_len (m+1) n l fun x hx=>h x (List.mem_cons_of_mem _ hx)
  simp only[refs] at ih ⊢
  rw[List.flatMap_cons,List.length_append,List.length_cons,Nat.add_mul,Nat.one_mul]
  have h1:(if kd t=5 then [rf t] else if kd t=6 then refs m (sb t) else []).length≤4 ^ n:=by
   have ht:=h t (List.mem_cons_self ..)
   cases n with
   | zero=>exact ht.elim
   | succ n=>
    obtain⟨k,neg,num,den,text,ref,q,rfl,hq,hs,_⟩:=ht
    rw[kd_arg,rf_arg,sb_arg]
    have hp:0<4 ^ (n+1):=Nat.pow_pos (by decide)
    split
    ·exact hp
    ·split
     ·have:=refs_len m n q hs
      rw[Nat.pow_succ,Nat.mul_comm]
      exact Nat.le_trans this (Nat.mul_le_mul_right _ hq)
     ·exact Nat.zero_le _
  omega
end Go.Eng.En
