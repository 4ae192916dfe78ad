/- The functions and the laws of this seat in plain words; each statement names its conditions. -/
import Derived.Shelf.Strings.Builder1
import Derived.Shelf.Strings.Builder2
import Derived.Shelf.Strings.Trim
import Derived.Shelf.Small.Utf8
import Derived.Shelf.Small.Bits
import Derived.Shelf.Small.Strs
import Derived.Shelf.Strings.BuilderF
import Derived.Shelf.Strings.BuilderK
import Derived.Shelf.Strings.Builder2Cap
import Derived.Shelf.Strconv.Itoa0
import Derived.Shelf.Strconv.Itoa1
import Derived.Shelf.LaysM
import Derived.Shelf.Strconv.Itoa2
import Derived.Shelf.Strconv.Itoa3
import Derived.Shelf.Strings.Search1
import Derived.Shelf.Strings.Search2
import Derived.Shelf.Strings.Search3
import Derived.Shelf.Strings.Cut
import Derived.Shelf.Strings.Count
import Derived.Shelf.Strings.Shaped
import Derived.Shelf.Strings.Prefix
import Derived.Shelf.Strings.Split
import Derived.Shelf.Strings.Replace
import Derived.Shelf.Strings.Runes
import Derived.Shelf.Strings.AsciiSet
import Derived.Shelf.Bits.Mul64
import Derived.Shelf.Strings.Repeat
import Derived.Shelf.Unicode.DecodeSlow
import Derived.Shelf.Strings.BuilderCap
import Derived.Deep.WholeRow
import Derived.Test.YtlgdmflplabioaaGreatDoorEng3
import Derived.Test.YtlgdmflplabioaaGreatDoorProg
set_option linter.unusedSimpArgs false
set_option linter.unusedVariables false
namespace Go.Eng
open Go.Proofs
theorem mixed:Tryz.prog.follows .mixedOrders=true:=by kernel_rfl
def zD:Sig:=⟨2,0,⟨[.slot 0,.slot 1],[I6,I6]⟩,1,[],0,⟨[.slot 0],[I6]⟩,28⟩
noncomputable def hZ(t:Int×Int×Unit):Option (Int×Unit):=ob (nz t.2.1) fun x0=>ob (α:=Int×Unit⊕Empty) (bif ltI (modI t.1 x0) (0:Int) then some (.inl (wr .i64 (addI (modI t.1 x0) t.2.1),())) else some (.inl (modI t.1 x0,()))) fun q1=>bB q1 (fun t2=>some (t2.1,())) fun q3=>b0 q3
theorem AR:(aA zD hZ).OK Tryz.prog 44:=d4 mixed [] (.l (.l (.seq (.join [(.normal,⟨[.slot 0],[I6]⟩)] .leaf) .leaf))) .nil Tryz.func44 fun _=>by kernel_rfl
def cD:Sig:=⟨2,1,⟨[.slot 0,.slot 1,.box 0 2],[.lit (.box 0 0),I6,.sl 1,I6]⟩,1,[],0,⟨[.slot 0,.box 0 2],[I6,.sl 1,I6]⟩,70⟩
noncomputable def u___brepkernelmade_Dice__Next(t:Unit×Int×List T×Int×Unit):Option (Int×List T×Int×Unit):=bif leI (lenL t.2.2.1) t.2.2.2.1 then some ((0:Int),t.2.2.1,t.2.2.2.1,()) else ob (idxL t.2.2.1 (wr .i64 (subI (wr .i64 (addI t.2.2.2.1 (1:Int))) (1:Int)))) fun x0=>ob (T.int? .i64 (T.cell x0 0)) fun x1=>ob (hZ (x1,t.2.1,())) fun x2=>some (x2.1,t.2.2.1,wr .i64 (addI t.2.2.2.1 (1:Int)),())
theorem bU:(aA cD u___brepkernelmade_Dice__Next).OK Tryz.prog 15:=d4 mixed [44] .leaf (.cs Tryz.func44 AR <| .nil) Tryz.func15 fun _=>by kernel_rfl
def eQ:Sig:=⟨2,1,⟨[.slot 0,.slot 1,.box 0 2],[.lit (.box 0 0),I6,.sl 1,I6]⟩,1,[],0,⟨[.slot 0,.box 0 2],[.bool,.sl 1,I6]⟩,22⟩
noncomputable def aR(t:Unit×Int×List T×Int×Unit):Option (Bool×List T×Int×Unit):=ob (u___brepkernelmade_Dice__Next ((),t.2.1,t.2.2.1,t.2.2.2.1,())) fun x0=>some (eqI x0.1 (wr .i64 (subI t.2.1 (1:Int))),x0.2.1,x0.2.2.1,())
theorem jD:(aA eQ aR).OK Tryz.prog 31:=d4 mixed [] .leaf (.cs Tryz.func15 bU <| .nil) Tryz.func31 fun _=>by kernel_rfl
def nJ:Sig:=⟨1,0,⟨[.slot 0],[.sl 1]⟩,1,[],0,⟨[.slot 0],[.bool]⟩,12⟩
noncomputable def d8(t:List T×Unit):Option (Bool×Unit):=some (leI (lenL t.1) (500:Int),())
theorem xT:(aA nJ d8).OK Tryz.prog 8:=d4 mixed [] .leaf .nil Tryz.func8 fun _=>by kernel_rfl
def oB:Sig:=⟨1,0,⟨[.slot 0],[.sl 1]⟩,1,[],1,⟨[.boxr 0 0 2],[.sl 1,I6]⟩,12⟩
noncomputable def gO(t:List T×Unit):Option (List T×Int×Unit):=some (t.1,(0:Int),())
theorem zE:(aA oB gO).OK Tryz.prog 10:=d4 mixed [] .leaf .nil Tryz.func10 fun _=>by kernel_rfl
def MG:Sig:=⟨1,0,⟨[.slot 0],[.sl 1]⟩,2,[],0,⟨[.slot 0,.slot 1],[.int .u64,.bool]⟩,52⟩
noncomputable def u_ref01_small(t:List T×Unit):Option (Int×Bool×Unit):=bif eqI (lenL t.1) (0:Int) then some ((0:Int),true,()) else bif eqI (lenL t.1) (1:Int) then ob (idxL t.1 (0:Int)) fun x0=>ob (T.anyInt? (T.cell x0 0)) fun x1=>some (wr .u64 x1,true,()) else bif eqI (lenL t.1) (2:Int) then ob (idxL t.1 (0:Int)) fun x2=>ob (T.anyInt? (T.cell x2 0)) fun x3=>ob (idxL t.1 (1:Int)) fun x4=>ob (T.anyInt? (T.cell x4 0)) fun x5=>ob (nn (32:Int)) fun x6=>some (bitI .or .u64 (wr .u64 x3) (wr .u64 (shlI .u64 (wr .u64 x5) x6)),true,()) else some ((0:Int),false,())
theorem C1:(aA MG u_ref01_small).OK Tryz.prog 179:=d4 mixed [] .leaf .nil Tryz.func179 fun _=>by kernel_rfl
def NX:Sig:=⟨1,0,⟨[.slot 0],[.sl 1]⟩,1,[],0,⟨[.slot 0],[.sl 1]⟩,46⟩
noncomputable def yI(s0:List T×Int×Unit):Option (List T×Int×Unit⊕List T×Int×Unit⊕Empty):=bif ltI (0:Int) s0.2.1 then ob (idxL s0.1 (wr .i64 (subI s0.2.1 (1:Int)))) fun x1=>ob (T.int? .u32 (T.cell x1 0)) fun x2=>bif eqI x2 (0:Int) then some (.inl (s0.1,wr .i64 (subI s0.2.1 (1:Int)),())) else some (.inr (.inl (s0.1,s0.2.1,()))) else some (.inr (.inl (s0.1,s0.2.1,())))
noncomputable def cJ(t:List T×Unit):Option (List T×Unit):=ob (aF yI (t.1,lenL t.1,())) fun q3=>bB q3 (fun t4=>ob (cutL t4.1 (0:Int) t4.2.1) fun x5=>ob (room [] x5 4) fun x6=>some (x6,())) fun q7=>b0 q7
theorem fU:(aA NX cJ).OK Tryz.prog 122:=d4 mixed [] (.l (.l (.seq (.one (.loop ⟨[.slot 0,.slot 3],[.sl 1,I6]⟩ [((.exit 0),⟨[.slot 0,.slot 3],[.sl 1,I6]⟩)] .leaf)) .leaf))) .nil Tryz.func122 fun _=>by kernel_rfl
def T5:Sig:=⟨1,0,⟨[.slot 0],[.int .u64]⟩,1,[],0,⟨[.slot 0],[.sl 1]⟩,20⟩
noncomputable def iI(t:Int×Unit):Option (List T×Unit):=ob (nn (32:Int)) fun x0=>ob (cJ ([T.v (.int .u32 (wr .u32 t.1)),T.v (.int .u32 (wr .u32 (shrI .u64 t.1 x0)))],())) fun x1=>some (x1.1,())
theorem xU:(aA T5 iI).OK Tryz.prog 121:=d4 mixed [] .leaf (.cs Tryz.func122 fU <| .nil) Tryz.func121 fun _=>by kernel_rfl
def RK:Sig:=⟨2,0,⟨[.slot 0,.slot 1],[.sl 1,.sl 1]⟩,1,[],0,⟨[.slot 0],[I6]⟩,82⟩
noncomputable def AT(s0:List T×List T×Int×Unit):Option (List T×List T×Int×Unit⊕Int×Unit⊕Unit⊕Empty):=bif leI (0:Int) s0.2.2.1 then ob (idxL s0.1 s0.2.2.1) fun x1=>ob (idxL s0.2.1 s0.2.2.1) fun x2=>ob (T.int? .u32 (T.cell x1 0)) fun x3=>ob (T.int? .u32 (T.cell x2 0)) fun x4=>bif ltI x3 x4 then some (.inr (.inl ((-1:Int),()))) else ob (idxL s0.1 s0.2.2.1) fun x5=>ob (idxL s0.2.1 s0.2.2.1) fun x6=>ob (T.int? .u32 (T.cell x5 0)) fun x7=>ob (T.int? .u32 (T.cell x6 0)) fun x8=>bif ltI x8 x7 then some (.inr (.inl ((1:Int),()))) else some (.inl (s0.1,s0.2.1,wr .i64 (subI s0.2.2.1 (1:Int)),())) else some (.inr (.inr (.inl ())))
noncomputable def qX(t:List T×List T×Unit):Option (Int×Unit):=bif Bool.not (eqI (lenL t.1) (lenL t.2.1)) then bif ltI (lenL t.1) (lenL t.2.1) then some ((-1:Int),()) else some ((1:Int),()) else ob (aF AT (t.1,t.2.1,wr .i64 (subI (lenL t.1) (1:Int)),())) fun q9=>bB q9 (fun t10=>some (t10.1,())) fun q11=>bB q11 (fun t12=>some ((0:Int),())) fun q13=>b0 q13
theorem T6:(aA RK qX).OK Tryz.prog 60:=d4 mixed [] (.l (.l (.seq (.l (.one (.loop ⟨[.slot 0,.slot 1,.slot 5],[.sl 1,.sl 1,I6]⟩ [(.ret,⟨[.slot 4],[I6]⟩),((.exit 0),⟨[],[]⟩)] .leaf))) .leaf))) .nil Tryz.func60 fun _=>by kernel_rfl
def FW:Sig:=⟨2,0,⟨[.slot 0,.slot 1],[.sl 1,.sl 1]⟩,1,[],0,⟨[.slot 0],[.sl 1]⟩,134⟩
noncomputable def AU(s2:List T×List T×List T×Int×Int×Int×Unit):Option (List T×List T×List T×Int×Int×Int×Unit⊕List T×List T×List T×Int×Int×Unit⊕Empty):=bif ltI s2.2.2.2.2.2.1 (lenL s2.2.1) then ob (idxL s2.1 s2.2.2.2.1) fun x3=>ob (T.anyInt? (T.cell x3 0)) fun x4=>ob (idxL s2.2.1 s2.2.2.2.2.2.1) fun x5=>ob (T.anyInt? (T.cell x5 0)) fun x6=>ob (chkI (lenL s2.2.2.1) (wr .i64 (addI s2.2.2.2.1 s2.2.2.2.2.2.1))) fun x7=>ob (idxN s2.2.2.1 x7) fun x8=>ob (T.anyInt? (T.cell x8 0)) fun x9=>ob (chkI (lenL s2.2.2.1) (wr .i64 (addI s2.2.2.2.1 s2.2.2.2.2.2.1))) fun x10=>ob (idxN s2.2.2.1 x10) fun x11=>ob (nn (32:Int)) fun x12=>some (.inl (s2.1,s2.2.1,List.set s2.2.2.1 x10 (T.upd 1 x11 0 [T.v (.int .u32 (wr .u32 (wr .u64 (addI s2.2.2.2.2.1 (wr .u64 (addI (wr .u64 (mulI (wr .u64 x4) (wr .u64 x6))) (wr .u64 x9)))))))]),s2.2.2.2.1,shrI .u64 (wr .u64 (addI s2.2.2.2.2.1 (wr .u64 (addI (wr .u64 (mulI (wr .u64 x4) (wr .u64 x6))) (wr .u64 x9))))) x12,wr .i64 (addI s2.2.2.2.2.2.1 (1:Int)),())) else some (.inr (.inl (s2.1,s2.2.1,s2.2.2.1,s2.2.2.2.1,s2.2.2.2.2.1,())))
noncomputable def tA(s1:List T×List T×List T×Int×Unit):Option (List T×List T×List T×Int×Unit⊕List T×Unit⊕Empty):=bif ltI s1.2.2.2.1 (lenL s1.1) then ob (aF AU (s1.1,s1.2.1,s1.2.2.1,s1.2.2.2.1,(0:Int),(0:Int),())) fun q13=>bB q13 (fun t14=>ob (chkI (lenL t14.2.2.1) (wr .i64 (addI t14.2.2.2.1 (lenL t14.2.1)))) fun x15=>ob (idxN t14.2.2.1 x15) fun x16=>some (.inl (t14.1,t14.2.1,List.set t14.2.2.1 x15 (T.upd 1 x16 0 [T.v (.int .u32 (wr .u32 t14.2.2.2.2.1))]),wr .i64 (addI t14.2.2.2.1 (1:Int)),()))) fun q17=>b0 q17 else some (.inr (.inl (s1.2.2.1,())))
noncomputable def lA(t:List T×List T×Unit):Option (List T×Unit):=ob (mkLen (wr .i64 (addI (lenL t.1) (lenL t.2.1))) (wr .i64 (addI (lenL t.1) (lenL t.2.1))) 4) fun x0=>ob (aF tA (t.1,t.2.1,repL x0.1 (T.v (.int .u32 (0:Int))),(0:Int),())) fun q18=>bB q18 (fun t19=>ob (cJ (t19.1,())) fun x20=>some (x20.1,())) fun q21=>b0 q21
theorem IQ:(aA FW lA).OK Tryz.prog 63:=d4 mixed [] (.l (.l (.seq (.l (.one (.loop ⟨[.slot 0,.slot 1,.slot 5,.slot 6],[.sl 1,.sl 1,.row 116 1 14,I6]⟩ [((.exit 0),⟨[.slot 5],[.row 116 1 14]⟩)] (.l (.seq (.one (.l (.seq (.l (.one (.loop ⟨[.slot 0,.slot 1,.slot 5,.slot 6,.slot 7,.slot 8],[.sl 1,.sl 1,.row 116 1 14,I6,.int .u64,I6]⟩ [((.exit 2),⟨[.slot 0,.slot 1,.slot 5,.slot 6,.slot 7],[.sl 1,.sl 1,.row 116 1 14,I6,.int .u64]⟩)] .leaf))) .leaf))) .leaf))))) .leaf))) (.cs Tryz.func122 fU <| .nil) Tryz.func63 fun _=>by kernel_rfl
def MH:Sig:=⟨2,0,⟨[.slot 0,.slot 1],[.sl 1,.sl 1]⟩,1,[],0,⟨[.slot 0],[.sl 1]⟩,100⟩
noncomputable def wI(s1:List T×List T×List T×Int×Int×Unit):Option (List T×List T×List T×Int×Int×Unit⊕List T×Unit⊕Empty):=bif ltI s1.2.2.2.2.1 (lenL s1.1) then ob (α:=List T×List T×List T×Int×Int×Unit⊕Empty) (bif ltI s1.2.2.2.2.1 (lenL s1.2.1) then ob (idxL s1.2.1 s1.2.2.2.2.1) fun x2=>ob (T.anyInt? (T.cell x2 0)) fun x3=>some (.inl (s1.1,s1.2.1,s1.2.2.1,s1.2.2.2.2.1,wr .u64 (addI s1.2.2.2.1 (wr .u64 x3)),())) else some (.inl (s1.1,s1.2.1,s1.2.2.1,s1.2.2.2.2.1,s1.2.2.2.1,()))) fun q4=>bB q4 (fun t5=>ob (idxL t5.1 t5.2.2.2.1) fun x6=>ob (T.anyInt? (T.cell x6 0)) fun x7=>ob (α:=List T×List T×List T×Int×Int×Int×Int×Unit⊕Empty) (bif ltI (wr .u64 x7) t5.2.2.2.2.1 then some (.inl (t5.1,t5.2.1,t5.2.2.1,(1:Int),t5.2.2.2.1,t5.2.2.2.2.1,wr .u64 (addI (wr .u64 x7) (4294967296:Int)),())) else some (.inl (t5.1,t5.2.1,t5.2.2.1,(0:Int),t5.2.2.2.1,t5.2.2.2.2.1,wr .u64 x7,()))) fun q8=>bB q8 (fun t9=>ob (chkI (lenL t9.2.2.1) t9.2.2.2.2.1) fun x10=>ob (idxN t9.2.2.1 x10) fun x11=>some (.inl (t9.1,t9.2.1,List.set t9.2.2.1 x10 (T.upd 1 x11 0 [T.v (.int .u32 (wr .u32 (wr .u64 (subI t9.2.2.2.2.2.2.1 t9.2.2.2.2.2.1))))]),t9.2.2.2.1,wr .i64 (addI t9.2.2.2.2.1 (1:Int)),()))) fun q12=>b0 q12) fun q13=>b0 q13 else some (.inr (.inl (s1.2.2.1,())))
noncomputable def mH(t:List T×List T×Unit):Option (List T×Unit):=ob (mkLen (lenL t.1) (lenL t.1) 4) fun x0=>ob (aF wI (t.1,t.2.1,repL x0.1 (T.v (.int .u32 (0:Int))),(0:Int),(0:Int),())) fun q14=>bB q14 (fun t15=>ob (cJ (t15.1,())) fun x16=>some (x16.1,())) fun q17=>b0 q17
theorem NY:(aA MH mH).OK Tryz.prog 184:=d4 mixed [] (.l (.l (.l (.seq (.l (.one (.loop ⟨[.slot 0,.slot 1,.slot 5,.slot 6,.slot 7],[.sl 1,.sl 1,.row 116 1 12,.int .u64,I6]⟩ [((.exit 0),⟨[.slot 5],[.row 116 1 12]⟩)] (.l (.seq (.one (.l (.seq (.join [(.normal,⟨[.slot 0,.slot 1,.slot 5,.slot 7,.slot 8],[.sl 1,.sl 1,.row 116 1 12,I6,.int .u64]⟩)] .leaf) (.l (.l (.seq (.join [(.normal,⟨[.slot 0,.slot 1,.slot 5,.slot 6,.slot 7,.slot 8,.slot 9],[.sl 1,.sl 1,.row 116 1 12,.int .u64,I6,.int .u64,.int .u64]⟩)] .leaf) .leaf)))))) .leaf))))) .leaf)))) (.cs Tryz.func122 fU <| .nil) Tryz.func184 fun _=>by kernel_rfl
def NZ:Sig:=⟨1,0,⟨[.slot 0],[.sl 1]⟩,1,[],0,⟨[.slot 0],[I6]⟩,50⟩
noncomputable def yJ(s1:Int×Int×Unit):Option (Int×Int×Unit⊕Int×Unit⊕Empty):=bif Bool.not (eqI s1.2.1 (0:Int)) then ob (nn (1:Int)) fun x2=>some (.inl (wr .i64 (addI s1.1 (1:Int)),shrI .u32 s1.2.1 x2,())) else some (.inr (.inl (s1.1,())))
noncomputable def lR(t:List T×Unit):Option (Int×Unit):=bif eqI (lenL t.1) (0:Int) then some ((0:Int),()) else ob (idxL t.1 (wr .i64 (subI (lenL t.1) (1:Int)))) fun x0=>ob (T.int? .u32 (T.cell x0 0)) fun x3=>ob (aF yJ (wr .i64 (mulI (32:Int) (wr .i64 (subI (lenL t.1) (1:Int)))),x3,())) fun q4=>bB q4 (fun t5=>some (t5.1,())) fun q6=>b0 q6
theorem FX:(aA NZ lR).OK Tryz.prog 133:=d4 mixed [] (.l (.l (.l (.seq (.l (.one (.loop ⟨[.slot 3,.slot 4],[I6,.int .u32]⟩ [((.exit 0),⟨[.slot 3],[I6]⟩)] .leaf))) .leaf)))) .nil Tryz.func133 fun _=>by kernel_rfl
def T7:Sig:=⟨2,0,⟨[.slot 0,.slot 1],[.sl 1,I6]⟩,1,[],0,⟨[.slot 0],[.sl 1]⟩,80⟩
noncomputable def C2(s1:List T×Int×List T×Int×Int×Unit):Option (List T×Int×List T×Int×Int×Unit⊕List T×Int×Unit⊕Empty):=bif ltI s1.2.2.2.2.1 (lenL s1.1) then ob (idxL s1.1 s1.2.2.2.2.1) fun x2=>ob (T.anyInt? (T.cell x2 0)) fun x3=>ob (nn (modI s1.2.1 (32:Int))) fun x4=>ob (room s1.2.2.1 [T.v (.int .u32 (wr .u32 (bitI .or .u64 s1.2.2.2.1 (wr .u64 (shlI .u64 (wr .u64 x3) x4)))))] 4) fun x5=>ob (nn (32:Int)) fun x6=>some (.inl (s1.1,s1.2.1,x5,shrI .u64 (bitI .or .u64 s1.2.2.2.1 (wr .u64 (shlI .u64 (wr .u64 x3) x4))) x6,wr .i64 (addI s1.2.2.2.2.1 (1:Int)),())) else some (.inr (.inl (s1.2.2.1,s1.2.2.2.1,())))
noncomputable def tC(t:List T×Int×Unit):Option (List T×Unit):=ob (mkLen (wr .i64 (divI t.2.1 (32:Int))) (wr .i64 (divI t.2.1 (32:Int))) 4) fun x0=>ob (aF C2 (t.1,t.2.1,repL x0.1 (T.v (.int .u32 (0:Int))),(0:Int),(0:Int),())) fun q7=>bB q7 (fun t8=>ob (room t8.1 [T.v (.int .u32 (wr .u32 t8.2.1))] 4) fun x9=>ob (cJ (x9,())) fun x10=>some (x10.1,())) fun q11=>b0 q11
theorem WS:(aA T7 tC).OK Tryz.prog 181:=d4 mixed [] (.l (.l (.l (.seq (.l (.one (.loop ⟨[.slot 0,.slot 1,.slot 5,.slot 6,.slot 7],[.sl 1,I6,.row 116 1 10,.int .u64,I6]⟩ [((.exit 0),⟨[.slot 5,.slot 6],[.row 116 1 10,.int .u64]⟩)] .leaf))) .leaf)))) (.cs Tryz.func122 fU <| .nil) Tryz.func181 fun _=>by kernel_rfl
def HG:Sig:=⟨2,0,⟨[.slot 0,.slot 1],[.sl 1,I6]⟩,1,[],0,⟨[.slot 0],[.sl 1]⟩,24⟩
noncomputable def u_ref01_shifted(t:List T×Int×Unit):Option (List T×Unit):=bif eqI (lenL t.1) (0:Int) then some ([],()) else ob (mkLen t.2.1 t.2.1 4) fun x0=>ob (room (repL x0.1 (T.v (.int .u32 (0:Int)))) t.1 4) fun x1=>some (x1,())
theorem JD:(aA HG u_ref01_shifted).OK Tryz.prog 182:=d4 mixed [] .leaf .nil Tryz.func182 fun _=>by kernel_rfl
def MI:Sig:=⟨2,0,⟨[.slot 0,.slot 1],[.sl 1,.int .u32]⟩,1,[],0,⟨[.slot 0],[.sl 1]⟩,20⟩
noncomputable def qL(t:List T×Int×Unit):Option (List T×Unit):=ob (iI (wr .u64 t.2.1,())) fun x0=>ob (lA (t.1,x0.1,())) fun x1=>some (x1.1,())
theorem N0:(aA MI qL).OK Tryz.prog 183:=d4 mixed [] .leaf (.cs Tryz.func121 xU <| .cs Tryz.func63 IQ <| .nil) Tryz.func183 fun _=>by kernel_rfl
def JE:Sig:=⟨2,0,⟨[.slot 0,.slot 1],[.sl 1,.int .u32]⟩,2,[],0,⟨[.slot 0,.slot 1],[.sl 1,.int .u32]⟩,86⟩
noncomputable def uR(s1:List T×Int×List T×Int×Int×Unit):Option (List T×Int×List T×Int×Int×Unit⊕List T×Int×Unit⊕Empty):=bif leI (0:Int) s1.2.2.2.2.1 then ob (nn (32:Int)) fun x2=>ob (idxL s1.1 s1.2.2.2.2.1) fun x3=>ob (T.anyInt? (T.cell x3 0)) fun x4=>ob (nz (wr .u64 s1.2.1)) fun x5=>ob (chkI (lenL s1.2.2.1) s1.2.2.2.2.1) fun x6=>ob (idxN s1.2.2.1 x6) fun x7=>ob (nz (wr .u64 s1.2.1)) fun x8=>some (.inl (s1.1,s1.2.1,List.set s1.2.2.1 x6 (T.upd 1 x7 0 [T.v (.int .u32 (wr .u32 (wr .u64 (divI (bitI .or .u64 (wr .u64 (shlI .u64 s1.2.2.2.1 x2)) (wr .u64 x4)) x5))))]),modI (bitI .or .u64 (wr .u64 (shlI .u64 s1.2.2.2.1 x2)) (wr .u64 x4)) x8,wr .i64 (subI s1.2.2.2.2.1 (1:Int)),())) else some (.inr (.inl (s1.2.2.1,s1.2.2.2.1,())))
noncomputable def lB(t:List T×Int×Unit):Option (List T×Int×Unit):=ob (mkLen (lenL t.1) (lenL t.1) 4) fun x0=>ob (aF uR (t.1,t.2.1,repL x0.1 (T.v (.int .u32 (0:Int))),(0:Int),wr .i64 (subI (lenL t.1) (1:Int)),())) fun q9=>bB q9 (fun t10=>ob (cJ (t10.1,())) fun x11=>some (x11.1,wr .u32 t10.2.1,())) fun q12=>b0 q12
theorem AV:(aA JE lB).OK Tryz.prog 180:=d4 mixed [] (.l (.l (.l (.seq (.l (.one (.loop ⟨[.slot 0,.slot 1,.slot 6,.slot 7,.slot 8],[.sl 1,.int .u32,.row 116 1 11,.int .u64,I6]⟩ [((.exit 0),⟨[.slot 6,.slot 7],[.row 116 1 11,.int .u64]⟩)] .leaf))) .leaf)))) (.cs Tryz.func122 fU <| .nil) Tryz.func180 fun _=>by kernel_rfl
def N1:Sig:=⟨2,0,⟨[.slot 0,.slot 1],[.sl 1,I6]⟩,1,[],0,⟨[.slot 0],[.sl 1]⟩,110⟩
noncomputable def yK(s2:List T×Int×List T×Int×Unit):Option (List T×Int×List T×Int×Unit⊕List T×Unit⊕Empty):=bif ltI s2.2.2.2.1 (lenL s2.1) then ob (idxL s2.1 s2.2.2.2.1) fun x3=>ob (T.anyInt? (T.cell x3 0)) fun x4=>ob (α:=List T×Int×List T×Int×Int×Unit⊕Empty) (bif ltI (wr .i64 (addI s2.2.2.2.1 (1:Int))) (lenL s2.1) then ob (idxL s2.1 (wr .i64 (addI s2.2.2.2.1 (1:Int)))) fun x5=>ob (T.anyInt? (T.cell x5 0)) fun x6=>ob (nn (32:Int)) fun x7=>some (.inl (s2.1,s2.2.1,s2.2.2.1,s2.2.2.2.1,bitI .or .u64 (wr .u64 x4) (wr .u64 (shlI .u64 (wr .u64 x6) x7)),())) else some (.inl (s2.1,s2.2.1,s2.2.2.1,s2.2.2.2.1,wr .u64 x4,()))) fun q8=>bB q8 (fun t9=>ob (nn (modI t9.2.1 (32:Int))) fun x10=>ob (chkI (lenL t9.2.2.1) t9.2.2.2.1) fun x11=>ob (idxN t9.2.2.1 x11) fun x12=>some (.inl (t9.1,t9.2.1,List.set t9.2.2.1 x11 (T.upd 1 x12 0 [T.v (.int .u32 (wr .u32 (shrI .u64 t9.2.2.2.2.1 x10)))]),wr .i64 (addI t9.2.2.2.1 (1:Int)),()))) fun q13=>b0 q13 else some (.inr (.inl (s2.2.2.1,())))
noncomputable def sF(t:List T×Int×Unit):Option (List T×Unit):=bif leI (lenL t.1) (wr .i64 (divI t.2.1 (32:Int))) then some ([],()) else ob (cutL t.1 (wr .i64 (divI t.2.1 (32:Int))) (lenL t.1)) fun x0=>ob (mkLen (lenL x0) (lenL x0) 4) fun x1=>ob (aF yK (x0,t.2.1,repL x1.1 (T.v (.int .u32 (0:Int))),(0:Int),())) fun q14=>bB q14 (fun t15=>ob (cJ (t15.1,())) fun x16=>some (x16.1,())) fun q17=>b0 q17
theorem RM:(aA N1 sF).OK Tryz.prog 185:=d4 mixed [] (.l (.l (.l (.l (.seq (.l (.one (.loop ⟨[.slot 0,.slot 1,.slot 5,.slot 6],[.sl 1,I6,.row 116 1 19,I6]⟩ [((.exit 0),⟨[.slot 5],[.row 116 1 19]⟩)] (.l (.seq (.one (.l (.seq (.join [(.normal,⟨[.slot 0,.slot 1,.slot 5,.slot 6,.slot 7],[.sl 1,I6,.row 116 1 19,I6,.int .u64]⟩)] .leaf) .leaf))) .leaf))))) .leaf))))) (.cs Tryz.func122 fU <| .nil) Tryz.func185 fun _=>by kernel_rfl
def RN:Sig:=⟨2,0,⟨[.slot 0,.slot 1],[.sl 1,.sl 1]⟩,3,[],0,⟨[.slot 0,.slot 1,.slot 2],[.sl 1,.sl 1,I6]⟩,326⟩
noncomputable def tD(s33:List T×List T×List T×Int×Int×Int×Int×List T×Unit):Option (List T×List T×List T×Int×Int×Int×Int×List T×Unit⊕List T×List T×List T×Int×Int×Int×Int×List T×Unit⊕Empty):=ob (qX (s33.2.2.2.2.2.2.2.1,s33.2.2.1,())) fun x34=>bif ltI (0:Int) x34.1 then ob (u_ref01_shifted (s33.1,s33.2.2.2.2.2.1,())) fun x35=>ob (mH (s33.2.2.2.2.2.2.2.1,x35.1,())) fun x36=>some (.inl (s33.1,s33.2.1,s33.2.2.1,s33.2.2.2.1,s33.2.2.2.2.1,s33.2.2.2.2.2.1,wr .u64 (subI s33.2.2.2.2.2.2.1 (1:Int)),x36.1,())) else some (.inr (.inl (s33.1,s33.2.1,s33.2.2.1,s33.2.2.2.1,s33.2.2.2.2.1,s33.2.2.2.2.2.1,s33.2.2.2.2.2.2.1,s33.2.2.2.2.2.2.2.1,())))
noncomputable def tE(s17:List T×List T×List T×Int×Int×Int×Unit):Option (List T×List T×List T×Int×Int×Int×Unit⊕List T×List T×Int×Unit⊕Empty):=bif leI (0:Int) s17.2.2.2.2.2.1 then ob (α:=List T×List T×List T×Int×Int×Int×Int×Unit⊕Empty) (bif ltI (wr .i64 (addI s17.2.2.2.2.2.1 s17.2.2.2.2.1)) (lenL s17.2.2.1) then ob (idxL s17.2.2.1 (wr .i64 (addI s17.2.2.2.2.2.1 s17.2.2.2.2.1))) fun x18=>ob (T.anyInt? (T.cell x18 0)) fun x19=>some (.inl (s17.1,s17.2.1,s17.2.2.1,s17.2.2.2.1,s17.2.2.2.2.1,s17.2.2.2.2.2.1,wr .u64 x19,())) else some (.inl (s17.1,s17.2.1,s17.2.2.1,s17.2.2.2.1,s17.2.2.2.2.1,s17.2.2.2.2.2.1,(0:Int),()))) fun q20=>bB q20 (fun t21=>ob (α:=List T×List T×List T×Int×Int×Int×Int×Unit⊕Empty) (bif ltI (wr .i64 (subI (wr .i64 (addI t21.2.2.2.2.2.1 t21.2.2.2.2.1)) (1:Int))) (lenL t21.2.2.1) then ob (nn (32:Int)) fun x22=>ob (idxL t21.2.2.1 (wr .i64 (subI (wr .i64 (addI t21.2.2.2.2.2.1 t21.2.2.2.2.1)) (1:Int)))) fun x23=>ob (T.anyInt? (T.cell x23 0)) fun x24=>some (.inl (t21.1,t21.2.1,t21.2.2.1,t21.2.2.2.1,t21.2.2.2.2.1,t21.2.2.2.2.2.1,bitI .or .u64 (wr .u64 (shlI .u64 t21.2.2.2.2.2.2.1 x22)) (wr .u64 x24),())) else ob (nn (32:Int)) fun x25=>some (.inl (t21.1,t21.2.1,t21.2.2.1,t21.2.2.2.1,t21.2.2.2.2.1,t21.2.2.2.2.2.1,wr .u64 (shlI .u64 t21.2.2.2.2.2.2.1 x25),()))) fun q26=>bB q26 (fun t27=>ob (idxL t27.1 (wr .i64 (subI t27.2.2.2.2.1 (1:Int)))) fun x28=>ob (T.anyInt? (T.cell x28 0)) fun x29=>ob (nz (wr .u64 x29)) fun x30=>ob (qL (t27.1,wr .u32 (mmI false (wr .u64 (divI t27.2.2.2.2.2.2.1 x30)) (4294967295:Int)),())) fun x31=>ob (u_ref01_shifted (x31.1,t27.2.2.2.2.2.1,())) fun x32=>ob (aF tD (t27.1,t27.2.1,t27.2.2.1,t27.2.2.2.1,t27.2.2.2.2.1,t27.2.2.2.2.2.1,mmI false (wr .u64 (divI t27.2.2.2.2.2.2.1 x30)) (4294967295:Int),x32.1,())) fun q37=>bB q37 (fun t38=>ob (chkI (lenL t38.2.1) t38.2.2.2.2.2.1) fun x39=>ob (idxN t38.2.1 x39) fun x40=>ob (mH (t38.2.2.1,t38.2.2.2.2.2.2.2.1,())) fun x41=>some (.inl (t38.1,List.set t38.2.1 x39 (T.upd 1 x40 0 [T.v (.int .u32 (wr .u32 t38.2.2.2.2.2.2.1))]),x41.1,t38.2.2.2.1,t38.2.2.2.2.1,wr .i64 (subI t38.2.2.2.2.2.1 (1:Int)),()))) fun q42=>b0 q42) fun q43=>b0 q43) fun q44=>b0 q44 else some (.inr (.inl (s17.2.1,s17.2.2.1,s17.2.2.2.1,())))
noncomputable def iA(t:List T×List T×Unit):Option (List T×List T×Int×Unit):=bif eqI (lenL t.2.1) (0:Int) then some ([],[],(3:Int),()) else ob (qX (t.1,t.2.1,())) fun x0=>bif ltI x0.1 (0:Int) then ob (cJ (t.1,())) fun x1=>some ([],x1.1,(0:Int),()) else ob (u_ref01_small (t.1,())) fun x2=>bif x2.2.1 then ob (u_ref01_small (t.2.1,())) fun x3=>ob (nz x3.1) fun x4=>ob (iI (wr .u64 (divI x2.1 x4),())) fun x5=>ob (nz x3.1) fun x6=>ob (iI (modI x2.1 x6,())) fun x7=>some (x5.1,x7.1,(0:Int),()) else bif eqI (lenL t.2.1) (1:Int) then ob (idxL t.2.1 (0:Int)) fun x8=>ob (T.int? .u32 (T.cell x8 0)) fun x9=>ob (lB (t.1,x9,())) fun x10=>ob (iI (wr .u64 x10.2.1,())) fun x11=>some (x10.1,x11.1,(0:Int),()) else ob (cutL t.2.1 (wr .i64 (subI (lenL t.2.1) (1:Int))) (lenL t.2.1)) fun x12=>ob (lR (x12,())) fun x13=>ob (tC (t.2.1,wr .i64 (subI (32:Int) x13.1),())) fun x14=>ob (tC (t.1,wr .i64 (subI (32:Int) x13.1),())) fun x15=>ob (mkLen (wr .i64 (addI (wr .i64 (subI (lenL x15.1) (lenL x14.1))) (1:Int))) (wr .i64 (addI (wr .i64 (subI (lenL x15.1) (lenL x14.1))) (1:Int))) 4) fun x16=>ob (aF tE (x14.1,repL x16.1 (T.v (.int .u32 (0:Int))),x15.1,wr .i64 (subI (32:Int) x13.1),lenL x14.1,wr .i64 (subI (lenL x15.1) (lenL x14.1)),())) fun q45=>bB q45 (fun t46=>ob (cJ (t46.1,())) fun x47=>ob (sF (t46.2.1,t46.2.2.1,())) fun x48=>some (x47.1,x48.1,(0:Int),())) fun q49=>b0 q49
theorem IR:(aA RN iA).OK Tryz.prog 124:=d4 mixed [60,179,133] (.l (.l (.l (.l (.l (.l (.l (.l (.l (.seq (.l (.one (.loop ⟨[.slot 1,.slot 4,.slot 5,.slot 13,.slot 14,.slot 15],[.sl 1,.row 116 1 82,.sl 1,I6,I6,I6]⟩ [((.exit 0),⟨[.slot 4,.slot 5,.slot 13],[.row 116 1 82,.sl 1,I6]⟩)] (.l (.seq (.one (.l (.seq (.join [(.normal,⟨[.slot 1,.slot 4,.slot 5,.slot 13,.slot 14,.slot 15,.slot 16],[.sl 1,.row 116 1 82,.sl 1,I6,I6,I6,.int .u64]⟩)] .leaf) (.seq (.join [(.normal,⟨[.slot 1,.slot 4,.slot 5,.slot 13,.slot 14,.slot 15,.slot 16],[.sl 1,.row 116 1 82,.sl 1,I6,I6,I6,.int .u64]⟩)] .leaf) (.l (.l (.seq (.one (.loop ⟨[.slot 1,.slot 4,.slot 5,.slot 13,.slot 14,.slot 15,.slot 17,.slot 18],[.sl 1,.row 116 1 82,.sl 1,I6,I6,I6,.int .u64,.sl 1]⟩ [((.exit 2),⟨[.slot 1,.slot 4,.slot 5,.slot 13,.slot 14,.slot 15,.slot 17,.slot 18],[.sl 1,.row 116 1 82,.sl 1,I6,I6,I6,.int .u64,.sl 1]⟩)] .leaf)) .leaf))))))) .leaf))))) .leaf)))))))))) (.cs Tryz.func60 T6 <| .cs Tryz.func122 fU <| .cs Tryz.func179 C1 <| .cs Tryz.func121 xU <| .cs Tryz.func180 AV <| .cs Tryz.func133 FX <| .cs Tryz.func181 WS <| .cs Tryz.func183 N0 <| .cs Tryz.func182 JD <| .cs Tryz.func184 NY <| .cs Tryz.func185 RM <| .nil) Tryz.func124 fun _=>by kernel_rfl
def RO:Sig:=⟨2,0,⟨[.slot 0,.slot 1],[.sl 1,.sl 1]⟩,1,[],0,⟨[.slot 0],[.sl 1]⟩,102⟩
noncomputable def AW(s5:Int×Int×Unit):Option (Int×Int×Unit⊕Int×Unit⊕Empty):=bif Bool.not (eqI s5.2.1 (0:Int)) then ob (nz s5.2.1) fun x6=>some (.inl (s5.2.1,modI s5.1 x6,())) else some (.inr (.inl (s5.1,())))
noncomputable def tF(s2:List T×List T×Unit):Option (List T×List T×Unit⊕List T×Unit⊕List T×Unit⊕Empty):=bif ltI (0:Int) (lenL s2.2.1) then ob (u_ref01_small (s2.1,())) fun x3=>ob (u_ref01_small (s2.2.1,())) fun x4=>bif x3.2.1 then bif x4.2.1 then ob (aF AW (x3.1,x4.1,())) fun q7=>bB q7 (fun t8=>ob (iI (t8.1,())) fun x9=>some (.inr (.inl (x9.1,())))) fun q10=>b0 q10 else ob (iA (s2.1,s2.2.1,())) fun x11=>some (.inl (s2.2.1,x11.2.1,())) else ob (iA (s2.1,s2.2.1,())) fun x12=>some (.inl (s2.2.1,x12.2.1,())) else some (.inr (.inr (.inl (s2.1,()))))
noncomputable def uS(t:List T×List T×Unit):Option (List T×Unit):=ob (cJ (t.1,())) fun x0=>ob (cJ (t.2.1,())) fun x1=>ob (aF tF (x0.1,x1.1,())) fun q13=>bB q13 (fun t14=>some (t14.1,())) fun q15=>bB q15 (fun t16=>some (t16.1,())) fun q17=>b0 q17
theorem T8:(aA RO uS).OK Tryz.prog 123:=d4 mixed [179] (.l (.l (.seq (.one (.loop ⟨[.slot 0,.slot 1],[.sl 1,.sl 1]⟩ [(.ret,⟨[.slot 4],[.sl 1]⟩),((.exit 0),⟨[.slot 0],[.sl 1]⟩)] (.l (.one (.l (.l (.seq (.l (.cond (.seq (.one (.loop ⟨[.slot 5,.slot 7],[.int .u64,.int .u64]⟩ [((.exit 2),⟨[.slot 5],[.int .u64]⟩)] .leaf)) .leaf) .leaf)) .leaf))))))) .leaf))) (.cs Tryz.func122 fU <| .cs Tryz.func179 C1 <| .cs Tryz.func121 xU <| .cs Tryz.func124 IR <| .nil) Tryz.func123 fun _=>by kernel_rfl
def N2:Sig:=⟨1,0,⟨[.slot 0],[I6]⟩,2,[],0,⟨[.slot 0,.slot 1],[.sl 1,.bool]⟩,30⟩
noncomputable def lS(t:Int×Unit):Option (List T×Bool×Unit):=bif ltI t.1 (0:Int) then ob (iI (wr .u64 (addI (wr .u64 (wr .i64 (subI (0:Int) (wr .i64 (addI t.1 (1:Int)))))) (1:Int)),())) fun x0=>some (x0.1,true,()) else ob (iI (wr .u64 t.1,())) fun x1=>some (x1.1,false,())
theorem FY:(aA N2 lS).OK Tryz.prog 61:=d4 mixed [] .leaf (.cs Tryz.func121 xU <| .nil) Tryz.func61 fun _=>by kernel_rfl
def yL:Sig:=⟨3,0,⟨[.slot 0,.slot 1,.slot 2],[.bool,.sl 1,.sl 1]⟩,1,[],0,⟨[.aggs 0 3],[.bool,.sl 1,.sl 1]⟩,110⟩
noncomputable def iU(t:Bool×List T×List T×Unit):Option (Bool×List T×List T×Unit):=ob (cJ (t.2.1,())) fun x0=>ob (cJ (t.2.2.1,())) fun x1=>bif eqI (lenL x0.1) (0:Int) then some (false,[],[],()) else ob (uS (x0.1,x1.1,())) fun x2=>ob (α:=Bool×List T×List T×Unit×Bool×T×T×Unit⊕Empty) (bif Bool.not (eqI (lenL x2.1) (1:Int)) then ob (iA (x0.1,x2.1,())) fun x3=>ob (iA (x1.1,x2.1,())) fun x4=>some (.inl (t.1,x3.1,x4.1,(),false,T.v (.slice none 0 0),T.v (.slice none 0 0),())) else ob (idxL x2.1 (0:Int)) fun x5=>ob (T.int? .u32 (T.cell x5 0)) fun x6=>bif Bool.not (eqI x6 (1:Int)) then ob (iA (x0.1,x2.1,())) fun x7=>ob (iA (x1.1,x2.1,())) fun x8=>some (.inl (t.1,x7.1,x8.1,(),false,T.v (.slice none 0 0),T.v (.slice none 0 0),())) else some (.inl (t.1,x0.1,x1.1,(),false,T.v (.slice none 0 0),T.v (.slice none 0 0),()))) fun q9=>bB q9 (fun t10=>ob (α:=Bool×List T×List T×Unit×Bool×T×T×Unit⊕Empty) (bif eqI (lenL t10.2.2.1) (1:Int) then ob (idxL t10.2.2.1 (0:Int)) fun x11=>ob (T.int? .u32 (T.cell x11 0)) fun x12=>bif eqI x12 (1:Int) then some (.inl (t10.1,t10.2.1,[],(),t10.2.2.2.2.1,t10.2.2.2.2.2.1,t10.2.2.2.2.2.2.1,())) else some (.inl (t10.1,t10.2.1,t10.2.2.1,(),t10.2.2.2.2.1,t10.2.2.2.2.2.1,t10.2.2.2.2.2.2.1,())) else some (.inl (t10.1,t10.2.1,t10.2.2.1,(),t10.2.2.2.2.1,t10.2.2.2.2.2.1,t10.2.2.2.2.2.2.1,()))) fun q13=>bB q13 (fun t14=>some (t14.1,t14.2.1,t14.2.2.1,())) fun q15=>b0 q15) fun q16=>b0 q16
theorem AX:(aA yL iU).OK Tryz.prog 62:=d4 mixed [] (.l (.l (.l (.l (.seq (.join [(.normal,⟨[.slot 0,.slot 1,.slot 2,.slot 6,.box 6 3],[.bool,.sl 1,.sl 1,.lit (.box 6 0),.bool,.tree,.tree]⟩)] .leaf) (.seq (.join [(.normal,⟨[.slot 0,.slot 1,.slot 2,.slot 6,.box 6 3],[.bool,.sl 1,.sl 1,.lit (.box 6 0),.bool,.tree,.tree]⟩)] .leaf) .leaf)))))) (.cs Tryz.func122 fU <| .cs Tryz.func123 T8 <| .cs Tryz.func124 IR <| .nil) Tryz.func62 fun _=>by kernel_rfl
def N3:Sig:=⟨2,0,⟨[.slot 0,.slot 1],[I6,I6]⟩,2,[],0,⟨[.aggs 0 3,.slot 1],[.bool,.sl 1,.sl 1,I6]⟩,58⟩
noncomputable def sG(t:Int×Int×Unit):Option (Bool×List T×List T×Int×Unit):=bif eqI t.2.1 (0:Int) then some (false,[],[],(3:Int),()) else ob (lS (t.1,())) fun x0=>ob (lS (t.2.1,())) fun x1=>ob (iU (Bool.not (eqB x0.2.1 x1.2.1),x0.1,x1.1,())) fun x2=>some (x2.1,x2.2.1,x2.2.2.1,(0:Int),())
theorem RP:(aA N3 sG).OK Tryz.prog 65:=d4 mixed [] .leaf (.cs Tryz.func61 FY <| .cs Tryz.func62 AX <| .nil) Tryz.func65 fun _=>by kernel_rfl
def C3:Sig:=⟨2,0,⟨[.slot 0,.slot 1],[I6,I6]⟩,1,[],0,⟨[.aggs 0 3],[.bool,.sl 1,.sl 1]⟩,28⟩
noncomputable def u_ref02_Frac(t:Int×Int×Unit):Option (Bool×List T×List T×Unit):=ob (sG (t.1,t.2.1,())) fun x0=>some (x0.1,x0.2.1,x0.2.2.1,())
theorem FZ:(aA C3 u_ref02_Frac).OK Tryz.prog 21:=d4 mixed [] .leaf (.cs Tryz.func65 RP <| .nil) Tryz.func21 fun _=>by kernel_rfl
def sH:Sig:=⟨1,0,⟨[.slot 0],[I6]⟩,1,[],0,⟨[.aggs 0 3],[.bool,.sl 1,.sl 1]⟩,26⟩
noncomputable def u_ref02_Int(t:Int×Unit):Option (Bool×List T×List T×Unit):=ob (lS (t.1,())) fun x0=>some (x0.2.1,x0.1,[],())
theorem qY:(aA sH u_ref02_Int).OK Tryz.prog 19:=d4 mixed [] .leaf (.cs Tryz.func61 FY <| .nil) Tryz.func19 fun _=>by kernel_rfl
def EF:Sig:=⟨1,0,⟨[.slot 0],[.int .u32]⟩,1,[],0,⟨[.slot 0],[I6]⟩,38⟩
noncomputable def u_math_bits_Len32(t:Int×Unit):Option (Int×Unit):=ob (α:=Int×Int×Unit⊕Empty) (bif leI (65536:Int) t.1 then ob (nn (16:Int)) fun x0=>some (.inl (shrI .u32 t.1 x0,(16:Int),())) else some (.inl (t.1,(0:Int),()))) fun q1=>bB q1 (fun t2=>ob (α:=Int×Int×Unit⊕Empty) (bif leI (256:Int) t2.1 then ob (nn (8:Int)) fun x3=>some (.inl (shrI .u32 t2.1 x3,wr .i64 (addI t2.2.1 (8:Int)),())) else some (.inl (t2.1,t2.2.1,()))) fun q4=>bB q4 (fun t5=>ob (r7 (ByteArray.mk #[0,1,2,2,3,3,3,3,4,4,4,4,4,4,4,4,5,5,5,5,5,5,5,5,5,5,5,5,5,5,5,5,6,6,6,6,6,6,6,6,6,6,6,6,6,6,6,6,6,6,6,6,6,6,6,6,6,6,6,6,6,6,6,6,7,7,7,7,7,7,7,7,7,7,7,7,7,7,7,7,7,7,7,7,7,7,7,7,7,7,7,7,7,7,7,7,7,7,7,7,7,7,7,7,7,7,7,7,7,7,7,7,7,7,7,7,7,7,7,7,7,7,7,7,7,7,7,7,8,8,8,8,8,8,8,8,8,8,8,8,8,8,8,8,8,8,8,8,8,8,8,8,8,8,8,8,8,8,8,8,8,8,8,8,8,8,8,8,8,8,8,8,8,8,8,8,8,8,8,8,8,8,8,8,8,8,8,8,8,8,8,8,8,8,8,8,8,8,8,8,8,8,8,8,8,8,8,8,8,8,8,8,8,8,8,8,8,8,8,8,8,8,8,8,8,8,8,8,8,8,8,8,8,8,8,8,8,8,8,8,8,8,8,8,8,8,8,8,8,8,8,8,8,8,8,8]) (wr .u8 t5.1)) fun x6=>some (wr .i64 (addI t5.2.1 (wr .i64 x6)),())) fun q7=>b0 q7) fun q8=>b0 q8
theorem uT:(aA EF u_math_bits_Len32).OK Tryz.prog 169:=d4 mixed [] (.l (.seq (.join [(.normal,⟨[.slot 0,.slot 2],[.int .u32,I6]⟩)] .leaf) (.seq (.join [(.normal,⟨[.slot 0,.slot 2],[.int .u32,I6]⟩)] .leaf) .leaf))) .nil Tryz.func169 fun _=>by kernel_rfl
def sI:Sig:=⟨1,0,⟨[.slot 0],[.int .u32]⟩,1,[],0,⟨[.slot 0],[I6]⟩,12⟩
noncomputable def u_math_bits_LeadingZeros32(t:Int×Unit):Option (Int×Unit):=ob (u_math_bits_Len32 (t.1,())) fun x0=>some (wr .i64 (subI (32:Int) x0.1),())
theorem tG:(aA sI u_math_bits_LeadingZeros32).OK Tryz.prog 128:=d4 mixed [169] .leaf (.cs Tryz.func169 uT <| .nil) Tryz.func128 fun _=>by kernel_rfl
def yM:Sig:=⟨1,0,⟨[.slot 0],[.sl 1]⟩,1,[],0,⟨[.slot 0],[.sl 1]⟩,42⟩
noncomputable def uU(s0:List T×Int×Unit):Option (List T×Int×Unit⊕List T×Int×Unit⊕Empty):=bif ltI (0:Int) s0.2.1 then ob (idxL s0.1 (wr .i64 (subI s0.2.1 (1:Int)))) fun x1=>ob (T.int? .u32 (T.cell x1 0)) fun x2=>bif eqI x2 (0:Int) then some (.inl (s0.1,wr .i64 (subI s0.2.1 (1:Int)),())) else some (.inr (.inl (s0.1,s0.2.1,()))) else some (.inr (.inl (s0.1,s0.2.1,())))
noncomputable def aU(t:List T×Unit):Option (List T×Unit):=ob (aF uU (t.1,lenL t.1,())) fun q3=>bB q3 (fun t4=>ob (cutL t4.1 (0:Int) t4.2.1) fun x5=>some (x5,())) fun q6=>b0 q6
theorem eW:(aA yM aU).OK Tryz.prog 113:=d4 mixed [] (.l (.l (.seq (.one (.loop ⟨[.slot 0,.slot 3],[.sl 1,I6]⟩ [((.exit 0),⟨[.slot 0,.slot 3],[.sl 1,I6]⟩)] .leaf)) .leaf))) .nil Tryz.func113 fun _=>by kernel_rfl
def AY:Sig:=⟨2,0,⟨[.slot 0,.slot 1],[.sl 1,.sl 1]⟩,1,[],0,⟨[.slot 0],[I6]⟩,90⟩
noncomputable def wJ(s2:List T×List T×Int×Unit):Option (List T×List T×Int×Unit⊕Int×Unit⊕Unit⊕Empty):=bif leI (0:Int) s2.2.2.1 then ob (idxL s2.1 s2.2.2.1) fun x3=>ob (idxL s2.2.1 s2.2.2.1) fun x4=>ob (T.int? .u32 (T.cell x3 0)) fun x5=>ob (T.int? .u32 (T.cell x4 0)) fun x6=>bif Bool.not (eqI x5 x6) then ob (idxL s2.1 s2.2.2.1) fun x7=>ob (idxL s2.2.1 s2.2.2.1) fun x8=>ob (T.int? .u32 (T.cell x7 0)) fun x9=>ob (T.int? .u32 (T.cell x8 0)) fun x10=>bif ltI x9 x10 then some (.inr (.inl ((-1:Int),()))) else some (.inr (.inl ((1:Int),()))) else some (.inl (s2.1,s2.2.1,wr .i64 (subI s2.2.2.1 (1:Int)),())) else some (.inr (.inr (.inl ())))
noncomputable def kA(t:List T×List T×Unit):Option (Int×Unit):=ob (aU (t.1,())) fun x0=>ob (aU (t.2.1,())) fun x1=>bif Bool.not (eqI (lenL x0.1) (lenL x1.1)) then bif ltI (lenL x0.1) (lenL x1.1) then some ((-1:Int),()) else some ((1:Int),()) else ob (aF wJ (x0.1,x1.1,wr .i64 (subI (lenL x0.1) (1:Int)),())) fun q11=>bB q11 (fun t12=>some (t12.1,())) fun q13=>bB q13 (fun t14=>some ((0:Int),())) fun q15=>b0 q15
theorem C4:(aA AY kA).OK Tryz.prog 69:=d4 mixed [] (.l (.l (.l (.seq (.l (.one (.loop ⟨[.slot 0,.slot 1,.slot 5],[.sl 1,.sl 1,I6]⟩ [(.ret,⟨[.slot 4],[I6]⟩),((.exit 0),⟨[],[]⟩)] .leaf))) .leaf)))) (.cs Tryz.func113 eW <| .nil) Tryz.func69 fun _=>by kernel_rfl
def C5:Sig:=⟨1,0,⟨[.slot 0],[.int .u64]⟩,1,[],0,⟨[.slot 0],[.sl 1]⟩,20⟩
noncomputable def iB(t:Int×Unit):Option (List T×Unit):=ob (nn (32:Int)) fun x0=>ob (aU ([T.v (.int .u32 (wr .u32 t.1)),T.v (.int .u32 (wr .u32 (shrI .u64 t.1 x0)))],())) fun x1=>some (x1.1,())
theorem xV:(aA C5 iB).OK Tryz.prog 70:=d4 mixed [] .leaf (.cs Tryz.func113 eW <| .nil) Tryz.func70 fun _=>by kernel_rfl
def wK:Sig:=⟨2,0,⟨[.slot 0,.slot 1],[.sl 1,I6]⟩,1,[],0,⟨[.slot 0],[.sl 1]⟩,82⟩
noncomputable def tH(s1:List T×Int×List T×Int×List T×Int×Int×Unit):Option (List T×Int×List T×Int×List T×Int×Int×Unit⊕List T×List T×Int×Unit⊕Empty):=bif ltI s1.2.2.2.2.2.2.1 s1.2.2.2.2.2.1 then ob (idxL s1.2.2.2.2.1 s1.2.2.2.2.2.2.1) fun x2=>ob (T.anyInt? (T.cell x2 0)) fun x3=>ob (nn s1.2.1) fun x4=>ob (chkI (lenL s1.2.2.1) s1.2.2.2.2.2.2.1) fun x5=>ob (idxN s1.2.2.1 x5) fun x6=>ob (nn (32:Int)) fun x7=>some (.inl (s1.1,s1.2.1,List.set s1.2.2.1 x5 (T.upd 1 x6 0 [T.v (.int .u32 (wr .u32 (bitI .or .u64 s1.2.2.2.1 (wr .u64 (shlI .u64 (wr .u64 x3) x4)))))]),shrI .u64 (bitI .or .u64 s1.2.2.2.1 (wr .u64 (shlI .u64 (wr .u64 x3) x4))) x7,s1.2.2.2.2.1,s1.2.2.2.2.2.1,wr .i64 (addI s1.2.2.2.2.2.2.1 (1:Int)),())) else some (.inr (.inl (s1.1,s1.2.2.1,s1.2.2.2.1,())))
noncomputable def fG(t:List T×Int×Unit):Option (List T×Unit):=ob (mkLen (wr .i64 (addI (lenL t.1) (1:Int))) (wr .i64 (addI (lenL t.1) (1:Int))) 4) fun x0=>ob (aF tH (t.1,t.2.1,repL x0.1 (T.v (.int .u32 (0:Int))),(0:Int),t.1,lenL t.1,(0:Int),())) fun q8=>bB q8 (fun t9=>ob (chkI (lenL t9.2.1) (lenL t9.1)) fun x10=>ob (idxN t9.2.1 x10) fun x11=>some (List.set t9.2.1 x10 (T.upd 1 x11 0 [T.v (.int .u32 (wr .u32 t9.2.2.1))]),())) fun q12=>b0 q12
theorem yN:(aA wK fG).OK Tryz.prog 125:=d4 mixed [] (.l (.l (.l (.seq (.l (.one (.loop ⟨[.slot 0,.slot 1,.slot 5,.slot 6,.slot 13,.slot 14,.slot 15],[.sl 1,I6,.row 116 1 12,.int .u64,.sl 1,I6,I6]⟩ [((.exit 0),⟨[.slot 0,.slot 5,.slot 6],[.sl 1,.row 116 1 12,.int .u64]⟩)] .leaf))) .leaf)))) .nil Tryz.func125 fun _=>by kernel_rfl
def oC:Sig:=⟨1,0,⟨[.slot 0],[.sl 1]⟩,1,[],0,⟨[.slot 0],[.sl 1]⟩,16⟩
noncomputable def cV(t:List T×Unit):Option (List T×Unit):=bif nilL t.1 then CS (some ([],())) (ob (room [] t.1 4) fun x0=>some (x0,())) else ob (room [] t.1 4) fun x1=>some (x1,())
theorem pB:(aA oC cV).OK Tryz.prog 126:=d4 mixed [] .leaf .nil Tryz.func126 fun _=>by kernel_rfl
def gG:Sig:=⟨1,0,⟨[.slot 0],[.sl 1]⟩,1,[],1,⟨[.slot 0],[.row 116 1 0]⟩,16⟩
noncomputable def bY(t:List T×Unit):Option (List T×Unit):=bif nilL t.1 then CS (some ([],())) (ob (room [] t.1 4) fun x0=>some (x0,())) else ob (room [] t.1 4) fun x1=>some (x1,())
theorem nO:(aA gG bY).OK Tryz.prog 126:=d4 mixed [] .leaf .nil Tryz.func126 fun _=>by kernel_rfl
def HH:Sig:=⟨2,0,⟨[.slot 0,.slot 1],[.sl 1,.int .u32]⟩,2,[],0,⟨[.slot 0,.slot 1],[.sl 1,.int .u32]⟩,86⟩
noncomputable def tJ(s1:List T×Int×List T×Int×Int×Unit):Option (List T×Int×List T×Int×Int×Unit⊕List T×Int×Unit⊕Empty):=bif leI (0:Int) s1.2.2.2.2.1 then ob (nn (32:Int)) fun x2=>ob (idxL s1.1 s1.2.2.2.2.1) fun x3=>ob (T.anyInt? (T.cell x3 0)) fun x4=>ob (nz (wr .u64 s1.2.1)) fun x5=>ob (chkI (lenL s1.2.2.1) s1.2.2.2.2.1) fun x6=>ob (idxN s1.2.2.1 x6) fun x7=>ob (nz (wr .u64 s1.2.1)) fun x8=>some (.inl (s1.1,s1.2.1,List.set s1.2.2.1 x6 (T.upd 1 x7 0 [T.v (.int .u32 (wr .u32 (wr .u64 (divI (bitI .or .u64 (wr .u64 (shlI .u64 s1.2.2.2.1 x2)) (wr .u64 x4)) x5))))]),modI (bitI .or .u64 (wr .u64 (shlI .u64 s1.2.2.2.1 x2)) (wr .u64 x4)) x8,wr .i64 (subI s1.2.2.2.2.1 (1:Int)),())) else some (.inr (.inl (s1.2.2.1,s1.2.2.2.1,())))
noncomputable def jV(t:List T×Int×Unit):Option (List T×Int×Unit):=ob (mkLen (lenL t.1) (lenL t.1) 4) fun x0=>ob (aF tJ (t.1,t.2.1,repL x0.1 (T.v (.int .u32 (0:Int))),(0:Int),wr .i64 (subI (lenL t.1) (1:Int)),())) fun q9=>bB q9 (fun t10=>ob (aU (t10.1,())) fun x11=>some (x11.1,wr .u32 t10.2.1,())) fun q12=>b0 q12
theorem yO:(aA HH jV).OK Tryz.prog 127:=d4 mixed [] (.l (.l (.l (.seq (.l (.one (.loop ⟨[.slot 0,.slot 1,.slot 6,.slot 7,.slot 8],[.sl 1,.int .u32,.row 116 1 11,.int .u64,I6]⟩ [((.exit 0),⟨[.slot 6,.slot 7],[.row 116 1 11,.int .u64]⟩)] .leaf))) .leaf)))) (.cs Tryz.func113 eW <| .nil) Tryz.func127 fun _=>by kernel_rfl
def AZ:Sig:=⟨2,0,⟨[.slot 0,.slot 1],[.sl 1,.sl 1]⟩,1,[],0,⟨[.slot 0],[.sl 1]⟩,138⟩
noncomputable def wL(s4:List T×List T×Int×T×Int×List T×Int×Int×List T×Int×Int×Unit):Option (List T×List T×Int×T×Int×List T×Int×Int×List T×Int×Int×Unit⊕List T×List T×Int×Int×List T×Int×Int×Unit⊕Empty):=bif ltI s4.2.2.2.2.2.2.2.2.2.2.1 s4.2.2.2.2.2.2.2.2.2.1 then ob (idxL s4.2.2.2.2.2.2.2.2.1 s4.2.2.2.2.2.2.2.2.2.2.1) fun x5=>ob (T.anyInt? s4.2.2.2.1) fun x6=>ob (T.anyInt? (T.cell x5 0)) fun x7=>ob (chkI (lenL s4.2.1) (wr .i64 (addI s4.2.2.1 s4.2.2.2.2.2.2.2.2.2.2.1))) fun x8=>ob (idxN s4.2.1 x8) fun x9=>ob (T.anyInt? (T.cell x9 0)) fun x10=>ob (chkI (lenL s4.2.1) (wr .i64 (addI s4.2.2.1 s4.2.2.2.2.2.2.2.2.2.2.1))) fun x11=>ob (idxN s4.2.1 x11) fun x12=>ob (nn (32:Int)) fun x13=>some (.inl (s4.1,List.set s4.2.1 x11 (T.upd 1 x12 0 [T.v (.int .u32 (wr .u32 (wr .u64 (addI s4.2.2.2.2.1 (wr .u64 (addI (wr .u64 (mulI (wr .u64 x6) (wr .u64 x7))) (wr .u64 x10)))))))]),s4.2.2.1,s4.2.2.2.1,shrI .u64 (wr .u64 (addI s4.2.2.2.2.1 (wr .u64 (addI (wr .u64 (mulI (wr .u64 x6) (wr .u64 x7))) (wr .u64 x10))))) x13,s4.2.2.2.2.2.1,s4.2.2.2.2.2.2.1,s4.2.2.2.2.2.2.2.1,s4.2.2.2.2.2.2.2.2.1,s4.2.2.2.2.2.2.2.2.2.1,wr .i64 (addI s4.2.2.2.2.2.2.2.2.2.2.1 (1:Int)),())) else some (.inr (.inl (s4.1,s4.2.1,s4.2.2.1,s4.2.2.2.2.1,s4.2.2.2.2.2.1,s4.2.2.2.2.2.2.1,s4.2.2.2.2.2.2.2.1,())))
noncomputable def pW(s1:List T×List T×List T×Int×Int×Unit):Option (List T×List T×List T×Int×Int×Unit⊕List T×Unit⊕Empty):=bif ltI s1.2.2.2.2.1 s1.2.2.2.1 then ob (α:=List T×List T×List T×Int×Int×Unit⊕Empty) (ob (idxL s1.2.2.1 s1.2.2.2.2.1) fun x2=>ob (T.int? .u32 (T.cell x2 0)) fun x3=>bif eqI x3 (0:Int) then some (.inl (s1.1,s1.2.1,s1.2.2.1,s1.2.2.2.1,s1.2.2.2.2.1,())) else ob (aF wL (s1.1,s1.2.1,s1.2.2.2.2.1,T.cell x2 0,(0:Int),s1.2.2.1,s1.2.2.2.1,s1.2.2.2.2.1,s1.1,lenL s1.1,(0:Int),())) fun q14=>bB q14 (fun t15=>ob (chkI (lenL t15.2.1) (wr .i64 (addI t15.2.2.1 (lenL t15.1)))) fun x16=>ob (idxN t15.2.1 x16) fun x17=>some (.inl (t15.1,List.set t15.2.1 x16 (T.upd 1 x17 0 [T.v (.int .u32 (wr .u32 t15.2.2.2.1))]),t15.2.2.2.2.1,t15.2.2.2.2.2.1,t15.2.2.2.2.2.2.1,()))) fun q18=>b0 q18) fun q19=>bB q19 (fun t20=>some (.inl (t20.1,t20.2.1,t20.2.2.1,t20.2.2.2.1,wr .i64 (addI t20.2.2.2.2.1 (1:Int)),()))) fun q21=>b0 q21 else some (.inr (.inl (s1.2.1,())))
noncomputable def iJ(t:List T×List T×Unit):Option (List T×Unit):=ob (mkLen (wr .i64 (addI (lenL t.1) (lenL t.2.1))) (wr .i64 (addI (lenL t.1) (lenL t.2.1))) 4) fun x0=>ob (aF pW (t.2.1,repL x0.1 (T.v (.int .u32 (0:Int))),t.1,lenL t.1,(0:Int),())) fun q22=>bB q22 (fun t23=>ob (aU (t23.1,())) fun x24=>some (x24.1,())) fun q25=>b0 q25
theorem C6:(aA AZ iJ).OK Tryz.prog 50:=d4 mixed [] (.l (.l (.seq (.l (.one (.loop ⟨[.slot 1,.slot 5,.slot 17,.slot 18,.slot 19],[.sl 1,.row 116 1 16,.sl 1,I6,I6]⟩ [((.exit 0),⟨[.slot 5],[.row 116 1 16]⟩)] (.l (.l (.seq (.join [(.normal,⟨[.slot 1,.slot 5,.slot 17,.slot 18,.slot 19],[.sl 1,.row 116 1 16,.sl 1,I6,I6]⟩)] (.one (.l (.l (.l (.seq (.l (.one (.loop ⟨[.slot 1,.slot 5,.slot 6,.slot 7,.slot 8,.slot 17,.slot 18,.slot 19,.slot 26,.slot 27,.slot 28],[.sl 1,.row 116 1 16,I6,.tree,.int .u64,.sl 1,I6,I6,.sl 1,I6,I6]⟩ [((.exit 2),⟨[.slot 1,.slot 5,.slot 6,.slot 8,.slot 17,.slot 18,.slot 19],[.sl 1,.row 116 1 16,I6,.int .u64,.sl 1,I6,I6]⟩)] .leaf))) .leaf)))))) .leaf)))))) .leaf))) (.cs Tryz.func113 eW <| .nil) Tryz.func50 fun _=>by kernel_rfl
def A0:Sig:=⟨2,0,⟨[.slot 0,.slot 1],[.sl 1,.sl 1]⟩,3,[],0,⟨[.slot 0,.slot 1,.slot 2],[.sl 1,.sl 1,I6]⟩,600⟩
noncomputable def wM(s27:List T×Int×List T×List T×Int×Int×Int×Int×Unit):Option (List T×Int×List T×List T×Int×Int×Int×Int×Unit⊕List T×Int×List T×List T×Int×Int×Int×Unit⊕Empty):=bif leI (4294967296:Int) s27.2.2.2.2.2.2.1 then ob (idxL s27.2.2.2.1 (wr .i64 (subI s27.2.2.2.2.1 (1:Int)))) fun x28=>ob (T.anyInt? (T.cell x28 0)) fun x29=>bif leI (4294967296:Int) (wr .u64 (addI s27.2.2.2.2.2.2.2.1 (wr .u64 x29))) then some (.inr (.inl (s27.1,s27.2.1,s27.2.2.1,s27.2.2.2.1,s27.2.2.2.2.1,s27.2.2.2.2.2.1,wr .u64 (subI s27.2.2.2.2.2.2.1 (1:Int)),()))) else some (.inl (s27.1,s27.2.1,s27.2.2.1,s27.2.2.2.1,s27.2.2.2.2.1,s27.2.2.2.2.2.1,wr .u64 (subI s27.2.2.2.2.2.2.1 (1:Int)),wr .u64 (addI s27.2.2.2.2.2.2.2.1 (wr .u64 x29)),())) else ob (idxL s27.2.2.2.1 (wr .i64 (subI s27.2.2.2.2.1 (2:Int)))) fun x30=>ob (T.anyInt? (T.cell x30 0)) fun x31=>ob (nn (32:Int)) fun x32=>ob (idxL s27.2.2.1 (wr .i64 (subI (wr .i64 (addI s27.2.2.2.2.2.1 s27.2.2.2.2.1)) (2:Int)))) fun x33=>ob (T.anyInt? (T.cell x33 0)) fun x34=>bif ltI (bitI .or .u64 (wr .u64 (shlI .u64 s27.2.2.2.2.2.2.2.1 x32)) (wr .u64 x34)) (wr .u64 (mulI s27.2.2.2.2.2.2.1 (wr .u64 x31))) then ob (idxL s27.2.2.2.1 (wr .i64 (subI s27.2.2.2.2.1 (1:Int)))) fun x35=>ob (T.anyInt? (T.cell x35 0)) fun x36=>bif leI (4294967296:Int) (wr .u64 (addI s27.2.2.2.2.2.2.2.1 (wr .u64 x36))) then some (.inr (.inl (s27.1,s27.2.1,s27.2.2.1,s27.2.2.2.1,s27.2.2.2.2.1,s27.2.2.2.2.2.1,wr .u64 (subI s27.2.2.2.2.2.2.1 (1:Int)),()))) else some (.inl (s27.1,s27.2.1,s27.2.2.1,s27.2.2.2.1,s27.2.2.2.2.1,s27.2.2.2.2.2.1,wr .u64 (subI s27.2.2.2.2.2.2.1 (1:Int)),wr .u64 (addI s27.2.2.2.2.2.2.2.1 (wr .u64 x36)),())) else some (.inr (.inl (s27.1,s27.2.1,s27.2.2.1,s27.2.2.2.1,s27.2.2.2.2.1,s27.2.2.2.2.2.1,s27.2.2.2.2.2.2.1,())))
noncomputable def wN(IW:List T×Int×List T×List T×Int×Int×Int×Int×Int×List T×Int×Int×Unit):Option (List T×Int×List T×List T×Int×Int×Int×Int×Int×List T×Int×Int×Unit⊕List T×Int×List T×List T×Int×Int×Int×Int×Int×Unit⊕Empty):=bif ltI IW.2.2.2.2.2.2.2.2.2.2.2.1 IW.2.2.2.2.2.2.2.2.2.2.1 then ob (idxL IW.2.2.2.2.2.2.2.2.2.1 IW.2.2.2.2.2.2.2.2.2.2.2.1) fun x40=>ob (T.anyInt? (T.cell x40 0)) fun x41=>ob (idxL IW.2.2.1 (wr .i64 (addI IW.2.2.2.2.2.2.2.2.2.2.2.1 IW.2.2.2.2.2.1))) fun x42=>ob (T.anyInt? (T.cell x42 0)) fun x43=>ob (idxL IW.2.2.1 (wr .i64 (addI IW.2.2.2.2.2.2.2.2.2.2.2.1 IW.2.2.2.2.2.1))) fun x44=>none else some (.inr (.inl (IW.1,IW.2.1,IW.2.2.1,IW.2.2.2.1,IW.2.2.2.2.1,IW.2.2.2.2.2.1,IW.2.2.2.2.2.2.1,IW.2.2.2.2.2.2.2.1,IW.2.2.2.2.2.2.2.2.1,())))
noncomputable def pX(s15:List T×Int×List T×List T×Int×Int×Unit):Option (List T×Int×List T×List T×Int×Int×Unit⊕List T×Int×List T×Unit⊕Empty):=bif leI (0:Int) s15.2.2.2.2.2.1 then ob (idxL s15.2.2.1 (wr .i64 (addI s15.2.2.2.2.2.1 s15.2.2.2.2.1))) fun x16=>ob (T.anyInt? (T.cell x16 0)) fun x17=>ob (nn (32:Int)) fun x18=>ob (idxL s15.2.2.1 (wr .i64 (subI (wr .i64 (addI s15.2.2.2.2.2.1 s15.2.2.2.2.1)) (1:Int)))) fun x19=>ob (T.anyInt? (T.cell x19 0)) fun x20=>ob (idxL s15.2.2.2.1 (wr .i64 (subI s15.2.2.2.2.1 (1:Int)))) fun x21=>ob (T.anyInt? (T.cell x21 0)) fun x22=>ob (nz (wr .u64 x22)) fun x23=>ob (idxL s15.2.2.2.1 (wr .i64 (subI s15.2.2.2.2.1 (1:Int)))) fun x24=>ob (T.anyInt? (T.cell x24 0)) fun x25=>ob (nz (wr .u64 x25)) fun x26=>ob (aF wM (s15.1,s15.2.1,s15.2.2.1,s15.2.2.2.1,s15.2.2.2.2.1,s15.2.2.2.2.2.1,wr .u64 (divI (bitI .or .u64 (wr .u64 (shlI .u64 (wr .u64 x17) x18)) (wr .u64 x20)) x23),modI (bitI .or .u64 (wr .u64 (shlI .u64 (wr .u64 x17) x18)) (wr .u64 x20)) x26,())) fun q37=>bB q37 (fun t38=>ob (aF wN (t38.1,t38.2.1,t38.2.2.1,t38.2.2.2.1,t38.2.2.2.2.1,t38.2.2.2.2.2.1,t38.2.2.2.2.2.2.1,(0:Int),(0:Int),t38.2.2.2.1,lenL t38.2.2.2.1,(0:Int),())) fun q45=>bB q45 (fun t46=>ob (idxL t46.2.2.1 (wr .i64 (addI t46.2.2.2.2.2.1 t46.2.2.2.2.1))) fun x47=>ob (T.anyInt? (T.cell x47 0)) fun x48=>ob (idxL t46.2.2.1 (wr .i64 (addI t46.2.2.2.2.2.1 t46.2.2.2.2.1))) fun x49=>none) fun q50=>b0 q50) fun q51=>b0 q51 else some (.inr (.inl (s15.1,s15.2.1,s15.2.2.1,())))
noncomputable def wO(s55:List T×List T×Int×Int×Int×Unit):Option (List T×List T×Int×Int×Int×Unit⊕List T×List T×Unit⊕Empty):=bif ltI s55.2.2.2.2.1 s55.2.2.2.1 then ob (α:=Empty) (ob (idxL s55.2.1 s55.2.2.2.2.1) fun x56=>ob (T.int? .u32 (T.cell x56 0)) fun x57=>ob (nn s55.2.2.1) fun x58=>ob (idxL s55.2.1 s55.2.2.2.2.1) fun x59=>none) fun q60=>b0 q60 else some (.inr (.inl (s55.1,s55.2.1,())))
noncomputable def kB(t:List T×List T×Unit):Option (List T×List T×Int×Unit):=ob (aU (t.1,())) fun x0=>ob (aU (t.2.1,())) fun x1=>bif eqI (lenL x1.1) (0:Int) then some ([],[],(3:Int),()) else ob (kA (x0.1,x1.1,())) fun x2=>bif ltI x2.1 (0:Int) then ob (cV (x0.1,())) fun x3=>some ([],x3.1,(0:Int),()) else bif eqI (lenL x1.1) (1:Int) then ob (idxL x1.1 (0:Int)) fun x4=>ob (T.int? .u32 (T.cell x4 0)) fun x5=>ob (jV (x0.1,x5,())) fun x6=>ob (aU ([T.v (.int .u32 x6.2.1)],())) fun x7=>some (x6.1,x7.1,(0:Int),()) else ob (idxL x1.1 (wr .i64 (subI (lenL x1.1) (1:Int)))) fun x8=>ob (T.int? .u32 (T.cell x8 0)) fun x9=>ob (u_math_bits_LeadingZeros32 (x9,())) fun x10=>ob (fG (x0.1,x10.1,())) fun x11=>ob (fG (x1.1,x10.1,())) fun x12=>ob (aU (x12.1,())) fun x13=>ob (mkLen (wr .i64 (subI (lenL x11.1) (lenL x13.1))) (wr .i64 (subI (lenL x11.1) (lenL x13.1))) 4) fun x14=>ob (aF pX (repL x14.1 (T.v (.int .u32 (0:Int))),x10.1,x11.1,x13.1,lenL x13.1,wr .i64 (subI (lenL (repL x14.1 (T.v (.int .u32 (0:Int))))) (1:Int)),())) fun q52=>bB q52 (fun t53=>ob (aU (t53.2.2.1,())) fun x54=>ob (aF wO (t53.1,x54.1,t53.2.1,lenL x54.1,(0:Int),())) fun q61=>bB q61 (fun t62=>ob (aU (t62.1,())) fun x63=>ob (aU (t62.2.1,())) fun x64=>some (x63.1,x64.1,(0:Int),())) fun q65=>b0 q65) fun q66=>b0 q66
theorem C7:(aA A0 kB).OK Tryz.prog 71:=d4 mixed [69,128] (.l (.l (.l (.l (.l (.l (.l (.seq (.l (.one (.loop ⟨[.slot 4,.slot 9,.slot 10,.slot 11,.slot 12,.slot 13],[.row 116 1 77,I6,.sl 1,.sl 1,I6,I6]⟩ [((.exit 1),⟨[.slot 4,.slot 9,.slot 10],[.row 116 1 77,I6,.sl 1]⟩)] (.l (.seq (.one (.l (.l (.seq (.one (.loop ⟨[.slot 4,.slot 9,.slot 10,.slot 11,.slot 12,.slot 13,.slot 15,.slot 16],[.row 116 1 77,I6,.sl 1,.sl 1,I6,I6,.int .u64,.int .u64]⟩ [((.exit 3),⟨[.slot 4,.slot 9,.slot 10,.slot 11,.slot 12,.slot 13,.slot 15],[.row 116 1 77,I6,.sl 1,.sl 1,I6,I6,.int .u64]⟩)] .leaf)) (.l (.seq (.l (.one (.loop ⟨[.slot 4,.slot 9,.slot 10,.slot 11,.slot 12,.slot 13,.slot 15,.slot 17,.slot 18,.slot 154,.slot 155,.slot 156],[.row 116 1 77,I6,.sl 1,.sl 1,I6,I6,.int .u64,.int .u64,.int .u64,.sl 1,I6,I6]⟩ [((.exit 5),⟨[.slot 4,.slot 9,.slot 10,.slot 11,.slot 12,.slot 13,.slot 15,.slot 17,.slot 18],[.row 116 1 77,I6,.sl 1,.sl 1,I6,I6,.int .u64,.int .u64,.int .u64]⟩)] .leaf))) (.l (.l (.seq (.join [] (.l (.cond (.l (.l (.seq (.l (.one (.loop ⟨[],[]⟩ [] .leaf))) .leaf))) .leaf))) .leaf))))))))) .leaf))))) (.l (.seq (.l (.one (.loop ⟨[.slot 4,.slot 5,.slot 9,.slot 261,.slot 262],[.row 116 1 77,.sl 1,I6,I6,I6]⟩ [((.exit 9),⟨[.slot 4,.slot 5],[.row 116 1 77,.sl 1]⟩)] (.l (.l (.seq (.join [] .leaf) .leaf)))))) .leaf)))))))))) (.cs Tryz.func113 eW <| .cs Tryz.func69 C4 <| .cs Tryz.func126 pB <| .cs Tryz.func127 yO <| .cs Tryz.func128 tG <| .cs Tryz.func125 yN <| .nil) Tryz.func71 fun _=>by kernel_rfl
def pY:Sig:=⟨2,0,⟨[.slot 0,.slot 1],[.sl 1,I6]⟩,2,[],0,⟨[.slot 0,.slot 1],[.sl 1,I6]⟩,158⟩
noncomputable def yP:List (FuncId×Callee):=[(113,(aA yM aU)),(125,Bi (aA wK fG)),(126,(aA gG bY))]
noncomputable def tK(s7:List T×Int×Int×Int×Unit):Option (List T×Int×Int×Int×Unit⊕List T×Unit⊕Empty):=bif ltI s7.2.2.2.1 s7.2.2.1 then ob (α:=List T×Int×Int×Int×Unit⊕Empty) (ob (chkI (lenL s7.1) s7.2.2.2.1) fun x8=>ob (idxN s7.1 x8) fun x9=>ob (T.int? .u32 (T.cell x9 0)) fun x10=>ob (nn s7.2.1) fun x11=>ob (chkI (lenL s7.1) s7.2.2.2.1) fun x12=>ob (idxN s7.1 x12) fun x13=>bif ltI (0:Int) s7.2.1 then bif ltI (wr .i64 (addI s7.2.2.2.1 (1:Int))) (lenL (List.set s7.1 x12 (T.upd 1 x13 0 [T.v (.int .u32 (shrI .u32 x10 x11))]))) then ob (chkI (lenL (List.set s7.1 x12 (T.upd 1 x13 0 [T.v (.int .u32 (shrI .u32 x10 x11))]))) s7.2.2.2.1) fun x14=>ob (idxN (List.set s7.1 x12 (T.upd 1 x13 0 [T.v (.int .u32 (shrI .u32 x10 x11))])) x14) fun x15=>ob (chkI (lenL (List.set s7.1 x12 (T.upd 1 x13 0 [T.v (.int .u32 (shrI .u32 x10 x11))]))) (wr .i64 (addI s7.2.2.2.1 (1:Int)))) fun x16=>ob (idxN (List.set s7.1 x12 (T.upd 1 x13 0 [T.v (.int .u32 (shrI .u32 x10 x11))])) x16) fun x17=>ob (T.int? .u32 (T.cell x17 0)) fun x18=>ob (nn (wr .i64 (subI (32:Int) s7.2.1))) fun x19=>ob (T.int? .u32 (T.cell x15 0)) fun x20=>ob (chkI (lenL (List.set s7.1 x12 (T.upd 1 x13 0 [T.v (.int .u32 (shrI .u32 x10 x11))]))) s7.2.2.2.1) fun x21=>ob (idxN (List.set s7.1 x12 (T.upd 1 x13 0 [T.v (.int .u32 (shrI .u32 x10 x11))])) x21) fun x22=>some (.inl (List.set (List.set s7.1 x12 (T.upd 1 x13 0 [T.v (.int .u32 (shrI .u32 x10 x11))])) x21 (T.upd 1 x22 0 [T.v (.int .u32 (bitI .or .u32 x20 (wr .u32 (shlI .u32 x18 x19))))]),s7.2.1,s7.2.2.1,s7.2.2.2.1,())) else some (.inl (List.set s7.1 x12 (T.upd 1 x13 0 [T.v (.int .u32 (shrI .u32 x10 x11))]),s7.2.1,s7.2.2.1,s7.2.2.2.1,())) else some (.inl (List.set s7.1 x12 (T.upd 1 x13 0 [T.v (.int .u32 (shrI .u32 x10 x11))]),s7.2.1,s7.2.2.1,s7.2.2.2.1,()))) fun q23=>bB q23 (fun t24=>some (.inl (t24.1,t24.2.1,t24.2.2.1,wr .i64 (addI t24.2.2.2.1 (1:Int)),()))) fun q25=>b0 q25 else some (.inr (.inl (s7.1,())))
noncomputable def fH(t:List T×Int×Unit):Option (List T×Int×Unit):=ob (aU (t.1,())) fun x0=>bif ltI (16384:Int) t.2.1 then some ([],(2:Int),()) else bif leI (0:Int) t.2.1 then ob (mkLen (wr .i64 (divI t.2.1 (32:Int))) (wr .i64 (divI t.2.1 (32:Int))) 4) fun x1=>ob (fG (x0.1,modI t.2.1 (32:Int),())) fun x2=>ob (room (repL x1.1 (T.v (.int .u32 (0:Int)))) x2.1 4) fun x3=>ob (aU (x3,())) fun x4=>some (x4.1,(0:Int),()) else bif leI t.2.1 (wr .i64 (mulI (-32:Int) (lenL x0.1))) then some ([],(0:Int),()) else ob (cutL x0.1 (wr .i64 (divI (wr .i64 (subI (0:Int) t.2.1)) (32:Int))) (lenL x0.1)) fun x5=>ob (bY (x5,())) fun x6=>ob (aF tK (x6.1,modI (wr .i64 (subI (0:Int) t.2.1)) (32:Int),lenL x6.1,(0:Int),())) fun q26=>bB q26 (fun t27=>ob (aU (t27.1,())) fun x28=>some (x28.1,(0:Int),())) fun q29=>b0 q29
def yQ:HT:=(.l (.l (.l (.l (.l (.seq (.l (.one (.loop ⟨[.slot 6,.slot 7,.slot 42,.slot 43],[.row 116 1 37,I6,I6,I6]⟩ [((.exit 1),⟨[.slot 6],[.row 116 1 37]⟩)] (.l (.l (.seq (.join [(.normal,⟨[.slot 6,.slot 7,.slot 42,.slot 43],[.row 116 1 37,I6,I6,I6]⟩)] .leaf) .leaf)))))) .leaf))))))
theorem HI:TabOK Tryz.prog [1000125] yP:=(.cs Tryz.func113 eW (TabOK.consP (fun _=>⟨_,Tryz.func125,by kernel_rfl,by kernel_rfl⟩) (xR yN) (sE (aB _ _)) (fun h=>by cases h) (fun _=>dJ (aB _ _)) (fun _=>(dJ (aB _ _)).framed) (by kernel_rfl) (.cs Tryz.func126 nO TabOK.nil)))
theorem JF:∀t,pH Tryz.prog yP [1000125] yQ Tryz.f67 pY t=fH t:=fun _=>by kernel_rfl
theorem JG:(aA pY fH).OK Tryz.prog 67:=d4 mixed [1000125] yQ HI Tryz.func67 JF
def pZ:Sig:=⟨1,1,⟨[.slot 0],[.row 5 1 0]⟩,0,[0],0,⟨[.slot 0],[.row 5 1 0]⟩,56⟩
noncomputable def iC(s0:List T×Int×Int×Unit):Option (List T×Int×Int×Unit⊕List T×Unit⊕Empty):=bif ltI s0.2.1 s0.2.2.1 then ob (chkI (lenL s0.1) s0.2.2.1) fun x1=>ob (idxN s0.1 x1) fun x2=>ob (chkI (lenL s0.1) s0.2.1) fun x3=>ob (idxN s0.1 x3) fun x4=>ob (chkI (lenL s0.1) s0.2.1) fun x5=>ob (T.int? .u8 (T.cell x2 0)) fun x6=>ob (idxN s0.1 x5) fun x7=>ob (chkI (lenL (List.set s0.1 x5 (T.upd 1 x7 0 [T.v (.int .u8 x6)]))) s0.2.2.1) fun x8=>ob (T.int? .u8 (T.cell x4 0)) fun x9=>ob (idxN (List.set s0.1 x5 (T.upd 1 x7 0 [T.v (.int .u8 x6)])) x8) fun x10=>some (.inl (List.set (List.set s0.1 x5 (T.upd 1 x7 0 [T.v (.int .u8 x6)])) x8 (T.upd 1 x10 0 [T.v (.int .u8 x9)]),wr .i64 (addI s0.2.1 (1:Int)),wr .i64 (subI s0.2.2.1 (1:Int)),())) else some (.inr (.inl (s0.1,())))
noncomputable def dG(t:List T×Unit):Option (List T×Unit):=ob (aF iC (t.1,(0:Int),wr .i64 (subI (lenL t.1) (1:Int)),())) fun q11=>bB q11 (fun t12=>some (t12.1,())) fun q13=>b0 q13
theorem qZ:(aA pZ dG).OK Tryz.prog 129:=d4 mixed [] (.l (.one (.loop ⟨[.slot 0,.slot 2,.slot 3],[.row 5 1 0,I6,I6]⟩ [((.exit 0),⟨[.slot 0],[.row 5 1 0]⟩)] .leaf))) .nil Tryz.func129 fun _=>by kernel_rfl
def yR:Sig:=⟨1,0,⟨[.slot 0],[.sl 1]⟩,1,[],0,⟨[.slot 0],[.str]⟩,90⟩
noncomputable def uV(s3:List T×List T×Int×Int×Unit):Option (List T×List T×Int×Int×Unit⊕List T×List T×Unit⊕Empty):=bif ltI s3.2.2.2.1 (9:Int) then bif ltI (0:Int) s3.2.2.1 then ob (room s3.2.1 [T.v (.int .u8 (wr .u8 (wr .u32 (addI (48:Int) (modI s3.2.2.1 (10:Int))))))] 1) fun x4=>some (.inl (s3.1,x4,wr .u32 (divI s3.2.2.1 (10:Int)),wr .i64 (addI s3.2.2.2.1 (1:Int)),())) else bif ltI (0:Int) (lenL s3.1) then ob (room s3.2.1 [T.v (.int .u8 (wr .u8 (wr .u32 (addI (48:Int) (modI s3.2.2.1 (10:Int))))))] 1) fun x5=>some (.inl (s3.1,x5,wr .u32 (divI s3.2.2.1 (10:Int)),wr .i64 (addI s3.2.2.2.1 (1:Int)),())) else some (.inr (.inl (s3.1,s3.2.1,()))) else some (.inr (.inl (s3.1,s3.2.1,())))
noncomputable def oD(s1:List T×List T×Unit):Option (List T×List T×Unit⊕List T×Unit⊕Empty):=bif ltI (0:Int) (lenL s1.1) then ob (jV (s1.1,(1000000000:Int),())) fun x2=>ob (aF uV (x2.1,s1.2.1,x2.2.1,(0:Int),())) fun q6=>bB q6 (fun t7=>some (.inl (t7.1,t7.2.1,()))) fun q8=>b0 q8 else some (.inr (.inl (s1.2.1,())))
noncomputable def lC(t:List T×Unit):Option (ByteArray×Unit):=ob (aU (t.1,())) fun x0=>bif eqI (lenL x0.1) (0:Int) then some (ByteArray.mk #[48],()) else ob (aF oD (x0.1,[],())) fun q9=>bB q9 (fun t10=>ob (dG (t10.1,())) fun x11=>ob (strOf x11.1) fun x12=>some (x12,())) fun q13=>b0 q13
theorem MJ:(aA yR lC).OK Tryz.prog 72:=d4 mixed [] (.l (.l (.l (.l (.seq (.one (.loop ⟨[.slot 0,.slot 3],[.sl 1,.row 5 1 38]⟩ [((.exit 0),⟨[.slot 3],[.row 5 1 38]⟩)] (.l (.one (.l (.l (.l (.one (.loop ⟨[.slot 0,.slot 3,.slot 4,.slot 5],[.sl 1,.row 5 1 38,.int .u32,I6]⟩ [((.exit 2),⟨[.slot 0,.slot 3],[.sl 1,.row 5 1 38]⟩)] .leaf))))))))) .leaf))))) (.cs Tryz.func113 eW <| .cs Tryz.func127 yO <| .cs Tryz.func129 qZ <| .nil) Tryz.func72 fun _=>by kernel_rfl
def yS:Sig:=⟨1,0,⟨[.slot 0],[I6]⟩,1,[],0,⟨[.slot 0],[.sl 1]⟩,46⟩
noncomputable def oE(s2:Int×List T×List T×Unit):Option (Int×List T×List T×Unit⊕List T×Unit⊕Empty):=bif ltI (0:Int) s2.1 then ob (α:=Int×List T×List T×Unit⊕Empty) (ob (α:=Int×List T×List T×Unit⊕Empty) (bif eqI (modI s2.1 (2:Int)) (1:Int) then ob (iJ (s2.2.1,s2.2.2.1,())) fun x3=>some (.inl (s2.1,x3.1,s2.2.2.1,())) else some (.inl (s2.1,s2.2.1,s2.2.2.1,()))) fun q4=>bB q4 (fun t5=>bif ltI (1:Int) t5.1 then ob (iJ (t5.2.2.1,t5.2.2.1,())) fun x6=>some (.inl (t5.1,t5.2.1,x6.1,())) else some (.inl (t5.1,t5.2.1,t5.2.2.1,()))) fun q7=>b0 q7) fun q8=>bB q8 (fun t9=>some (.inl (wr .i64 (divI t9.1 (2:Int)),t9.2.1,t9.2.2.1,()))) fun q10=>b0 q10 else some (.inr (.inl (s2.2.1,())))
noncomputable def lD(t:Int×Unit):Option (List T×Unit):=ob (iB ((1:Int),())) fun x0=>ob (iB ((10:Int),())) fun x1=>ob (aF oE (t.1,x0.1,x1.1,())) fun q11=>bB q11 (fun t12=>some (t12.1,())) fun q13=>b0 q13
theorem MK:(aA yS lD).OK Tryz.prog 51:=d4 mixed [] (.l (.l (.seq (.one (.loop ⟨[.slot 0,.slot 3,.slot 4],[I6,.sl 1,.sl 1]⟩ [((.exit 0),⟨[.slot 3],[.sl 1]⟩)] (.l (.seq (.join [(.normal,⟨[.slot 0,.slot 3,.slot 4],[I6,.sl 1,.sl 1]⟩)] (.one (.seq (.join [(.normal,⟨[.slot 0,.slot 3,.slot 4],[I6,.sl 1,.sl 1]⟩)] .leaf) .leaf))) .leaf)))) .leaf))) (.cs Tryz.func70 xV <| .cs Tryz.func50 C6 <| .nil) Tryz.func51 fun _=>by kernel_rfl
def uW:Sig:=⟨1,0,⟨[.slot 0],[.sl 1]⟩,2,[],0,⟨[.slot 0,.slot 1],[I6,.sl 1]⟩,64⟩
noncomputable def mA(s0:List T×Int×Unit):Option (List T×Int×Unit⊕Int×List T×Unit⊕Empty):=ob (iB ((5:Int),())) fun x1=>ob (kB (s0.1,x1.1,())) fun x2=>bif Bool.not (eqI x2.2.2.1 (0:Int)) then some (.inr (.inl (s0.2.1,s0.1,()))) else bif ltI (0:Int) (lenL x2.2.1) then some (.inr (.inl (s0.2.1,s0.1,()))) else bif eqI (lenL s0.1) (0:Int) then some (.inr (.inl (s0.2.1,s0.1,()))) else some (.inl (x2.1,wr .i64 (addI s0.2.1 (1:Int)),()))
noncomputable def iV(t:List T×Unit):Option (Int×List T×Unit):=ob (aF mA (t.1,(0:Int),())) fun q3=>bB q3 (fun t4=>some (t4.1,t4.2.1,())) fun q5=>b0 q5
theorem HJ:(aA uW iV).OK Tryz.prog 68:=d4 mixed [] (.l (.l (.one (.loop ⟨[.slot 0,.slot 4],[.sl 1,I6]⟩ [(.ret,⟨[.slot 2,.slot 3],[I6,.sl 1]⟩)] .leaf)))) (.cs Tryz.func70 xV <| .cs Tryz.func71 C7 <| .nil) Tryz.func68 fun _=>by kernel_rfl
def uX:Sig:=⟨2,0,⟨[.slot 0,.slot 1],[.str,I6]⟩,1,[],0,⟨[.slot 0],[.str]⟩,250⟩
noncomputable def u_strings_Repeat(t:ByteArray×Int×Unit):Option (ByteArray×Unit):=bif eqI t.2.1 (0:Int) then some (ByteArray.mk #[],()) else bif eqI t.2.1 (1:Int) then some (t.1,()) else ob (α:=ByteArray×Int×Unit⊕Empty) (bif ltI t.2.1 (0:Int) then none else some (.inl (t.1,t.2.1,()))) fun q0=>bB q0 (fun t1=>none) fun q2=>b0 q2
theorem HK:(aA uX u_strings_Repeat).OK Tryz.prog 73:=d4 mixed [] (.l (.l (.seq (.join [(.normal,⟨[.slot 0,.slot 1],[.str,I6]⟩)] .leaf) (.l (.seq (.join [] .leaf) (.l (.l (.seq (.join [] (.l (.one (.seq (.join [] .leaf) .leaf)))) (.l (.seq (.join [] .leaf) (.l (.l (.l (.seq (.one (.loop ⟨[],[]⟩ [] .leaf)) .leaf)))))))))))))) .nil Tryz.func73 fun _=>by kernel_rfl
def oF:Sig:=⟨1,0,⟨[.aggs 0 3],[.bool,.sl 1,.sl 1]⟩,2,[],0,⟨[.slot 0,.slot 1],[.str,.bool]⟩,204⟩
noncomputable def wP:List (FuncId×Callee):=[(67,(aA pY fH)),(68,(aA uW iV)),(70,(aA C5 iB)),(69,(aA AY kA)),(51,Bi (aA yS lD)),(50,Bi (aA AZ iJ)),(71,Bi (aA A0 kB)),(72,(aA yR lC)),(73,(aA uX u_strings_Repeat))]
noncomputable def mB(s0:Unit×List T×Int×List T×Bool×List T×List T×Unit):Option (Unit×List T×Int×List T×Bool×List T×List T×Unit⊕Unit×List T×Int×Bool×List T×List T×Unit⊕Empty):=bif ltI (0:Int) (lenL s0.2.2.2.1) then ob (idxL s0.2.2.2.1 (0:Int)) fun x1=>ob (T.int? .u32 (T.cell x1 0)) fun x2=>bif eqI (bitI .and .u32 x2 (1:Int)) (0:Int) then ob (fH (s0.2.2.2.1,(-1:Int),())) fun x3=>some (.inl ((),s0.2.1,wr .i64 (addI s0.2.2.1 (1:Int)),x3.1,s0.2.2.2.2.1,s0.2.2.2.2.2.1,s0.2.2.2.2.2.2.1,())) else some (.inr (.inl ((),s0.2.1,s0.2.2.1,s0.2.2.2.2.1,s0.2.2.2.2.2.1,s0.2.2.2.2.2.2.1,()))) else some (.inr (.inl ((),s0.2.1,s0.2.2.1,s0.2.2.2.2.1,s0.2.2.2.2.2.1,s0.2.2.2.2.2.2.1,())))
noncomputable def cE(t:Bool×List T×List T×Unit):Option (ByteArray×Bool×Unit):=ob (α:=ByteArray×Bool×Unit⊕Unit×Int×List T×Bool×List T×List T×Unit⊕Empty) (bif ltI (0:Int) (lenL t.2.2.1) then ob (aF mB ((),t.2.1,(0:Int),t.2.2.1,t.1,t.2.1,t.2.2.1,())) fun q4=>bB q4 (fun t5=>ob (fH (t5.2.2.2.2.2.1,wr .i64 (subI (0:Int) t5.2.2.1),())) fun x6=>ob (iV (x6.1,())) fun x7=>ob (iB ((1:Int),())) fun x8=>ob (kA (x7.2.1,x8.1,())) fun x9=>bif Bool.not (eqI x9.1 (0:Int)) then some (.inl (ByteArray.mk #[],false,())) else ob (lD (mmI true t5.2.2.1 x7.1,())) fun x10=>ob (iJ (t5.2.1,x10.1,())) fun x11=>ob (kB (x11.1,t5.2.2.2.2.2.1,())) fun x12=>some (.inr (.inl ((),mmI true t5.2.2.1 x7.1,x12.1,t5.2.2.2.1,t5.2.2.2.2.1,t5.2.2.2.2.2.1,())))) fun q13=>b0 q13 else some (.inr (.inl ((),(0:Int),t.2.1,t.1,t.2.1,t.2.2.1,())))) fun q14=>bB q14 (fun t15=>some (t15.1,t15.2.1,())) fun q16=>bB q16 (fun t17=>ob (lC (t17.2.2.1,())) fun x18=>ob (α:=Unit×Int×ByteArray×Bool×List T×List T×Unit⊕Empty) (bif leI (lenS x18.1) t17.2.1 then ob (u_strings_Repeat (ByteArray.mk #[48],wr .i64 (subI (wr .i64 (addI t17.2.1 (1:Int))) (lenS x18.1)),())) fun x19=>ob (catS x19.1 x18.1) fun x20=>some (.inl ((),t17.2.1,x20,t17.2.2.2.1,t17.2.2.2.2.1,t17.2.2.2.2.2.1,())) else some (.inl ((),t17.2.1,x18.1,t17.2.2.2.1,t17.2.2.2.2.1,t17.2.2.2.2.2.1,()))) fun q21=>bB q21 (fun t22=>ob (subS t22.2.2.1 (0:Int) (wr .i64 (subI (lenS t22.2.2.1) t22.2.1))) fun x23=>ob (catS x23 (ByteArray.mk #[46])) fun x24=>ob (subS t22.2.2.1 (wr .i64 (subI (lenS t22.2.2.1) t22.2.1)) (lenS t22.2.2.1)) fun x25=>ob (catS x24 x25) fun x26=>ob (α:=ByteArray×Unit⊕Empty) (bif t22.2.2.2.1 then ob (catS (ByteArray.mk #[45]) x26) fun x27=>some (.inl (x27,())) else some (.inl (x26,()))) fun q28=>bB q28 (fun t29=>some (t29.1,true,())) fun q30=>b0 q30) fun q31=>b0 q31) fun q32=>b0 q32
def wQ:HT:=(.l (.l (.l (.seq (.join [(.ret,⟨[.slot 2,.slot 3],[.str,.bool]⟩),(.normal,⟨[.slot 1,.slot 4,.slot 5,.box 1 3],[.lit (.box 1 0),I6,.sl 1,.bool,.sl 1,.sl 1]⟩)] (.l (.cond (.l (.seq (.l (.one (.loop ⟨[.slot 1,.slot 5,.slot 6,.slot 7,.box 1 3],[.lit (.box 1 0),.sl 1,I6,.sl 1,.bool,.sl 1,.sl 1]⟩ [((.exit 0),⟨[.slot 1,.slot 5,.slot 6,.box 1 3],[.lit (.box 1 0),.sl 1,I6,.bool,.sl 1,.sl 1]⟩)] .leaf))) .leaf)) .leaf))) (.l (.seq (.join [(.normal,⟨[.slot 1,.slot 4,.slot 12,.box 1 3],[.lit (.box 1 0),I6,.str,.bool,.sl 1,.sl 1]⟩)] .leaf) (.l (.seq (.join [(.normal,⟨[.slot 12],[.str]⟩)] .leaf) .leaf))))))))
theorem F1:TabOK Tryz.prog [69,1000051,1000050,1000071,72,73] wP:=(.cs Tryz.func67 JG (.cs Tryz.func68 HJ (.cs Tryz.func70 xV (.cs Tryz.func69 C4 (TabOK.consP (fun _=>⟨_,Tryz.func51,by kernel_rfl,by kernel_rfl⟩) (xR MK) (sE (aB _ _)) (fun h=>by cases h) (fun _=>dJ (aB _ _)) (fun _=>(dJ (aB _ _)).framed) (by kernel_rfl) (TabOK.consP (fun _=>⟨_,Tryz.func50,by kernel_rfl,by kernel_rfl⟩) (xR C6) (sE (aB _ _)) (fun h=>by cases h) (fun _=>dJ (aB _ _)) (fun _=>(dJ (aB _ _)).framed) (by kernel_rfl) (TabOK.consP (fun _=>⟨_,Tryz.func71,by kernel_rfl,by kernel_rfl⟩) (xR C7) (sE (aB _ _)) (fun h=>by cases h) (fun _=>dJ (aB _ _)) (fun _=>(dJ (aB _ _)).framed) (by kernel_rfl) (.cs Tryz.func72 MJ (.cs Tryz.func73 HK TabOK.nil)))))))))
theorem HL:∀t,pH Tryz.prog wP [69,1000051,1000050,1000071,72,73] wQ Tryz.f23 oF t=cE t:=fun _=>by kernel_rfl
theorem wR:(aA oF cE).OK Tryz.prog 23:=d4 mixed [69,1000051,1000050,1000071,72,73] wQ F1 Tryz.func23 HL
def yT:Sig:=⟨2,0,⟨[.slot 0,.slot 1],[I6,I6]⟩,1,[],0,⟨[.aggs 0 5],[I6,I6,I6,I6,I6]⟩,16⟩
noncomputable def A1(t:Int×Int×Unit):Option (Int×Int×Int×Int×Int×Unit):=some (t.1,t.2.1,(-1:Int),(-1:Int),(-1:Int),())
theorem ML:(aA yT A1).OK Tryz.prog 89:=d4 mixed [] .leaf .nil Tryz.func89 fun _=>by kernel_rfl
def iW:Sig:=⟨1,1,⟨[.slot 0,.box 0 2],[.lit (.box 0 0),.sl 1,I6]⟩,1,[],0,⟨[.slot 0,.box 0 2],[.str,.sl 1,I6]⟩,16⟩
noncomputable def u___brepkernelmade_Dice__Word(t:Unit×List T×Int×Unit):Option (ByteArray×List T×Int×Unit):=ob (u___brepkernelmade_Dice__Next ((),(12:Int),t.2.1,t.2.2.1,())) fun x0=>ob (chkI (lenL [T.v (.string (ByteArray.mk #[97])),T.v (.string (ByteArray.mk #[98])),T.v (.string (ByteArray.mk #[120,48])),T.v (.string (ByteArray.mk #[115,48,46,49])),T.v (.string (ByteArray.mk #[])),T.v (.string (ByteArray.mk #[102,46,120,48])),T.v (.string (ByteArray.mk #[103,46,122,49])),T.v (.string (ByteArray.mk #[102,46,120,48,43,103,46,122,49])),T.v (.string (ByteArray.mk #[65,43])),T.v (.string (ByteArray.mk #[97,39,98])),T.v (.string (ByteArray.mk #[99,32,100])),T.v (.string (ByteArray.mk #[195,169]))]) x0.1) fun x1=>ob (idxN [T.v (.string (ByteArray.mk #[97])),T.v (.string (ByteArray.mk #[98])),T.v (.string (ByteArray.mk #[120,48])),T.v (.string (ByteArray.mk #[115,48,46,49])),T.v (.string (ByteArray.mk #[])),T.v (.string (ByteArray.mk #[102,46,120,48])),T.v (.string (ByteArray.mk #[103,46,122,49])),T.v (.string (ByteArray.mk #[102,46,120,48,43,103,46,122,49])),T.v (.string (ByteArray.mk #[65,43])),T.v (.string (ByteArray.mk #[97,39,98])),T.v (.string (ByteArray.mk #[99,32,100])),T.v (.string (ByteArray.mk #[195,169]))] x1) fun x2=>ob (T.str? (T.cell x2 0)) fun x3=>some (x3,x0.2.1,x0.2.2.1,())
theorem rA:(aA iW u___brepkernelmade_Dice__Word).OK Tryz.prog 90:=d4 mixed [] .leaf (.cs Tryz.func15 bU <| .nil) Tryz.func90 fun _=>by kernel_rfl
def bG:Sig:=⟨2,1,⟨[.slot 0,.slot 1,.box 0 2],[.lit (.box 0 0),I6,.sl 1,I6]⟩,1,[],0,⟨[.aggs 0 7,.box 0 2],[I6,.bool,.sl 1,.sl 1,.str,I6,.sl 7,.sl 1,I6]⟩,158⟩
noncomputable def jW(self:(Unit×(Int×((List T)×(Int×Unit))))→Option (Int×(Bool×((List T)×((List T)×(ByteArray×(Int×((List T)×((List T)×(Int×Unit)))))))))):List (Go.FuncId×Callee):=[(15,(aA cD u___brepkernelmade_Dice__Next)),(19,(aA sH u_ref02_Int)),(21,(aA C3 u_ref02_Frac)),(90,(aA iW u___brepkernelmade_Dice__Word)),(33,(aA bG self)),(2000000,jU [6] [5,24,25,38,39,52,53,60000032,60000030,8999999])]
noncomputable def cB(self:(Unit×Int×List T×Int×Unit)→Option (Int×Bool×List T×List T×ByteArray×Int×List T×List T×Int×Unit))(s21:Unit×Int×Unit×Unit×Int×List T×Int×Int×Bool×T×T×ByteArray×Int×T×Int×Bool×T×T×ByteArray×Int×List T×Unit):Option (Unit×Int×Unit×Unit×Int×List T×Int×Int×Bool×T×T×ByteArray×Int×T×Int×Bool×T×T×ByteArray×Int×List T×Unit⊕Unit×Unit×List T×Int×Int×Bool×T×T×ByteArray×Int×T×Int×Bool×T×T×ByteArray×Int×List T×Unit⊕Empty):=bif ltI (0:Int) s21.2.2.2.2.1 then ob (self ((),wr .i64 (subI s21.2.1 (1:Int)),s21.2.2.2.2.2.1,s21.2.2.2.2.2.2.1,())) fun x22=>ob (room s21.2.2.2.2.2.2.2.2.2.2.2.2.2.2.2.2.2.2.2.2.1 [T.agg [T.v (.int .i64 x22.1),T.v (.bool x22.2.1),T.sl 1 x22.2.2.1,T.sl 1 x22.2.2.2.1,T.v (.string x22.2.2.2.2.1),T.v (.int .i64 x22.2.2.2.2.2.1),T.sl 7 x22.2.2.2.2.2.2.1]] 112) fun x23=>some (.inl ((),s21.2.1,(),(),wr .i64 (subI s21.2.2.2.2.1 (1:Int)),x22.2.2.2.2.2.2.2.1,x22.2.2.2.2.2.2.2.2.1,s21.2.2.2.2.2.2.2.1,s21.2.2.2.2.2.2.2.2.1,s21.2.2.2.2.2.2.2.2.2.1,s21.2.2.2.2.2.2.2.2.2.2.1,s21.2.2.2.2.2.2.2.2.2.2.2.1,s21.2.2.2.2.2.2.2.2.2.2.2.2.1,s21.2.2.2.2.2.2.2.2.2.2.2.2.2.1,s21.2.2.2.2.2.2.2.2.2.2.2.2.2.2.1,s21.2.2.2.2.2.2.2.2.2.2.2.2.2.2.2.1,s21.2.2.2.2.2.2.2.2.2.2.2.2.2.2.2.2.1,s21.2.2.2.2.2.2.2.2.2.2.2.2.2.2.2.2.2.1,s21.2.2.2.2.2.2.2.2.2.2.2.2.2.2.2.2.2.2.1,s21.2.2.2.2.2.2.2.2.2.2.2.2.2.2.2.2.2.2.2.1,x23,())) else some (.inr (.inl ((),(),s21.2.2.2.2.2.1,s21.2.2.2.2.2.2.1,s21.2.2.2.2.2.2.2.1,s21.2.2.2.2.2.2.2.2.1,s21.2.2.2.2.2.2.2.2.2.1,s21.2.2.2.2.2.2.2.2.2.2.1,s21.2.2.2.2.2.2.2.2.2.2.2.1,s21.2.2.2.2.2.2.2.2.2.2.2.2.1,s21.2.2.2.2.2.2.2.2.2.2.2.2.2.1,s21.2.2.2.2.2.2.2.2.2.2.2.2.2.2.1,s21.2.2.2.2.2.2.2.2.2.2.2.2.2.2.2.1,s21.2.2.2.2.2.2.2.2.2.2.2.2.2.2.2.2.1,s21.2.2.2.2.2.2.2.2.2.2.2.2.2.2.2.2.2.1,s21.2.2.2.2.2.2.2.2.2.2.2.2.2.2.2.2.2.2.1,s21.2.2.2.2.2.2.2.2.2.2.2.2.2.2.2.2.2.2.2.1,s21.2.2.2.2.2.2.2.2.2.2.2.2.2.2.2.2.2.2.2.2.1,())))
noncomputable def dL(self:(Unit×(Int×((List T)×(Int×Unit))))→Option (Int×(Bool×((List T)×((List T)×(ByteArray×(Int×((List T)×((List T)×(Int×Unit))))))))))(t:(Unit×(Int×((List T)×(Int×Unit))))):Option (Int×(Bool×((List T)×((List T)×(ByteArray×(Int×((List T)×((List T)×(Int×Unit))))))))):=
 (ob (Go.Eng.u___brepkernelmade_Dice__Next ((),((9:Int),(t.2.2.1,(t.2.2.2.1,()))))) fun x0=>(bif (Go.Eng.eqI x0.1 (0:Int)) then (ob (Go.Eng.u___brepkernelmade_Dice__Next ((),((50:Int),(x0.2.1,(x0.2.2.1,()))))) fun x1=>(ob (Go.Eng.u_ref02_Int ((Go.Eng.wr Go.IntKind.i64 (Go.Eng.subI x1.1 (20:Int))),())) fun x2=>(some ((1:Int),(x2.1,(x2.2.1,(x2.2.2.1,((ByteArray.mk #[]),((0:Int),([],(x1.2.1,(x1.2.2.1,())))))))))))) else (bif (Go.Eng.eqI x0.1 (1:Int)) then (ob (Go.Eng.u___brepkernelmade_Dice__Next ((),((99:Int),(x0.2.1,(x0.2.2.1,()))))) fun x3=>(ob (Go.Eng.u___brepkernelmade_Dice__Next ((),((7:Int),(x3.2.1,(x3.2.2.1,()))))) fun x4=>(ob (Go.Eng.chkI (Go.Eng.lenL [(Go.Eng.T.v (Go.Value.int Go.IntKind.i64 (1:Int))),(Go.Eng.T.v (Go.Value.int Go.IntKind.i64 (2:Int))),(Go.Eng.T.v (Go.Value.int Go.IntKind.i64 (8:Int))),(Go.Eng.T.v (Go.Value.int Go.IntKind.i64 (5:Int))),(Go.Eng.T.v (Go.Value.int Go.IntKind.i64 (1:Int))),(Go.Eng.T.v (Go.Value.int Go.IntKind.i64 (10:Int))),(Go.Eng.T.v (Go.Value.int Go.IntKind.i64 (3:Int)))]) x4.1) fun x5=>(ob (Go.Eng.idxN [(Go.Eng.T.v (Go.Value.int Go.IntKind.i64 (1:Int))),(Go.Eng.T.v (Go.Value.int Go.IntKind.i64 (2:Int))),(Go.Eng.T.v (Go.Value.int Go.IntKind.i64 (8:Int))),(Go.Eng.T.v (Go.Value.int Go.IntKind.i64 (5:Int))),(Go.Eng.T.v (Go.Value.int Go.IntKind.i64 (1:Int))),(Go.Eng.T.v (Go.Value.int Go.IntKind.i64 (10:Int))),(Go.Eng.T.v (Go.Value.int Go.IntKind.i64 (3:Int)))] x5) fun x6=>(ob (Go.Eng.T.int? Go.IntKind.i64 (Go.Eng.T.cell x6 0)) fun x7=>(ob (Go.Eng.u_ref02_Frac ((Go.Eng.wr Go.IntKind.i64 (Go.Eng.subI x3.1 (40:Int))),(x7,()))) fun x8=>(some ((2:Int),(x8.1,(x8.2.1,(x8.2.2.1,((ByteArray.mk #[]),((0:Int),([],(x4.2.1,(x4.2.2.1,())))))))))))))))) else (bif (Go.Eng.eqI x0.1 (2:Int)) then (ob (Go.Eng.u___brepkernelmade_Dice__Word ((),(x0.2.1,(x0.2.2.1,())))) fun x9=>(some ((3:Int),(Bool.false,([],([],(x9.1,((0:Int),([],(x9.2.1,(x9.2.2.1,()))))))))))) else (bif (Go.Eng.eqI x0.1 (3:Int)) then (ob (Go.Eng.u___brepkernelmade_Dice__Next ((),((4:Int),(x0.2.1,(x0.2.2.1,()))))) fun x10=>(ob (Go.Eng.chkI (Go.Eng.lenL [(Go.Eng.T.v (Go.Value.string (ByteArray.mk #[84]))),(Go.Eng.T.v (Go.Value.string (ByteArray.mk #[70]))),(Go.Eng.T.v (Go.Value.string (ByteArray.mk #[65,66,95,49]))),(Go.Eng.T.v (Go.Value.string (ByteArray.mk #[116])))]) x10.1) fun x11=>(ob (Go.Eng.idxN [(Go.Eng.T.v (Go.Value.string (ByteArray.mk #[84]))),(Go.Eng.T.v (Go.Value.string (ByteArray.mk #[70]))),(Go.Eng.T.v (Go.Value.string (ByteArray.mk #[65,66,95,49]))),(Go.Eng.T.v (Go.Value.string (ByteArray.mk #[116])))] x11) fun x12=>(ob (Go.Eng.T.str? (Go.Eng.T.cell x12 0)) fun x13=>(some ((4:Int),(Bool.false,([],([],(x13,((0:Int),([],(x10.2.1,(x10.2.2.1,())))))))))))))) else (bif (Go.Eng.eqI x0.1 (4:Int)) then (ob (Go.Eng.u___brepkernelmade_Dice__Next ((),((6:Int),(x0.2.1,(x0.2.2.1,()))))) fun x14=>(some ((5:Int),(Bool.false,([],([],((ByteArray.mk #[]),((Go.Eng.wr Go.IntKind.i64 (Go.Eng.addI (1:Int) x14.1)),([],(x14.2.1,(x14.2.2.1,()))))))))))) else (bif (Go.Eng.eqI x0.1 (5:Int)) then (ob (Go.Eng.u___brepkernelmade_Dice__Next ((),((4:Int),(x0.2.1,(x0.2.2.1,()))))) fun x15=>(ob (Go.Eng.chkI (Go.Eng.lenL [(Go.Eng.T.v (Go.Value.int Go.IntKind.i64 (7:Int))),(Go.Eng.T.v (Go.Value.int Go.IntKind.i64 (8:Int))),(Go.Eng.T.v (Go.Value.int Go.IntKind.i64 (0:Int))),(Go.Eng.T.v (Go.Value.int Go.IntKind.i64 (9:Int)))]) x15.1) fun x16=>(ob (Go.Eng.idxN [(Go.Eng.T.v (Go.Value.int Go.IntKind.i64 (7:Int))),(Go.Eng.T.v (Go.Value.int Go.IntKind.i64 (8:Int))),(Go.Eng.T.v (Go.Value.int Go.IntKind.i64 (0:Int))),(Go.Eng.T.v (Go.Value.int Go.IntKind.i64 (9:Int)))] x16) fun x17=>(ob (Go.Eng.T.int? Go.IntKind.i64 (Go.Eng.T.cell x17 0)) fun x18=>(some (x18,(Bool.false,([],([],((ByteArray.mk #[]),((0:Int),([],(x15.2.1,(x15.2.2.1,())))))))))))))) else (bif (Go.Eng.eqI x0.1 (6:Int)) then (ob (Go.Eng.u___brepkernelmade_Dice__Next ((),((2:Int),(x0.2.1,(x0.2.2.1,()))))) fun x19=>(some ((7:Int),(Bool.false,([],([],((ByteArray.mk #[]),(x19.1,([],(x19.2.1,(x19.2.2.1,()))))))))))) else (ob (α:=((Unit×Unit×List T×Int×Int×Bool×T×T×ByteArray×Int×T×Int×Bool×T×T×ByteArray×Int×List T×Unit)⊕Empty)) (bif (Go.Eng.ltI (0:Int) t.2.1) then (ob (Go.Eng.u___brepkernelmade_Dice__Next ((),((4:Int),(x0.2.1,(x0.2.2.1,()))))) fun x20=>(ob (aF (cB self) ((),(t.2.1,((),((),(x20.1,(x20.2.1,(x20.2.2.1,((0:Int),(Bool.false,((Go.Eng.T.v (Go.Value.slice (Option.none) 0 0)),((Go.Eng.T.v (Go.Value.slice (Option.none) 0 0)),((ByteArray.mk #[]),((0:Int),((Go.Eng.T.v (Go.Value.slice (Option.none) 0 0)),((6:Int),(Bool.false,((Go.Eng.T.v (Go.Value.slice (Option.none) 0 0)),((Go.Eng.T.v (Go.Value.slice (Option.none) 0 0)),((ByteArray.mk #[]),((0:Int),([],())))))))))))))))))))))) fun q24=>bB q24 (fun t25=>(some (Sum.inl ((),((),(t25.2.2.1,(t25.2.2.2.1,(t25.2.2.2.2.1,(t25.2.2.2.2.2.1,(t25.2.2.2.2.2.2.1,(t25.2.2.2.2.2.2.2.1,(t25.2.2.2.2.2.2.2.2.1,(t25.2.2.2.2.2.2.2.2.2.1,(t25.2.2.2.2.2.2.2.2.2.2.1,(t25.2.2.2.2.2.2.2.2.2.2.2.1,(t25.2.2.2.2.2.2.2.2.2.2.2.2.1,(t25.2.2.2.2.2.2.2.2.2.2.2.2.2.1,(t25.2.2.2.2.2.2.2.2.2.2.2.2.2.2.1,(t25.2.2.2.2.2.2.2.2.2.2.2.2.2.2.2.1,(t25.2.2.2.2.2.2.2.2.2.2.2.2.2.2.2.2.1,(t25.2.2.2.2.2.2.2.2.2.2.2.2.2.2.2.2.2.1,()))))))))))))))))))))) fun q26=>b0 q26)) else (some (Sum.inl ((),((),(x0.2.1,(x0.2.2.1,((0:Int),(Bool.false,((Go.Eng.T.v (Go.Value.slice (Option.none) 0 0)),((Go.Eng.T.v (Go.Value.slice (Option.none) 0 0)),((ByteArray.mk #[]),((0:Int),((Go.Eng.T.v (Go.Value.slice (Option.none) 0 0)),((6:Int),(Bool.false,((Go.Eng.T.v (Go.Value.slice (Option.none) 0 0)),((Go.Eng.T.v (Go.Value.slice (Option.none) 0 0)),((ByteArray.mk #[]),((0:Int),([],()))))))))))))))))))))) fun q27=>bB q27 (fun t28=>(ob (Go.Eng.T.sl? 1 t28.2.2.2.2.2.2.2.2.2.2.2.2.2.1) fun x29=>(ob (Go.Eng.T.sl? 1 t28.2.2.2.2.2.2.2.2.2.2.2.2.2.2.1) fun x30=>(some (t28.2.2.2.2.2.2.2.2.2.2.2.1,(t28.2.2.2.2.2.2.2.2.2.2.2.2.1,(x29,(x30,(t28.2.2.2.2.2.2.2.2.2.2.2.2.2.2.2.1,(t28.2.2.2.2.2.2.2.2.2.2.2.2.2.2.2.2.1,(t28.2.2.2.2.2.2.2.2.2.2.2.2.2.2.2.2.2.1,(t28.2.2.1,(t28.2.2.2.1,()))))))))))))) fun q31=>b0 q31)))))))))
def rQ:HT:=(.l (.l (.l (.seq (.join [(.normal,⟨[.slot 4,.slot 5,.box 0 2,.box 5 7,.box 6 7],[.lit (.box 5 0),.lit (.box 6 0),.sl 1,I6,I6,.bool,.tree,.tree,.str,I6,.tree,I6,.bool,.tree,.tree,.str,I6,.row 32 7 77]⟩)] (.l (.cond (.l (.one (.loop ⟨[.slot 0,.slot 1,.slot 4,.slot 5,.slot 6,.box 0 2,.box 5 7,.box 6 7],[.lit (.box 0 0),I6,.lit (.box 5 0),.lit (.box 6 0),I6,.sl 1,I6,I6,.bool,.tree,.tree,.str,I6,.tree,I6,.bool,.tree,.tree,.str,I6,.row 32 7 77]⟩ [((.exit 1),⟨[.slot 4,.slot 5,.box 0 2,.box 5 7,.box 6 7],[.lit (.box 5 0),.lit (.box 6 0),.sl 1,I6,I6,.bool,.tree,.tree,.str,I6,.tree,I6,.bool,.tree,.tree,.str,I6,.row 32 7 77]⟩)] .leaf))) .leaf))) .leaf))))
theorem rB(self:(Unit×(Int×((List T)×(Int×Unit))))→Option (Int×(Bool×((List T)×((List T)×(ByteArray×(Int×((List T)×((List T)×(Int×Unit))))))))))(hs:(aA bG self).OK Tryz.prog 33):TabOK Tryz.prog [9000000,4000015,4000019,4000021,4000090,4000033,20000005,20000024,20000025,20000038,20000039,20000052,20000053,80000032,80000030,28999999] (jW self):=(TabOK.cons (fun _=>⟨_,Tryz.func15,by kernel_rfl,by kernel_rfl⟩) bU (aB _ _) (fun h=>by cases h) (by kernel_rfl) (fun _=>aP (aB _ _) rfl rfl) (by kernel_rfl) (TabOK.cons (fun _=>⟨_,Tryz.func19,by kernel_rfl,by kernel_rfl⟩) qY (aB _ _) (fun h=>by cases h) (by kernel_rfl) (fun _=>aP (aB _ _) rfl rfl) (by kernel_rfl) (TabOK.cons (fun _=>⟨_,Tryz.func21,by kernel_rfl,by kernel_rfl⟩) FZ (aB _ _) (fun h=>by cases h) (by kernel_rfl) (fun _=>aP (aB _ _) rfl rfl) (by kernel_rfl) (TabOK.cons (fun _=>⟨_,Tryz.func90,by kernel_rfl,by kernel_rfl⟩) rA (aB _ _) (fun h=>by cases h) (by kernel_rfl) (fun _=>aP (aB _ _) rfl rfl) (by kernel_rfl) (TabOK.cons (fun _=>⟨_,Tryz.func33,by kernel_rfl,by kernel_rfl⟩) hs (aB _ _) (fun h=>by cases h) (by kernel_rfl) (fun _=>aP (aB _ _) rfl rfl) (by kernel_rfl) (TabOK.flag (by kernel_rfl) (by kernel_rfl) (by kernel_rfl) (by kernel_rfl) (by kernel_rfl)))))))
theorem rR(self:(Unit×(Int×((List T)×(Int×Unit))))→Option (Int×(Bool×((List T)×((List T)×(ByteArray×(Int×((List T)×((List T)×(Int×Unit)))))))))):∀t,pH Tryz.prog (jW self) [9000000,4000015,4000019,4000021,4000090,4000033,20000005,20000024,20000025,20000038,20000039,20000052,20000053,80000032,80000030,28999999] rQ Tryz.f33 bG t=dL self t:=by
 intro t
 kernel_rfl
noncomputable def cN(n:Nat):(Unit×(Int×((List T)×(Int×Unit))))→Option (Int×(Bool×((List T)×((List T)×(ByteArray×(Int×((List T)×((List T)×(Int×Unit))))))))):=Nat.rec (motive:=fun _=>(Unit×(Int×((List T)×(Int×Unit))))→Option (Int×(Bool×((List T)×((List T)×(ByteArray×(Int×((List T)×((List T)×(Int×Unit)))))))))) (fun _=>none) (fun _ ih=>dL ih) n
theorem rC(n:Nat):(aA bG (cN n)).OK Tryz.prog 33:=by
 induction n with
 | zero=>exact vL _
 | succ n ih=>exact pV mixed (rB _ ih) Tryz.func33 (by kernel_rfl) (by kernel_rfl) (rR (cN n))
noncomputable def bK:(Unit×(Int×((List T)×(Int×Unit))))→Option (Int×(Bool×((List T)×((List T)×(ByteArray×(Int×((List T)×((List T)×(Int×Unit))))))))):=cN 20
theorem jX:(aA bG bK).OK Tryz.prog 33:=rC 20
def d9:Sig:=⟨1,1,⟨[.slot 0,.box 0 2],[.lit (.box 0 0),.sl 1,I6]⟩,1,[],0,⟨[.aggs 0 2,.box 0 2],[.str,.sl 7,.sl 1,I6]⟩,50⟩
noncomputable def iM:List (FuncId×Callee):=[(15,(aA cD u___brepkernelmade_Dice__Next)),(33,(aA bG bK)),(2000000,jU [4] [3,8,9,60000034,60000030,8999999])]
noncomputable def bQ(s4:Unit×Unit×Unit×Int×List T×Int×ByteArray×T×T×List T×Unit):Option (Unit×Unit×Unit×Int×List T×Int×ByteArray×T×T×List T×Unit⊕Unit×Unit×List T×Int×ByteArray×T×T×List T×Unit⊕Empty):=bif ltI (0:Int) s4.2.2.2.1 then ob (bK ((),(2:Int),s4.2.2.2.2.1,s4.2.2.2.2.2.1,())) fun x5=>ob (room s4.2.2.2.2.2.2.2.2.2.1 [T.agg [T.v (.int .i64 x5.1),T.v (.bool x5.2.1),T.sl 1 x5.2.2.1,T.sl 1 x5.2.2.2.1,T.v (.string x5.2.2.2.2.1),T.v (.int .i64 x5.2.2.2.2.2.1),T.sl 7 x5.2.2.2.2.2.2.1]] 112) fun x6=>some (.inl ((),(),(),wr .i64 (subI s4.2.2.2.1 (1:Int)),x5.2.2.2.2.2.2.2.1,x5.2.2.2.2.2.2.2.2.1,s4.2.2.2.2.2.2.1,s4.2.2.2.2.2.2.2.1,s4.2.2.2.2.2.2.2.2.1,x6,())) else some (.inr (.inl ((),(),s4.2.2.2.2.1,s4.2.2.2.2.2.1,s4.2.2.2.2.2.2.1,s4.2.2.2.2.2.2.2.1,s4.2.2.2.2.2.2.2.2.1,s4.2.2.2.2.2.2.2.2.2.1,())))
noncomputable def aV(t:Unit×List T×Int×Unit):Option (ByteArray×List T×List T×Int×Unit):=ob (u___brepkernelmade_Dice__Next ((),(12:Int),t.2.1,t.2.2.1,())) fun x0=>ob (chkI (lenL [T.v (.string (ByteArray.mk #[67,65,82,84,69,83,73,65,78,95,80,79,73,78,84])),T.v (.string (ByteArray.mk #[68,73,82,69,67,84,73,79,78])),T.v (.string (ByteArray.mk #[80,76,65,78,69])),T.v (.string (ByteArray.mk #[80,79,76,89,95,76,79,79,80])),T.v (.string (ByteArray.mk #[70,65,67,69,95,66,79,85,78,68])),T.v (.string (ByteArray.mk #[70,65,67,69,95,83,85,82,70,65,67,69])),T.v (.string (ByteArray.mk #[67,76,79,83,69,68,95,83,72,69,76,76])),T.v (.string (ByteArray.mk #[70,65,67,69,84,69,68,95,66,82,69,80])),T.v (.string (ByteArray.mk #[84,79,76,69,82,65,78,67,69])),T.v (.string (ByteArray.mk #[88])),T.v (.string (ByteArray.mk #[69,78,68,83,69,67])),T.v (.string (ByteArray.mk #[120]))]) x0.1) fun x1=>ob (idxN [T.v (.string (ByteArray.mk #[67,65,82,84,69,83,73,65,78,95,80,79,73,78,84])),T.v (.string (ByteArray.mk #[68,73,82,69,67,84,73,79,78])),T.v (.string (ByteArray.mk #[80,76,65,78,69])),T.v (.string (ByteArray.mk #[80,79,76,89,95,76,79,79,80])),T.v (.string (ByteArray.mk #[70,65,67,69,95,66,79,85,78,68])),T.v (.string (ByteArray.mk #[70,65,67,69,95,83,85,82,70,65,67,69])),T.v (.string (ByteArray.mk #[67,76,79,83,69,68,95,83,72,69,76,76])),T.v (.string (ByteArray.mk #[70,65,67,69,84,69,68,95,66,82,69,80])),T.v (.string (ByteArray.mk #[84,79,76,69,82,65,78,67,69])),T.v (.string (ByteArray.mk #[88])),T.v (.string (ByteArray.mk #[69,78,68,83,69,67])),T.v (.string (ByteArray.mk #[120]))] x1) fun x2=>ob (u___brepkernelmade_Dice__Next ((),(4:Int),x0.2.1,x0.2.2.1,())) fun x3=>ob (aF bQ ((),(),(),x3.1,x3.2.1,x3.2.2.1,ByteArray.mk #[],T.v (.slice none 0 0),T.cell x2 0,[],())) fun q7=>bB q7 (fun t8=>ob (T.str? t8.2.2.2.2.2.2.1) fun x9=>some (x9,t8.2.2.2.2.2.2.2.1,t8.2.2.1,t8.2.2.2.1,())) fun q10=>b0 q10
def iN:HT:=(.l (.l (.seq (.l (.one (.loop ⟨[.slot 0,.slot 2,.slot 3,.slot 4,.box 0 2,.box 3 2,.box 4 2],[.lit (.box 0 0),.lit (.box 3 0),.lit (.box 4 0),I6,.sl 1,I6,.str,.tree,.tree,.row 32 7 23]⟩ [((.exit 0),⟨[.slot 2,.slot 3,.box 0 2,.box 3 2,.box 4 2],[.lit (.box 3 0),.lit (.box 4 0),.sl 1,I6,.str,.tree,.tree,.row 32 7 23]⟩)] .leaf))) .leaf)))
theorem oG:TabOK Tryz.prog [9000000,4000015,4000033,20000003,20000008,20000009,80000034,80000030,28999999] iM:=(.cs Tryz.func15 bU (.cs Tryz.func33 jX (TabOK.flag (by kernel_rfl) (by kernel_rfl) (by kernel_rfl) (by kernel_rfl) (by kernel_rfl))))
theorem pC:∀t,pH Tryz.prog iM [9000000,4000015,4000033,20000003,20000008,20000009,80000034,80000030,28999999] iN Tryz.f30 d9 t=aV t:=fun _=>by kernel_rfl
theorem pD:(aA d9 aV).OK Tryz.prog 30:=d4 mixed [9000000,4000015,4000033,20000003,20000008,20000009,80000034,80000030,28999999] iN oG Tryz.func30 pC
def uY:Sig:=⟨1,0,⟨[.slot 0],[.sl 1]⟩,1,[],0,⟨[.aggs 0 4],[.sl 1,I6,I6,.sl 1]⟩,12⟩
noncomputable def cO(t:List T×Unit):Option (List T×Int×Int×List T×Unit):=some ([T.v (.int .i64 (5:Int))],(0:Int),(0:Int),t.1,())
theorem HM:(aA uY cO).OK Tryz.prog 203:=d4 mixed [] .leaf .nil Tryz.func203 fun _=>by kernel_rfl
def uZ:Sig:=⟨3,0,⟨[.aggs 0 4,.slot 1,.slot 2],[.sl 1,I6,I6,.sl 1,I6,I6]⟩,1,[],0,⟨[.aggs 0 4],[.sl 1,I6,I6,.sl 1]⟩,24⟩
noncomputable def f7(t:List T×Int×Int×List T×Int×Int×Unit):Option (List T×Int×Int×List T×Unit):=some (t.1,t.2.2.2.2.1,t.2.2.2.2.2.1,t.2.2.2.1,())
theorem HN:(aA uZ f7).OK Tryz.prog 204:=d4 mixed [] .leaf .nil Tryz.func204 fun _=>by kernel_rfl
def u0:Sig:=⟨1,0,⟨[.slot 0],[.sl 1]⟩,1,[],0,⟨[.aggs 0 4],[.sl 1,I6,I6,.sl 1]⟩,12⟩
noncomputable def lT(t:List T×Unit):Option (List T×Int×Int×List T×Unit):=some ([T.v (.int .i64 (4:Int))],(0:Int),(0:Int),t.1,())
theorem HO:(aA u0 lT).OK Tryz.prog 205:=d4 mixed [] .leaf .nil Tryz.func205 fun _=>by kernel_rfl
def eR:Sig:=⟨2,1,⟨[.slot 0,.slot 1,.box 0 2],[.lit (.box 0 0),I6,.sl 1,I6]⟩,1,[],0,⟨[.aggs 0 2,.box 0 2],[.sl 2,.sl 3,.sl 1,I6]⟩,96⟩
noncomputable def jE:List (FuncId×Callee):=[(15,(aA cD u___brepkernelmade_Dice__Next)),(30,(aA d9 aV)),(31,(aA eQ aR)),(2000000,jU [6] [5,32,60000035,60000036,8999999])]
noncomputable def b4(s1:Unit×Int×Unit×Unit×Int×List T×Int×T×T×List T×List T×Unit):Option (Unit×Int×Unit×Unit×Int×List T×Int×T×T×List T×List T×Unit⊕Unit×Int×Unit×Unit×List T×Int×T×T×List T×List T×Unit⊕Empty):=bif ltI (0:Int) s1.2.2.2.2.1 then ob (aV ((),s1.2.2.2.2.2.1,s1.2.2.2.2.2.2.1,())) fun x2=>ob (room s1.2.2.2.2.2.2.2.2.2.1 [T.agg [T.v (.string x2.1),T.sl 7 x2.2.1]] 40) fun x3=>some (.inl ((),s1.2.1,(),(),wr .i64 (subI s1.2.2.2.2.1 (1:Int)),x2.2.2.1,x2.2.2.2.1,s1.2.2.2.2.2.2.2.1,s1.2.2.2.2.2.2.2.2.1,x3,s1.2.2.2.2.2.2.2.2.2.2.1,())) else some (.inr (.inl ((),s1.2.1,(),(),s1.2.2.2.2.2.1,s1.2.2.2.2.2.2.1,s1.2.2.2.2.2.2.2.1,s1.2.2.2.2.2.2.2.2.1,s1.2.2.2.2.2.2.2.2.2.1,s1.2.2.2.2.2.2.2.2.2.2.1,())))
noncomputable def bI(s7:Unit×Unit×Unit×Int×List T×Int×T×T×List T×List T×Unit):Option (Unit×Unit×Unit×Int×List T×Int×T×T×List T×List T×Unit⊕Unit×Unit×List T×Int×T×T×List T×List T×Unit⊕Empty):=bif ltI (0:Int) s7.2.2.2.1 then ob (α:=Unit×Unit×Unit×Int×Int×List T×Int×T×T×List T×List T×Unit⊕Empty) (ob (aR ((),(8:Int),s7.2.2.2.2.1,s7.2.2.2.2.2.1,())) fun x8=>bif x8.1 then ob (u___brepkernelmade_Dice__Next ((),(5:Int),x8.2.1,x8.2.2.1,())) fun x9=>some (.inl ((),(),(),s7.2.2.2.1,x9.1,x9.2.1,x9.2.2.1,s7.2.2.2.2.2.2.1,s7.2.2.2.2.2.2.2.1,s7.2.2.2.2.2.2.2.2.1,s7.2.2.2.2.2.2.2.2.2.1,())) else some (.inl ((),(),(),s7.2.2.2.1,wr .i64 (addI (lenL s7.2.2.2.2.2.2.2.2.2.1) (1:Int)),x8.2.1,x8.2.2.1,s7.2.2.2.2.2.2.1,s7.2.2.2.2.2.2.2.1,s7.2.2.2.2.2.2.2.2.1,s7.2.2.2.2.2.2.2.2.2.1,()))) fun q10=>bB q10 (fun t11=>ob (aV ((),t11.2.2.2.2.2.1,t11.2.2.2.2.2.2.1,())) fun x12=>ob (room t11.2.2.2.2.2.2.2.2.2.2.1 [T.agg [T.v (.int .i64 t11.2.2.2.2.1),T.v (.string x12.1),T.sl 7 x12.2.1]] 48) fun x13=>some (.inl ((),(),(),wr .i64 (subI t11.2.2.2.1 (1:Int)),x12.2.2.1,x12.2.2.2.1,t11.2.2.2.2.2.2.2.1,t11.2.2.2.2.2.2.2.2.1,t11.2.2.2.2.2.2.2.2.2.1,x13,()))) fun q14=>b0 q14 else some (.inr (.inl ((),(),s7.2.2.2.2.1,s7.2.2.2.2.2.1,s7.2.2.2.2.2.2.1,s7.2.2.2.2.2.2.2.1,s7.2.2.2.2.2.2.2.2.1,s7.2.2.2.2.2.2.2.2.2.1,())))
noncomputable def bV(t:Unit×Int×List T×Int×Unit):Option (List T×List T×List T×Int×Unit):=ob (u___brepkernelmade_Dice__Next ((),(3:Int),t.2.2.1,t.2.2.2.1,())) fun x0=>ob (aF b4 ((),t.2.1,(),(),x0.1,x0.2.1,x0.2.2.1,T.v (.slice none 0 0),T.v (.slice none 0 0),[],[],())) fun q4=>bB q4 (fun t5=>ob (u___brepkernelmade_Dice__Next ((),wr .i64 (addI t5.2.1 (1:Int)),t5.2.2.2.2.1,t5.2.2.2.2.2.1,())) fun x6=>ob (aF bI ((),(),(),x6.1,x6.2.1,x6.2.2.1,t5.2.2.2.2.2.2.1,t5.2.2.2.2.2.2.2.1,t5.2.2.2.2.2.2.2.2.1,t5.2.2.2.2.2.2.2.2.2.1,())) fun q15=>bB q15 (fun t16=>some (t16.2.2.2.2.2.2.1,t16.2.2.2.2.2.2.2.1,t16.2.2.1,t16.2.2.2.1,())) fun q17=>b0 q17) fun q18=>b0 q18
def jF:HT:=(.l (.l (.seq (.l (.one (.loop ⟨[.slot 0,.slot 1,.slot 4,.slot 5,.slot 6,.box 0 2,.box 5 2,.box 6 2],[.lit (.box 0 0),I6,.lit (.box 5 0),.lit (.box 6 0),I6,.sl 1,I6,.tree,.tree,.row 34 2 21,.row 67 3 46]⟩ [((.exit 0),⟨[.slot 0,.slot 1,.slot 4,.slot 5,.box 0 2,.box 5 2,.box 6 2],[.lit (.box 0 0),I6,.lit (.box 5 0),.lit (.box 6 0),.sl 1,I6,.tree,.tree,.row 34 2 21,.row 67 3 46]⟩)] .leaf))) (.seq (.l (.one (.loop ⟨[.slot 0,.slot 4,.slot 5,.slot 7,.box 0 2,.box 5 2,.box 6 2],[.lit (.box 0 0),.lit (.box 5 0),.lit (.box 6 0),I6,.sl 1,I6,.tree,.tree,.row 34 2 21,.row 67 3 46]⟩ [((.exit 2),⟨[.slot 4,.slot 5,.box 0 2,.box 5 2,.box 6 2],[.lit (.box 5 0),.lit (.box 6 0),.sl 1,I6,.tree,.tree,.row 34 2 21,.row 67 3 46]⟩)] (.l (.seq (.one (.l (.seq (.join [(.normal,⟨[.slot 0,.slot 4,.slot 5,.slot 7,.slot 8,.box 0 2,.box 5 2,.box 6 2],[.lit (.box 0 0),.lit (.box 5 0),.lit (.box 6 0),I6,I6,.sl 1,I6,.tree,.tree,.row 34 2 21,.row 67 3 46]⟩)] .leaf) .leaf))) .leaf))))) .leaf))))
theorem p5:TabOK Tryz.prog [9000000,4000015,4000030,4000031,20000005,20000032,80000035,80000036,28999999] jE:=(.cs Tryz.func15 bU (.cs Tryz.func30 pD (.cs Tryz.func31 jD (TabOK.flag (by kernel_rfl) (by kernel_rfl) (by kernel_rfl) (by kernel_rfl) (by kernel_rfl)))))
theorem rD:∀t,pH Tryz.prog jE [9000000,4000015,4000030,4000031,20000005,20000032,80000035,80000036,28999999] jF Tryz.f11 eR t=bV t:=fun _=>by kernel_rfl
theorem rE:(aA eR bV).OK Tryz.prog 11:=d4 mixed [9000000,4000015,4000030,4000031,20000005,20000032,80000035,80000036,28999999] jF p5 Tryz.func11 rD
def yU:Sig:=⟨1,0,⟨[.slot 0],[.str]⟩,1,[],0,⟨[.slot 0],[.sl 4]⟩,182⟩
noncomputable def A2:List (FuncId×Callee):=[(203,(aA uY cO)),(204,(aA uZ f7)),(205,(aA u0 lT)),(2000000,jU [3,4,5] [3,4,5,60000193,8999999]),(2000002,jU [] [500028,500031,500039,500048,500051,500059,500063,500066,500074,500082])]
noncomputable def u_entity_rules(t:ByteArray×Unit):Option (List T×Unit):=ob (α:=Unit×Unit×Unit×Unit×Unit×Unit×ByteArray×Bool×List T×Int×Int×T×List T×Int×Int×T×List T×Int×Int×T×Unit⊕Empty) (bif eqS t.1 (ByteArray.mk #[67,65,82,84,69,83,73,65,78,95,80,79,73,78,84]) then some (.inl ((),(),(),(),(),(),t.1,eqS t.1 (ByteArray.mk #[67,65,82,84,69,83,73,65,78,95,80,79,73,78,84]),[T.v (.int .i64 (3:Int))],(0:Int),(0:Int),T.v (.slice none 0 0),[T.v (.int .i64 (1:Int)),T.v (.int .i64 (2:Int))],(0:Int),(0:Int),T.v (.slice none 0 0),[T.v (.int .i64 (1:Int))],(0:Int),(0:Int),T.v (.slice none 0 0),())) else some (.inl ((),(),(),(),(),(),t.1,eqS t.1 (ByteArray.mk #[68,73,82,69,67,84,73,79,78]),[T.v (.int .i64 (3:Int))],(0:Int),(0:Int),T.v (.slice none 0 0),[T.v (.int .i64 (1:Int)),T.v (.int .i64 (2:Int))],(0:Int),(0:Int),T.v (.slice none 0 0),[T.v (.int .i64 (1:Int))],(0:Int),(0:Int),T.v (.slice none 0 0),()))) fun q0=>bB q0 (fun t1=>bif t1.2.2.2.2.2.2.2.1 then ob (T.sl? 1 t1.2.2.2.2.2.2.2.2.2.2.2.2.2.2.2.1) fun x2=>ob (f7 (t1.2.2.2.2.2.2.2.2.2.2.2.2.1,t1.2.2.2.2.2.2.2.2.2.2.2.2.2.1,t1.2.2.2.2.2.2.2.2.2.2.2.2.2.2.1,x2,(3:Int),(3:Int),())) fun x3=>ob (T.sl? 1 t1.2.2.2.2.2.2.2.2.2.2.2.1) fun x4=>some ([T.agg [T.sl 1 t1.2.2.2.2.2.2.2.2.1,T.v (.int .i64 t1.2.2.2.2.2.2.2.2.2.1),T.v (.int .i64 t1.2.2.2.2.2.2.2.2.2.2.1),T.sl 1 x4],T.agg [T.sl 1 x3.1,T.v (.int .i64 x3.2.1),T.v (.int .i64 x3.2.2.1),T.sl 1 x3.2.2.2.1]],()) else bif eqS t1.2.2.2.2.2.2.1 (ByteArray.mk #[80,76,65,78,69]) then ob (cO ([T.v (.string (ByteArray.mk #[67,65,82,84,69,83,73,65,78,95,80,79,73,78,84]))],())) fun x5=>ob (cO ([T.v (.string (ByteArray.mk #[68,73,82,69,67,84,73,79,78]))],())) fun x6=>ob (T.sl? 1 t1.2.2.2.2.2.2.2.2.2.2.2.1) fun x7=>some ([T.agg [T.sl 1 t1.2.2.2.2.2.2.2.2.1,T.v (.int .i64 t1.2.2.2.2.2.2.2.2.2.1),T.v (.int .i64 t1.2.2.2.2.2.2.2.2.2.2.1),T.sl 1 x7],T.agg [T.sl 1 x5.1,T.v (.int .i64 x5.2.1),T.v (.int .i64 x5.2.2.1),T.sl 1 x5.2.2.2.1],T.agg [T.sl 1 x6.1,T.v (.int .i64 x6.2.1),T.v (.int .i64 x6.2.2.1),T.sl 1 x6.2.2.2.1]],()) else bif eqS t1.2.2.2.2.2.2.1 (ByteArray.mk #[80,79,76,89,95,76,79,79,80]) then ob (cO ([T.v (.string (ByteArray.mk #[67,65,82,84,69,83,73,65,78,95,80,79,73,78,84]))],())) fun x8=>ob (f7 (x8.1,x8.2.1,x8.2.2.1,x8.2.2.2.1,(3:Int),(1073741824:Int),())) fun x9=>ob (T.sl? 1 t1.2.2.2.2.2.2.2.2.2.2.2.1) fun x10=>some ([T.agg [T.sl 1 t1.2.2.2.2.2.2.2.2.1,T.v (.int .i64 t1.2.2.2.2.2.2.2.2.2.1),T.v (.int .i64 t1.2.2.2.2.2.2.2.2.2.2.1),T.sl 1 x10],T.agg [T.sl 1 x9.1,T.v (.int .i64 x9.2.1),T.v (.int .i64 x9.2.2.1),T.sl 1 x9.2.2.2.1]],()) else ob (α:=Unit×Unit×Unit×Unit×Unit×Unit×ByteArray×Bool×List T×Int×Int×T×List T×Int×Int×T×List T×Int×Int×T×Unit⊕Empty) (bif eqS t1.2.2.2.2.2.2.1 (ByteArray.mk #[70,65,67,69,95,79,85,84,69,82,95,66,79,85,78,68]) then some (.inl ((),(),(),(),(),(),t1.2.2.2.2.2.2.1,eqS t1.2.2.2.2.2.2.1 (ByteArray.mk #[70,65,67,69,95,79,85,84,69,82,95,66,79,85,78,68]),t1.2.2.2.2.2.2.2.2.1,t1.2.2.2.2.2.2.2.2.2.1,t1.2.2.2.2.2.2.2.2.2.2.1,t1.2.2.2.2.2.2.2.2.2.2.2.1,t1.2.2.2.2.2.2.2.2.2.2.2.2.1,t1.2.2.2.2.2.2.2.2.2.2.2.2.2.1,t1.2.2.2.2.2.2.2.2.2.2.2.2.2.2.1,t1.2.2.2.2.2.2.2.2.2.2.2.2.2.2.2.1,t1.2.2.2.2.2.2.2.2.2.2.2.2.2.2.2.2.1,t1.2.2.2.2.2.2.2.2.2.2.2.2.2.2.2.2.2.1,t1.2.2.2.2.2.2.2.2.2.2.2.2.2.2.2.2.2.2.1,t1.2.2.2.2.2.2.2.2.2.2.2.2.2.2.2.2.2.2.2.1,())) else some (.inl ((),(),(),(),(),(),t1.2.2.2.2.2.2.1,eqS t1.2.2.2.2.2.2.1 (ByteArray.mk #[70,65,67,69,95,66,79,85,78,68]),t1.2.2.2.2.2.2.2.2.1,t1.2.2.2.2.2.2.2.2.2.1,t1.2.2.2.2.2.2.2.2.2.2.1,t1.2.2.2.2.2.2.2.2.2.2.2.1,t1.2.2.2.2.2.2.2.2.2.2.2.2.1,t1.2.2.2.2.2.2.2.2.2.2.2.2.2.1,t1.2.2.2.2.2.2.2.2.2.2.2.2.2.2.1,t1.2.2.2.2.2.2.2.2.2.2.2.2.2.2.2.1,t1.2.2.2.2.2.2.2.2.2.2.2.2.2.2.2.2.1,t1.2.2.2.2.2.2.2.2.2.2.2.2.2.2.2.2.2.1,t1.2.2.2.2.2.2.2.2.2.2.2.2.2.2.2.2.2.2.1,t1.2.2.2.2.2.2.2.2.2.2.2.2.2.2.2.2.2.2.2.1,()))) fun q11=>bB q11 (fun t12=>bif t12.2.2.2.2.2.2.2.1 then ob (cO ([T.v (.string (ByteArray.mk #[80,79,76,89,95,76,79,79,80]))],())) fun x13=>ob (lT ([T.v (.string (ByteArray.mk #[84])),T.v (.string (ByteArray.mk #[70]))],())) fun x14=>ob (T.sl? 1 t12.2.2.2.2.2.2.2.2.2.2.2.1) fun x15=>some ([T.agg [T.sl 1 t12.2.2.2.2.2.2.2.2.1,T.v (.int .i64 t12.2.2.2.2.2.2.2.2.2.1),T.v (.int .i64 t12.2.2.2.2.2.2.2.2.2.2.1),T.sl 1 x15],T.agg [T.sl 1 x13.1,T.v (.int .i64 x13.2.1),T.v (.int .i64 x13.2.2.1),T.sl 1 x13.2.2.2.1],T.agg [T.sl 1 x14.1,T.v (.int .i64 x14.2.1),T.v (.int .i64 x14.2.2.1),T.sl 1 x14.2.2.2.1]],()) else bif eqS t12.2.2.2.2.2.2.1 (ByteArray.mk #[70,65,67,69,95,83,85,82,70,65,67,69]) then ob (cO ([T.v (.string (ByteArray.mk #[70,65,67,69,95,79,85,84,69,82,95,66,79,85,78,68])),T.v (.string (ByteArray.mk #[70,65,67,69,95,66,79,85,78,68]))],())) fun x16=>ob (f7 (x16.1,x16.2.1,x16.2.2.1,x16.2.2.2.1,(1:Int),(1073741824:Int),())) fun x17=>ob (cO ([T.v (.string (ByteArray.mk #[80,76,65,78,69]))],())) fun x18=>ob (lT ([T.v (.string (ByteArray.mk #[84]))],())) fun x19=>ob (T.sl? 1 t12.2.2.2.2.2.2.2.2.2.2.2.1) fun x20=>some ([T.agg [T.sl 1 t12.2.2.2.2.2.2.2.2.1,T.v (.int .i64 t12.2.2.2.2.2.2.2.2.2.1),T.v (.int .i64 t12.2.2.2.2.2.2.2.2.2.2.1),T.sl 1 x20],T.agg [T.sl 1 x17.1,T.v (.int .i64 x17.2.1),T.v (.int .i64 x17.2.2.1),T.sl 1 x17.2.2.2.1],T.agg [T.sl 1 x18.1,T.v (.int .i64 x18.2.1),T.v (.int .i64 x18.2.2.1),T.sl 1 x18.2.2.2.1],T.agg [T.sl 1 x19.1,T.v (.int .i64 x19.2.1),T.v (.int .i64 x19.2.2.1),T.sl 1 x19.2.2.2.1]],()) else bif eqS t12.2.2.2.2.2.2.1 (ByteArray.mk #[67,76,79,83,69,68,95,83,72,69,76,76]) then ob (cO ([T.v (.string (ByteArray.mk #[70,65,67,69,95,83,85,82,70,65,67,69]))],())) fun x21=>ob (f7 (x21.1,x21.2.1,x21.2.2.1,x21.2.2.2.1,(0:Int),(1073741824:Int),())) fun x22=>ob (T.sl? 1 t12.2.2.2.2.2.2.2.2.2.2.2.1) fun x23=>some ([T.agg [T.sl 1 t12.2.2.2.2.2.2.2.2.1,T.v (.int .i64 t12.2.2.2.2.2.2.2.2.2.1),T.v (.int .i64 t12.2.2.2.2.2.2.2.2.2.2.1),T.sl 1 x23],T.agg [T.sl 1 x22.1,T.v (.int .i64 x22.2.1),T.v (.int .i64 x22.2.2.1),T.sl 1 x22.2.2.2.1]],()) else bif eqS t12.2.2.2.2.2.2.1 (ByteArray.mk #[70,65,67,69,84,69,68,95,66,82,69,80]) then ob (cO ([T.v (.string (ByteArray.mk #[67,76,79,83,69,68,95,83,72,69,76,76]))],())) fun x24=>ob (T.sl? 1 t12.2.2.2.2.2.2.2.2.2.2.2.1) fun x25=>some ([T.agg [T.sl 1 t12.2.2.2.2.2.2.2.2.1,T.v (.int .i64 t12.2.2.2.2.2.2.2.2.2.1),T.v (.int .i64 t12.2.2.2.2.2.2.2.2.2.2.1),T.sl 1 x25],T.agg [T.sl 1 x24.1,T.v (.int .i64 x24.2.1),T.v (.int .i64 x24.2.2.1),T.sl 1 x24.2.2.2.1]],()) else bif eqS t12.2.2.2.2.2.2.1 (ByteArray.mk #[84,79,76,69,82,65,78,67,69]) then ob (T.sl? 1 t12.2.2.2.2.2.2.2.2.2.2.2.2.2.2.2.2.2.2.2.1) fun x26=>ob (T.sl? 1 t12.2.2.2.2.2.2.2.2.2.2.2.2.2.2.2.2.2.2.2.1) fun x27=>ob (T.sl? 1 t12.2.2.2.2.2.2.2.2.2.2.2.2.2.2.2.1) fun x28=>some ([T.agg [T.sl 1 t12.2.2.2.2.2.2.2.2.2.2.2.2.2.2.2.2.1,T.v (.int .i64 t12.2.2.2.2.2.2.2.2.2.2.2.2.2.2.2.2.2.1),T.v (.int .i64 t12.2.2.2.2.2.2.2.2.2.2.2.2.2.2.2.2.2.2.1),T.sl 1 x26],T.agg [T.sl 1 t12.2.2.2.2.2.2.2.2.2.2.2.2.2.2.2.2.1,T.v (.int .i64 t12.2.2.2.2.2.2.2.2.2.2.2.2.2.2.2.2.2.1),T.v (.int .i64 t12.2.2.2.2.2.2.2.2.2.2.2.2.2.2.2.2.2.2.1),T.sl 1 x27],T.agg [T.sl 1 t12.2.2.2.2.2.2.2.2.2.2.2.2.1,T.v (.int .i64 t12.2.2.2.2.2.2.2.2.2.2.2.2.2.1),T.v (.int .i64 t12.2.2.2.2.2.2.2.2.2.2.2.2.2.2.1),T.sl 1 x28]],()) else some ([],())) fun q29=>b0 q29) fun q30=>b0 q30
def A3:HT:=(.l (.l (.l (.l (.l (.l (.l (.seq (.l (.one (.seq (.join [(.normal,⟨[.slot 3,.slot 4,.slot 5,.slot 6,.slot 7,.slot 8,.slot 15,.slot 16,.box 3 4,.box 4 4,.box 5 4],[.lit (.box 3 0),.lit (.box 4 0),.lit (.box 5 0),.lit (C.t (T.v (Go.Value.func (Go.Fn.func 203) #[] #[]))),.lit (C.t (T.v (Go.Value.func (Go.Fn.func 204) #[] #[]))),.lit (C.t (T.v (Go.Value.func (Go.Fn.func 205) #[] #[]))),.str,.bool,.row 3 1 9,I6,I6,.tree,.row 3 1 11,I6,I6,.tree,.row 3 1 13,I6,I6,.tree]⟩)] .leaf) (.cond .leaf (.l (.cond .leaf (.l (.cond .leaf (.seq (.join [(.normal,⟨[.slot 3,.slot 4,.slot 5,.slot 6,.slot 7,.slot 8,.slot 15,.slot 43,.box 3 4,.box 4 4,.box 5 4],[.lit (.box 3 0),.lit (.box 4 0),.lit (.box 5 0),.lit (C.t (T.v (Go.Value.func (Go.Fn.func 203) #[] #[]))),.lit (C.t (T.v (Go.Value.func (Go.Fn.func 204) #[] #[]))),.lit (C.t (T.v (Go.Value.func (Go.Fn.func 205) #[] #[]))),.str,.bool,.row 3 1 9,I6,I6,.tree,.row 3 1 11,I6,I6,.tree,.row 3 1 13,I6,I6,.tree]⟩)] .leaf) .leaf))))))))) .leaf))))))))
theorem JH:TabOK Tryz.prog [9000000,4000203,4000204,4000205,20000003,20000004,20000005,80000193,28999999,9000002,90500028,90500031,90500039,90500048,90500051,90500059,90500063,90500066,90500074,90500082] A2:=(.cs Tryz.func203 HM (.cs Tryz.func204 HN (.cs Tryz.func205 HO (TabOK.flagG (by kernel_rfl) (by kernel_rfl) (by kernel_rfl) (by kernel_rfl)))))
theorem MM:∀t,pH Tryz.prog A2 [9000000,4000203,4000204,4000205,20000003,20000004,20000005,80000193,28999999,9000002,90500028,90500031,90500039,90500048,90500051,90500059,90500063,90500066,90500074,90500082] A3 Tryz.f149 yU t=u_entity_rules t:=fun _=>by kernel_rfl
theorem MN:(aA yU u_entity_rules).OK Tryz.prog 149:=d4 mixed [9000000,4000203,4000204,4000205,20000003,20000004,20000005,80000193,28999999,9000002,90500028,90500031,90500039,90500048,90500051,90500059,90500063,90500066,90500074,90500082] A3 JH Tryz.func149 MM
def oH:Sig:=⟨2,0,⟨[.slot 0,.slot 1],[.sl 1,.str]⟩,1,[],0,⟨[.slot 0],[I6]⟩,38⟩
noncomputable def gH(s0:List T×ByteArray×Int×Int×Unit):Option (List T×ByteArray×Int×Int×Unit⊕Int×Unit⊕Unit⊕Empty):=bif ltI s0.2.2.2.1 s0.2.2.1 then ob (idxL s0.1 s0.2.2.2.1) fun x1=>ob (T.str? (T.cell x1 0)) fun x2=>bif eqS s0.2.1 x2 then some (.inr (.inl (s0.2.2.2.1,()))) else some (.inl (s0.1,s0.2.1,s0.2.2.1,wr .i64 (addI s0.2.2.2.1 (1:Int)),())) else some (.inr (.inr (.inl ())))
noncomputable def cW(t:List T×ByteArray×Unit):Option (Int×Unit):=ob (aF gH (t.1,t.2.1,lenL t.1,(0:Int),())) fun q3=>bB q3 (fun t4=>some (t4.1,())) fun q5=>bB q5 (fun t6=>some ((-1:Int),())) fun q7=>b0 q7
theorem pE:(aA oH cW).OK Tryz.prog 208:=d4 mixed [] (.l (.seq (.l (.one (.loop ⟨[.slot 0,.slot 1,.slot 7,.slot 8],[.sl 1,.str,I6,I6]⟩ [(.ret,⟨[.slot 4],[I6]⟩),((.exit 0),⟨[],[]⟩)] .leaf))) .leaf)) .nil Tryz.func208 fun _=>by kernel_rfl
def mI:Sig:=⟨2,0,⟨[.slot 0,.slot 1],[.sl 1,.str]⟩,1,[],0,⟨[.slot 0],[.bool]⟩,18⟩
noncomputable def bR(t:List T×ByteArray×Unit):Option (Bool×Unit):=ob (cW (t.1,t.2.1,())) fun x0=>some (leI (0:Int) x0.1,())
theorem gI:(aA mI bR).OK Tryz.prog 154:=d4 mixed [208] .leaf (.cs Tryz.func208 pE <| .nil) Tryz.func154 fun _=>by kernel_rfl
def tL:Sig:=⟨2,0,⟨[.slot 0,.slot 1],[.sl 1,I6]⟩,1,[],0,⟨[.slot 0],[I6]⟩,38⟩
noncomputable def jY(s0:List T×Int×Int×Int×Unit):Option (List T×Int×Int×Int×Unit⊕Int×Unit⊕Unit⊕Empty):=bif ltI s0.2.2.2.1 s0.2.2.1 then ob (idxL s0.1 s0.2.2.2.1) fun x1=>ob (T.int? .i64 (T.cell x1 0)) fun x2=>bif eqI s0.2.1 x2 then some (.inr (.inl (s0.2.2.2.1,()))) else some (.inl (s0.1,s0.2.1,s0.2.2.1,wr .i64 (addI s0.2.2.2.1 (1:Int)),())) else some (.inr (.inr (.inl ())))
noncomputable def eL(t:List T×Int×Unit):Option (Int×Unit):=ob (aF jY (t.1,t.2.1,lenL t.1,(0:Int),())) fun q3=>bB q3 (fun t4=>some (t4.1,())) fun q5=>bB q5 (fun t6=>some ((-1:Int),())) fun q7=>b0 q7
theorem uE:(aA tL eL).OK Tryz.prog 235:=d4 mixed [] (.l (.seq (.l (.one (.loop ⟨[.slot 0,.slot 1,.slot 7,.slot 8],[.sl 1,I6,I6,I6]⟩ [(.ret,⟨[.slot 4],[I6]⟩),((.exit 0),⟨[],[]⟩)] .leaf))) .leaf)) .nil Tryz.func235 fun _=>by kernel_rfl
def rF:Sig:=⟨2,0,⟨[.slot 0,.slot 1],[.sl 1,I6]⟩,1,[],0,⟨[.slot 0],[.bool]⟩,18⟩
noncomputable def dM(t:List T×Int×Unit):Option (Bool×Unit):=ob (eL (t.1,t.2.1,())) fun x0=>some (leI (0:Int) x0.1,())
theorem rS:(aA rF dM).OK Tryz.prog 207:=d4 mixed [235] .leaf (.cs Tryz.func235 uE <| .nil) Tryz.func207 fun _=>by kernel_rfl
def zF:Sig:=⟨2,0,⟨[.aggs 0 4,.aggs 1 7],[.sl 1,I6,I6,.sl 1,I6,.bool,.sl 1,.sl 1,.str,I6,.sl 7]⟩,1,[],0,⟨[.slot 0],[.bool]⟩,44⟩
noncomputable def iD(t:List T×Int×Int×List T×Int×Bool×List T×List T×ByteArray×Int×List T×Unit):Option (Bool×Unit):=ob (dM (t.1,t.2.2.2.2.1,())) fun x0=>bif x0.1 then bif Bool.not (eqI t.2.2.2.2.1 (4:Int)) then some (true,()) else ob (bR (t.2.2.2.1,t.2.2.2.2.2.2.2.2.1,())) fun x1=>some (x1.1,()) else some (false,())
theorem A4:(aA zF iD).OK Tryz.prog 153:=d4 mixed [207,154] .leaf (.cs Tryz.func207 rS <| .cs Tryz.func154 gI <| .nil) Tryz.func153 fun _=>by kernel_rfl
def uF:Sig:=⟨2,0,⟨[.aggs 0 4,.aggs 1 7],[.sl 1,I6,I6,.sl 1,I6,.bool,.sl 1,.sl 1,.str,I6,.sl 7]⟩,2,[],0,⟨[.slot 0,.slot 1],[.sl 7,.bool]⟩,64⟩
noncomputable def u__entity_rule__elements(t:List T×Int×Int×List T×Int×Bool×List T×List T×ByteArray×Int×List T×Unit):Option (List T×Bool×Unit):=bif eqI t.2.2.1 (0:Int) then some ([T.agg [T.v (.int .i64 t.2.2.2.2.1),T.v (.bool t.2.2.2.2.2.1),T.sl 1 t.2.2.2.2.2.2.1,T.sl 1 t.2.2.2.2.2.2.2.1,T.v (.string t.2.2.2.2.2.2.2.2.1),T.v (.int .i64 t.2.2.2.2.2.2.2.2.2.1),T.sl 7 t.2.2.2.2.2.2.2.2.2.2.1]],true,()) else bif eqI t.2.2.2.2.1 (6:Int) then bif leI t.2.1 (lenL t.2.2.2.2.2.2.2.2.2.2.1) then some (t.2.2.2.2.2.2.2.2.2.2.1,leI (lenL t.2.2.2.2.2.2.2.2.2.2.1) t.2.2.1,()) else some (t.2.2.2.2.2.2.2.2.2.2.1,false,()) else some (t.2.2.2.2.2.2.2.2.2.2.1,false,())
theorem vM:(aA uF u__entity_rule__elements).OK Tryz.prog 150:=d4 mixed [] .leaf .nil Tryz.func150 fun _=>by kernel_rfl
def F2:Sig:=⟨2,1,⟨[.aggs 0 7,.slot 1,.box 0 4],[I6,.bool,.sl 1,.sl 1,.str,I6,.sl 7,.lit (.box 0 0),.sl 1,I6,I6,.sl 1]⟩,1,[],0,⟨[.slot 0,.box 0 4],[.bool,.sl 1,I6,I6,.sl 1]⟩,16⟩
noncomputable def lU(t:Int×Bool×List T×List T×ByteArray×Int×List T×Unit×List T×Int×Int×List T×Unit):Option (Bool×List T×Int×Int×List T×Unit):=ob (iD (t.2.2.2.2.2.2.2.2.1,t.2.2.2.2.2.2.2.2.2.1,t.2.2.2.2.2.2.2.2.2.2.1,t.2.2.2.2.2.2.2.2.2.2.2.1,t.1,t.2.1,t.2.2.1,t.2.2.2.1,t.2.2.2.2.1,t.2.2.2.2.2.1,t.2.2.2.2.2.2.1,())) fun x0=>some (Bool.not x0.1,t.2.2.2.2.2.2.2.2.1,t.2.2.2.2.2.2.2.2.2.1,t.2.2.2.2.2.2.2.2.2.2.1,t.2.2.2.2.2.2.2.2.2.2.2.1,())
theorem p6:(aA F2 lU).OK Tryz.prog 152:=d4 mixed [153] .leaf (.cs Tryz.func153 A4 <| .nil) Tryz.func152 fun _=>by kernel_rfl
def lE:Sig:=⟨2,1,⟨[.slot 0,.slot 1,.box 0 4],[.sl 7,.lit (.fn 152 [(0,0)]),.sl 1,I6,I6,.sl 1]⟩,1,[],0,⟨[.slot 0,.box 0 4],[I6,.sl 1,I6,I6,.sl 1]⟩,38⟩
noncomputable def cQ(s0:List T×Unit×Int×Int×List T×Int×Int×List T×Unit):Option (List T×Unit×Int×Int×List T×Int×Int×List T×Unit⊕Int×List T×Int×Int×List T×Unit⊕List T×Int×Int×List T×Unit⊕Empty):=bif ltI s0.2.2.2.1 s0.2.2.1 then ob (idxL s0.1 s0.2.2.2.1) fun x1=>ob (T.int? .i64 (T.cell x1 0)) fun x2=>ob (T.bool? (T.cell x1 1)) fun x3=>ob (T.sl? 1 (T.cell x1 2)) fun x4=>ob (T.sl? 1 (T.cell x1 3)) fun x5=>ob (T.str? (T.cell x1 4)) fun x6=>ob (T.int? .i64 (T.cell x1 5)) fun x7=>ob (T.sl? 7 (T.cell x1 6)) fun x8=>ob (lU (x2,x3,x4,x5,x6,x7,x8,(),s0.2.2.2.2.1,s0.2.2.2.2.2.1,s0.2.2.2.2.2.2.1,s0.2.2.2.2.2.2.2.1,())) fun x9=>bif x9.1 then some (.inr (.inl (s0.2.2.2.1,x9.2.1,x9.2.2.1,x9.2.2.2.1,x9.2.2.2.2.1,()))) else some (.inl (s0.1,(),s0.2.2.1,wr .i64 (addI s0.2.2.2.1 (1:Int)),x9.2.1,x9.2.2.1,x9.2.2.2.1,x9.2.2.2.2.1,())) else some (.inr (.inr (.inl (s0.2.2.2.2.1,s0.2.2.2.2.2.1,s0.2.2.2.2.2.2.1,s0.2.2.2.2.2.2.2.1,()))))
noncomputable def cA(t:List T×Unit×List T×Int×Int×List T×Unit):Option (Int×List T×Int×Int×List T×Unit):=ob (aF cQ (t.1,(),lenL t.1,(0:Int),t.2.2.1,t.2.2.2.1,t.2.2.2.2.1,t.2.2.2.2.2.1,())) fun q10=>bB q10 (fun t11=>some (t11.1,t11.2.1,t11.2.2.1,t11.2.2.2.1,t11.2.2.2.2.1,())) fun q12=>bB q12 (fun t13=>some ((-1:Int),t13.1,t13.2.1,t13.2.2.1,t13.2.2.2.1,())) fun q14=>b0 q14
theorem lV:(aA lE cA).OK Tryz.prog 206:=d4 mixed [] (.l (.seq (.l (.one (.loop ⟨[.slot 0,.slot 1,.slot 7,.slot 8,.box 0 4],[.sl 7,.lit (.fn 152 [(0,0)]),I6,I6,.sl 1,I6,I6,.sl 1]⟩ [(.ret,⟨[.slot 4,.box 0 4],[I6,.sl 1,I6,I6,.sl 1]⟩),((.exit 0),⟨[.box 0 4],[.sl 1,I6,I6,.sl 1]⟩)] .leaf))) .leaf)) (.cs Tryz.func152 p6 <| .nil) Tryz.func206 fun _=>by kernel_rfl
def jZ:Sig:=⟨2,1,⟨[.slot 0,.slot 1,.box 0 4],[.sl 7,.lit (.fn 152 [(0,0)]),.sl 1,I6,I6,.sl 1]⟩,1,[],0,⟨[.slot 0,.box 0 4],[.bool,.sl 1,I6,I6,.sl 1]⟩,18⟩
noncomputable def bT(t:List T×Unit×List T×Int×Int×List T×Unit):Option (Bool×List T×Int×Int×List T×Unit):=ob (cA (t.1,(),t.2.2.1,t.2.2.2.1,t.2.2.2.2.1,t.2.2.2.2.2.1,())) fun x0=>some (leI (0:Int) x0.1,x0.2.1,x0.2.2.1,x0.2.2.2.1,x0.2.2.2.2.1,())
theorem kF:(aA jZ bT).OK Tryz.prog 151:=d4 mixed [] .leaf (.cs Tryz.func152 p6 <| .cs Tryz.func206 lV <| .nil) Tryz.func151 fun _=>by kernel_rfl
def yV:Sig:=⟨2,0,⟨[.slot 0,.aggs 1 2],[.sl 1000000000,.str,.sl 7]⟩,1,[],0,⟨[.slot 0],[I6]⟩,200⟩
noncomputable def kK(s1:List T×Unit×List T×List T×Int×Int×ByteArray×List T×Unit):Option (List T×Unit×List T×List T×Int×Int×ByteArray×List T×Unit⊕Int×Unit⊕List T×Unit×List T×ByteArray×List T×Unit⊕Empty):=bif ltI s1.2.2.2.2.2.1 s1.2.2.2.2.1 then ob (idxL s1.2.2.2.1 s1.2.2.2.2.2.1) fun x2=>ob (idxL s1.2.2.2.2.2.2.2.1 s1.2.2.2.2.2.1) fun x3=>ob (T.sl? 1 (T.cell x2 0)) fun x4=>ob (T.int? .i64 (T.cell x2 1)) fun x5=>ob (T.int? .i64 (T.cell x2 2)) fun x6=>ob (T.sl? 1 (T.cell x2 3)) fun x7=>ob (T.int? .i64 (T.cell x3 0)) fun x8=>ob (T.bool? (T.cell x3 1)) fun x9=>ob (T.sl? 1 (T.cell x3 2)) fun x10=>ob (T.sl? 1 (T.cell x3 3)) fun x11=>ob (T.str? (T.cell x3 4)) fun x12=>ob (T.int? .i64 (T.cell x3 5)) fun x13=>ob (T.sl? 7 (T.cell x3 6)) fun x14=>ob (u__entity_rule__elements (x4,x5,x6,x7,x8,x9,x10,x11,x12,x13,x14,())) fun x15=>bif Bool.not x15.2.1 then some (.inr (.inl ((36:Int),()))) else ob (T.sl? 1 (T.cell x2 0)) fun x16=>ob (T.int? .i64 (T.cell x2 1)) fun x17=>ob (T.int? .i64 (T.cell x2 2)) fun x18=>ob (T.sl? 1 (T.cell x2 3)) fun x19=>ob (bT (x15.1,(),x16,x17,x18,x19,())) fun x20=>bif x20.1 then some (.inr (.inl ((36:Int),()))) else some (.inl (s1.1,(),s1.2.2.1,s1.2.2.2.1,s1.2.2.2.2.1,wr .i64 (addI s1.2.2.2.2.2.1 (1:Int)),s1.2.2.2.2.2.2.1,s1.2.2.2.2.2.2.2.1,())) else some (.inr (.inr (.inl (s1.1,(),s1.2.2.1,s1.2.2.2.2.2.2.1,s1.2.2.2.2.2.2.2.1,()))))
noncomputable def oI(s40:List T×Unit×Unit×List T×Int×Int×List T×Int×Int×ByteArray×List T×T×T×T×T×Unit):Option (List T×Unit×Unit×List T×Int×Int×List T×Int×Int×ByteArray×List T×T×T×T×T×Unit⊕Int×Unit⊕List T×Unit×List T×Int×Int×ByteArray×List T×Unit⊕Empty):=bif ltI s40.2.2.2.2.2.2.2.2.1 s40.2.2.2.2.2.2.2.1 then ob (idxL s40.2.2.2.2.2.2.1 s40.2.2.2.2.2.2.2.2.1) fun x41=>ob (T.int? .i64 (T.cell x41 5)) fun x42=>ob (T.one? (mapGetD (T.v (.int .i64 x42)) s40.1 (T.v (.string (ByteArray.mk #[]))))) fun x43=>ob (T.int? .i64 (T.cell x41 0)) fun x44=>bif eqI x44 (5:Int) then bif Bool.not (mapHas (T.v (.int .i64 x42)) s40.1) then some (.inr (.inl ((35:Int),()))) else ob (T.sl? 1 s40.2.2.2.2.2.2.2.2.2.2.2.2.2.2.1) fun x45=>ob (T.str? x43) fun x46=>ob (bR (x45,x46,())) fun x47=>bif Bool.not x47.1 then some (.inr (.inl ((35:Int),()))) else some (.inl (s40.1,(),(),s40.2.2.2.1,s40.2.2.2.2.1,s40.2.2.2.2.2.1,s40.2.2.2.2.2.2.1,s40.2.2.2.2.2.2.2.1,wr .i64 (addI s40.2.2.2.2.2.2.2.2.1 (1:Int)),s40.2.2.2.2.2.2.2.2.2.1,s40.2.2.2.2.2.2.2.2.2.2.1,s40.2.2.2.2.2.2.2.2.2.2.2.1,s40.2.2.2.2.2.2.2.2.2.2.2.2.1,s40.2.2.2.2.2.2.2.2.2.2.2.2.2.1,s40.2.2.2.2.2.2.2.2.2.2.2.2.2.2.1,())) else some (.inl (s40.1,(),(),s40.2.2.2.1,s40.2.2.2.2.1,s40.2.2.2.2.2.1,s40.2.2.2.2.2.2.1,s40.2.2.2.2.2.2.2.1,wr .i64 (addI s40.2.2.2.2.2.2.2.2.1 (1:Int)),s40.2.2.2.2.2.2.2.2.2.1,s40.2.2.2.2.2.2.2.2.2.2.1,s40.2.2.2.2.2.2.2.2.2.2.2.1,s40.2.2.2.2.2.2.2.2.2.2.2.2.1,s40.2.2.2.2.2.2.2.2.2.2.2.2.2.1,s40.2.2.2.2.2.2.2.2.2.2.2.2.2.2.1,())) else some (.inr (.inr (.inl (s40.1,(),s40.2.2.2.1,s40.2.2.2.2.1,s40.2.2.2.2.2.1,s40.2.2.2.2.2.2.2.2.2.1,s40.2.2.2.2.2.2.2.2.2.2.1,()))))
noncomputable def kL(s25:List T×Unit×List T×Int×Int×ByteArray×List T×Unit):Option (List T×Unit×List T×Int×Int×ByteArray×List T×Unit⊕Int×Unit⊕Unit⊕Empty):=bif ltI s25.2.2.2.2.1 s25.2.2.2.1 then ob (idxL s25.2.2.1 s25.2.2.2.2.1) fun x26=>ob (idxL s25.2.2.2.2.2.2.1 s25.2.2.2.2.1) fun x27=>ob (T.sl? 1 (T.cell x26 0)) fun x28=>ob (T.int? .i64 (T.cell x26 1)) fun x29=>ob (T.int? .i64 (T.cell x26 2)) fun x30=>ob (T.sl? 1 (T.cell x26 3)) fun x31=>ob (T.int? .i64 (T.cell x27 0)) fun x32=>ob (T.bool? (T.cell x27 1)) fun x33=>ob (T.sl? 1 (T.cell x27 2)) fun x34=>ob (T.sl? 1 (T.cell x27 3)) fun x35=>ob (T.str? (T.cell x27 4)) fun x36=>ob (T.int? .i64 (T.cell x27 5)) fun x37=>ob (T.sl? 7 (T.cell x27 6)) fun x38=>ob (u__entity_rule__elements (x28,x29,x30,x31,x32,x33,x34,x35,x36,x37,x38,())) fun x39=>ob (aF oI (s25.1,(),(),s25.2.2.1,s25.2.2.2.1,s25.2.2.2.2.1,x39.1,lenL x39.1,(0:Int),s25.2.2.2.2.2.1,s25.2.2.2.2.2.2.1,T.cell x26 0,T.cell x26 1,T.cell x26 2,T.cell x26 3,())) fun q48=>bB q48 (fun t49=>some (.inr (.inl (t49.1,())))) fun q50=>bB q50 (fun t51=>some (.inl (t51.1,(),t51.2.2.1,t51.2.2.2.1,wr .i64 (addI t51.2.2.2.2.1 (1:Int)),t51.2.2.2.2.2.1,t51.2.2.2.2.2.2.1,()))) fun q52=>b0 q52 else some (.inr (.inr (.inl ())))
noncomputable def iX(t:List T×ByteArray×List T×Unit):Option (Int×Unit):=ob (u_entity_rules (t.2.1,())) fun x0=>bif nilL x0.1 then CS (some ((38:Int),())) (bif Bool.not (eqI (lenL t.2.2.1) (lenL x0.1)) then some ((36:Int),()) else ob (aF kK (t.1,(),x0.1,x0.1,lenL x0.1,(0:Int),t.2.1,t.2.2.1,())) fun q21=>bB q21 (fun t22=>some (t22.1,())) fun q23=>bB q23 (fun t24=>ob (aF kL (t24.1,(),t24.2.2.1,lenL t24.2.2.1,(0:Int),t24.2.2.2.1,t24.2.2.2.2.1,())) fun q53=>bB q53 (fun t54=>some (t54.1,())) fun q55=>bB q55 (fun t56=>some ((0:Int),())) fun q57=>b0 q57) fun q58=>b0 q58) else bif Bool.not (eqI (lenL t.2.2.1) (lenL x0.1)) then some ((36:Int),()) else ob (aF kK (t.1,(),x0.1,x0.1,lenL x0.1,(0:Int),t.2.1,t.2.2.1,())) fun q79=>bB q79 (fun t80=>some (t80.1,())) fun q81=>bB q81 (fun t82=>ob (aF kL (t82.1,(),t82.2.2.1,lenL t82.2.2.1,(0:Int),t82.2.2.2.1,t82.2.2.2.2.1,())) fun q111=>bB q111 (fun t112=>some (t112.1,())) fun q113=>bB q113 (fun t114=>some ((0:Int),())) fun q115=>b0 q115) fun q116=>b0 q116
theorem MO:(aA yV iX).OK Tryz.prog 88:=d4 mixed [154] (.l (.l (.l (.l (.seq (.l (.one (.loop ⟨[.slot 0,.slot 3,.slot 5,.slot 29,.slot 30,.slot 31,.box 3 2],[.sl 1000000000,.lit (.box 3 0),.sl 4,.sl 4,I6,I6,.str,.sl 7]⟩ [(.ret,⟨[.slot 4],[I6]⟩),((.exit 0),⟨[.slot 0,.slot 3,.slot 5,.box 3 2],[.sl 1000000000,.lit (.box 3 0),.sl 4,.str,.sl 7]⟩)] .leaf))) (.seq (.l (.one (.loop ⟨[.slot 0,.slot 3,.slot 54,.slot 55,.slot 56,.box 3 2],[.sl 1000000000,.lit (.box 3 0),.sl 4,I6,I6,.str,.sl 7]⟩ [(.ret,⟨[.slot 4],[I6]⟩),((.exit 2),⟨[],[]⟩)] (.l (.l (.seq (.one (.l (.l (.l (.one (.loop ⟨[.slot 0,.slot 3,.slot 11,.slot 54,.slot 55,.slot 56,.slot 71,.slot 72,.slot 73,.box 3 2,.box 11 4],[.sl 1000000000,.lit (.box 3 0),.lit (.box 11 0),.sl 4,I6,I6,.sl 7,I6,I6,.str,.sl 7,.tree,.tree,.tree,.tree]⟩ [(.ret,⟨[.slot 4],[I6]⟩),((.exit 4),⟨[.slot 0,.slot 3,.slot 54,.slot 55,.slot 56,.box 3 2],[.sl 1000000000,.lit (.box 3 0),.sl 4,I6,I6,.str,.sl 7]⟩)] .leaf)))))) .leaf)))))) .leaf)))))) (.cs Tryz.func149 MN <| .cs Tryz.func150 vM <| .cs Tryz.func151 kF <| .cs Tryz.func152 p6 <| .cs Tryz.func154 gI <| .nil) Tryz.func88 fun _=>by kernel_rfl
def gP:Sig:=⟨1,0,⟨[.slot 0],[I6]⟩,1,[],0,⟨[.aggs 0 7],[I6,.bool,.sl 1,.sl 1,.str,I6,.sl 7]⟩,10⟩
noncomputable def aE(t:Int×Unit):Option (Int×Bool×List T×List T×ByteArray×Int×List T×Unit):=some ((5:Int),false,[],[],ByteArray.mk #[],t.1,[],())
theorem oJ:(aA gP aE).OK Tryz.prog 32:=d4 mixed [] .leaf .nil Tryz.func32 fun _=>by kernel_rfl
def eK:Sig:=⟨1,1,⟨[.slot 0,.box 0 2],[.lit (.box 0 0),.sl 1,I6]⟩,1,[],0,⟨[.aggs 0 2,.box 0 2],[.sl 2,.sl 3,.sl 1,I6]⟩,244⟩
noncomputable def iY:List (FuncId×Callee):=[(32,(aA gP aE)),(19,(aA sH u_ref02_Int)),(31,(aA eQ aR)),(15,(aA cD u___brepkernelmade_Dice__Next)),(33,(aA bG bK)),(2000000,jU [4,6,8,10] [3,5,7,9,79,85,86,98,102,107,60000032,60000034,60000030,60000036,60000009,8999999]),(2000002,jU [] [500015,500019,500023,500030,500039,500041,500047,500052,500057,500062,500064,500069,500074,500076])]
noncomputable def aD(s11:Unit×Unit×List T×Unit×Int×List T×Int×T×T×T×List T×Unit):Option (Unit×Unit×List T×Unit×Int×List T×Int×T×T×T×List T×Unit⊕Unit×Unit×List T×Int×T×T×T×List T×Unit⊕Empty):=bif ltI s11.2.2.2.2.1 (lenL s11.2.2.1) then ob (idxL s11.2.2.1 s11.2.2.2.2.1) fun x12=>ob (T.rw? 7 (T.cell x12 1)) fun x13=>ob (room [] x13 112) fun x14=>ob (α:=Unit×Unit×List T×Unit×Int×Unit×List T×Int×T×T×T×List T×T×List T×Unit⊕Empty) (ob (aR ((),(12:Int),s11.2.2.2.2.2.1,s11.2.2.2.2.2.2.1,())) fun x15=>bif x15.1 then ob (u___brepkernelmade_Dice__Next ((),lenL x14,x15.2.1,x15.2.2.1,())) fun x16=>ob (bK ((),(1:Int),x16.2.1,x16.2.2.1,())) fun x17=>ob (chkI (lenL x14) x16.1) fun x18=>ob (idxN x14 x18) fun x19=>some (.inl ((),(),s11.2.2.1,(),s11.2.2.2.2.1,(),x17.2.2.2.2.2.2.2.1,x17.2.2.2.2.2.2.2.2.1,s11.2.2.2.2.2.2.2.1,s11.2.2.2.2.2.2.2.2.1,s11.2.2.2.2.2.2.2.2.2.1,s11.2.2.2.2.2.2.2.2.2.2.1,T.cell x12 0,List.set x14 x18 (T.upd 7 x19 0 [T.v (.int .i64 x17.1),T.v (.bool x17.2.1),T.sl 1 x17.2.2.1,T.sl 1 x17.2.2.2.1,T.v (.string x17.2.2.2.2.1),T.v (.int .i64 x17.2.2.2.2.2.1),T.sl 7 x17.2.2.2.2.2.2.1]),())) else some (.inl ((),(),s11.2.2.1,(),s11.2.2.2.2.1,(),x15.2.1,x15.2.2.1,s11.2.2.2.2.2.2.2.1,s11.2.2.2.2.2.2.2.2.1,s11.2.2.2.2.2.2.2.2.2.1,s11.2.2.2.2.2.2.2.2.2.2.1,T.cell x12 0,x14,()))) fun q20=>bB q20 (fun t21=>ob (α:=Unit×Unit×List T×Unit×Int×Unit×List T×Int×T×T×T×List T×T×List T×Unit⊕Empty) (ob (aR ((),(30:Int),t21.2.2.2.2.2.2.1,t21.2.2.2.2.2.2.2.1,())) fun x22=>bif x22.1 then ob (ZC (lenL t21.2.2.2.2.2.2.2.2.2.2.2.2.2.1) (1:Int) (lenL t21.2.2.2.2.2.2.2.2.2.2.2.2.2.1)) fun x23=>some (.inl ((),(),t21.2.2.1,(),t21.2.2.2.2.1,(),x22.2.1,x22.2.2.1,t21.2.2.2.2.2.2.2.2.1,t21.2.2.2.2.2.2.2.2.2.1,t21.2.2.2.2.2.2.2.2.2.2.1,t21.2.2.2.2.2.2.2.2.2.2.2.1,t21.2.2.2.2.2.2.2.2.2.2.2.2.1,iR t21.2.2.2.2.2.2.2.2.2.2.2.2.2.1 x23.1 x23.2,())) else some (.inl ((),(),t21.2.2.1,(),t21.2.2.2.2.1,(),x22.2.1,x22.2.2.1,t21.2.2.2.2.2.2.2.2.1,t21.2.2.2.2.2.2.2.2.2.1,t21.2.2.2.2.2.2.2.2.2.2.1,t21.2.2.2.2.2.2.2.2.2.2.2.1,t21.2.2.2.2.2.2.2.2.2.2.2.2.1,t21.2.2.2.2.2.2.2.2.2.2.2.2.2.1,()))) fun q24=>bB q24 (fun t25=>ob (α:=Unit×Unit×List T×Unit×Int×Unit×List T×Int×T×T×T×List T×ByteArray×List T×Unit⊕Empty) (ob (aR ((),(30:Int),t25.2.2.2.2.2.2.1,t25.2.2.2.2.2.2.2.1,())) fun x26=>bif x26.1 then some (.inl ((),(),t25.2.2.1,(),t25.2.2.2.2.1,(),x26.2.1,x26.2.2.1,t25.2.2.2.2.2.2.2.2.1,t25.2.2.2.2.2.2.2.2.2.1,t25.2.2.2.2.2.2.2.2.2.2.1,t25.2.2.2.2.2.2.2.2.2.2.2.1,ByteArray.mk #[88],t25.2.2.2.2.2.2.2.2.2.2.2.2.2.1,())) else ob (T.str? t25.2.2.2.2.2.2.2.2.2.2.2.2.1) fun x27=>some (.inl ((),(),t25.2.2.1,(),t25.2.2.2.2.1,(),x26.2.1,x26.2.2.1,t25.2.2.2.2.2.2.2.2.1,t25.2.2.2.2.2.2.2.2.2.1,t25.2.2.2.2.2.2.2.2.2.2.1,t25.2.2.2.2.2.2.2.2.2.2.2.1,x27,t25.2.2.2.2.2.2.2.2.2.2.2.2.2.1,()))) fun q28=>bB q28 (fun t29=>ob (room t29.2.2.2.2.2.2.2.2.2.2.2.1 [T.agg [T.v (.int .i64 (wr .i64 (addI t29.2.2.2.2.1 (1:Int)))),T.v (.string t29.2.2.2.2.2.2.2.2.2.2.2.2.1),T.sl 7 t29.2.2.2.2.2.2.2.2.2.2.2.2.2.1]] 48) fun x30=>some (.inl ((),(),t29.2.2.1,(),wr .i64 (addI t29.2.2.2.2.1 (1:Int)),t29.2.2.2.2.2.2.1,t29.2.2.2.2.2.2.2.1,t29.2.2.2.2.2.2.2.2.1,t29.2.2.2.2.2.2.2.2.2.1,t29.2.2.2.2.2.2.2.2.2.2.1,x30,()))) fun q31=>b0 q31) fun q32=>b0 q32) fun q33=>b0 q33 else some (.inr (.inl ((),(),s11.2.2.2.2.2.1,s11.2.2.2.2.2.2.1,s11.2.2.2.2.2.2.2.1,s11.2.2.2.2.2.2.2.2.1,s11.2.2.2.2.2.2.2.2.2.1,s11.2.2.2.2.2.2.2.2.2.2.1,())))
noncomputable def bO(t:Unit×List T×Int×Unit):Option (List T×List T×List T×Int×Unit):=ob (u_ref02_Int ((1:Int),())) fun x0=>ob (aE ((1:Int),())) fun x1=>ob (aE ((2:Int),())) fun x2=>ob (aE ((1:Int),())) fun x3=>ob (aE ((1:Int),())) fun x4=>ob (aE ((1:Int),())) fun x5=>ob (aE ((4:Int),())) fun x6=>ob (aE ((5:Int),())) fun x7=>ob (aE ((3:Int),())) fun x8=>ob (aE ((6:Int),())) fun x9=>ob (aE ((7:Int),())) fun x10=>ob (aF aD ((),(),[T.agg [T.v (.string (ByteArray.mk #[67,65,82,84,69,83,73,65,78,95,80,79,73,78,84])),T.sl 7 [T.agg [T.v (.int .i64 (3:Int)),T.v (.bool false),T.sl 1 [],T.sl 1 [],T.v (.string (ByteArray.mk #[])),T.v (.int .i64 (0:Int)),T.sl 7 []],T.agg [T.v (.int .i64 (6:Int)),T.v (.bool false),T.sl 1 [],T.sl 1 [],T.v (.string (ByteArray.mk #[])),T.v (.int .i64 (0:Int)),T.sl 7 [T.agg [T.v (.int .i64 (2:Int)),T.v (.bool false),T.sl 1 [],T.sl 1 [],T.v (.string (ByteArray.mk #[])),T.v (.int .i64 (0:Int)),T.sl 7 []],T.agg [T.v (.int .i64 (1:Int)),T.v (.bool false),T.sl 1 [],T.sl 1 [],T.v (.string (ByteArray.mk #[])),T.v (.int .i64 (0:Int)),T.sl 7 []],T.agg [T.v (.int .i64 (2:Int)),T.v (.bool x0.1),T.sl 1 x0.2.1,T.sl 1 x0.2.2.1,T.v (.string (ByteArray.mk #[])),T.v (.int .i64 (0:Int)),T.sl 7 []]]]]],T.agg [T.v (.string (ByteArray.mk #[68,73,82,69,67,84,73,79,78])),T.sl 7 [T.agg [T.v (.int .i64 (3:Int)),T.v (.bool false),T.sl 1 [],T.sl 1 [],T.v (.string (ByteArray.mk #[])),T.v (.int .i64 (0:Int)),T.sl 7 []],T.agg [T.v (.int .i64 (6:Int)),T.v (.bool false),T.sl 1 [],T.sl 1 [],T.v (.string (ByteArray.mk #[])),T.v (.int .i64 (0:Int)),T.sl 7 [T.agg [T.v (.int .i64 (2:Int)),T.v (.bool false),T.sl 1 [],T.sl 1 [],T.v (.string (ByteArray.mk #[])),T.v (.int .i64 (0:Int)),T.sl 7 []],T.agg [T.v (.int .i64 (1:Int)),T.v (.bool false),T.sl 1 [],T.sl 1 [],T.v (.string (ByteArray.mk #[])),T.v (.int .i64 (0:Int)),T.sl 7 []],T.agg [T.v (.int .i64 (2:Int)),T.v (.bool x0.1),T.sl 1 x0.2.1,T.sl 1 x0.2.2.1,T.v (.string (ByteArray.mk #[])),T.v (.int .i64 (0:Int)),T.sl 7 []]]]]],T.agg [T.v (.string (ByteArray.mk #[80,76,65,78,69])),T.sl 7 [T.agg [T.v (.int .i64 (3:Int)),T.v (.bool false),T.sl 1 [],T.sl 1 [],T.v (.string (ByteArray.mk #[])),T.v (.int .i64 (0:Int)),T.sl 7 []],T.agg [T.v (.int .i64 x1.1),T.v (.bool x1.2.1),T.sl 1 x1.2.2.1,T.sl 1 x1.2.2.2.1,T.v (.string x1.2.2.2.2.1),T.v (.int .i64 x1.2.2.2.2.2.1),T.sl 7 x1.2.2.2.2.2.2.1],T.agg [T.v (.int .i64 x2.1),T.v (.bool x2.2.1),T.sl 1 x2.2.2.1,T.sl 1 x2.2.2.2.1,T.v (.string x2.2.2.2.2.1),T.v (.int .i64 x2.2.2.2.2.2.1),T.sl 7 x2.2.2.2.2.2.2.1]]],T.agg [T.v (.string (ByteArray.mk #[80,79,76,89,95,76,79,79,80])),T.sl 7 [T.agg [T.v (.int .i64 (3:Int)),T.v (.bool false),T.sl 1 [],T.sl 1 [],T.v (.string (ByteArray.mk #[])),T.v (.int .i64 (0:Int)),T.sl 7 []],T.agg [T.v (.int .i64 (6:Int)),T.v (.bool false),T.sl 1 [],T.sl 1 [],T.v (.string (ByteArray.mk #[])),T.v (.int .i64 (0:Int)),T.sl 7 [T.agg [T.v (.int .i64 x3.1),T.v (.bool x3.2.1),T.sl 1 x3.2.2.1,T.sl 1 x3.2.2.2.1,T.v (.string x3.2.2.2.2.1),T.v (.int .i64 x3.2.2.2.2.2.1),T.sl 7 x3.2.2.2.2.2.2.1],T.agg [T.v (.int .i64 x4.1),T.v (.bool x4.2.1),T.sl 1 x4.2.2.1,T.sl 1 x4.2.2.2.1,T.v (.string x4.2.2.2.2.1),T.v (.int .i64 x4.2.2.2.2.2.1),T.sl 7 x4.2.2.2.2.2.2.1],T.agg [T.v (.int .i64 x5.1),T.v (.bool x5.2.1),T.sl 1 x5.2.2.1,T.sl 1 x5.2.2.2.1,T.v (.string x5.2.2.2.2.1),T.v (.int .i64 x5.2.2.2.2.2.1),T.sl 7 x5.2.2.2.2.2.2.1]]]]],T.agg [T.v (.string (ByteArray.mk #[70,65,67,69,95,66,79,85,78,68])),T.sl 7 [T.agg [T.v (.int .i64 (3:Int)),T.v (.bool false),T.sl 1 [],T.sl 1 [],T.v (.string (ByteArray.mk #[])),T.v (.int .i64 (0:Int)),T.sl 7 []],T.agg [T.v (.int .i64 x6.1),T.v (.bool x6.2.1),T.sl 1 x6.2.2.1,T.sl 1 x6.2.2.2.1,T.v (.string x6.2.2.2.2.1),T.v (.int .i64 x6.2.2.2.2.2.1),T.sl 7 x6.2.2.2.2.2.2.1],T.agg [T.v (.int .i64 (4:Int)),T.v (.bool false),T.sl 1 [],T.sl 1 [],T.v (.string (ByteArray.mk #[70])),T.v (.int .i64 (0:Int)),T.sl 7 []]]],T.agg [T.v (.string (ByteArray.mk #[70,65,67,69,95,83,85,82,70,65,67,69])),T.sl 7 [T.agg [T.v (.int .i64 (3:Int)),T.v (.bool false),T.sl 1 [],T.sl 1 [],T.v (.string (ByteArray.mk #[])),T.v (.int .i64 (0:Int)),T.sl 7 []],T.agg [T.v (.int .i64 (6:Int)),T.v (.bool false),T.sl 1 [],T.sl 1 [],T.v (.string (ByteArray.mk #[])),T.v (.int .i64 (0:Int)),T.sl 7 [T.agg [T.v (.int .i64 x7.1),T.v (.bool x7.2.1),T.sl 1 x7.2.2.1,T.sl 1 x7.2.2.2.1,T.v (.string x7.2.2.2.2.1),T.v (.int .i64 x7.2.2.2.2.2.1),T.sl 7 x7.2.2.2.2.2.2.1]]],T.agg [T.v (.int .i64 x8.1),T.v (.bool x8.2.1),T.sl 1 x8.2.2.1,T.sl 1 x8.2.2.2.1,T.v (.string x8.2.2.2.2.1),T.v (.int .i64 x8.2.2.2.2.2.1),T.sl 7 x8.2.2.2.2.2.2.1],T.agg [T.v (.int .i64 (4:Int)),T.v (.bool false),T.sl 1 [],T.sl 1 [],T.v (.string (ByteArray.mk #[84])),T.v (.int .i64 (0:Int)),T.sl 7 []]]],T.agg [T.v (.string (ByteArray.mk #[67,76,79,83,69,68,95,83,72,69,76,76])),T.sl 7 [T.agg [T.v (.int .i64 (3:Int)),T.v (.bool false),T.sl 1 [],T.sl 1 [],T.v (.string (ByteArray.mk #[])),T.v (.int .i64 (0:Int)),T.sl 7 []],T.agg [T.v (.int .i64 (6:Int)),T.v (.bool false),T.sl 1 [],T.sl 1 [],T.v (.string (ByteArray.mk #[])),T.v (.int .i64 (0:Int)),T.sl 7 [T.agg [T.v (.int .i64 x9.1),T.v (.bool x9.2.1),T.sl 1 x9.2.2.1,T.sl 1 x9.2.2.2.1,T.v (.string x9.2.2.2.2.1),T.v (.int .i64 x9.2.2.2.2.2.1),T.sl 7 x9.2.2.2.2.2.2.1]]]]],T.agg [T.v (.string (ByteArray.mk #[70,65,67,69,84,69,68,95,66,82,69,80])),T.sl 7 [T.agg [T.v (.int .i64 (3:Int)),T.v (.bool false),T.sl 1 [],T.sl 1 [],T.v (.string (ByteArray.mk #[])),T.v (.int .i64 (0:Int)),T.sl 7 []],T.agg [T.v (.int .i64 x10.1),T.v (.bool x10.2.1),T.sl 1 x10.2.2.1,T.sl 1 x10.2.2.2.1,T.v (.string x10.2.2.2.2.1),T.v (.int .i64 x10.2.2.2.2.2.1),T.sl 7 x10.2.2.2.2.2.2.1]]],T.agg [T.v (.string (ByteArray.mk #[84,79,76,69,82,65,78,67,69])),T.sl 7 [T.agg [T.v (.int .i64 (1:Int)),T.v (.bool false),T.sl 1 [],T.sl 1 [],T.v (.string (ByteArray.mk #[])),T.v (.int .i64 (0:Int)),T.sl 7 []],T.agg [T.v (.int .i64 (1:Int)),T.v (.bool false),T.sl 1 [],T.sl 1 [],T.v (.string (ByteArray.mk #[])),T.v (.int .i64 (0:Int)),T.sl 7 []],T.agg [T.v (.int .i64 (2:Int)),T.v (.bool false),T.sl 1 [],T.sl 1 [],T.v (.string (ByteArray.mk #[])),T.v (.int .i64 (0:Int)),T.sl 7 []]]]],(),(0:Int),t.2.1,t.2.2.1,T.v (.slice none 0 0),T.v (.slice none 0 0),T.v (.slice none 0 0),[],())) fun q34=>bB q34 (fun t35=>ob (T.sl? 2 t35.2.2.2.2.2.2.1) fun x36=>some (x36,t35.2.2.2.2.2.2.2.1,t35.2.2.1,t35.2.2.2.1,())) fun q37=>b0 q37
def iZ:HT:=(.l (.l (.l (.l (.l (.l (.seq (.l (.one (.loop ⟨[.slot 0,.slot 2,.slot 6,.slot 7,.slot 8,.box 0 2,.box 3 2,.box 8 2],[.lit (.box 0 0),.lit (.box 3 0),.sl 2,.lit (.box 8 0),I6,.sl 1,I6,.tree,.tree,.tree,.row 67 3 120]⟩ [((.exit 0),⟨[.slot 2,.slot 7,.box 0 2,.box 3 2,.box 8 2],[.lit (.box 3 0),.lit (.box 8 0),.sl 1,I6,.tree,.tree,.tree,.row 67 3 120]⟩)] (.l (.seq (.one (.l (.l (.seq (.join [(.normal,⟨[.slot 0,.slot 2,.slot 6,.slot 7,.slot 8,.slot 9,.box 0 2,.box 3 2,.box 8 2,.box 10 2],[.lit (.box 0 0),.lit (.box 3 0),.sl 2,.lit (.box 8 0),I6,.lit (.box 10 0),.sl 1,I6,.tree,.tree,.tree,.row 67 3 120,.tree,.row 32 7 90]⟩)] .leaf) (.seq (.join [(.normal,⟨[.slot 0,.slot 2,.slot 6,.slot 7,.slot 8,.slot 9,.box 0 2,.box 3 2,.box 8 2,.box 10 2],[.lit (.box 0 0),.lit (.box 3 0),.sl 2,.lit (.box 8 0),I6,.lit (.box 10 0),.sl 1,I6,.tree,.tree,.tree,.row 67 3 120,.tree,.row 32 7 90]⟩)] .leaf) (.seq (.join [(.normal,⟨[.slot 0,.slot 2,.slot 6,.slot 7,.slot 8,.slot 9,.box 0 2,.box 3 2,.box 8 2,.box 10 2],[.lit (.box 0 0),.lit (.box 3 0),.sl 2,.lit (.box 8 0),I6,.lit (.box 10 0),.sl 1,I6,.tree,.tree,.tree,.row 67 3 120,.str,.row 32 7 90]⟩)] .leaf) .leaf)))))) .leaf))))) .leaf)))))))
theorem pF:TabOK Tryz.prog [9000000,4000032,4000019,4000031,4000015,4000033,20000003,20000005,20000007,20000009,20000079,20000085,20000086,20000098,20000102,20000107,80000032,80000034,80000030,80000036,80000009,28999999,9000002,90500015,90500019,90500023,90500030,90500039,90500041,90500047,90500052,90500057,90500062,90500064,90500069,90500074,90500076] iY:=(.cs Tryz.func32 oJ (.cs Tryz.func19 qY (.cs Tryz.func31 jD (.cs Tryz.func15 bU (.cs Tryz.func33 jX (TabOK.flagG (by kernel_rfl) (by kernel_rfl) (by kernel_rfl) (by kernel_rfl)))))))
theorem p8:∀t,pH Tryz.prog iY [9000000,4000032,4000019,4000031,4000015,4000033,20000003,20000005,20000007,20000009,20000079,20000085,20000086,20000098,20000102,20000107,80000032,80000034,80000030,80000036,80000009,28999999,9000002,90500015,90500019,90500023,90500030,90500039,90500041,90500047,90500052,90500057,90500062,90500064,90500069,90500074,90500076] iZ Tryz.f12 eK t=bO t:=fun _=>by kernel_rfl
theorem p9:(aA eK bO).OK Tryz.prog 12:=d4 mixed [9000000,4000032,4000019,4000031,4000015,4000033,20000003,20000005,20000007,20000009,20000079,20000085,20000086,20000098,20000102,20000107,80000032,80000034,80000030,80000036,80000009,28999999,9000002,90500015,90500019,90500023,90500030,90500039,90500041,90500047,90500052,90500057,90500062,90500064,90500069,90500074,90500076] iZ pF Tryz.func12 p8
end Go.Eng
namespace Go.Proofs
open Go.Shelf
def Tryz.lays169_ren:Go.Shelf.Ren:=⟨fun | 169=>99 | n=>n,fun | 70=>148 | 9=>9 | 0=>0 | 72=>151 | 37=>149 | 127=>202 | 3=>3 | 5=>5 | n=>n,fun | n=>n⟩
theorem Tryz.lays169:Go.Proofs.Lays.n169 Tryz.prog Tryz.lays169_ren:={
 mixed:=by kernel_rfl
 f169:=Tryz.func99.trans (congrArg some (by kernel_rfl))
 t0:=Tryz.underlying0
 a0:=Tryz.isAgg0
 z0:=Tryz.sizeOf0
 v0:=Tryz.zeroValue0
 t3:=Tryz.underlying3
 a3:=Tryz.isAgg3
 z3:=Tryz.sizeOf3
 v3:=Tryz.zeroValue3
 t9:=Tryz.underlying9
 a9:=Tryz.isAgg9
 z9:=Tryz.sizeOf9
 v9:=Tryz.zeroValue9
 t37:=Tryz.underlying149
 a37:=Tryz.isAgg149
 z37:=Tryz.sizeOf149
 v37:=Tryz.zeroValue149
 t70:=Tryz.underlying148
 a70:=Tryz.isAgg148
 z70:=Tryz.sizeOf148
 v70:=Tryz.zeroValue148
 t72:=Tryz.underlying151
 a72:=Tryz.isAgg151
 z72:=Tryz.sizeOf151
 v72:=Tryz.zeroValue151
 t127:=Tryz.underlying202
 a127:=Tryz.isAgg202
 z127:=Tryz.sizeOf202
 v127:=Tryz.zeroValue202 }
theorem Tryz.Builder_Extra_169:Builder.Extra Tryz.prog Tryz.lays169_ren:={
 sizeBuilder:=by kernel_rfl
 liesBuilder:=by kernel_rfl
 t5:=Tryz.underlying5
 a5:=Tryz.isAgg5
 z5:=Tryz.sizeOf5
 v5:=Tryz.zeroValue5
 infoByte:=by kernel_rfl
 cellsByte:=by kernel_rfl
 sizeByte:=by kernel_rfl
 neB5:=by decide }
open Go.RowKit in
theorem Tryz.Builder_String_any(B b:Nat)(l:List UInt8)(w:World)(h:Lib.IsBuilder 151 5 B b (Lib.byteCells l) w)(hBw:B≤w.heap.size):
 Calls Tryz.prog 99 #[.pointer (some ⟨b,0,none⟩)] w fun e w'=>e=.returned (.string ⟨l.toArray⟩)∧Below B w w':=Any.Builder_String_any Tryz.lays169 Tryz.Builder_Extra_169 B b l w h hBw
def Tryz.laysM246_ren:Go.Shelf.Ren:=⟨fun | 246=>211 | 283=>238 | 284=>239 | 285=>240 | 286=>241 | 129=>254 | 317=>253 | 318=>255 | 319=>256 | 320=>257 | 337=>262 | 338=>263 | n=>n,fun | 2=>2 | 3=>3 | 9=>9 | 4=>4 | 171=>250 | 0=>0 | 53=>122 | 37=>149 | 5=>5 | 173=>253 | 212=>268 | 51=>116 | 20=>20 | 213=>269 | 46=>168 | 232=>275 | 233=>276 | n=>n,fun | 17=>5 | 18=>6 | 19=>7 | n=>n⟩
def Tryz.laysM243_ren:Go.Shelf.Ren:=⟨fun | 243=>156 | 246=>211 | 283=>238 | 284=>239 | 285=>240 | 286=>241 | 129=>254 | 317=>253 | 318=>255 | 319=>256 | 320=>257 | 337=>262 | 338=>263 | n=>n,fun | 3=>3 | 9=>9 | 2=>2 | 4=>4 | 171=>250 | 0=>0 | 53=>122 | 37=>149 | 5=>5 | 173=>253 | 212=>268 | 51=>116 | 20=>20 | 213=>269 | 46=>168 | 232=>275 | 233=>276 | n=>n,fun | 17=>5 | 18=>6 | 19=>7 | n=>n⟩
def Tryz.laysM171_ren:Go.Shelf.Ren:=⟨fun | 171=>94 | 243=>156 | 246=>211 | 283=>238 | 284=>239 | 285=>240 | 286=>241 | 129=>254 | 317=>253 | 318=>255 | 319=>256 | 320=>257 | 337=>262 | 338=>263 | n=>n,fun | 3=>3 | 9=>9 | 2=>2 | 4=>4 | 171=>250 | 0=>0 | 53=>122 | 37=>149 | 5=>5 | 173=>253 | 212=>268 | 51=>116 | 20=>20 | 213=>269 | 46=>168 | 232=>275 | 233=>276 | n=>n,fun | 17=>5 | 18=>6 | 19=>7 | n=>n⟩
def Tryz.lays171_ren:Go.Shelf.Ren:=⟨fun | 171=>94 | 243=>156 | 246=>211 | 283=>238 | 284=>239 | 285=>240 | 286=>241 | 129=>254 | 317=>253 | 318=>255 | 319=>256 | 320=>257 | 337=>262 | 338=>263 | n=>n,fun | 3=>3 | 9=>9 | 2=>2 | 4=>4 | 171=>250 | 0=>0 | 53=>122 | 37=>149 | 5=>5 | 173=>253 | 212=>268 | 51=>116 | 20=>20 | 213=>269 | 46=>168 | 232=>275 | 233=>276 | n=>n,fun | 17=>5 | 18=>6 | 19=>7 | n=>n⟩
theorem Tryz.lays171:Go.Proofs.Lays.n171 Tryz.prog Tryz.lays171_ren:={
 mixed:=by kernel_rfl
 f129:=Tryz.func254.trans (congrArg some (by kernel_rfl))
 f171:=Tryz.func94.trans (congrArg some (by kernel_rfl))
 f243:=Tryz.func156.trans (congrArg some (by kernel_rfl))
 f246:=Tryz.func211.trans (congrArg some (by kernel_rfl))
 f283:=Tryz.func238.trans (congrArg some (by kernel_rfl))
 f284:=Tryz.func239.trans (congrArg some (by kernel_rfl))
 f285:=Tryz.func240.trans (congrArg some (by kernel_rfl))
 f286:=Tryz.func241.trans (congrArg some (by kernel_rfl))
 f317:=Tryz.func253.trans (congrArg some (by kernel_rfl))
 f318:=Tryz.func255.trans (congrArg some (by kernel_rfl))
 f319:=Tryz.func256.trans (congrArg some (by kernel_rfl))
 f320:=Tryz.func257.trans (congrArg some (by kernel_rfl))
 f337:=Tryz.func262.trans (congrArg some (by kernel_rfl))
 f338:=Tryz.func263.trans (congrArg some (by kernel_rfl))
 t0:=Tryz.underlying0
 a0:=Tryz.isAgg0
 z0:=Tryz.sizeOf0
 v0:=Tryz.zeroValue0
 t2:=Tryz.underlying2
 a2:=Tryz.isAgg2
 z2:=Tryz.sizeOf2
 v2:=Tryz.zeroValue2
 t3:=Tryz.underlying3
 a3:=Tryz.isAgg3
 z3:=Tryz.sizeOf3
 v3:=Tryz.zeroValue3
 t4:=Tryz.underlying4
 a4:=Tryz.isAgg4
 z4:=Tryz.sizeOf4
 v4:=Tryz.zeroValue4
 t5:=Tryz.underlying5
 a5:=Tryz.isAgg5
 z5:=Tryz.sizeOf5
 v5:=Tryz.zeroValue5
 t9:=Tryz.underlying9
 a9:=Tryz.isAgg9
 z9:=Tryz.sizeOf9
 v9:=Tryz.zeroValue9
 t20:=Tryz.underlying20
 a20:=Tryz.isAgg20
 z20:=Tryz.sizeOf20
 v20:=Tryz.zeroValue20
 t37:=Tryz.underlying149
 a37:=Tryz.isAgg149
 z37:=Tryz.sizeOf149
 v37:=Tryz.zeroValue149
 t46:=Tryz.underlying168
 a46:=Tryz.isAgg168
 z46:=Tryz.sizeOf168
 v46:=Tryz.zeroValue168
 t51:=Tryz.underlying116
 a51:=Tryz.isAgg116
 z51:=Tryz.sizeOf116
 v51:=Tryz.zeroValue116
 t53:=Tryz.underlying122
 a53:=Tryz.isAgg122
 z53:=Tryz.sizeOf122
 v53:=Tryz.zeroValue122
 t171:=Tryz.underlying250
 a171:=Tryz.isAgg250
 z171:=Tryz.sizeOf250
 v171:=Tryz.zeroValue250
 t173:=Tryz.underlying253
 a173:=Tryz.isAgg253
 z173:=Tryz.sizeOf253
 v173:=Tryz.zeroValue253
 t212:=Tryz.underlying268
 a212:=Tryz.isAgg268
 z212:=Tryz.sizeOf268
 v212:=Tryz.zeroValue268
 t213:=Tryz.underlying269
 a213:=Tryz.isAgg269
 z213:=Tryz.sizeOf269
 t232:=Tryz.underlying275
 a232:=Tryz.isAgg275
 z232:=Tryz.sizeOf275
 v232:=Tryz.zeroValue275
 t233:=Tryz.underlying276
 a233:=Tryz.isAgg276
 z233:=Tryz.sizeOf276
 v233:=Tryz.zeroValue276
 g17:=by kernel_rfl
 g18:=by kernel_rfl
 g19:=by kernel_rfl }
open Go.RowKit Go.Sort Go.Lib in
theorem Tryz.strconv_Itoa_small(i:Nat)(hi:i<100)(w:World):
 Calls Tryz.prog 94 #[.int .i64 i] w fun e w'=>e=.returned (.string ⟨(Lib.decDigits i).toArray⟩)∧w'=w:=Any.strconv_Itoa_small Tryz.lays171 i hi w
def Tryz.lays154_ren:Go.Shelf.Ren:=⟨fun | 154=>213 | 138=>242 | 165=>131 | 143=>143 | 166=>97 | 197=>167 | 169=>99 | 195=>258 | 218=>259 | 240=>157 | 241=>188 | 219=>162 | 260=>224 | 276=>212 | 277=>229 | 217=>215 | 225=>216 | 224=>217 | 267=>218 | 266=>244 | 314=>245 | n=>n,fun | 9=>9 | 3=>3 | 4=>4 | 72=>151 | 0=>0 | 76=>155 | 105=>207 | 21=>21 | 5=>5 | 70=>148 | 20=>20 | 37=>149 | 75=>153 | 127=>202 | 164=>233 | 46=>168 | 119=>261 | 139=>264 | 138=>263 | 146=>217 | 51=>116 | 80=>146 | n=>n,fun | 1=>0 | 3=>3 | 4=>4 | n=>n⟩
def Tryz.lays155_ren:Go.Shelf.Ren:=⟨fun | 155=>158 | 154=>213 | 138=>242 | 165=>131 | 143=>143 | 166=>97 | 197=>167 | 169=>99 | 195=>258 | 218=>259 | 240=>157 | 241=>188 | 219=>162 | 260=>224 | 276=>212 | 277=>229 | 217=>215 | 225=>216 | 224=>217 | 267=>218 | 266=>244 | 314=>245 | n=>n,fun | 9=>9 | 3=>3 | 4=>4 | 72=>151 | 0=>0 | 76=>155 | 105=>207 | 21=>21 | 5=>5 | 70=>148 | 20=>20 | 37=>149 | 75=>153 | 127=>202 | 164=>233 | 46=>168 | 119=>261 | 139=>264 | 138=>263 | 146=>217 | 51=>116 | 80=>146 | n=>n,fun | 1=>0 | 3=>3 | 4=>4 | n=>n⟩
theorem Tryz.lays155:Go.Proofs.Lays.n155 Tryz.prog Tryz.lays155_ren:={
 mixed:=by kernel_rfl
 f138:=Tryz.func242.trans (congrArg some (by kernel_rfl))
 f143:=Tryz.func143.trans (congrArg some (by kernel_rfl))
 f154:=Tryz.func213.trans (congrArg some (by kernel_rfl))
 f155:=Tryz.func158.trans (congrArg some (by kernel_rfl))
 f165:=Tryz.func131.trans (congrArg some (by kernel_rfl))
 f166:=Tryz.func97.trans (congrArg some (by kernel_rfl))
 f169:=Tryz.func99.trans (congrArg some (by kernel_rfl))
 f195:=Tryz.func258.trans (congrArg some (by kernel_rfl))
 f197:=Tryz.func167.trans (congrArg some (by kernel_rfl))
 f217:=Tryz.func215.trans (congrArg some (by kernel_rfl))
 f218:=Tryz.func259.trans (congrArg some (by kernel_rfl))
 f219:=Tryz.func162.trans (congrArg some (by kernel_rfl))
 f224:=Tryz.func217.trans (congrArg some (by kernel_rfl))
 f225:=Tryz.func216.trans (congrArg some (by kernel_rfl))
 f240:=Tryz.func157.trans (congrArg some (by kernel_rfl))
 f241:=Tryz.func188.trans (congrArg some (by kernel_rfl))
 f260:=Tryz.func224.trans (congrArg some (by kernel_rfl))
 f266:=Tryz.func244.trans (congrArg some (by kernel_rfl))
 f267:=Tryz.func218.trans (congrArg some (by kernel_rfl))
 f276:=Tryz.func212.trans (congrArg some (by kernel_rfl))
 f277:=Tryz.func229.trans (congrArg some (by kernel_rfl))
 f314:=Tryz.func245.trans (congrArg some (by kernel_rfl))
 t0:=Tryz.underlying0
 a0:=Tryz.isAgg0
 z0:=Tryz.sizeOf0
 v0:=Tryz.zeroValue0
 t3:=Tryz.underlying3
 a3:=Tryz.isAgg3
 z3:=Tryz.sizeOf3
 v3:=Tryz.zeroValue3
 t4:=Tryz.underlying4
 a4:=Tryz.isAgg4
 z4:=Tryz.sizeOf4
 v4:=Tryz.zeroValue4
 t5:=Tryz.underlying5
 a5:=Tryz.isAgg5
 z5:=Tryz.sizeOf5
 v5:=Tryz.zeroValue5
 t9:=Tryz.underlying9
 a9:=Tryz.isAgg9
 z9:=Tryz.sizeOf9
 v9:=Tryz.zeroValue9
 t20:=Tryz.underlying20
 a20:=Tryz.isAgg20
 z20:=Tryz.sizeOf20
 v20:=Tryz.zeroValue20
 t21:=Tryz.underlying21
 a21:=Tryz.isAgg21
 z21:=Tryz.sizeOf21
 v21:=Tryz.zeroValue21
 t37:=Tryz.underlying149
 a37:=Tryz.isAgg149
 z37:=Tryz.sizeOf149
 v37:=Tryz.zeroValue149
 t46:=Tryz.underlying168
 a46:=Tryz.isAgg168
 z46:=Tryz.sizeOf168
 v46:=Tryz.zeroValue168
 t51:=Tryz.underlying116
 a51:=Tryz.isAgg116
 z51:=Tryz.sizeOf116
 v51:=Tryz.zeroValue116
 t70:=Tryz.underlying148
 a70:=Tryz.isAgg148
 z70:=Tryz.sizeOf148
 v70:=Tryz.zeroValue148
 t72:=Tryz.underlying151
 a72:=Tryz.isAgg151
 z72:=Tryz.sizeOf151
 v72:=Tryz.zeroValue151
 t75:=Tryz.underlying153
 a75:=Tryz.isAgg153
 z75:=Tryz.sizeOf153
 v75:=Tryz.zeroValue153
 t76:=Tryz.underlying155
 a76:=Tryz.isAgg155
 z76:=Tryz.sizeOf155
 v76:=Tryz.zeroValue155
 t105:=Tryz.underlying207
 a105:=Tryz.isAgg207
 z105:=Tryz.sizeOf207
 v105:=Tryz.zeroValue207
 t119:=Tryz.underlying261
 a119:=Tryz.isAgg261
 z119:=Tryz.sizeOf261
 t127:=Tryz.underlying202
 a127:=Tryz.isAgg202
 z127:=Tryz.sizeOf202
 v127:=Tryz.zeroValue202
 t138:=Tryz.underlying263
 a138:=Tryz.isAgg263
 z138:=Tryz.sizeOf263
 v138:=Tryz.zeroValue263
 t139:=Tryz.underlying264
 a139:=Tryz.isAgg264
 z139:=Tryz.sizeOf264
 v139:=Tryz.zeroValue264
 t146:=Tryz.underlying217
 a146:=Tryz.isAgg217
 z146:=Tryz.sizeOf217
 v146:=Tryz.zeroValue217
 t164:=Tryz.underlying233
 a164:=Tryz.isAgg233
 z164:=Tryz.sizeOf233
 v164:=Tryz.zeroValue233
 g1:=by kernel_rfl
 g3:=by kernel_rfl
 g4:=by kernel_rfl }
theorem Tryz.Builder_Extra_155:Builder.Extra Tryz.prog Tryz.lays155_ren:={
 sizeBuilder:=by kernel_rfl
 liesBuilder:=by kernel_rfl
 t5:=Tryz.underlying5
 a5:=Tryz.isAgg5
 z5:=Tryz.sizeOf5
 v5:=Tryz.zeroValue5
 infoByte:=by kernel_rfl
 cellsByte:=by kernel_rfl
 sizeByte:=by kernel_rfl
 neB5:=by decide }
open Go.RowKit Go.Lib in
theorem Tryz.strings_ReplaceAll(s old new:ByteArray)(m:Int)(w:World)(hs:s.size<4294967281)(hm:w.cell? ⟨0,0,none⟩=some (.int .i64 m))(h1:1≤old.size)(hlen:s.size+Lib.countB s old*new.size≤140737488355328):
 Calls Tryz.prog 158 #[.string s,.string old,.string new] w fun e w'=>
  e=.returned (.string ⟨(Lib.replaceAll s.data.toList old.data.toList new.data.toList).toArray⟩)∧Below w.heap.size w w':=Any.strings_ReplaceAll Tryz.lays155 Tryz.Builder_Extra_155 s old new m w hs hm h1 hlen
end Go.Proofs
namespace Go.Eng
open Go.RowKit Go.Proofs
theorem RdS.val{w:World}{X:Nat→Prop}{ρ:fN}{v y:Value}(h:RdS w X ρ (.c (.t (.v v))) y):y=v:=by
 rcases h with h | ⟨h,_⟩
 ·cases h
 ·exact Rd.inv_v h
theorem WU{v1 v2 v3:Value}{vals:List Value}(hl:vals.length=3)(h1:∀y,vals[0]?=some y→y=v1)(h2:∀y,vals[1]?=some y→y=v2)(h3:∀y,vals[2]?=some y→y=v3):vals=[v1,v2,v3]:=by
 match vals,hl with
 | [a,b,c],_=>rw[h1 a rfl,h2 b rfl,h3 c rfl]
theorem Ic:OW Tryz.prog 0 .i64:=by
 refine⟨3,#[.int .i64 0],of_decide_eq_true (by kernel_rfl),by kernel_rfl,by kernel_rfl,by kernel_rfl,by kernel_rfl,by kernel_rfl⟩
def zG:Sig:={ na:=3,np:=0,hin:={ items:=[.slot 0,.slot 1,.slot 2],shapes:=[.str,.str,.str] },nres:=1,kept:=[],nnew:=0,hout:={ items:=[.slot 0],shapes:=[.str] },nob:=0 }
noncomputable def eZ(t:ByteArray×ByteArray×ByteArray×Unit):Option (ByteArray×Unit):=
 if t.1.size<4294967281∧1≤t.2.1.size∧t.1.size+Lib.countB t.1 t.2.1*t.2.2.1.size≤140737488355328 then some (⟨(Lib.replaceAll t.1.data.toList t.2.1.data.toList t.2.2.1.data.toList).toArray⟩,()) else none
theorem BJ:(aA zG eZ).OK Tryz.prog 158:=by
 refine CA rfl rfl fun t q hq w X F ρ vals hG hX hl hv rs hrs=>?_
 unfold eZ at hq
 split at hq
 case isFalse=>cases hq
 rename_i hs
 cases hq
 have hrs':(some [.c (.t (.v (.string ⟨(Lib.replaceAll t.1.data.toList t.2.1.data.toList t.2.2.1.data.toList).toArray⟩)))]:Option (List S1))=some rs:=hrs
 cases hrs'
 have hvals:vals=[.string t.1,.string t.2.1,.string t.2.2.1]:=WU hl (fun y hy=>RdS.val (hv 0 _ y rfl hy)) (fun y hy=>RdS.val (hv 1 _ y rfl hy)) (fun y hy=>RdS.val (hv 2 _ y rfl hy))
 subst hvals
 obtain⟨_,m,hm⟩:=hG 0 .i64 Ic
 refine(Tryz.strings_ReplaceAll t.1 t.2.1 t.2.2.1 m w hs.1 hm hs.2.1 hs.2.2).mono ?_
 rintro e w' ⟨rfl,hb⟩
 exact⟨_,rfl,⟨hb.os,hb.tape,hb.output,hb.size,fun b hlt _=>hb.block b hlt⟩,.inr ⟨.v _,rfl⟩⟩
def JQ:Sig:={ na:=1,np:=0,hin:={ items:=[.slot 0],shapes:=[.int .i64] },nres:=1,kept:=[],nnew:=0,hout:={ items:=[.slot 0],shapes:=[.str] },nob:=0 }
noncomputable def lH(t:Int×Unit):Option (ByteArray×Unit):=if 0≤t.1∧t.1<100 then some (⟨(Lib.decDigits t.1.toNat).toArray⟩,()) else none
theorem M2:(aA JQ lH).OK Tryz.prog 94:=by
 refine CA rfl rfl fun t q hq w X F ρ vals hG _ hl hv rs hrs=>?_
 unfold lH at hq
 split at hq
 case isFalse=>cases hq
 rename_i hs
 cases hq
 have hrs':(some [.c (.t (.v (.string ⟨(Lib.decDigits t.1.toNat).toArray⟩)))]:Option (List S1))=some rs:=hrs
 cases hrs'
 have hvals:vals=[.int .i64 t.1]:=by
  match vals,hl with
  | [a],_=>rw[RdS.val (hv 0 _ a rfl rfl)]
 subst hvals
 obtain⟨n,hn⟩:∃n:Nat,t.1=(n:Int):=⟨t.1.toNat,(Int.toNat_of_nonneg hs.1).symm⟩
 rw[hn]
 rw[hn] at hs
 refine(Tryz.strconv_Itoa_small n (by omega) w).mono ?_
 rintro e w' ⟨rfl,rfl⟩
 exact⟨_,rfl,.refl _ _,.inr ⟨.v _,rfl⟩⟩
def N4:Sig:=⟨1,0,⟨[.slot 0],[.sl 1]⟩,1,[],0,⟨[.slot 0],[.str]⟩,130⟩
noncomputable def yW(s2:List T×List T×Int×Int×Unit):Option (List T×List T×Int×Int×Unit⊕List T×List T×Unit⊕Empty):=bif ltI s2.2.2.2.1 (9:Int) then bif ltI (0:Int) s2.2.2.1 then ob (room s2.1 [T.v (.int .u8 (wr .u8 (wr .u32 (addI (48:Int) (modI s2.2.2.1 (10:Int))))))] 1) fun x3=>some (.inl (x3,s2.2.1,wr .u32 (divI s2.2.2.1 (10:Int)),wr .i64 (addI s2.2.2.2.1 (1:Int)),())) else bif ltI (0:Int) (lenL s2.2.1) then ob (room s2.1 [T.v (.int .u8 (wr .u8 (wr .u32 (addI (48:Int) (modI s2.2.2.1 (10:Int))))))] 1) fun x4=>some (.inl (x4,s2.2.1,wr .u32 (divI s2.2.2.1 (10:Int)),wr .i64 (addI s2.2.2.2.1 (1:Int)),())) else some (.inr (.inl (s2.1,s2.2.1,()))) else some (.inr (.inl (s2.1,s2.2.1,())))
noncomputable def rT(s0:List T×List T×Unit):Option (List T×List T×Unit⊕List T×Unit⊕Empty):=bif ltI (0:Int) (lenL s0.1) then ob (lB (s0.1,(1000000000:Int),())) fun x1=>ob (aF yW (s0.2.1,x1.1,x1.2.1,(0:Int),())) fun q5=>bB q5 (fun t6=>some (.inl (t6.2.1,t6.1,()))) fun q7=>b0 q7 else some (.inr (.inl (s0.2.1,())))
noncomputable def yX(s11:List T×List T×Int×Unit):Option (List T×List T×Int×Unit⊕List T×Unit⊕Empty):=bif ltI s11.2.2.1 (lenL s11.1) then ob (chkI (lenL s11.1) s11.2.2.1) fun x12=>ob (idxN s11.1 x12) fun x13=>ob (chkI (lenL s11.2.1) (wr .i64 (subI (wr .i64 (subI (lenL s11.1) (1:Int))) s11.2.2.1))) fun x14=>ob (T.int? .u8 (T.cell x13 0)) fun x15=>ob (idxN s11.2.1 x14) fun x16=>some (.inl (s11.1,List.set s11.2.1 x14 (T.upd 1 x16 0 [T.v (.int .u8 x15)]),wr .i64 (addI s11.2.2.1 (1:Int)),())) else some (.inr (.inl (s11.2.1,())))
noncomputable def oK(t:List T×Unit):Option (ByteArray×Unit):=bif eqI (lenL t.1) (0:Int) then some (ByteArray.mk #[48],()) else ob (aF rT (t.1,[],())) fun q8=>bB q8 (fun t9=>ob (mkLen (lenL t9.1) (lenL t9.1) 1) fun x10=>ob (aF yX (t9.1,repL x10.1 (T.v (.int .u8 (0:Int))),(0:Int),())) fun q17=>bB q17 (fun t18=>ob (strOf t18.1) fun x19=>some (x19,())) fun q20=>b0 q20) fun q21=>b0 q21
theorem RQ:(aA N4 oK).OK Tryz.prog 134:=d4 mixed [] (.l (.l (.l (.seq (.one (.loop ⟨[.slot 0,.slot 3],[.sl 1,.row 5 1 39]⟩ [((.exit 0),⟨[.slot 3],[.row 5 1 39]⟩)] (.l (.one (.l (.seq (.l (.one (.loop ⟨[.slot 3,.slot 4,.slot 5,.slot 6],[.row 5 1 39,.sl 1,.int .u32,I6]⟩ [((.exit 2),⟨[.slot 3,.slot 4],[.row 5 1 39,.sl 1]⟩)] .leaf))) .leaf)))))) (.l (.seq (.l (.one (.loop ⟨[.slot 3,.slot 7,.slot 8],[.row 5 1 39,.row 5 1 45,I6]⟩ [((.exit 4),⟨[.slot 7],[.row 5 1 45]⟩)] .leaf))) .leaf)))))) (.cs Tryz.func180 AV <| .nil) Tryz.func134 fun _=>by kernel_rfl
def F3:Sig:=⟨1,0,⟨[.aggs 0 3],[.bool,.sl 1,.sl 1]⟩,1,[],0,⟨[.slot 0],[.sl 1]⟩,20⟩
noncomputable def u_ref02_Den(t:Bool×List T×List T×Unit):Option (List T×Unit):=bif eqI (lenL t.2.2.1) (0:Int) then some ([T.v (.int .u32 (1:Int))],()) else some (t.2.2.1,())
theorem IS:(aA F3 u_ref02_Den).OK Tryz.prog 64:=d4 mixed [] .leaf .nil Tryz.func64 fun _=>by kernel_rfl
def xW:Sig:=⟨2,0,⟨[.aggs 0 3,.aggs 1 3],[.bool,.sl 1,.sl 1,.bool,.sl 1,.sl 1]⟩,1,[],0,⟨[.aggs 0 3],[.bool,.sl 1,.sl 1]⟩,42⟩
noncomputable def IT:List (FuncId×Callee):=[(63,Bi (aA FW lA)),(64,Bi (aA F3 u_ref02_Den)),(62,Bi (aA yL iU))]
noncomputable def nK(t:Bool×List T×List T×Bool×List T×List T×Unit):Option (Bool×List T×List T×Unit):=ob (lA (t.2.1,t.2.2.2.2.1,())) fun x0=>ob (u_ref02_Den (t.1,t.2.1,t.2.2.1,())) fun x1=>ob (u_ref02_Den (t.2.2.2.1,t.2.2.2.2.1,t.2.2.2.2.2.1,())) fun x2=>ob (lA (x1.1,x2.1,())) fun x3=>ob (iU (Bool.not (eqB t.1 t.2.2.2.1),x0.1,x3.1,())) fun x4=>some (x4.1,x4.2.1,x4.2.2.1,())
def IU:HT:=.leaf
theorem RR:TabOK Tryz.prog [1000063,1000064,1000062] IT:=(TabOK.consP (fun _=>⟨_,Tryz.func63,by kernel_rfl,by kernel_rfl⟩) (xR IQ) (sE (aB _ _)) (fun h=>by cases h) (fun _=>dJ (aB _ _)) (fun _=>(dJ (aB _ _)).framed) (by kernel_rfl) (TabOK.consP (fun _=>⟨_,Tryz.func64,by kernel_rfl,by kernel_rfl⟩) (xR IS) (sE (aB _ _)) (fun h=>by cases h) (fun _=>dJ (aB _ _)) (fun _=>(dJ (aB _ _)).framed) (by kernel_rfl) (TabOK.consP (fun _=>⟨_,Tryz.func62,by kernel_rfl,by kernel_rfl⟩) (xR AX) (sE (aB _ _)) (fun h=>by cases h) (fun _=>dJ (aB _ _)) (fun _=>(dJ (aB _ _)).framed) (by kernel_rfl) TabOK.nil)))
theorem T9:∀t,pH Tryz.prog IT [1000063,1000064,1000062] IU Tryz.f20 xW t=nK t:=fun _=>by kernel_rfl
theorem UA:(aA xW nK).OK Tryz.prog 20:=d4 mixed [1000063,1000064,1000062] IU RR Tryz.func20 T9
def C8:Sig:=⟨1,0,⟨[.aggs 0 3],[.bool,.sl 1,.sl 1]⟩,1,[],0,⟨[.slot 0],[I6]⟩,20⟩
noncomputable def oL(t:Bool×List T×List T×Unit):Option (Int×Unit):=ob (lR (t.2.1,())) fun x0=>ob (u_ref02_Den (t.1,t.2.1,t.2.2.1,())) fun x1=>ob (lR (x1.1,())) fun x2=>some (mmI true x0.1 x2.1,())
theorem RS:(aA C8 oL).OK Tryz.prog 75:=d4 mixed [133] .leaf (.cs Tryz.func133 FX <| .cs Tryz.func64 IS <| .nil) Tryz.func75 fun _=>by kernel_rfl
def C9:Sig:=⟨1,0,⟨[.aggs 0 3],[.bool,.sl 1,.sl 1]⟩,1,[],0,⟨[.slot 0],[.str]⟩,44⟩
noncomputable def lW(t:Bool×List T×List T×Unit):Option (ByteArray×Unit):=ob (oK (t.2.1,())) fun x0=>ob (α:=Unit×ByteArray×Bool×List T×List T×Unit⊕Empty) (bif t.1 then ob (catS (ByteArray.mk #[45]) x0.1) fun x1=>some (.inl ((),x1,t.1,t.2.1,t.2.2.1,())) else some (.inl ((),x0.1,t.1,t.2.1,t.2.2.1,()))) fun q2=>bB q2 (fun t3=>ob (α:=ByteArray×Unit⊕Empty) (bif ltI (0:Int) (lenL t3.2.2.2.2.1) then ob (oK (t3.2.2.2.2.1,())) fun x4=>ob (catS (ByteArray.mk #[47]) x4.1) fun x5=>ob (catS t3.2.1 x5) fun x6=>some (.inl (x6,())) else some (.inl (t3.2.1,()))) fun q7=>bB q7 (fun t8=>some (t8.1,())) fun q9=>b0 q9) fun q10=>b0 q10
theorem F4:(aA C9 lW).OK Tryz.prog 76:=d4 mixed [134] (.l (.l (.seq (.join [(.normal,⟨[.slot 1,.slot 3,.box 1 3],[.lit (.box 1 0),.str,.bool,.sl 1,.sl 1]⟩)] .leaf) (.seq (.join [(.normal,⟨[.slot 3],[.str]⟩)] .leaf) .leaf)))) (.cs Tryz.func134 RQ <| .nil) Tryz.func76 fun _=>by kernel_rfl
def N5:Sig:=⟨1,0,⟨[.aggs 0 3],[.bool,.sl 1,.sl 1]⟩,1,[],0,⟨[.slot 0],[I6]⟩,18⟩
noncomputable def oM(t:Bool×List T×List T×Unit):Option (Int×Unit):=bif eqI (lenL t.2.1) (0:Int) then some ((0:Int),()) else bif t.1 then some ((-1:Int),()) else some ((1:Int),())
theorem RT:(aA N5 oM).OK Tryz.prog 243:=d4 mixed [] .leaf .nil Tryz.func243 fun _=>by kernel_rfl
def qA:Sig:=⟨1,0,⟨[.aggs 0 3],[.bool,.sl 1,.sl 1]⟩,1,[],0,⟨[.slot 0],[.bool]⟩,14⟩
noncomputable def u_ref24_Integer(t:Bool×List T×List T×Unit):Option (Bool×Unit):=some (eqI (lenL t.2.2.1) (0:Int),())
theorem yY:(aA qA u_ref24_Integer).OK Tryz.prog 74:=d4 mixed [] .leaf .nil Tryz.func74 fun _=>by kernel_rfl
def qB:Sig:=⟨1,0,⟨[.aggs 0 3],[.bool,.sl 1,.sl 1]⟩,2,[],0,⟨[.slot 0,.slot 1],[.str,.bool]⟩,98⟩
noncomputable def yZ:List (FuncId×Callee):=[(74,(aA qA u_ref24_Integer)),(75,(aA C8 oL)),(19,Bi (aA sH u_ref02_Int)),(20,Bi (aA xW nK)),(76,(aA C9 lW))]
noncomputable def m6(s0:Unit×Unit×Int×Bool×List T×List T×Bool×List T×List T×Unit):Option (Unit×Unit×Int×Bool×List T×List T×Bool×List T×List T×Unit⊕ByteArray×Bool×Unit⊕Unit×Unit×Int×Bool×List T×List T×Bool×List T×List T×Unit⊕Empty):=ob (u_ref24_Integer (s0.2.2.2.2.2.2.1,s0.2.2.2.2.2.2.2.1,s0.2.2.2.2.2.2.2.2.1,())) fun x1=>bif Bool.not x1.1 then ob (oL (s0.2.2.2.1,s0.2.2.2.2.1,s0.2.2.2.2.2.1,())) fun x2=>bif ltI x2.1 s0.2.2.1 then some (.inr (.inl (ByteArray.mk #[],false,()))) else ob (u_ref02_Int ((10:Int),())) fun x3=>ob (nK (s0.2.2.2.2.2.2.1,s0.2.2.2.2.2.2.2.1,s0.2.2.2.2.2.2.2.2.1,x3.1,x3.2.1,x3.2.2.1,())) fun x4=>some (.inl ((),(),wr .i64 (addI s0.2.2.1 (1:Int)),s0.2.2.2.1,s0.2.2.2.2.1,s0.2.2.2.2.2.1,x4.1,x4.2.1,x4.2.2.1,())) else some (.inr (.inr (.inl ((),(),s0.2.2.1,s0.2.2.2.1,s0.2.2.2.2.1,s0.2.2.2.2.2.1,s0.2.2.2.2.2.2.1,s0.2.2.2.2.2.2.2.1,s0.2.2.2.2.2.2.2.2.1,()))))
noncomputable def tM(s10:Unit×Int×ByteArray×Bool×List T×List T×Unit):Option (Unit×Int×ByteArray×Bool×List T×List T×Unit⊕Unit×Int×ByteArray×Bool×List T×List T×Unit⊕Empty):=bif leI (lenS s10.2.2.1) s10.2.1 then ob (catS (ByteArray.mk #[48]) s10.2.2.1) fun x11=>some (.inl ((),s10.2.1,x11,s10.2.2.2.1,s10.2.2.2.2.1,s10.2.2.2.2.2.1,())) else some (.inr (.inl ((),s10.2.1,s10.2.2.1,s10.2.2.2.1,s10.2.2.2.2.1,s10.2.2.2.2.2.1,())))
noncomputable def fI(t:Bool×List T×List T×Unit):Option (ByteArray×Bool×Unit):=ob (aF m6 ((),(),(0:Int),t.1,t.2.1,t.2.2.1,false,t.2.1,t.2.2.1,())) fun q5=>bB q5 (fun t6=>some (t6.1,t6.2.1,())) fun q7=>bB q7 (fun t8=>ob (lW (t8.2.2.2.2.2.2.1,t8.2.2.2.2.2.2.2.1,t8.2.2.2.2.2.2.2.2.1,())) fun x9=>ob (aF tM ((),t8.2.2.1,x9.1,t8.2.2.2.1,t8.2.2.2.2.1,t8.2.2.2.2.2.1,())) fun q12=>bB q12 (fun t13=>ob (subS t13.2.2.1 (0:Int) (wr .i64 (subI (lenS t13.2.2.1) t13.2.1))) fun x14=>ob (catS x14 (ByteArray.mk #[46])) fun x15=>ob (subS t13.2.2.1 (wr .i64 (subI (lenS t13.2.2.1) t13.2.1)) (lenS t13.2.2.1)) fun x16=>ob (catS x15 x16) fun x17=>ob (α:=ByteArray×Unit⊕Empty) (bif t13.2.2.2.1 then ob (catS (ByteArray.mk #[45]) x17) fun x18=>some (.inl (x18,())) else some (.inl (x17,()))) fun q19=>bB q19 (fun t20=>some (t20.1,true,())) fun q21=>b0 q21) fun q22=>b0 q22) fun q23=>b0 q23
def y4:HT:=(.l (.l (.l (.l (.seq (.one (.loop ⟨[.slot 1,.slot 4,.slot 5,.box 1 3,.box 4 3],[.lit (.box 1 0),.lit (.box 4 0),I6,.bool,.sl 1,.sl 1,.bool,.sl 1,.sl 1]⟩ [(.ret,⟨[.slot 2,.slot 3],[.str,.bool]⟩),((.exit 0),⟨[.slot 1,.slot 4,.slot 5,.box 1 3,.box 4 3],[.lit (.box 1 0),.lit (.box 4 0),I6,.bool,.sl 1,.sl 1,.bool,.sl 1,.sl 1]⟩)] .leaf)) (.l (.seq (.one (.loop ⟨[.slot 1,.slot 5,.slot 6,.box 1 3],[.lit (.box 1 0),I6,.str,.bool,.sl 1,.sl 1]⟩ [((.exit 2),⟨[.slot 1,.slot 5,.slot 6,.box 1 3],[.lit (.box 1 0),I6,.str,.bool,.sl 1,.sl 1]⟩)] .leaf)) (.l (.seq (.join [(.normal,⟨[.slot 7],[.str]⟩)] .leaf) .leaf)))))))))
theorem HP:TabOK Tryz.prog [74,75,1000019,1000020,76] yZ:=(.cs Tryz.func74 yY (.cs Tryz.func75 RS (TabOK.consP (fun _=>⟨_,Tryz.func19,by kernel_rfl,by kernel_rfl⟩) (xR qY) (sE (aB _ _)) (fun h=>by cases h) (fun _=>dJ (aB _ _)) (fun _=>(dJ (aB _ _)).framed) (by kernel_rfl) (TabOK.consP (fun _=>⟨_,Tryz.func20,by kernel_rfl,by kernel_rfl⟩) (xR UA) (sE (aB _ _)) (fun h=>by cases h) (fun _=>dJ (aB _ _)) (fun _=>(dJ (aB _ _)).framed) (by kernel_rfl) (.cs Tryz.func76 F4 TabOK.nil)))))
theorem JI:∀t,pH Tryz.prog yZ [74,75,1000019,1000020,76] y4 Tryz.f24 qB t=fI t:=fun _=>by kernel_rfl
theorem JJ:(aA qB fI).OK Tryz.prog 24:=d4 mixed [74,75,1000019,1000020,76] y4 HP Tryz.func24 JI
def JK:Sig:=⟨1,0,⟨[.slot 0],[.sl 1]⟩,1,[],0,⟨[.slot 0],[I6]⟩,40⟩
noncomputable def oN(t:List T×Unit):Option (Int×Unit):=ob (aU (t.1,())) fun x0=>bif eqI (lenL x0.1) (0:Int) then some ((0:Int),()) else ob (idxL x0.1 (wr .i64 (subI (lenL x0.1) (1:Int)))) fun x1=>ob (T.int? .u32 (T.cell x1 0)) fun x2=>ob (u_math_bits_Len32 (x2,())) fun x3=>some (wr .i64 (addI (wr .i64 (mulI (32:Int) (wr .i64 (subI (lenL x0.1) (1:Int))))) x3.1),())
theorem MP:(aA JK oN).OK Tryz.prog 114:=d4 mixed [169] .leaf (.cs Tryz.func113 eW <| .cs Tryz.func169 uT <| .nil) Tryz.func114 fun _=>by kernel_rfl
def HQ:Sig:=⟨1,0,⟨[.aggs 0 3],[.bool,.sl 1,.sl 1]⟩,1,[],0,⟨[.slot 0],[I6]⟩,22⟩
noncomputable def gV(t:Bool×List T×List T×Unit):Option (Int×Unit):=ob (oN (t.2.1,())) fun x0=>bif eqI x0.1 (0:Int) then some ((0:Int),()) else bif t.1 then some ((-1:Int),()) else some ((1:Int),())
theorem JL:(aA HQ gV).OK Tryz.prog 236:=d4 mixed [114] .leaf (.cs Tryz.func114 MP <| .nil) Tryz.func236 fun _=>by kernel_rfl
def tN:Sig:=⟨1,0,⟨[.slot 0],[.int .u8]⟩,1,[],0,⟨[.slot 0],[.bool]⟩,18⟩
noncomputable def eS(t:Int×Unit):Option (Bool×Unit):=bif leI (48:Int) t.1 then some (leI t.1 (57:Int),()) else some (false,())
theorem mJ:(aA tN eS).OK Tryz.prog 197:=d4 mixed [] .leaf .nil Tryz.func197 fun _=>by kernel_rfl
def A5:Sig:=⟨1,0,⟨[.slot 0],[.int .u8]⟩,1,[],0,⟨[.slot 0],[.bool]⟩,18⟩
noncomputable def fX(t:Int×Unit):Option (Bool×Unit):=bif leI (65:Int) t.1 then some (leI t.1 (90:Int),()) else some (false,())
theorem vN:(aA A5 fX).OK Tryz.prog 195:=d4 mixed [] .leaf .nil Tryz.func195 fun _=>by kernel_rfl
def DA:Sig:=⟨1,0,⟨[.slot 0],[.int .u8]⟩,1,[],0,⟨[.slot 0],[.bool]⟩,34⟩
noncomputable def oO(t:Int×Unit):Option (Bool×Unit):=ob (fX (t.1,())) fun x0=>bif x0.1 then some (true,()) else ob (eS (t.1,())) fun x1=>bif x1.1 then some (true,()) else bif eqI t.1 (95:Int) then some (true,()) else some (eqI t.1 (45:Int),())
theorem F5:(aA DA oO).OK Tryz.prog 196:=d4 mixed [195,197] .leaf (.cs Tryz.func195 vN <| .cs Tryz.func197 mJ <| .nil) Tryz.func196 fun _=>by kernel_rfl
def A6:Sig:=⟨1,0,⟨[.slot 0],[.int .u8]⟩,1,[],0,⟨[.slot 0],[.bool]⟩,26⟩
noncomputable def mK(t:Int×Unit):Option (Bool×Unit):=ob (fX (t.1,())) fun x0=>bif x0.1 then some (true,()) else ob (eS (t.1,())) fun x1=>bif x1.1 then some (true,()) else some (eqI t.1 (95:Int),())
theorem DB:(aA A6 mK).OK Tryz.prog 200:=d4 mixed [195,197] .leaf (.cs Tryz.func195 vN <| .cs Tryz.func197 mJ <| .nil) Tryz.func200 fun _=>by kernel_rfl
def m7:Sig:=⟨3,0,⟨[.slot 0,.slot 1,.slot 2],[.str,I6,.lit (.t (.v (.func (.func 197) #[] #[])))]⟩,1,[],0,⟨[.slot 0],[I6]⟩,42⟩
noncomputable def iE(s0:ByteArray×Int×Unit×Unit):Option (ByteArray×Int×Unit×Unit⊕Int×Unit⊕Empty):=bif ltI s0.2.1 (lenS s0.1) then ob (r7 s0.1 s0.2.1) fun x1=>ob (eS (x1,())) fun x2=>bif x2.1 then some (.inl (s0.1,wr .i64 (addI s0.2.1 (1:Int)),(),())) else some (.inr (.inl (s0.2.1,()))) else some (.inr (.inl (s0.2.1,())))
noncomputable def cS(t:ByteArray×Int×Unit×Unit):Option (Int×Unit):=ob (aF iE (t.1,t.2.1,(),())) fun q3=>bB q3 (fun t4=>some (t4.1,())) fun q5=>b0 q5
theorem u4:(aA m7 cS).OK Tryz.prog 193:=d4 mixed [197] (.l (.seq (.one (.loop ⟨[.slot 0,.slot 1,.slot 2],[.str,I6,.lit (C.t (T.v (Go.Value.func (Go.Fn.func 197) #[] #[])))]⟩ [((.exit 0),⟨[.slot 1],[I6]⟩)] .leaf)) .leaf)) (.cs Tryz.func197 mJ <| .nil) Tryz.func193 fun _=>by kernel_rfl
def oP:Sig:=⟨3,0,⟨[.slot 0,.slot 1,.slot 2],[.str,I6,.lit (.t (.v (.func (.func 196) #[] #[])))]⟩,1,[],0,⟨[.slot 0],[I6]⟩,42⟩
noncomputable def iQ(s0:ByteArray×Int×Unit×Unit):Option (ByteArray×Int×Unit×Unit⊕Int×Unit⊕Empty):=bif ltI s0.2.1 (lenS s0.1) then ob (r7 s0.1 s0.2.1) fun x1=>ob (oO (x1,())) fun x2=>bif x2.1 then some (.inl (s0.1,wr .i64 (addI s0.2.1 (1:Int)),(),())) else some (.inr (.inl (s0.2.1,()))) else some (.inr (.inl (s0.2.1,())))
noncomputable def f8(t:ByteArray×Int×Unit×Unit):Option (Int×Unit):=ob (aF iQ (t.1,t.2.1,(),())) fun q3=>bB q3 (fun t4=>some (t4.1,())) fun q5=>b0 q5
theorem wT:(aA oP f8).OK Tryz.prog 193:=d4 mixed [196] (.l (.seq (.one (.loop ⟨[.slot 0,.slot 1,.slot 2],[.str,I6,.lit (C.t (T.v (Go.Value.func (Go.Fn.func 196) #[] #[])))]⟩ [((.exit 0),⟨[.slot 1],[I6]⟩)] .leaf)) .leaf)) (.cs Tryz.func196 F5 <| .nil) Tryz.func193 fun _=>by kernel_rfl
def m8:Sig:=⟨3,0,⟨[.slot 0,.slot 1,.slot 2],[.str,I6,.lit (.t (.v (.func (.func 200) #[] #[])))]⟩,1,[],0,⟨[.slot 0],[I6]⟩,42⟩
noncomputable def iF(s0:ByteArray×Int×Unit×Unit):Option (ByteArray×Int×Unit×Unit⊕Int×Unit⊕Empty):=bif ltI s0.2.1 (lenS s0.1) then ob (r7 s0.1 s0.2.1) fun x1=>ob (mK (x1,())) fun x2=>bif x2.1 then some (.inl (s0.1,wr .i64 (addI s0.2.1 (1:Int)),(),())) else some (.inr (.inl (s0.2.1,()))) else some (.inr (.inl (s0.2.1,())))
noncomputable def fB(t:ByteArray×Int×Unit×Unit):Option (Int×Unit):=ob (aF iF (t.1,t.2.1,(),())) fun q3=>bB q3 (fun t4=>some (t4.1,())) fun q5=>b0 q5
theorem u5:(aA m8 fB).OK Tryz.prog 193:=d4 mixed [200] (.l (.seq (.one (.loop ⟨[.slot 0,.slot 1,.slot 2],[.str,I6,.lit (C.t (T.v (Go.Value.func (Go.Fn.func 200) #[] #[])))]⟩ [((.exit 0),⟨[.slot 1],[I6]⟩)] .leaf)) .leaf)) (.cs Tryz.func200 DB <| .nil) Tryz.func193 fun _=>by kernel_rfl
def A7:Sig:=⟨2,0,⟨[.slot 0,.slot 1],[.str,I6]⟩,1,[],0,⟨[.slot 0],[.int .u8]⟩,24⟩
noncomputable def gJ(t:ByteArray×Int×Unit):Option (Int×Unit):=bif ltI t.2.1 (lenS t.1) then ob (r7 t.1 t.2.1) fun x0=>some (x0,()) else some ((0:Int),())
theorem xX:(aA A7 gJ).OK Tryz.prog 201:=d4 mixed [] .leaf .nil Tryz.func201 fun _=>by kernel_rfl
def y5:Sig:=⟨1,0,⟨[.slot 0],[.int .u8]⟩,1,[],0,⟨[.slot 0],[I6]⟩,36⟩
noncomputable def gK(t:Int×Unit):Option (Int×Unit):=bif eqI t.1 (40:Int) then some ((6:Int),()) else bif eqI t.1 (41:Int) then some ((7:Int),()) else bif eqI t.1 (44:Int) then some ((8:Int),()) else bif eqI t.1 (59:Int) then some ((9:Int),()) else bif eqI t.1 (61:Int) then some ((10:Int),()) else bif eqI t.1 (36:Int) then some ((11:Int),()) else bif eqI t.1 (42:Int) then some ((12:Int),()) else some ((0:Int),())
theorem A8:(aA y5 gK).OK Tryz.prog 159:=d4 mixed [] .leaf .nil Tryz.func159 fun _=>by kernel_rfl
def DC:Sig:=⟨2,0,⟨[.slot 0,.slot 1],[.str,I6]⟩,1,[],0,⟨[.slot 0],[I6]⟩,36⟩
noncomputable def lX(t:ByteArray×Int×Unit):Option (Int×Unit):=ob (gJ (t.1,t.2.1,())) fun x0=>bif eqI x0.1 (43:Int) then some (wr .i64 (addI t.2.1 (1:Int)),()) else bif eqI x0.1 (45:Int) then some (wr .i64 (addI t.2.1 (1:Int)),()) else some (t.2.1,())
theorem RU:(aA DC lX).OK Tryz.prog 233:=d4 mixed [201] .leaf (.cs Tryz.func201 xX <| .nil) Tryz.func233 fun _=>by kernel_rfl
def rU:Sig:=⟨2,0,⟨[.slot 0,.slot 1],[.str,I6]⟩,1,[],0,⟨[.slot 0],[I6]⟩,88⟩
noncomputable def A9:List (FuncId×Callee):=[(233,(aA DC lX)),(193,(Gg (XZ 2 197) (aA m7 cS) (Gg (XZ 2 196) (aA oP f8) (aA m8 fB)))),(197,(aA tN eS)),(201,(aA A7 gJ))]
noncomputable def eB(t:ByteArray×Int×Unit):Option (Int×Unit):=ob (lX (t.1,t.2.1,())) fun x0=>ob (cS (t.1,x0.1,(),())) fun x1=>bif eqI x1.1 x0.1 then some (t.2.1,()) else ob (gJ (t.1,x1.1,())) fun x2=>bif Bool.not (eqI x2.1 (46:Int)) then some (x1.1,()) else ob (cS (t.1,wr .i64 (addI x1.1 (1:Int)),(),())) fun x3=>ob (gJ (t.1,x3.1,())) fun x4=>bif Bool.not (eqI x4.1 (69:Int)) then some (x3.1,()) else ob (lX (t.1,wr .i64 (addI x3.1 (1:Int)),())) fun x5=>ob (cS (t.1,x5.1,(),())) fun x6=>bif ltI x5.1 x6.1 then some (x6.1,()) else some (x3.1,())
def BA:HT:=.leaf
theorem JM:TabOK Tryz.prog [233,193,197,201] A9:=(.cs Tryz.func233 RU (TabOK.cons (fun _=>⟨_,Tryz.func193,by kernel_rfl,by kernel_rfl⟩) (QV u4 (QV wT u5)) (uO (aB _ _) (uO (aB _ _) (aB _ _))) (fun _=>(FP (bM (by kernel_rfl)) (FP (bM (by kernel_rfl)) (bM (by kernel_rfl))))) (by kernel_rfl) (fun _=>aP (uO (aB _ _) (uO (aB _ _) (aB _ _))) rfl rfl) (by kernel_rfl) (.cs Tryz.func197 mJ (.cs Tryz.func201 xX TabOK.nil))))
theorem MQ:∀t,pH Tryz.prog A9 [233,193,197,201] BA Tryz.f198 rU t=eB t:=fun _=>by kernel_rfl
theorem MR:(aA rU eB).OK Tryz.prog 198:=d4 mixed [233,193,197,201] BA JM Tryz.func198 MQ
def y6:Sig:=⟨2,0,⟨[.slot 0,.slot 1],[.str,I6]⟩,2,[],0,⟨[.slot 0,.slot 1],[I6,.str]⟩,104⟩
noncomputable def iG(s0:ByteArray×Int×List T×Int×Unit):Option (ByteArray×Int×List T×Int×Unit⊕Int×ByteArray×Unit⊕Int×Unit⊕Empty):=bif ltI s0.2.2.2.1 (lenS s0.1) then ob (r7 s0.1 s0.2.2.2.1) fun x1=>ob (α:=Int×ByteArray×Unit⊕ByteArray×Int×List T×Int×Int×Unit⊕Empty) (bif ltI x1 (32:Int) then some (.inl (s0.2.1,ByteArray.mk #[],())) else bif ltI (126:Int) x1 then some (.inl (s0.2.1,ByteArray.mk #[],())) else bif eqI x1 (39:Int) then ob (gJ (s0.1,wr .i64 (addI s0.2.2.2.1 (1:Int)),())) fun x2=>bif Bool.not (eqI x2.1 (39:Int)) then ob (strOf s0.2.2.1) fun x3=>some (.inl (wr .i64 (addI s0.2.2.2.1 (1:Int)),x3,())) else bif eqI x1 (39:Int) then some (.inr (.inl (s0.1,s0.2.1,s0.2.2.1,wr .i64 (addI s0.2.2.2.1 (1:Int)),x1,()))) else some (.inr (.inl (s0.1,s0.2.1,s0.2.2.1,s0.2.2.2.1,x1,()))) else bif eqI x1 (39:Int) then some (.inr (.inl (s0.1,s0.2.1,s0.2.2.1,wr .i64 (addI s0.2.2.2.1 (1:Int)),x1,()))) else some (.inr (.inl (s0.1,s0.2.1,s0.2.2.1,s0.2.2.2.1,x1,())))) fun q4=>bB q4 (fun t5=>some (.inr (.inl (t5.1,t5.2.1,())))) fun q6=>bB q6 (fun t7=>ob (room t7.2.2.1 [T.v (.int .u8 t7.2.2.2.2.1)] 1) fun x8=>some (.inl (t7.1,t7.2.1,x8,wr .i64 (addI t7.2.2.2.1 (1:Int)),()))) fun q9=>b0 q9 else some (.inr (.inr (.inl (s0.2.1,()))))
noncomputable def lF(t:ByteArray×Int×Unit):Option (Int×ByteArray×Unit):=ob (aF iG (t.1,t.2.1,[],wr .i64 (addI t.2.1 (1:Int)),())) fun q10=>bB q10 (fun t11=>some (t11.1,t11.2.1,())) fun q12=>bB q12 (fun t13=>some (t13.1,ByteArray.mk #[],())) fun q14=>b0 q14
theorem MS:(aA y6 lF).OK Tryz.prog 199:=d4 mixed [201] (.l (.l (.seq (.l (.one (.loop ⟨[.slot 0,.slot 1,.slot 6,.slot 7],[.str,I6,.row 5 1 50,I6]⟩ [(.ret,⟨[.slot 4,.slot 5],[I6,.str]⟩),((.exit 0),⟨[.slot 1],[I6]⟩)] (.l (.seq (.one (.l (.seq (.join [(.ret,⟨[.slot 4,.slot 5],[I6,.str]⟩),(.normal,⟨[.slot 0,.slot 1,.slot 6,.slot 7,.slot 8],[.str,I6,.row 5 1 50,I6,.int .u8]⟩)] .leaf) .leaf))) .leaf))))) .leaf))) (.cs Tryz.func201 xX <| .nil) Tryz.func199 fun _=>by kernel_rfl
def BB:Sig:=⟨2,0,⟨[.slot 0,.slot 1],[.str,I6]⟩,2,[],0,⟨[.aggs 0 3,.slot 1],[I6,.str,I6,I6]⟩,238⟩
noncomputable def DD:List (FuncId×Callee):=[(195,(aA A5 fX)),(193,(Gg (XZ 2 197) (aA m7 cS) (Gg (XZ 2 196) (aA oP f8) (aA m8 fB)))),(196,(aA DA oO)),(197,(aA tN eS)),(198,(aA rU eB)),(199,(aA y6 lF)),(200,(aA A6 mK)),(201,(aA A7 gJ)),(159,(aA y5 gK)),(2000000,jU [99999] [77,99,117])]
noncomputable def iK(t:ByteArray×Int×Unit):Option (Int×ByteArray×Int×Int×Unit):=ob (r7 t.1 t.2.1) fun x0=>ob (α:=Unit×Unit×Int×Int×ByteArray×Int×Int×ByteArray×Int×Unit⊕Unit×Int×Int×ByteArray×Int×Unit⊕Empty) (ob (fX (x0,())) fun x1=>bif x1.1 then ob (f8 (t.1,t.2.1,(),())) fun x2=>ob (subS t.1 t.2.1 x2.1) fun x3=>some (.inl ((),(),x2.1,(0:Int),ByteArray.mk #[],(0:Int),(1:Int),x3,t.2.1,())) else ob (eS (x0,())) fun x4=>bif x4.1 then ob (eB (t.1,t.2.1,())) fun x5=>ob (subS t.1 t.2.1 x5.1) fun x6=>some (.inl ((),(),x5.1,(0:Int),ByteArray.mk #[],(0:Int),(2:Int),x6,t.2.1,())) else bif eqI x0 (43:Int) then ob (eB (t.1,t.2.1,())) fun x7=>ob (subS t.1 t.2.1 x7.1) fun x8=>some (.inl ((),(),x7.1,(0:Int),ByteArray.mk #[],(0:Int),(2:Int),x8,t.2.1,())) else bif eqI x0 (45:Int) then ob (eB (t.1,t.2.1,())) fun x9=>ob (subS t.1 t.2.1 x9.1) fun x10=>some (.inl ((),(),x9.1,(0:Int),ByteArray.mk #[],(0:Int),(2:Int),x10,t.2.1,())) else bif eqI x0 (39:Int) then ob (lF (t.1,t.2.1,())) fun x11=>some (.inl ((),(),x11.1,(0:Int),ByteArray.mk #[],(0:Int),(3:Int),x11.2.1,t.2.1,())) else bif eqI x0 (46:Int) then ob (fB (t.1,wr .i64 (addI t.2.1 (1:Int)),(),())) fun x12=>ob (gJ (t.1,wr .i64 (addI t.2.1 (1:Int)),())) fun x13=>ob (fX (x13.1,())) fun x14=>bif Bool.not x14.1 then some (.inr (.inl ((),t.2.1,(0:Int),ByteArray.mk #[],t.2.1,()))) else ob (gJ (t.1,x12.1,())) fun x15=>bif Bool.not (eqI x15.1 (46:Int)) then some (.inr (.inl ((),t.2.1,(0:Int),ByteArray.mk #[],t.2.1,()))) else ob (subS t.1 (wr .i64 (addI t.2.1 (1:Int))) x12.1) fun x16=>some (.inl ((),(),wr .i64 (addI x12.1 (1:Int)),(0:Int),ByteArray.mk #[],(0:Int),(4:Int),x16,t.2.1,())) else bif eqI x0 (35:Int) then ob (cS (t.1,wr .i64 (addI t.2.1 (1:Int)),(),())) fun x17=>bif eqI x17.1 (wr .i64 (addI t.2.1 (1:Int))) then some (.inr (.inl ((),t.2.1,(0:Int),ByteArray.mk #[],t.2.1,()))) else ob (subS t.1 (wr .i64 (addI t.2.1 (1:Int))) x17.1) fun x18=>some (.inl ((),(),x17.1,(0:Int),ByteArray.mk #[],(0:Int),(5:Int),x18,t.2.1,())) else ob (gK (x0,())) fun x19=>bif Bool.not (eqI x19.1 (0:Int)) then ob (gK (x0,())) fun x20=>some (.inl ((),(),wr .i64 (addI t.2.1 (1:Int)),(0:Int),ByteArray.mk #[],(0:Int),x20.1,ByteArray.mk #[],t.2.1,())) else some (.inl ((),(),t.2.1,(0:Int),ByteArray.mk #[],(0:Int),(0:Int),ByteArray.mk #[],t.2.1,()))) fun q21=>bB q21 (fun t22=>some (t22.2.2.2.2.2.2.1,t22.2.2.2.2.2.2.2.1,t22.2.2.2.2.2.2.2.2.1,t22.2.2.1,())) fun q23=>bB q23 (fun t24=>some (t24.2.2.1,t24.2.2.2.1,t24.2.2.2.2.1,t24.2.1,())) fun q25=>b0 q25
def DE:HT:=(.l (.l (.l (.l (.seq (.join [(.normal,⟨[.slot 4,.slot 6,.slot 8,.box 4 3,.box 6 3],[.lit (.box 4 0),.lit (.box 6 0),I6,I6,.str,I6,I6,.str,I6]⟩),(.ret,⟨[.slot 4,.slot 5,.box 4 3],[.lit (.box 4 0),I6,I6,.str,I6]⟩)] .leaf) .leaf)))))
theorem MT:TabOK Tryz.prog [195,193,196,197,198,199,200,201,159,9000000,4000195,4000193,4000196,4000197,4000198,4000199,4000200,4000201,4000159,20000077,20000099,20000117] DD:=(.cs Tryz.func195 vN (TabOK.cons (fun _=>⟨_,Tryz.func193,by kernel_rfl,by kernel_rfl⟩) (QV u4 (QV wT u5)) (uO (aB _ _) (uO (aB _ _) (aB _ _))) (fun _=>(FP (bM (by kernel_rfl)) (FP (bM (by kernel_rfl)) (bM (by kernel_rfl))))) (by kernel_rfl) (fun _=>aP (uO (aB _ _) (uO (aB _ _) (aB _ _))) rfl rfl) (by kernel_rfl) (.cs Tryz.func196 F5 (.cs Tryz.func197 mJ (.cs Tryz.func198 MR (.cs Tryz.func199 MS (.cs Tryz.func200 DB (.cs Tryz.func201 xX (.cs Tryz.func159 A8 (TabOK.flag (by kernel_rfl) (by kernel_rfl) (by kernel_rfl) (by kernel_rfl) (by kernel_rfl)))))))))))
theorem N6:∀t,pH Tryz.prog DD [195,193,196,197,198,199,200,201,159,9000000,4000195,4000193,4000196,4000197,4000198,4000199,4000200,4000201,4000159,20000077,20000099,20000117] DE Tryz.f144 BB t=iK t:=fun _=>by kernel_rfl
theorem N7:(aA BB iK).OK Tryz.prog 144:=d4 mixed [195,193,196,197,198,199,200,201,159,9000000,4000195,4000193,4000196,4000197,4000198,4000199,4000200,4000201,4000159,20000077,20000099,20000117] DE MT Tryz.func144 N6
def DF:Sig:=⟨1,0,⟨[.slot 0],[I6]⟩,1,[],0,⟨[.slot 0],[.bool]⟩,18⟩
noncomputable def lY(t:Int×Unit):Option (Bool×Unit):=bif leI (1:Int) t.1 then some (leI t.1 (5:Int),()) else some (false,())
theorem F6:(aA DF lY).OK Tryz.prog 95:=d4 mixed [] .leaf .nil Tryz.func95 fun _=>by kernel_rfl
def MU:Sig:=⟨1,0,⟨[.slot 0],[.int .u8]⟩,1,[],0,⟨[.slot 0],[.bool]⟩,18⟩
noncomputable def qM(t:Int×Unit):Option (Bool×Unit):=bif leI (65:Int) t.1 then some (leI t.1 (90:Int),()) else some (false,())
theorem N8:(aA MU qM).OK Tryz.prog 174:=d4 mixed [] .leaf .nil Tryz.func174 fun _=>by kernel_rfl
def MV:Sig:=⟨1,0,⟨[.slot 0],[.int .u8]⟩,1,[],0,⟨[.slot 0],[.bool]⟩,18⟩
noncomputable def qN(t:Int×Unit):Option (Bool×Unit):=bif leI (48:Int) t.1 then some (leI t.1 (57:Int),()) else some (false,())
theorem DG:(aA MV qN).OK Tryz.prog 175:=d4 mixed [] .leaf .nil Tryz.func175 fun _=>by kernel_rfl
def N9:Sig:=⟨1,0,⟨[.slot 0],[.str]⟩,1,[],0,⟨[.slot 0],[I6]⟩,32⟩
noncomputable def oQ(t:ByteArray×Unit):Option (Int×Unit):=bif ltI (0:Int) (lenS t.1) then ob (r7 t.1 (0:Int)) fun x0=>bif eqI x0 (43:Int) then some ((1:Int),()) else ob (r7 t.1 (0:Int)) fun x1=>bif eqI x1 (45:Int) then some ((1:Int),()) else some ((0:Int),()) else some ((0:Int),())
theorem RV:(aA N9 oQ).OK Tryz.prog 176:=d4 mixed [] .leaf .nil Tryz.func176 fun _=>by kernel_rfl
def JN:Sig:=⟨1,0,⟨[.slot 0],[.str]⟩,1,[],0,⟨[.slot 0],[I6]⟩,34⟩
noncomputable def kM(s0:ByteArray×Int×Unit):Option (ByteArray×Int×Unit⊕Int×Unit⊕Empty):=bif ltI s0.2.1 (lenS s0.1) then ob (r7 s0.1 s0.2.1) fun x1=>ob (qN (x1,())) fun x2=>bif x2.1 then some (.inl (s0.1,wr .i64 (addI s0.2.1 (1:Int)),())) else some (.inr (.inl (s0.2.1,()))) else some (.inr (.inl (s0.2.1,())))
noncomputable def gL(t:ByteArray×Unit):Option (Int×Unit):=ob (aF kM (t.1,(0:Int),())) fun q3=>bB q3 (fun t4=>some (t4.1,())) fun q5=>b0 q5
theorem BC:(aA JN gL).OK Tryz.prog 119:=d4 mixed [175] (.l (.l (.seq (.one (.loop ⟨[.slot 0,.slot 3],[.str,I6]⟩ [((.exit 0),⟨[.slot 3],[I6]⟩)] .leaf)) .leaf))) (.cs Tryz.func175 DG <| .nil) Tryz.func119 fun _=>by kernel_rfl
def OA:Sig:=⟨2,0,⟨[.slot 0,.slot 1],[.str,.bool]⟩,1,[],0,⟨[.slot 0],[I6]⟩,98⟩
noncomputable def mS(s2:ByteArray×Bool×Int×Unit):Option (ByteArray×Bool×Int×Unit⊕Int×Unit⊕Empty):=bif ltI s2.2.2.1 (lenS s2.1) then ob (r7 s2.1 s2.2.2.1) fun x3=>ob (qM (x3,())) fun x4=>bif x4.1 then some (.inl (s2.1,s2.2.1,wr .i64 (addI s2.2.2.1 (1:Int)),())) else ob (r7 s2.1 s2.2.2.1) fun x5=>ob (qN (x5,())) fun x6=>bif x6.1 then some (.inl (s2.1,s2.2.1,wr .i64 (addI s2.2.2.1 (1:Int)),())) else ob (r7 s2.1 s2.2.2.1) fun x7=>bif eqI x7 (95:Int) then some (.inl (s2.1,s2.2.1,wr .i64 (addI s2.2.2.1 (1:Int)),())) else bif s2.2.1 then ob (r7 s2.1 s2.2.2.1) fun x8=>bif eqI x8 (45:Int) then some (.inl (s2.1,s2.2.1,wr .i64 (addI s2.2.2.1 (1:Int)),())) else some (.inr (.inl (s2.2.2.1,()))) else some (.inr (.inl (s2.2.2.1,()))) else some (.inr (.inl (s2.2.2.1,())))
noncomputable def oR(t:ByteArray×Bool×Unit):Option (Int×Unit):=bif eqI (lenS t.1) (0:Int) then some ((0:Int),()) else ob (r7 t.1 (0:Int)) fun x0=>ob (qM (x0,())) fun x1=>bif Bool.not x1.1 then some ((0:Int),()) else ob (aF mS (t.1,t.2.1,(1:Int),())) fun q9=>bB q9 (fun t10=>some (t10.1,())) fun q11=>b0 q11
theorem RW:(aA OA oR).OK Tryz.prog 117:=d4 mixed [174,175] (.l (.l (.l (.seq (.one (.loop ⟨[.slot 0,.slot 1,.slot 5],[.str,.bool,I6]⟩ [((.exit 0),⟨[.slot 5],[I6]⟩)] .leaf)) .leaf)))) (.cs Tryz.func174 N8 <| .cs Tryz.func175 DG <| .nil) Tryz.func117 fun _=>by kernel_rfl
def JO:Sig:=⟨1,0,⟨[.slot 0],[.str]⟩,1,[],0,⟨[.slot 0],[I6]⟩,130⟩
noncomputable def oS(t:ByteArray×Unit):Option (Int×Unit):=ob (oQ (t.1,())) fun x0=>ob (subS t.1 x0.1 (lenS t.1)) fun x1=>ob (gL (x1,())) fun x2=>bif eqI x2.1 (0:Int) then some ((0:Int),()) else bif eqI (wr .i64 (addI x0.1 x2.1)) (lenS t.1) then some (wr .i64 (addI x0.1 x2.1),()) else ob (r7 t.1 (wr .i64 (addI x0.1 x2.1))) fun x3=>bif Bool.not (eqI x3 (46:Int)) then some (wr .i64 (addI x0.1 x2.1),()) else ob (subS t.1 (wr .i64 (addI (wr .i64 (addI x0.1 x2.1)) (1:Int))) (lenS t.1)) fun x4=>ob (gL (x4,())) fun x5=>ob (α:=Int×Unit⊕Int×Unit⊕Empty) (bif ltI (wr .i64 (addI (wr .i64 (addI (wr .i64 (addI x0.1 x2.1)) (1:Int))) x5.1)) (lenS t.1) then ob (r7 t.1 (wr .i64 (addI (wr .i64 (addI (wr .i64 (addI x0.1 x2.1)) (1:Int))) x5.1))) fun x6=>bif eqI x6 (69:Int) then ob (subS t.1 (wr .i64 (addI (wr .i64 (addI (wr .i64 (addI (wr .i64 (addI x0.1 x2.1)) (1:Int))) x5.1)) (1:Int))) (lenS t.1)) fun x7=>ob (oQ (x7,())) fun x8=>ob (subS t.1 (wr .i64 (addI (wr .i64 (addI (wr .i64 (addI (wr .i64 (addI (wr .i64 (addI x0.1 x2.1)) (1:Int))) x5.1)) (1:Int))) x8.1)) (lenS t.1)) fun x9=>ob (gL (x9,())) fun x10=>bif ltI (0:Int) x10.1 then some (.inl (wr .i64 (addI (wr .i64 (addI (wr .i64 (addI (wr .i64 (addI (wr .i64 (addI (wr .i64 (addI x0.1 x2.1)) (1:Int))) x5.1)) (1:Int))) x8.1)) x10.1),())) else some (.inr (.inl (wr .i64 (addI (wr .i64 (addI (wr .i64 (addI x0.1 x2.1)) (1:Int))) x5.1),()))) else some (.inr (.inl (wr .i64 (addI (wr .i64 (addI (wr .i64 (addI x0.1 x2.1)) (1:Int))) x5.1),()))) else some (.inr (.inl (wr .i64 (addI (wr .i64 (addI (wr .i64 (addI x0.1 x2.1)) (1:Int))) x5.1),())))) fun q11=>bB q11 (fun t12=>some (t12.1,())) fun q13=>bB q13 (fun t14=>some (t14.1,())) fun q15=>b0 q15
theorem MW:(aA JO oS).OK Tryz.prog 118:=d4 mixed [176,119] (.l (.l (.l (.l (.l (.l (.l (.l (.seq (.join [(.ret,⟨[.slot 2],[I6]⟩),(.normal,⟨[.slot 3],[I6]⟩)] .leaf) .leaf))))))))) (.cs Tryz.func176 RV <| .cs Tryz.func119 BC <| .nil) Tryz.func118 fun _=>by kernel_rfl
def MX:Sig:=⟨1,0,⟨[.slot 0],[.str]⟩,1,[],0,⟨[.slot 0],[.str]⟩,52⟩
noncomputable def i8(s0:ByteArray×ByteArray×Int×Unit):Option (ByteArray×ByteArray×Int×Unit⊕ByteArray×Unit⊕Empty):=bif ltI s0.2.2.1 (lenS s0.1) then ob (α:=ByteArray×ByteArray×Int×Unit⊕Empty) (ob (r7 s0.1 s0.2.2.1) fun x1=>bif eqI x1 (39:Int) then ob (catS s0.2.1 (ByteArray.mk #[39])) fun x2=>some (.inl (s0.1,x2,s0.2.2.1,())) else some (.inl (s0.1,s0.2.1,s0.2.2.1,()))) fun q3=>bB q3 (fun t4=>ob (subS t4.1 t4.2.2.1 (wr .i64 (addI t4.2.2.1 (1:Int)))) fun x5=>ob (catS t4.2.1 x5) fun x6=>some (.inl (t4.1,x6,wr .i64 (addI t4.2.2.1 (1:Int)),()))) fun q7=>b0 q7 else some (.inr (.inl (s0.2.1,())))
noncomputable def qO(t:ByteArray×Unit):Option (ByteArray×Unit):=ob (aF i8 (t.1,ByteArray.mk #[39],(0:Int),())) fun q8=>bB q8 (fun t9=>ob (catS t9.1 (ByteArray.mk #[39])) fun x10=>some (x10,())) fun q11=>b0 q11
theorem OB:(aA MX qO).OK Tryz.prog 161:=d4 mixed [] (.l (.l (.seq (.l (.one (.loop ⟨[.slot 0,.slot 3,.slot 4],[.str,.str,I6]⟩ [((.exit 0),⟨[.slot 3],[.str]⟩)] (.l (.seq (.one (.seq (.join [(.normal,⟨[.slot 0,.slot 3,.slot 4],[.str,.str,I6]⟩)] .leaf) .leaf)) .leaf))))) .leaf))) .nil Tryz.func161 fun _=>by kernel_rfl
def MY:Sig:=⟨1,0,⟨[.aggs 0 3],[I6,.str,I6]⟩,1,[],0,⟨[.slot 0],[.str]⟩,88⟩
noncomputable def qP(t:Int×ByteArray×Int×Unit):Option (ByteArray×Unit):=ob (α:=Unit×Int×Bool×Int×ByteArray×Int×Unit⊕Empty) (bif eqI t.1 (1:Int) then some (.inl ((),t.1,eqI t.1 (1:Int),t.1,t.2.1,t.2.2.1,())) else some (.inl ((),t.1,eqI t.1 (2:Int),t.1,t.2.1,t.2.2.1,()))) fun q0=>bB q0 (fun t1=>bif t1.2.2.1 then some (t1.2.2.2.2.1,()) else bif eqI t1.2.1 (3:Int) then ob (qO (t1.2.2.2.2.1,())) fun x2=>some (x2.1,()) else bif eqI t1.2.1 (4:Int) then ob (catS (ByteArray.mk #[46]) t1.2.2.2.2.1) fun x3=>ob (catS x3 (ByteArray.mk #[46])) fun x4=>some (x4,()) else bif eqI t1.2.1 (5:Int) then ob (catS (ByteArray.mk #[35]) t1.2.2.2.2.1) fun x5=>some (x5,()) else bif eqI t1.2.1 (9:Int) then some (ByteArray.mk #[59,10],()) else bif leI (6:Int) t1.2.2.2.1 then bif leI t1.2.2.2.1 (12:Int) then ob (subS (ByteArray.mk #[40,41,44,59,61,36,42]) (wr .i64 (subI t1.2.2.2.1 (6:Int))) (wr .i64 (addI (wr .i64 (subI t1.2.2.2.1 (6:Int))) (1:Int)))) fun x6=>some (x6,()) else some (ByteArray.mk #[],()) else some (ByteArray.mk #[],())) fun q7=>b0 q7
theorem OC:(aA MY qP).OK Tryz.prog 102:=d4 mixed [161] (.l (.seq (.l (.one (.seq (.join [(.normal,⟨[.slot 1,.slot 4,.slot 5,.box 1 3],[.lit (.box 1 0),I6,.bool,I6,.str,I6]⟩)] .leaf) .leaf))) .leaf)) (.cs Tryz.func161 OB <| .nil) Tryz.func102 fun _=>by kernel_rfl
def OD:Sig:=⟨1,0,⟨[.aggs 0 3],[I6,.str,I6]⟩,1,[],0,⟨[.slot 0],[.bool]⟩,22⟩
noncomputable def oT(t:Int×ByteArray×Int×Unit):Option (Bool×Unit):=bif leI (1:Int) t.1 then some (leI t.1 (5:Int),()) else some (false,())
theorem RX:(aA OD oT).OK Tryz.prog 101:=d4 mixed [] .leaf .nil Tryz.func101 fun _=>by kernel_rfl
def OE:Sig:=⟨1,0,⟨[.slot 0],[.sl 3]⟩,1,[],0,⟨[.slot 0],[.str]⟩,80⟩
noncomputable def gW(s0:List T×List T×Int×Unit):Option (List T×List T×Int×Unit⊕List T×Unit⊕Empty):=bif ltI s0.2.2.1 (lenL s0.1) then ob (α:=List T×List T×Int×Unit⊕Empty) (bif ltI (0:Int) s0.2.2.1 then ob (idxL s0.1 s0.2.2.1) fun x1=>ob (T.int? .i64 (T.cell x1 0)) fun x2=>ob (T.str? (T.cell x1 1)) fun x3=>ob (T.int? .i64 (T.cell x1 2)) fun x4=>ob (oT (x2,x3,x4,())) fun x5=>bif x5.1 then ob (idxL s0.1 (wr .i64 (subI s0.2.2.1 (1:Int)))) fun x6=>ob (T.int? .i64 (T.cell x6 0)) fun x7=>ob (T.str? (T.cell x6 1)) fun x8=>ob (T.int? .i64 (T.cell x6 2)) fun x9=>ob (oT (x7,x8,x9,())) fun x10=>bif x10.1 then ob (room s0.2.1 [T.v (.int .u8 (32:Int))] 1) fun x11=>some (.inl (s0.1,x11,s0.2.2.1,())) else some (.inl (s0.1,s0.2.1,s0.2.2.1,())) else some (.inl (s0.1,s0.2.1,s0.2.2.1,())) else some (.inl (s0.1,s0.2.1,s0.2.2.1,()))) fun q12=>bB q12 (fun t13=>ob (idxL t13.1 t13.2.2.1) fun x14=>ob (T.int? .i64 (T.cell x14 0)) fun x15=>ob (T.str? (T.cell x14 1)) fun x16=>ob (T.int? .i64 (T.cell x14 2)) fun x17=>ob (qP (x15,x16,x17,())) fun x18=>ob (room t13.2.1 (fR x18.1) 1) fun x19=>some (.inl (t13.1,x19,wr .i64 (addI t13.2.2.1 (1:Int)),()))) fun q20=>b0 q20 else some (.inr (.inl (s0.2.1,())))
noncomputable def oU(t:List T×Unit):Option (ByteArray×Unit):=ob (aF gW (t.1,[],(0:Int),())) fun q21=>bB q21 (fun t22=>ob (strOf t22.1) fun x23=>some (x23,())) fun q24=>b0 q24
theorem RY:(aA OE oU).OK Tryz.prog 43:=d4 mixed [101,102] (.l (.l (.seq (.l (.one (.loop ⟨[.slot 0,.slot 3,.slot 4],[.sl 3,.row 5 1 37,I6]⟩ [((.exit 0),⟨[.slot 3],[.row 5 1 37]⟩)] (.l (.seq (.one (.seq (.join [(.normal,⟨[.slot 0,.slot 3,.slot 4],[.sl 3,.row 5 1 30,I6]⟩)] .leaf) .leaf)) .leaf))))) .leaf))) (.cs Tryz.func101 RX <| .cs Tryz.func102 OC <| .nil) Tryz.func43 fun _=>by kernel_rfl
def r5:Sig:=⟨1,0,⟨[.aggs 0 3],[I6,.str,I6]⟩,1,[],0,⟨[.slot 0],[.bool]⟩,166⟩
noncomputable def eN(s4:ByteArray×Int×Unit):Option (ByteArray×Int×Unit⊕Bool×Unit⊕Unit⊕Empty):=bif ltI s4.2.1 (lenS s4.1) then ob (r7 s4.1 s4.2.1) fun x5=>bif ltI x5 (32:Int) then some (.inr (.inl (false,()))) else ob (r7 s4.1 s4.2.1) fun x6=>bif ltI (126:Int) x6 then some (.inr (.inl (false,()))) else some (.inl (s4.1,wr .i64 (addI s4.2.1 (1:Int)),())) else some (.inr (.inr (.inl ())))
noncomputable def dR(t:Int×ByteArray×Int×Unit):Option (Bool×Unit):=bif eqI t.1 (1:Int) then bif Bool.not (eqS t.2.1 (ByteArray.mk #[])) then ob (oR (t.2.1,true,())) fun x0=>some (eqI x0.1 (lenS t.2.1),()) else some (false,()) else bif eqI t.1 (2:Int) then bif Bool.not (eqS t.2.1 (ByteArray.mk #[])) then ob (oS (t.2.1,())) fun x1=>some (eqI x1.1 (lenS t.2.1),()) else some (false,()) else bif eqI t.1 (4:Int) then bif Bool.not (eqS t.2.1 (ByteArray.mk #[])) then ob (oR (t.2.1,false,())) fun x2=>some (eqI x2.1 (lenS t.2.1),()) else some (false,()) else bif eqI t.1 (5:Int) then bif Bool.not (eqS t.2.1 (ByteArray.mk #[])) then ob (gL (t.2.1,())) fun x3=>some (eqI x3.1 (lenS t.2.1),()) else some (false,()) else bif eqI t.1 (3:Int) then ob (aF eN (t.2.1,(0:Int),())) fun q7=>bB q7 (fun t8=>some (t8.1,())) fun q9=>bB q9 (fun t10=>some (true,())) fun q11=>b0 q11 else bif leI (6:Int) t.1 then bif leI t.1 (12:Int) then some (eqS t.2.1 (ByteArray.mk #[]),()) else some (false,()) else some (false,())
theorem tO:(aA r5 dR).OK Tryz.prog 53:=d4 mixed [117,118,119] (.l (.l (.seq (.l (.one (.l (.cond .leaf (.l (.cond .leaf (.l (.cond .leaf (.l (.cond .leaf (.l (.cond (.seq (.l (.one (.loop ⟨[.slot 3,.slot 4],[.str,I6]⟩ [(.ret,⟨[.slot 2],[.bool]⟩),((.exit 1),⟨[],[]⟩)] .leaf))) .leaf) .leaf)))))))))))) .leaf))) (.cs Tryz.func117 RW <| .cs Tryz.func118 MW <| .cs Tryz.func119 BC <| .nil) Tryz.func53 fun _=>by kernel_rfl
def nP:Sig:=⟨2,0,⟨[.slot 0,.slot 1],[.str,.str]⟩,1,[],0,⟨[.slot 0],[.bool]⟩,42⟩
noncomputable def eC(t:ByteArray×ByteArray×Unit):Option (Bool×Unit):=bif leI (lenS t.2.1) (lenS t.1) then ob (subS t.1 (wr .i64 (subI (lenS t.1) (lenS t.2.1))) (lenS t.1)) fun x0=>some (eqS x0 t.2.1,()) else some (false,())
theorem oV:(aA nP eC).OK Tryz.prog 252:=d4 mixed [] .leaf .nil Tryz.func252 fun _=>by kernel_rfl
def m9:Sig:=⟨2,0,⟨[.slot 0,.slot 1],[.str,.str]⟩,1,[],0,⟨[.slot 0],[.str]⟩,32⟩
noncomputable def dZ(t:ByteArray×ByteArray×Unit):Option (ByteArray×Unit):=ob (eC (t.1,t.2.1,())) fun x0=>bif x0.1 then ob (subS t.1 (0:Int) (wr .i64 (subI (lenS t.1) (lenS t.2.1)))) fun x1=>some (x1,()) else some (t.1,())
theorem nQ:(aA m9 dZ).OK Tryz.prog 237:=d4 mixed [252] .leaf (.cs Tryz.func252 oV <| .nil) Tryz.func237 fun _=>by kernel_rfl
def pI:Sig:=⟨2,0,⟨[.slot 0,.slot 1],[.str,.str]⟩,1,[],0,⟨[.slot 0],[.str]⟩,16⟩
noncomputable def eX(t:ByteArray×ByteArray×Unit):Option (ByteArray×Unit):=ob (dZ (t.1,t.2.1,())) fun x0=>some (x0.1,())
theorem BD:(aA pI eX).OK Tryz.prog 210:=d4 mixed [237] .leaf (.cs Tryz.func237 nQ <| .nil) Tryz.func210 fun _=>by kernel_rfl
def BE:Sig:=⟨1,0,⟨[.aggs 0 7],[I6,.bool,.sl 1,.sl 1,.str,I6,.sl 7]⟩,1,[],0,⟨[.slot 0],[.bool]⟩,114⟩
noncomputable def mL(t:Int×Bool×List T×List T×ByteArray×Int×List T×Unit):Option (Bool×Unit):=bif eqI t.1 (3:Int) then bif eqI t.1 (1:Int) then bif eqI t.1 (5:Int) then bif eqI t.1 (6:Int) then some (true,()) else some (eqI (lenL t.2.2.2.2.2.2.1) (0:Int),()) else bif eqI t.2.2.2.2.2.1 (0:Int) then bif eqI t.1 (6:Int) then some (true,()) else some (eqI (lenL t.2.2.2.2.2.2.1) (0:Int),()) else some (false,()) else bif eqI t.1 (2:Int) then bif eqI t.1 (5:Int) then bif eqI t.1 (6:Int) then some (true,()) else some (eqI (lenL t.2.2.2.2.2.2.1) (0:Int),()) else bif eqI t.2.2.2.2.2.1 (0:Int) then bif eqI t.1 (6:Int) then some (true,()) else some (eqI (lenL t.2.2.2.2.2.2.1) (0:Int),()) else some (false,()) else ob (gV (t.2.1,t.2.2.1,t.2.2.2.1,())) fun x0=>bif eqI x0.1 (0:Int) then bif eqI t.1 (5:Int) then bif eqI t.1 (6:Int) then some (true,()) else some (eqI (lenL t.2.2.2.2.2.2.1) (0:Int),()) else bif eqI t.2.2.2.2.2.1 (0:Int) then bif eqI t.1 (6:Int) then some (true,()) else some (eqI (lenL t.2.2.2.2.2.2.1) (0:Int),()) else some (false,()) else some (false,()) else bif eqI t.1 (1:Int) then bif eqI t.1 (4:Int) then bif eqI t.1 (5:Int) then bif eqI t.1 (6:Int) then some (true,()) else some (eqI (lenL t.2.2.2.2.2.2.1) (0:Int),()) else bif eqI t.2.2.2.2.2.1 (0:Int) then bif eqI t.1 (6:Int) then some (true,()) else some (eqI (lenL t.2.2.2.2.2.2.1) (0:Int),()) else some (false,()) else bif eqS t.2.2.2.2.1 (ByteArray.mk #[]) then bif eqI t.1 (5:Int) then bif eqI t.1 (6:Int) then some (true,()) else some (eqI (lenL t.2.2.2.2.2.2.1) (0:Int),()) else bif eqI t.2.2.2.2.2.1 (0:Int) then bif eqI t.1 (6:Int) then some (true,()) else some (eqI (lenL t.2.2.2.2.2.2.1) (0:Int),()) else some (false,()) else some (false,()) else bif eqI t.1 (2:Int) then bif eqI t.1 (4:Int) then bif eqI t.1 (5:Int) then bif eqI t.1 (6:Int) then some (true,()) else some (eqI (lenL t.2.2.2.2.2.2.1) (0:Int),()) else bif eqI t.2.2.2.2.2.1 (0:Int) then bif eqI t.1 (6:Int) then some (true,()) else some (eqI (lenL t.2.2.2.2.2.2.1) (0:Int),()) else some (false,()) else bif eqS t.2.2.2.2.1 (ByteArray.mk #[]) then bif eqI t.1 (5:Int) then bif eqI t.1 (6:Int) then some (true,()) else some (eqI (lenL t.2.2.2.2.2.2.1) (0:Int),()) else bif eqI t.2.2.2.2.2.1 (0:Int) then bif eqI t.1 (6:Int) then some (true,()) else some (eqI (lenL t.2.2.2.2.2.2.1) (0:Int),()) else some (false,()) else some (false,()) else ob (gV (t.2.1,t.2.2.1,t.2.2.2.1,())) fun x1=>bif eqI x1.1 (0:Int) then bif eqI t.1 (4:Int) then bif eqI t.1 (5:Int) then bif eqI t.1 (6:Int) then some (true,()) else some (eqI (lenL t.2.2.2.2.2.2.1) (0:Int),()) else bif eqI t.2.2.2.2.2.1 (0:Int) then bif eqI t.1 (6:Int) then some (true,()) else some (eqI (lenL t.2.2.2.2.2.2.1) (0:Int),()) else some (false,()) else bif eqS t.2.2.2.2.1 (ByteArray.mk #[]) then bif eqI t.1 (5:Int) then bif eqI t.1 (6:Int) then some (true,()) else some (eqI (lenL t.2.2.2.2.2.2.1) (0:Int),()) else bif eqI t.2.2.2.2.2.1 (0:Int) then bif eqI t.1 (6:Int) then some (true,()) else some (eqI (lenL t.2.2.2.2.2.2.1) (0:Int),()) else some (false,()) else some (false,()) else some (false,())
theorem OF:(aA BE mL).OK Tryz.prog 209:=d4 mixed [236] .leaf (.cs Tryz.func236 JL <| .nil) Tryz.func209 fun _=>by kernel_rfl
def DH:Sig:=⟨1,0,⟨[.aggs 0 7],[I6,.bool,.sl 1,.sl 1,.str,I6,.sl 7]⟩,1,[],0,⟨[.slot 0],[.bool]⟩,114⟩
noncomputable def oW(t:Int×Bool×List T×List T×ByteArray×Int×List T×Unit):Option (Bool×Unit):=bif eqI t.1 (1:Int) then bif eqI t.1 (3:Int) then bif eqI t.1 (5:Int) then bif eqI t.1 (6:Int) then some (true,()) else some (eqI (lenL t.2.2.2.2.2.2.1) (0:Int),()) else bif eqI t.2.2.2.2.2.1 (0:Int) then bif eqI t.1 (6:Int) then some (true,()) else some (eqI (lenL t.2.2.2.2.2.2.1) (0:Int),()) else some (false,()) else bif eqI t.1 (4:Int) then bif eqI t.1 (5:Int) then bif eqI t.1 (6:Int) then some (true,()) else some (eqI (lenL t.2.2.2.2.2.2.1) (0:Int),()) else bif eqI t.2.2.2.2.2.1 (0:Int) then bif eqI t.1 (6:Int) then some (true,()) else some (eqI (lenL t.2.2.2.2.2.2.1) (0:Int),()) else some (false,()) else bif eqS t.2.2.2.2.1 (ByteArray.mk #[]) then bif eqI t.1 (5:Int) then bif eqI t.1 (6:Int) then some (true,()) else some (eqI (lenL t.2.2.2.2.2.2.1) (0:Int),()) else bif eqI t.2.2.2.2.2.1 (0:Int) then bif eqI t.1 (6:Int) then some (true,()) else some (eqI (lenL t.2.2.2.2.2.2.1) (0:Int),()) else some (false,()) else some (false,()) else bif eqI t.1 (3:Int) then bif eqI t.1 (2:Int) then bif eqI t.1 (5:Int) then bif eqI t.1 (6:Int) then some (true,()) else some (eqI (lenL t.2.2.2.2.2.2.1) (0:Int),()) else bif eqI t.2.2.2.2.2.1 (0:Int) then bif eqI t.1 (6:Int) then some (true,()) else some (eqI (lenL t.2.2.2.2.2.2.1) (0:Int),()) else some (false,()) else ob (oM (t.2.1,t.2.2.1,t.2.2.2.1,())) fun x0=>bif eqI x0.1 (0:Int) then bif eqI t.1 (5:Int) then bif eqI t.1 (6:Int) then some (true,()) else some (eqI (lenL t.2.2.2.2.2.2.1) (0:Int),()) else bif eqI t.2.2.2.2.2.1 (0:Int) then bif eqI t.1 (6:Int) then some (true,()) else some (eqI (lenL t.2.2.2.2.2.2.1) (0:Int),()) else some (false,()) else some (false,()) else bif eqI t.1 (2:Int) then bif eqI t.1 (4:Int) then bif eqI t.1 (5:Int) then bif eqI t.1 (6:Int) then some (true,()) else some (eqI (lenL t.2.2.2.2.2.2.1) (0:Int),()) else bif eqI t.2.2.2.2.2.1 (0:Int) then bif eqI t.1 (6:Int) then some (true,()) else some (eqI (lenL t.2.2.2.2.2.2.1) (0:Int),()) else some (false,()) else bif eqS t.2.2.2.2.1 (ByteArray.mk #[]) then bif eqI t.1 (5:Int) then bif eqI t.1 (6:Int) then some (true,()) else some (eqI (lenL t.2.2.2.2.2.2.1) (0:Int),()) else bif eqI t.2.2.2.2.2.1 (0:Int) then bif eqI t.1 (6:Int) then some (true,()) else some (eqI (lenL t.2.2.2.2.2.2.1) (0:Int),()) else some (false,()) else some (false,()) else ob (oM (t.2.1,t.2.2.1,t.2.2.2.1,())) fun x1=>bif eqI x1.1 (0:Int) then bif eqI t.1 (4:Int) then bif eqI t.1 (5:Int) then bif eqI t.1 (6:Int) then some (true,()) else some (eqI (lenL t.2.2.2.2.2.2.1) (0:Int),()) else bif eqI t.2.2.2.2.2.1 (0:Int) then bif eqI t.1 (6:Int) then some (true,()) else some (eqI (lenL t.2.2.2.2.2.2.1) (0:Int),()) else some (false,()) else bif eqS t.2.2.2.2.1 (ByteArray.mk #[]) then bif eqI t.1 (5:Int) then bif eqI t.1 (6:Int) then some (true,()) else some (eqI (lenL t.2.2.2.2.2.2.1) (0:Int),()) else bif eqI t.2.2.2.2.2.1 (0:Int) then bif eqI t.1 (6:Int) then some (true,()) else some (eqI (lenL t.2.2.2.2.2.2.1) (0:Int),()) else some (false,()) else some (false,()) else some (false,())
theorem RZ:(aA DH oW).OK Tryz.prog 214:=d4 mixed [243] .leaf (.cs Tryz.func243 RT <| .nil) Tryz.func214 fun _=>by kernel_rfl
def tP:Sig:=⟨2,0,⟨[.slot 0,.slot 1],[I6,.str]⟩,1,[],0,⟨[.aggs 0 3],[I6,.str,I6]⟩,16⟩
noncomputable def u_ref24_token(t:Int×ByteArray×Unit):Option (Int×ByteArray×Int×Unit):=some (t.1,t.2.1,(0:Int),())
theorem mM:(aA tP u_ref24_token).OK Tryz.prog 41:=d4 mixed [] .leaf .nil Tryz.func41 fun _=>by kernel_rfl
def wU:Sig:=⟨1,0,⟨[.slot 0],[I6]⟩,1,[],0,⟨[.slot 0],[.str]⟩,12⟩
noncomputable def fJ(t:Int×Unit):Option (ByteArray×Unit):=ob (u_ref02_Int (t.1,())) fun x0=>ob (lW (x0.1,x0.2.1,x0.2.2.1,())) fun x1=>some (x1.1,())
theorem y7:(aA wU fJ).OK Tryz.prog 42:=d4 mixed [76] .leaf (.cs Tryz.func19 qY <| .cs Tryz.func76 F4 <| .nil) Tryz.func42 fun _=>by kernel_rfl
def wV:Sig:=⟨1,0,⟨[.aggs 0 3],[I6,.str,I6]⟩,1,[],0,⟨[.slot 0],[.str]⟩,94⟩
noncomputable def dU(s8:Unit×Int×Int×ByteArray×Int×Unit):Option (Unit×Int×Int×ByteArray×Int×Unit⊕ByteArray×Unit⊕Unit⊕Empty):=bif ltI s8.2.1 (127:Int) then ob (gK (s8.2.1,())) fun x9=>bif Bool.not (eqI x9.1 (0:Int)) then bif eqI x9.1 s8.2.2.1 then ob (strOf [T.v (.int .u8 s8.2.1)]) fun x10=>some (.inr (.inl (x10,()))) else some (.inl ((),wr .u8 (addI s8.2.1 (1:Int)),s8.2.2.1,s8.2.2.2.1,s8.2.2.2.2.1,())) else some (.inl ((),wr .u8 (addI s8.2.1 (1:Int)),s8.2.2.1,s8.2.2.2.1,s8.2.2.2.2.1,())) else some (.inr (.inr (.inl ())))
noncomputable def eG(t:Int×ByteArray×Int×Unit):Option (ByteArray×Unit):=ob (α:=Unit×Int×Bool×Int×ByteArray×Int×Unit⊕Empty) (bif eqI t.1 (1:Int) then some (.inl ((),t.1,eqI t.1 (1:Int),t.1,t.2.1,t.2.2.1,())) else some (.inl ((),t.1,eqI t.1 (2:Int),t.1,t.2.1,t.2.2.1,()))) fun q0=>bB q0 (fun t1=>bif t1.2.2.1 then some (t1.2.2.2.2.1,()) else bif eqI t1.2.1 (3:Int) then ob (eZ (t1.2.2.2.2.1,ByteArray.mk #[39],ByteArray.mk #[39,39],())) fun x2=>ob (catS (ByteArray.mk #[39]) x2.1) fun x3=>ob (catS x3 (ByteArray.mk #[39])) fun x4=>some (x4,()) else bif eqI t1.2.1 (4:Int) then ob (catS (ByteArray.mk #[46]) t1.2.2.2.2.1) fun x5=>ob (catS x5 (ByteArray.mk #[46])) fun x6=>some (x6,()) else bif eqI t1.2.1 (5:Int) then ob (catS (ByteArray.mk #[35]) t1.2.2.2.2.1) fun x7=>some (x7,()) else ob (aF dU ((),(32:Int),t1.2.2.2.1,t1.2.2.2.2.1,t1.2.2.2.2.2.1,())) fun q11=>bB q11 (fun t12=>some (t12.1,())) fun q13=>bB q13 (fun t14=>some (ByteArray.mk #[],())) fun q15=>b0 q15) fun q16=>b0 q16
theorem y8:(aA wV eG).OK Tryz.prog 98:=d4 mixed [158,159] (.l (.seq (.l (.one (.seq (.join [(.normal,⟨[.slot 1,.slot 6,.slot 7,.box 1 3],[.lit (.box 1 0),I6,.bool,I6,.str,I6]⟩)] .leaf) .leaf))) (.seq (.l (.one (.loop ⟨[.slot 1,.slot 3,.box 1 3],[.lit (.box 1 0),.int .u8,I6,.str,I6]⟩ [(.ret,⟨[.slot 2],[.str]⟩),((.exit 1),⟨[],[]⟩)] .leaf))) .leaf))) (.cs Tryz.func158 BJ <| .cs Tryz.func159 A8 <| .nil) Tryz.func98 fun _=>by kernel_rfl
def MZ:Sig:=⟨1,0,⟨[.aggs 0 3],[I6,.str,I6]⟩,1,[],0,⟨[.slot 0],[.bool]⟩,102⟩
noncomputable def qQ(t:Int×ByteArray×Int×Unit):Option (Bool×Unit):=bif ltI t.1 (1:Int) then some (false,()) else bif ltI (12:Int) t.1 then some (false,()) else ob (lY (t.1,())) fun x0=>bif Bool.not x0.1 then bif Bool.not (eqS t.2.1 (ByteArray.mk #[])) then some (false,()) else ob (eG (t.1,t.2.1,t.2.2.1,())) fun x1=>ob (catS x1.1 (ByteArray.mk #[32])) fun x2=>ob (iK (x2,(0:Int),())) fun x3=>bif eqI x3.2.2.2.1 (lenS x1.1) then bif eqI x3.1 t.1 then some (eqS x3.2.1 t.2.1,()) else some (false,()) else some (false,()) else ob (eG (t.1,t.2.1,t.2.2.1,())) fun x4=>ob (catS x4.1 (ByteArray.mk #[32])) fun x5=>ob (iK (x5,(0:Int),())) fun x6=>bif eqI x6.2.2.2.1 (lenS x4.1) then bif eqI x6.1 t.1 then some (eqS x6.2.1 t.2.1,()) else some (false,()) else some (false,())
theorem OG:(aA MZ qQ).OK Tryz.prog 103:=d4 mixed [95,98,144] .leaf (.cs Tryz.func95 F6 <| .cs Tryz.func98 y8 <| .cs Tryz.func144 N7 <| .nil) Tryz.func103 fun _=>by kernel_rfl
def M0:Sig:=⟨1,0,⟨[.slot 0],[.sl 3]⟩,1,[],0,⟨[.slot 0],[.bool]⟩,30⟩
noncomputable def i9(s0:List T×Int×Int×Unit):Option (List T×Int×Int×Unit⊕Bool×Unit⊕Unit⊕Empty):=bif ltI s0.2.2.1 s0.2.1 then ob (idxL s0.1 s0.2.2.1) fun x1=>ob (T.int? .i64 (T.cell x1 0)) fun x2=>ob (T.str? (T.cell x1 1)) fun x3=>ob (T.int? .i64 (T.cell x1 2)) fun x4=>ob (qQ (x2,x3,x4,())) fun x5=>bif Bool.not x5.1 then some (.inr (.inl (false,()))) else some (.inl (s0.1,s0.2.1,wr .i64 (addI s0.2.2.1 (1:Int)),())) else some (.inr (.inr (.inl ())))
noncomputable def mN(t:List T×Unit):Option (Bool×Unit):=ob (aF i9 (t.1,lenL t.1,(0:Int),())) fun q6=>bB q6 (fun t7=>some (t7.1,())) fun q8=>bB q8 (fun t9=>some (true,())) fun q10=>b0 q10
theorem OH:(aA M0 mN).OK Tryz.prog 45:=d4 mixed [103] (.l (.seq (.l (.one (.loop ⟨[.slot 5,.slot 6,.slot 7],[.sl 3,I6,I6]⟩ [(.ret,⟨[.slot 2],[.bool]⟩),((.exit 0),⟨[],[]⟩)] .leaf))) .leaf)) (.cs Tryz.func103 OG <| .nil) Tryz.func45 fun _=>by kernel_rfl
def mO:Sig:=⟨2,2,⟨[.slot 0,.slot 1,.box 0 2],[.lit (.box 0 0),I6,.row 90 3 1,I6]⟩,0,[],1,⟨[.box 0 2],[.row 90 3 2,I6]⟩,26⟩
noncomputable def aI(t:Unit×Int×List T×Int×Unit):Option (List T×Int×Unit):=bif eqI t.2.2.2.1 (0:Int) then some (t.2.2.1,t.2.1,()) else some (t.2.2.1,t.2.2.2.1,())
theorem fC:(aA mO aI).OK Tryz.prog 91:=d4 mixed [] .leaf .nil Tryz.func91 fun _=>by kernel_rfl
def jA:Sig:=⟨3,2,⟨[.slot 0,.slot 1,.slot 2,.box 0 2],[.lit (.box 0 0),I6,.str,.row 90 3 1,I6]⟩,0,[],1,⟨[.box 0 2],[.row 90 3 2,I6]⟩,62⟩
noncomputable def u___entity_writer__put(t:Unit×Int×ByteArray×List T×Int×Unit):Option (List T×Int×Unit):=bif eqI t.2.2.2.2.1 (0:Int) then bif leI (lenL t.2.2.2.1) (16384:Int) then ob (room t.2.2.2.1 [T.agg [T.v (.int .i64 t.2.1),T.v (.string t.2.2.1),T.v (.int .i64 (0:Int))]] 32) fun x0=>some (x0,t.2.2.2.2.1,()) else some (t.2.2.2.1,t.2.2.2.2.1,()) else some (t.2.2.2.1,t.2.2.2.2.1,())
theorem cK:(aA jA u___entity_writer__put).OK Tryz.prog 37:=d4 mixed [] .leaf .nil Tryz.func37 fun _=>by kernel_rfl
def mP:Sig:=⟨3,2,⟨[.slot 0,.slot 1,.slot 2,.box 0 2],[.lit (.box 0 0),I6,.str,.row 90 3 1,I6]⟩,0,[],1,⟨[.box 0 2],[.row 90 3 2,I6]⟩,36⟩
noncomputable def aX(t:Unit×Int×ByteArray×List T×Int×Unit):Option (List T×Int×Unit):=ob (α:=Unit×Int×ByteArray×List T×Int×Unit⊕Empty) (ob (mN ([T.agg [T.v (.int .i64 t.2.1),T.v (.string t.2.2.1),T.v (.int .i64 (0:Int))]],())) fun x0=>bif Bool.not x0.1 then ob (aI ((),(41:Int),t.2.2.2.1,t.2.2.2.2.1,())) fun x1=>some (.inl ((),t.2.1,t.2.2.1,x1.1,x1.2.1,())) else some (.inl ((),t.2.1,t.2.2.1,t.2.2.2.1,t.2.2.2.2.1,()))) fun q2=>bB q2 (fun t3=>ob (u___entity_writer__put ((),t3.2.1,t3.2.2.1,t3.2.2.2.1,t3.2.2.2.2.1,())) fun x4=>some (x4.1,x4.2.1,())) fun q5=>b0 q5
theorem nL:(aA mP aX).OK Tryz.prog 92:=d4 mixed [45] (.seq (.join [(.normal,⟨[.slot 0,.slot 1,.slot 2,.box 0 2],[.lit (.box 0 0),I6,.str,.row 90 3 15,I6]⟩)] .leaf) .leaf) (.cs Tryz.func45 OH <| .cs Tryz.func91 fC <| .cs Tryz.func37 cK <| .nil) Tryz.func92 fun _=>by kernel_rfl
def jG:Sig:=⟨2,2,⟨[.slot 0,.slot 1,.box 0 2],[.lit (.box 0 0),I6,.row 90 3 1,I6]⟩,0,[],1,⟨[.box 0 2],[.row 90 3 2,I6]⟩,32⟩
noncomputable def aO(t:Unit×Int×List T×Int×Unit):Option (List T×Int×Unit):=ob (α:=Unit×Int×List T×Int×Unit⊕Empty) (bif ltI t.2.1 (1:Int) then ob (aI ((),(2:Int),t.2.2.1,t.2.2.2.1,())) fun x0=>some (.inl ((),t.2.1,x0.1,x0.2.1,())) else bif ltI (2147483647:Int) t.2.1 then ob (aI ((),(2:Int),t.2.2.1,t.2.2.2.1,())) fun x1=>some (.inl ((),t.2.1,x1.1,x1.2.1,())) else some (.inl ((),t.2.1,t.2.2.1,t.2.2.2.1,()))) fun q2=>bB q2 (fun t3=>ob (lH (t3.2.1,())) fun x4=>ob (u___entity_writer__put ((),(5:Int),x4.1,t3.2.2.1,t3.2.2.2.1,())) fun x5=>some (x5.1,x5.2.1,())) fun q6=>b0 q6
theorem j0:(aA jG aO).OK Tryz.prog 36:=d4 mixed [94] (.seq (.join [(.normal,⟨[.slot 0,.slot 1,.box 0 2],[.lit (.box 0 0),I6,.row 90 3 13,I6]⟩)] .leaf) .leaf) (.cs Tryz.func91 fC <| .cs Tryz.func94 M2 <| .cs Tryz.func37 cK <| .nil) Tryz.func36 fun _=>by kernel_rfl
def b7:Sig:=⟨3,2,⟨[.slot 0,.slot 1,.slot 2,.box 0 2],[.lit (.box 0 0),.sl 7,I6,.row 90 3 1,I6]⟩,0,[],1,⟨[.box 0 2],[.row 90 3 2,I6]⟩,66⟩
def fK:Sig:=⟨3,2,⟨[.slot 0,.aggs 1 7,.slot 2,.box 0 2],[.lit (.box 0 0),I6,.bool,.sl 1,.sl 1,.str,I6,.sl 7,I6,.row 90 3 1,I6]⟩,0,[],1,⟨[.box 0 2],[.row 90 3 2,I6]⟩,192⟩
noncomputable def kN(self:(Unit×((List T)×(Int×((List T)×(Int×Unit)))))→Option ((List T)×(Int×Unit))):List (Go.FuncId×Callee):=[(209,(aA BE mL)),(91,(aA mO aI)),(23,(aA oF cE)),(210,(aA pI eX)),(37,(aA jA u___entity_writer__put)),(92,(aA mP aX)),(36,(aA jG aO)),(93,(aA b7 self))]
noncomputable def aZ(self:(Unit×List T×Int×List T×Int×Unit)→Option (List T×Int×Unit))(t:Unit×Int×Bool×List T×List T×ByteArray×Int×List T×Int×List T×Int×Unit):Option (List T×Int×Unit):=bif Bool.not (eqI t.2.2.2.2.2.2.2.2.2.2.1 (0:Int)) then some (t.2.2.2.2.2.2.2.2.2.1,t.2.2.2.2.2.2.2.2.2.2.1,()) else ob (α:=Unit×Int×Unit×List T×Int×Int×Bool×List T×List T×ByteArray×Int×List T×Unit⊕Empty) (ob (mL (t.2.1,t.2.2.1,t.2.2.2.1,t.2.2.2.2.1,t.2.2.2.2.2.1,t.2.2.2.2.2.2.1,t.2.2.2.2.2.2.2.1,())) fun x0=>bif Bool.not x0.1 then ob (aI ((),(41:Int),t.2.2.2.2.2.2.2.2.2.1,t.2.2.2.2.2.2.2.2.2.2.1,())) fun x1=>some (.inl ((),t.2.2.2.2.2.2.2.2.1,(),x1.1,x1.2.1,t.2.1,t.2.2.1,t.2.2.2.1,t.2.2.2.2.1,t.2.2.2.2.2.1,t.2.2.2.2.2.2.1,t.2.2.2.2.2.2.2.1,())) else some (.inl ((),t.2.2.2.2.2.2.2.2.1,(),t.2.2.2.2.2.2.2.2.2.1,t.2.2.2.2.2.2.2.2.2.2.1,t.2.1,t.2.2.1,t.2.2.2.1,t.2.2.2.2.1,t.2.2.2.2.2.1,t.2.2.2.2.2.2.1,t.2.2.2.2.2.2.2.1,()))) fun q2=>bB q2 (fun t3=>bif eqI t3.2.2.2.2.2.1 (1:Int) then bif ltI (0:Int) (lenL t3.2.2.2.2.2.2.2.2.1) then ob (aI ((),(41:Int),t3.2.2.2.1,t3.2.2.2.2.1,())) fun x4=>some (x4.1,x4.2.1,()) else ob (cE (t3.2.2.2.2.2.2.1,t3.2.2.2.2.2.2.2.1,t3.2.2.2.2.2.2.2.2.1,())) fun x5=>ob (eX (x5.1,ByteArray.mk #[46],())) fun x6=>ob (u___entity_writer__put ((),(2:Int),x6.1,t3.2.2.2.1,t3.2.2.2.2.1,())) fun x7=>some (x7.1,x7.2.1,()) else bif eqI t3.2.2.2.2.2.1 (2:Int) then ob (cE (t3.2.2.2.2.2.2.1,t3.2.2.2.2.2.2.2.1,t3.2.2.2.2.2.2.2.2.1,())) fun x8=>ob (α:=Unit×ByteArray×List T×Int×Unit⊕Empty) (bif Bool.not x8.2.1 then ob (aI ((),(4:Int),t3.2.2.2.1,t3.2.2.2.2.1,())) fun x9=>some (.inl ((),x8.1,x9.1,x9.2.1,())) else some (.inl ((),x8.1,t3.2.2.2.1,t3.2.2.2.2.1,()))) fun q10=>bB q10 (fun t11=>ob (u___entity_writer__put ((),(2:Int),t11.2.1,t11.2.2.1,t11.2.2.2.1,())) fun x12=>some (x12.1,x12.2.1,())) fun q13=>b0 q13 else bif eqI t3.2.2.2.2.2.1 (3:Int) then ob (aX ((),(3:Int),t3.2.2.2.2.2.2.2.2.2.1,t3.2.2.2.1,t3.2.2.2.2.1,())) fun x14=>some (x14.1,x14.2.1,()) else bif eqI t3.2.2.2.2.2.1 (4:Int) then ob (aX ((),(4:Int),t3.2.2.2.2.2.2.2.2.2.1,t3.2.2.2.1,t3.2.2.2.2.1,())) fun x15=>some (x15.1,x15.2.1,()) else bif eqI t3.2.2.2.2.2.1 (5:Int) then ob (aO ((),t3.2.2.2.2.2.2.2.2.2.2.1,t3.2.2.2.1,t3.2.2.2.2.1,())) fun x16=>some (x16.1,x16.2.1,()) else bif eqI t3.2.2.2.2.2.1 (7:Int) then ob (u___entity_writer__put ((),(11:Int),ByteArray.mk #[],t3.2.2.2.1,t3.2.2.2.2.1,())) fun x17=>some (x17.1,x17.2.1,()) else bif eqI t3.2.2.2.2.2.1 (8:Int) then ob (u___entity_writer__put ((),(12:Int),ByteArray.mk #[],t3.2.2.2.1,t3.2.2.2.2.1,())) fun x18=>some (x18.1,x18.2.1,()) else bif eqI t3.2.2.2.2.2.1 (6:Int) then ob (α:=Unit×Int×Unit×List T×Int×Int×Bool×List T×List T×ByteArray×Int×List T×Unit⊕Empty) (bif eqI t3.2.1 (8:Int) then ob (aI ((),(41:Int),t3.2.2.2.1,t3.2.2.2.2.1,())) fun x19=>some (.inl ((),t3.2.1,(),x19.1,x19.2.1,t3.2.2.2.2.2.1,t3.2.2.2.2.2.2.1,t3.2.2.2.2.2.2.2.1,t3.2.2.2.2.2.2.2.2.1,t3.2.2.2.2.2.2.2.2.2.1,t3.2.2.2.2.2.2.2.2.2.2.1,t3.2.2.2.2.2.2.2.2.2.2.2.1,())) else some (.inl ((),t3.2.1,(),t3.2.2.2.1,t3.2.2.2.2.1,t3.2.2.2.2.2.1,t3.2.2.2.2.2.2.1,t3.2.2.2.2.2.2.2.1,t3.2.2.2.2.2.2.2.2.1,t3.2.2.2.2.2.2.2.2.2.1,t3.2.2.2.2.2.2.2.2.2.2.1,t3.2.2.2.2.2.2.2.2.2.2.2.1,()))) fun q20=>bB q20 (fun t21=>ob (self ((),t21.2.2.2.2.2.2.2.2.2.2.2.1,wr .i64 (addI t21.2.1 (1:Int)),t21.2.2.2.1,t21.2.2.2.2.1,())) fun x22=>some (x22.1,x22.2.1,())) fun q23=>b0 q23 else ob (aI ((),(41:Int),t3.2.2.2.1,t3.2.2.2.2.1,())) fun x24=>some (x24.1,x24.2.1,())) fun q25=>b0 q25
def sJ:HT:=(.l (.l (.seq (.join [(.normal,⟨[.slot 0,.slot 2,.slot 4,.box 0 2,.box 6 7],[.lit (.box 0 0),I6,.lit (.box 6 0),.row 90 3 21,I6,I6,.bool,.sl 1,.sl 1,.str,I6,.sl 7]⟩)] .leaf) (.l (.one (.l (.cond .leaf (.l (.cond (.l (.seq (.join [(.normal,⟨[.slot 0,.slot 8,.box 0 2],[.lit (.box 0 0),.str,.row 90 3 56,I6]⟩)] .leaf) .leaf)) (.l (.cond .leaf (.l (.cond .leaf (.l (.cond .leaf (.l (.cond .leaf (.l (.cond .leaf (.l (.cond (.seq (.join [(.normal,⟨[.slot 0,.slot 2,.slot 4,.box 0 2,.box 6 7],[.lit (.box 0 0),I6,.lit (.box 6 0),.row 90 3 91,I6,I6,.bool,.sl 1,.sl 1,.str,I6,.sl 7]⟩)] .leaf) .leaf) .leaf)))))))))))))))))))))
theorem rV(self:(Unit×((List T)×(Int×((List T)×(Int×Unit)))))→Option ((List T)×(Int×Unit)))(hs:(aA b7 self).OK Tryz.prog 93):TabOK Tryz.prog [209,23,210] (kN self):=(TabOK.cons (fun _=>⟨_,Tryz.func209,by kernel_rfl,by kernel_rfl⟩) OF (aB _ _) (fun _=>(bM (by kernel_rfl))) (by kernel_rfl) (fun _=>aP (aB _ _) rfl rfl) (by kernel_rfl) (TabOK.cons (fun _=>⟨_,Tryz.func91,by kernel_rfl,by kernel_rfl⟩) fC (aB _ _) (fun h=>by cases h) (by kernel_rfl) (fun _=>aP (aB _ _) rfl rfl) (by kernel_rfl) (TabOK.cons (fun _=>⟨_,Tryz.func23,by kernel_rfl,by kernel_rfl⟩) wR (aB _ _) (fun _=>(bM (by kernel_rfl))) (by kernel_rfl) (fun _=>aP (aB _ _) rfl rfl) (by kernel_rfl) (TabOK.cons (fun _=>⟨_,Tryz.func210,by kernel_rfl,by kernel_rfl⟩) BD (aB _ _) (fun _=>(bM (by kernel_rfl))) (by kernel_rfl) (fun _=>aP (aB _ _) rfl rfl) (by kernel_rfl) (TabOK.cons (fun _=>⟨_,Tryz.func37,by kernel_rfl,by kernel_rfl⟩) cK (aB _ _) (fun h=>by cases h) (by kernel_rfl) (fun _=>aP (aB _ _) rfl rfl) (by kernel_rfl) (TabOK.cons (fun _=>⟨_,Tryz.func92,by kernel_rfl,by kernel_rfl⟩) nL (aB _ _) (fun h=>by cases h) (by kernel_rfl) (fun _=>aP (aB _ _) rfl rfl) (by kernel_rfl) (TabOK.cons (fun _=>⟨_,Tryz.func36,by kernel_rfl,by kernel_rfl⟩) j0 (aB _ _) (fun h=>by cases h) (by kernel_rfl) (fun _=>aP (aB _ _) rfl rfl) (by kernel_rfl) (TabOK.cons (fun _=>⟨_,Tryz.func93,by kernel_rfl,by kernel_rfl⟩) hs (aB _ _) (fun h=>by cases h) (by kernel_rfl) (fun _=>aP (aB _ _) rfl rfl) (by kernel_rfl) TabOK.nil))))))))
theorem sK(self:(Unit×((List T)×(Int×((List T)×(Int×Unit)))))→Option ((List T)×(Int×Unit))):∀t,pH Tryz.prog (kN self) [209,23,210] sJ Tryz.f155 fK t=(aZ self) t:=by
 intro t
 kernel_rfl
theorem sL(self:(Unit×((List T)×(Int×((List T)×(Int×Unit)))))→Option ((List T)×(Int×Unit)))(hs:(aA b7 self).OK Tryz.prog 93):(aA fK (aZ self)).OK Tryz.prog 155:=pV mixed (rV self hs) Tryz.func155 (by kernel_rfl) (by kernel_rfl) (sK self)
noncomputable def nM(self:(Unit×((List T)×(Int×((List T)×(Int×Unit)))))→Option ((List T)×(Int×Unit))):List (Go.FuncId×Callee):=[(37,(aA jA u___entity_writer__put)),(155,(aA fK (aZ self)))]
noncomputable def aL(self:(Unit×List T×Int×List T×Int×Unit)→Option (List T×Int×Unit))(s1:Unit×Int×List T×Int×Int×List T×Int×Unit):Option (Unit×Int×List T×Int×Int×List T×Int×Unit⊕List T×Int×Unit⊕Unit×List T×Int×Unit⊕Empty):=bif ltI s1.2.2.2.2.1 s1.2.2.2.1 then ob (idxL s1.2.2.1 s1.2.2.2.2.1) fun x2=>bif Bool.not (eqI s1.2.2.2.2.2.2.1 (0:Int)) then some (.inr (.inl (s1.2.2.2.2.2.1,s1.2.2.2.2.2.2.1,()))) else ob (α:=Unit×Int×Unit×List T×Int×Int×List T×Int×T×T×T×T×T×T×T×Unit⊕Empty) (bif ltI (0:Int) s1.2.2.2.2.1 then ob (u___entity_writer__put ((),(8:Int),ByteArray.mk #[],s1.2.2.2.2.2.1,s1.2.2.2.2.2.2.1,())) fun x3=>some (.inl ((),s1.2.1,(),s1.2.2.1,s1.2.2.2.1,s1.2.2.2.2.1,x3.1,x3.2.1,T.cell x2 0,T.cell x2 1,T.cell x2 2,T.cell x2 3,T.cell x2 4,T.cell x2 5,T.cell x2 6,())) else some (.inl ((),s1.2.1,(),s1.2.2.1,s1.2.2.2.1,s1.2.2.2.2.1,s1.2.2.2.2.2.1,s1.2.2.2.2.2.2.1,T.cell x2 0,T.cell x2 1,T.cell x2 2,T.cell x2 3,T.cell x2 4,T.cell x2 5,T.cell x2 6,()))) fun q4=>bB q4 (fun t5=>ob (T.int? .i64 t5.2.2.2.2.2.2.2.2.1) fun x6=>ob (T.bool? t5.2.2.2.2.2.2.2.2.2.1) fun x7=>ob (T.sl? 1 t5.2.2.2.2.2.2.2.2.2.2.1) fun x8=>ob (T.sl? 1 t5.2.2.2.2.2.2.2.2.2.2.2.1) fun x9=>ob (T.str? t5.2.2.2.2.2.2.2.2.2.2.2.2.1) fun x10=>ob (T.int? .i64 t5.2.2.2.2.2.2.2.2.2.2.2.2.2.1) fun x11=>ob (T.sl? 7 t5.2.2.2.2.2.2.2.2.2.2.2.2.2.2.1) fun x12=>ob ((aZ self) ((),x6,x7,x8,x9,x10,x11,x12,t5.2.1,t5.2.2.2.2.2.2.1,t5.2.2.2.2.2.2.2.1,())) fun x13=>some (.inl ((),t5.2.1,t5.2.2.2.1,t5.2.2.2.2.1,wr .i64 (addI t5.2.2.2.2.2.1 (1:Int)),x13.1,x13.2.1,()))) fun q14=>b0 q14 else some (.inr (.inr (.inl ((),s1.2.2.2.2.2.1,s1.2.2.2.2.2.2.1,()))))
noncomputable def cU(self:(Unit×((List T)×(Int×((List T)×(Int×Unit)))))→Option ((List T)×(Int×Unit)))(t:(Unit×((List T)×(Int×((List T)×(Int×Unit)))))):Option ((List T)×(Int×Unit)):=
 (ob (Go.Eng.u___entity_writer__put ((),((6:Int),((ByteArray.mk #[]),(t.2.2.2.1,(t.2.2.2.2.1,())))))) fun x0=>(ob (aF (aL self) ((),(t.2.2.1,(t.2.1,((Go.Eng.lenL t.2.1),((0:Int),(x0.1,(x0.2.1,())))))))) fun q15=>bB q15 (fun t16=>(some (t16.1,(t16.2.1,())))) fun q17=>bB q17 (fun t18=>(ob (Go.Eng.u___entity_writer__put ((),((7:Int),((ByteArray.mk #[]),(t18.2.1,(t18.2.2.1,())))))) fun x19=>(some (x19.1,(x19.2.1,()))))) fun q20=>b0 q20))
def wW:HT:=(.l (.seq (.l (.one (.loop ⟨[.slot 0,.slot 2,.slot 10,.slot 11,.slot 12,.box 0 2],[.lit (.box 0 0),I6,.sl 7,I6,I6,.row 90 3 11,I6]⟩ [(.ret,⟨[.box 0 2],[.row 90 3 11,I6]⟩),((.exit 0),⟨[.slot 0,.box 0 2],[.lit (.box 0 0),.row 90 3 11,I6]⟩)] (.l (.l (.seq (.one (.l (.l (.seq (.join [(.normal,⟨[.slot 0,.slot 2,.slot 7,.slot 10,.slot 11,.slot 12,.box 0 2,.box 9 7],[.lit (.box 0 0),I6,.lit (.box 9 0),.sl 7,I6,I6,.row 90 3 27,I6,.tree,.tree,.tree,.tree,.tree,.tree,.tree]⟩)] .leaf) .leaf)))) .leaf)))))) .leaf))
theorem vO(self:(Unit×((List T)×(Int×((List T)×(Int×Unit)))))→Option ((List T)×(Int×Unit)))(hs:(aA b7 self).OK Tryz.prog 93):TabOK Tryz.prog [] (nM self):=(TabOK.cons (fun _=>⟨_,Tryz.func37,by kernel_rfl,by kernel_rfl⟩) cK (aB _ _) (fun h=>by cases h) (by kernel_rfl) (fun _=>aP (aB _ _) rfl rfl) (by kernel_rfl) (TabOK.cons (fun _=>⟨_,Tryz.func155,by kernel_rfl,by kernel_rfl⟩) (sL self hs) (aB _ _) (fun h=>by cases h) (by kernel_rfl) (fun _=>aP (aB _ _) rfl rfl) (by kernel_rfl) TabOK.nil))
theorem wX(self:(Unit×((List T)×(Int×((List T)×(Int×Unit)))))→Option ((List T)×(Int×Unit))):∀t,pH Tryz.prog (nM self) [] wW Tryz.f93 b7 t=cU self t:=by
 intro t
 kernel_rfl
noncomputable def aK(n:Nat):(Unit×((List T)×(Int×((List T)×(Int×Unit)))))→Option ((List T)×(Int×Unit)):=Nat.rec (motive:=fun _=>(Unit×((List T)×(Int×((List T)×(Int×Unit)))))→Option ((List T)×(Int×Unit))) (fun _=>none) (fun _ ih=>cU ih) n
theorem vP(n:Nat):(aA b7 (aK n)).OK Tryz.prog 93:=by
 induction n with
 | zero=>exact vL _
 | succ n ih=>exact pV mixed (vO _ ih) Tryz.func93 (by kernel_rfl) (by kernel_rfl) (wX (aK n))
noncomputable def dY:(Unit×((List T)×(Int×((List T)×(Int×Unit)))))→Option ((List T)×(Int×Unit)):=aK 20
theorem wY:(aA b7 dY).OK Tryz.prog 93:=vP 20
def tQ:Sig:=⟨2,2,⟨[.slot 0,.aggs 1 2,.box 0 2],[.lit (.box 0 0),.str,.sl 7,.row 90 3 1,I6]⟩,0,[],1,⟨[.box 0 2],[.row 90 3 2,I6]⟩,38⟩
noncomputable def aQ(t:Unit×ByteArray×List T×List T×Int×Unit):Option (List T×Int×Unit):=ob (α:=Unit×Unit×List T×Int×ByteArray×List T×Unit⊕Empty) (bif eqS t.2.1 (ByteArray.mk #[69,78,68,83,69,67]) then ob (aI ((),(41:Int),t.2.2.2.1,t.2.2.2.2.1,())) fun x0=>some (.inl ((),(),x0.1,x0.2.1,t.2.1,t.2.2.1,())) else some (.inl ((),(),t.2.2.2.1,t.2.2.2.2.1,t.2.1,t.2.2.1,()))) fun q1=>bB q1 (fun t2=>ob (aX ((),(1:Int),t2.2.2.2.2.1,t2.2.2.1,t2.2.2.2.1,())) fun x3=>ob (dY ((),t2.2.2.2.2.2.1,(0:Int),x3.1,x3.2.1,())) fun x4=>ob (u___entity_writer__put ((),(9:Int),ByteArray.mk #[],x4.1,x4.2.1,())) fun x5=>some (x5.1,x5.2.1,())) fun q6=>b0 q6
theorem uG:(aA tQ aQ).OK Tryz.prog 35:=d4 mixed [] (.l (.seq (.join [(.normal,⟨[.slot 0,.slot 3,.box 0 2,.box 5 2],[.lit (.box 0 0),.lit (.box 5 0),.row 90 3 10,I6,.str,.sl 7]⟩)] .leaf) .leaf)) (.cs Tryz.func91 fC <| .cs Tryz.func92 nL <| .cs Tryz.func93 wY <| .cs Tryz.func37 cK <| .nil) Tryz.func35 fun _=>by kernel_rfl
def vQ:Sig:=⟨2,2,⟨[.slot 0,.slot 1,.box 0 2],[.lit (.box 0 0),.sl 1,.row 90 3 1,I6]⟩,0,[],1,⟨[.box 0 2],[.row 90 3 2,I6]⟩,36⟩
noncomputable def bS(s0:Unit×List T×Int×Int×List T×Int×Unit):Option (Unit×List T×Int×Int×List T×Int×Unit⊕List T×Int×Unit⊕Empty):=bif ltI s0.2.2.2.1 s0.2.2.1 then ob (idxL s0.2.1 s0.2.2.2.1) fun x1=>ob (T.str? (T.cell x1 0)) fun x2=>ob (u___entity_writer__put ((),(1:Int),x2,s0.2.2.2.2.1,s0.2.2.2.2.2.1,())) fun x3=>ob (u___entity_writer__put ((),(9:Int),ByteArray.mk #[],x3.1,x3.2.1,())) fun x4=>some (.inl ((),s0.2.1,s0.2.2.1,wr .i64 (addI s0.2.2.2.1 (1:Int)),x4.1,x4.2.1,())) else some (.inr (.inl (s0.2.2.2.2.1,s0.2.2.2.2.2.1,())))
noncomputable def bA(t:Unit×List T×List T×Int×Unit):Option (List T×Int×Unit):=ob (aF bS ((),t.2.1,lenL t.2.1,(0:Int),t.2.2.1,t.2.2.2.1,())) fun q5=>bB q5 (fun t6=>some (t6.1,t6.2.1,())) fun q7=>b0 q7
theorem wZ:(aA vQ bA).OK Tryz.prog 34:=d4 mixed [] (.l (.one (.loop ⟨[.slot 0,.slot 6,.slot 7,.slot 8,.box 0 2],[.lit (.box 0 0),.sl 1,I6,I6,.row 90 3 18,I6]⟩ [((.exit 0),⟨[.box 0 2],[.row 90 3 18,I6]⟩)] .leaf))) (.cs Tryz.func37 cK <| .nil) Tryz.func34 fun _=>by kernel_rfl
end Go.Eng
namespace Go.Eng.En
open Go.Eng Go.RowKit Go.Proofs
theorem IV:∀(vs:List Value) (k t:Nat) (v:Value),(WP k vs).lookup t=some v→k≤t∧vs[t-k]?=some v
 | [],k,t,v,h=>by simp[WP] at h
 | x::vs,k,t,v,h=>by
  simp only[WP] at h
  rw[List.lookup_cons] at h
  by_cases hk:t=k
  ·subst hk;simp at h;subst h;exact⟨Nat.le_refl _,by simp⟩
  ·rw[beq_eq_false_iff_ne.2 hk] at h
   obtain⟨h1,h2⟩:=IV vs (k+1) t v h
   refine⟨by omega,?_⟩
   rw[show t-k=t-(k+1)+1 from by omega]
   exact h2
theorem Fr.start(vs:List Value)(m n:Nat)(h:vs.length+m=n):Fr n (WP 0 vs) { tmps:=vs.toArray++Array.replicate m undef,defers:=[] }:=by
 refine⟨by simp[h],rfl,fun t v hl=>?_⟩
 obtain⟨_,h2⟩:=IV vs 0 t v hl
 have hlt:t<vs.length:=(List.getElem?_eq_some_iff.1 h2).1
 rw[Array.getD_eq_getD_getElem?,Array.getElem?_append_left (by simpa using hlt)]
 simp at h2
 simp[h2]
theorem BQ{P:Program}{f:FuncId}{fn:Func}{c:Code}{w:World}{R:Ending→World→Prop}(vs:List Value)(m n:Nat)(hf:P.funcs[f]?=some fn)(hb:fn.body=some c)(hm:vs.length+m=n)(hn:fn.ntmps=n)
 (h:∀a,Fr n (WP 0 vs) a→c.wp P (bodyPost P fn R) a w):Calls P f vs.toArray w R:=by
 refine calls_of_wp hf hb (h _ ?_)
 rw[show fn.ntmps-vs.toArray.size=m from by rw[hn,List.size_toArray];omega]
 exact Fr.start vs m n hm
theorem R3{P:Program}{f:FuncId}{fn:Func}{c:Code}{w:World}{R:Ending→World→Prop}{k:Nat}(vs:List Value)(m n:Nat)(hf:P.funcs[f]?=some fn)(hb:fn.body=some c)(hm:vs.length+m=n)(hn:fn.ntmps=n)
 (h:∀a,Fr n (WP 0 vs) a→c.wp P (bodyPostM Fence.wide k P fn R) a w):Calls P f vs.toArray w R:=by
 refine callsIn_wide.1 (callsIn_of_wp_marks (n:=k) hf hb trivial (wpIn_wide.2 (h _ ?_)))
 rw[show fn.ntmps-vs.toArray.size=m from by rw[hn,List.size_toArray];omega]
 exact Fr.start vs m n hm
theorem YS{P:Program}{fn:Func}{t n:Nat}{env:List (Nat×Value)}{a:Act}{w:World}{v:Value}{R:Ending→World→Prop}(hr:fn.results=#[.tmp t])(hf:Fr n env a)(hv:env.lookup t=some v)(h:R (.returned v) w):bodyPost P fn R .ret a w:=by
 refine⟨hf.defers,v,?_,h⟩
 unfold results
 rw[hr]
 have:=hf.get t v hv
 rw[Array.getD_eq_getD_getElem?] at this
 simp[this]
abbrev vI(i:Int):Value:=.int .i64 i
def Kp(nS gm:Nat)(A B:World):Prop:=∀b,b<nS→b≠gm→B.heap[b]?=A.heap[b]?
theorem Kp.trans{nS gm:Nat}{A B C:World}(h:Kp nS gm A B)(k:Kp nS gm B C):Kp nS gm A C:=fun b h1 h2=>(k b h1 h2).trans (h b h1 h2)
theorem Kp.cell{nS gm:Nat}{A B:World}(h:Kp nS gm A B){p:Addr}{v:Value}(hp:p.block<nS)(hg:p.block≠gm)(hc:A.cell? p=some v):B.cell? p=some v:=
 (World.cell?_of_block (h p.block hp hg)).trans hc
theorem On:Tryz.prog.underlying 36=some (.slice 67):=by kernel_rfl
theorem IW:pA Tryz.prog 67=some 3:=by kernel_rfl
theorem Pu:nU Tryz.prog 67=some true:=by kernel_rfl
theorem Mu:pA Tryz.prog 36=some 1:=by kernel_rfl
theorem Oo:nU Tryz.prog 36=some false:=by kernel_rfl
theorem sN(f:Nat):Fence.wide.fn f:=trivial
theorem Eg{P:Program}{fn:Func}{n:Nat}{env:List (Nat×Value)}{a:Act}{w:World}{R:Ending→World→Prop}(hr:fn.results=#[])(hf:Fr n env a)(h:∀v,R (.returned v) w):bodyPost P fn R .ret a w:=
 ⟨hf.defers,_,results_none hr _ _ _,h _⟩
theorem Az{P:Program}{fn:Func}{n:Nat}{env:List (Nat×Value)}{a:Act}{w:World}{R:Ending→World→Prop}(hr:fn.results=#[])(hf:Fr n env a)(h:∀v,R (.returned v) w):bodyPost P fn R .normal a w:=
 ⟨hf.defers,_,results_none hr _ _ _,h _⟩
def pre(len k:Nat):List Nat:=(List.range (len-k)).map fun i=>len-1-i
theorem YT(len:Nat):pre len len=[]:=by unfold pre;rw[Nat.sub_self];rfl
theorem UC{len m:Nat}(h:m<len):pre len (m+1)++[m]=pre len m:=by
 unfold pre
 rw[show len-m=len-(m+1)+1 from by omega,List.range_succ,List.map_append,List.map_singleton]
 congr 2
 omega
theorem WV(len m:Nat):(pre len m).length=len-m:=by unfold pre;rw[List.length_map,List.length_range]
theorem Eh(x y:Int):DP Tryz.prog .add 3 3 (dV (vI x)) (dV (vI y)) some=some (dV (vI (wr .i64 (x+y)))):=by rw[←aY];kernel_rfl
theorem WW(x y:Int):DP Tryz.prog .sub 3 3 (dV (vI x)) (dV (vI y)) some=some (dV (vI (wr .i64 (x-y)))):=by rw[←lQ];kernel_rfl
theorem R4(x y:Int):DP Tryz.prog .lss 3 3 (dV (vI x)) (dV (vI y)) some=some (dV (.bool (ltI x y))):=by kernel_rfl
theorem Lp(x y:Int):DP Tryz.prog .geq 3 3 (dV (vI x)) (dV (vI y)) some=some (dV (.bool (leI y x))):=by kernel_rfl
set_option maxRecDepth 20000 in
set_option maxHeartbeats 4000000 in
theorem Lq{n gb gm nS len cap:Nat}{p:Option Addr}{el:Nat→List Value}{l:Nat}{J Jx:List Nat→World→Prop}{W:World}
 (hgb:gb<nS∧gb≠gm) (hb:W.cell? ⟨gb,0,none⟩=some (.slice p len cap))
 (hel:0<len→∃A,p=some A∧A.block<nS∧A.block≠gm∧∀i,i<len→(el i).length=3∧∀(j:Nat) y,(el i)[j]?=some y→W.cell? ((A.add (i*3)).add j)=some y)
 (hmax:len≤maxLen)
 (hY:∀pre x W1,J pre W1→pre.length<len→YieldAt Fence.wide (n-1) Tryz.prog l #[vI (x:Nat),.agg (el x).toArray] W1 fun e W'=>
  (e=.returned (.bool true)∧J (pre++[x]) W'∧Kp nS gm W1 W')∨(e=.returned (.bool false)∧Jx (pre++[x]) W')) (h0:J [] W):
 CallsIn Fence.wide n Tryz.prog 148 #[.func (.yield l) #[] #[],.pointer (some ⟨gb,0,none⟩)] W fun e W'=>(∃v,e=.returned v) ∧
  ((∃xs,xs=pre len 0∧J xs W')∨(∃pre,True∧Jx pre W')):=by
 suffices H:∀R:Ending→World→Prop,(∀v W',J (pre len 0) W'→R (.returned v) W')→(∀v p W',Jx p W'→R (.returned v) W')→Calls Tryz.prog 148 #[.func (.yield l) #[] #[],.pointer (some ⟨gb,0,none⟩)] W R from
  callsIn_wide.2 (H _ (fun v W' h=>⟨⟨v,rfl⟩,.inl ⟨_,rfl,h⟩⟩) fun v p W' h=>⟨⟨v,rfl⟩,.inr ⟨p,trivial,h⟩⟩)
 intro R hR1 hR2
 refine BQ (c:=JC Tryz.f148) [.func (.yield l) #[] #[],.pointer (some ⟨gb,0,none⟩)] 17 19 Tryz.func148 (by kernel_rfl) rfl (by kernel_rfl) fun a hf=>?_
 refine wp_seq (dQ (by kernel_rfl) ?_)
 refine uQ hf rfl rfl (by decide) Mu Oo rfl hb fun a hf=>?_
 refine WO hf rfl rfl (by decide) On rfl fun a hf=>?_
 refine oA (v:=vI ((len:Int)-1)) hf rfl rfl (by decide) rfl rfl rfl rfl ?_ fun a hf=>?_
 ·rw[WW,jQ (by omega) (by have h:maxLen≤9223372036854775807:=(by decide);omega)]
 refine gU hf rfl rfl (by decide) rfl fun a hf=>?_
 refine wp_block ?_
 refine MF (m:=len) (fun k a wr=>k≤len∧Fr 19 [(3,vI ((k:Int)-1)),(1,.pointer (some ⟨gb,0,none⟩)),(0,.func (.yield l) #[] #[])] a∧J (pre len k) wr∧Kp nS gm W wr) ?_ ?_
  ⟨Nat.le_refl _,hf.weak ⟨rfl,rfl,rfl,trivial⟩,by rw[YT];exact h0,fun _ _ _=>rfl⟩
 ·rintro K a wr ⟨_,hf,hJ,_⟩
  refine wp_seq (wp_seq (dQ (by kernel_rfl) ?_))
  refine fS hf rfl rfl (by decide) rfl fun a hf=>?_
  refine oA (v:=.bool false) hf rfl rfl (by decide) rfl rfl rfl rfl (by kernel_rfl) fun a hf=>?_
  refine wp_cond_false (hf.ev rfl) (wp_exit ?_)
  exact Az (fn:=Tryz.f148) rfl hf fun v=>hR1 v _ hJ
 ·rintro m K hK a wr ⟨hm,hg,hJ,hk⟩
  obtain⟨A,rfl,hA1,hA2,hA⟩:=hel (by omega)
  have hf:=hg
  rw[show ((m+1:Nat):Int)-1=(m:Int) from by omega] at hf
  obtain⟨e1,e2⟩:=hA m (by omega)
  refine wp_seq (wp_seq (dQ (by kernel_rfl) ?_))
  refine fS hf rfl rfl (by decide) rfl fun a hf=>?_
  refine oA (v:=.bool true) hf rfl rfl (by decide) rfl rfl rfl rfl ?_ fun a hf=>?_
  ·rw[Lp,rP,decide_eq_true (by omega)]
  refine wp_cond_true (hf.ev rfl) (wp_skip ?_)
  refine wp_seq ((wpIn_wide (n:=n)).1 (wpIn_block (wpIn_seq (RJ (by kernel_rfl) ?_))))
  refine mZ sN (fun c h=>by cases h) hf rfl (by decide) (KC hf rfl rfl) fun a hf=>?_
  refine mZ sN (fun c h=>by cases h) hf rfl (by decide) (KC hf rfl rfl) fun a hf=>?_
  refine mZ sN (fun c h=>by cases h) hf rfl (by decide) (FU hf rfl Mu Oo rfl (hk.cell hgb.1 hgb.2 hb)) fun a hf=>?_
  refine mZ sN (fun c h=>by cases h) hf rfl (by decide) (KC hf rfl rfl) fun a hf=>?_
  refine mZ sN (fun c h=>by cases h) hf rfl (by decide) (T2 (m:=3) hf rfl On IW rfl rfl (by omega) (by omega)) fun a hf=>?_
  refine mZ sN (fun c h=>by cases h) hf rfl (by decide) (AQ (ys:=el m) hf rfl (by rw[e1];exact IW) Pu rfl fun i y hi=>?_) fun a hf=>?_
  ·rw[Int.toNat_natCast]
   exact hk.cell (by rw[dH,dH];exact hA1) (by rw[dH,dH];exact hA2) (e2 i y hi)
  refine Ef sN hf rfl rfl rfl rfl (by decide) rfl (fun h=>by cases h) (hY (pre len (m+1)) m wr hJ (by rw[WV];omega)) fun e w1 he=>?_
  rcases he with⟨rfl,hJ2,hk2⟩ | ⟨rfl,hJx⟩
  ·refine⟨_,rfl,fun a hf=>?_⟩
   refine mZ sN (fun c h=>by cases h) hf rfl (by decide) (Ec hf rfl rfl) fun a hf=>?_
   refine wpIn_cond_false (hf.ev rfl) (wpIn_skip ?_)
   refine dQ (by kernel_rfl) ?_
   refine fS hf rfl rfl (by decide) rfl fun a hf=>?_
   refine oA (v:=vI ((m:Int)-1)) hf rfl rfl (by decide) rfl rfl rfl rfl ?_ fun a hf=>?_
   ·rw[WW,jQ (by omega) (by have h:maxLen≤9223372036854775807:=(by decide);omega)]
   refine gU hf rfl rfl (by decide) rfl fun a hf=>?_
   exact hK a w1 ⟨by omega,hf.weak ⟨rfl,rfl,rfl,trivial⟩,by rw[←UC (by omega)];exact hJ2,hk.trans hk2⟩
  ·refine⟨_,rfl,fun a hf=>?_⟩
   refine mZ sN (fun c h=>by cases h) hf rfl (by decide) (Ec hf rfl rfl) fun a hf=>?_
   refine wpIn_cond_true (hf.ev rfl) (wpIn_ret ?_)
   exact Eg (fn:=Tryz.f148) rfl hf fun v=>hR2 v _ _ hJx
theorem Lr(v:Value)(w:World)(hv:v.cells=#[v]):Calls Tryz.prog 87 #[v] w fun e w'=>e=.returned (.func (.func 148) #[] #[.pointer (some ⟨w.heap.size,0,none⟩)])∧w'=w.alloc (.cells #[v] 36):=by
 refine BQ (c:=JC Tryz.f87) [v] 3 4 Tryz.func87 (by kernel_rfl) rfl (by kernel_rfl) fun a hf=>?_
 refine wp_seq (dQ (by kernel_rfl) ?_)
 refine dK hf rfl (by decide) (Ee hf rfl rfl) fun a hf=>?_
 refine gU hf rfl rfl (by decide) rfl fun a hf=>?_
 refine wp_seq (dQ (by kernel_rfl) ?_)
 refine dK hf rfl (by decide) (Hx hf rfl rfl) fun a hf=>?_
 refine gU hf rfl rfl (by decide) rfl fun a hf=>?_
 exact wp_ret (YS rfl hf rfl ⟨rfl,by rw[hv]⟩)
end Go.Eng.En
namespace Go.Eng.En
open Go.Eng Go.RowKit Go.Proofs
def Oq(idN:Nat→Int)(nmN:Nat→ByteArray)(argN:Nat→List T)(D:List T):Prop:=∀(i:Nat) x,D[i]?=some x→T.cell x 0=.v (vI (idN i))∧T.cell x 1=.v (.string (nmN i))∧T.sl? 7 (T.cell x 2)=some (argN i)
theorem Nj{w:World}{X:Nat→Prop}{k:Nat}{t:T}{l:List T}{v:Value}(h:T.sl? k t=some l)(hr:Rd w X t v)(hk:k<1000000000):Rd w X (.sl k l) v:=by
 unfold T.sl? at h
 split at h
 ·rw[if_pos hk] at h;cases h
  cases hr
  exact .nil k hk
 ·split at h
  ·rename_i e;cases h;subst e;exact hr
  ·cases h
 ·cases h
theorem Oz{w:World}{X:Nat→Prop}{idN:Nat→Int}{nmN:Nat→ByteArray}{argN:Nat→List T}{D:List T}{vd:Value}(h:Rd w X (.sl 3 D) vd)(hd:Oq idN nmN argN D):
 ∃(p:Option Addr) (cap:Nat) (slN:Nat→Value),vd=.slice p D.length cap∧D.length≤maxLen∧(∀i,(slN i:Value).oneCell'=true) ∧
  (0<D.length→∃A,p=some A∧A.block<w.heap.size∧∀i,i<D.length→∀(j:Nat) y,[vI (idN i),.string (nmN i),slN i][j]?=some y→w.cell? ((A.add (i*3)).add j)=some y) ∧
  ∀i,i<D.length→Rd w (fun _=>False) (.sl 7 (argN i)) (slN i):=by
 have hr:=h
 cases h with
 | mp n l g es clock hn=>omega
 | nil k hk=>exact⟨none,0,fun _=>.slice none 0 0,rfl,by decide,fun _=>rfl,fun h=>(by simp at h),fun i hi=>(by simp at hi)⟩
 | sl k l A c ys hk hc hm hu hy hcell hrr=>
  have key:∀i,∃v:Value,v.oneCell'=true∧(i<D.length→Rd w (fun _=>False) (.sl 7 (argN i)) v∧A.block<w.heap.size∧∀(j:Nat) y,[vI (idN i),.string (nmN i),v][j]?=some y→w.cell? ((A.add (i*3)).add j)=some y):=by
   intro i
   by_cases hi:i<D.length
   ·obtain⟨x,hx⟩:∃x,D[i]?=some x:=⟨_,List.getElem?_eq_getElem hi⟩
    obtain⟨_,hl,ys,h1,h2,h3⟩:=hr.elem hx
    obtain⟨d0,d1,d2⟩:=hd i x hx
    match ys,h1 with
    | [y0,y1,y2],_=>
    match hxc:x.cells,hl with
    | [c0,c1,c2],_=>
    have e0:c0=.v (vI (idN i)):=by unfold T.cell at d0;rw[hxc] at d0;exact d0
    have e1:c1=.v (.string (nmN i)):=by unfold T.cell at d1;rw[hxc] at d1;exact d1
    have e2:T.sl? 7 c2=some (argN i):=by unfold T.cell at d2;rw[hxc] at d2;exact d2
    have r0:=h3 0 c0 y0 (by rw[hxc];rfl) rfl
    have r1:=h3 1 c1 y1 (by rw[hxc];rfl) rfl
    have r2:=h3 2 c2 y2 (by rw[hxc];rfl) rfl
    rw[e0] at r0
    rw[e1] at r1
    have f0:=r0.inv_v
    have f1:=r1.inv_v
    subst f0;subst f1
    have hb:=World.block_lt_of_cell? w _ (h2 0 _ rfl).1
    rw[dH,dH] at hb
    exact⟨y2,(h2 2 y2 rfl).2.2,fun _=>⟨(Nj e2 r2 (by decide)).weak fun _ h=>h.elim,hb,fun j y hj=>(h2 j y hj).1⟩⟩
   ·exact⟨.slice none 0 0,rfl,fun h=>absurd h hi⟩
  have hsl:=fun i=>Classical.choose_spec (key i)
  refine⟨some A,c,fun i=>Classical.choose (key i),rfl,by omega,fun i=>(hsl i).1,fun h0=>⟨A,rfl,((hsl 0).2 h0).2.1,fun i hi=>((hsl i).2 hi).2.2⟩,fun i hi=>((hsl i).2 hi).1⟩
noncomputable def EN(idN:Nat→Int)(nmN:Nat→ByteArray)(l:List Nat):List T:=l.foldl (fun m i=>kY (.v (vI (idN i))) (.v (.string (nmN i))) m) []
theorem IX(idN:Nat→Int)(nmN:Nat→ByteArray)(l:List Nat)(i:Nat):EN idN nmN (l++[i])=kY (.v (vI (idN i))) (.v (.string (nmN i))) (EN idN nmN l):=by
 unfold EN;rw[List.foldl_append];rfl
structure Bk (w W:World) (vh vd:Value) (m:List T):Prop where
 stp:Stp (fun _=>False) w W
 b1:W.heap[w.heap.size]?=some (.cells #[vh,vd] 38 (0,0))
 bm:∃es clock,W.heap[w.heap.size+1]?=some (.map es clock)∧EntL W (fun b=>w.heap.size≤b) 1000000000 m es clock
 b3:W.heap[w.heap.size+2]?=some (.cells #[.map (some (w.heap.size+1))] 139 (0,0))
 sz:w.heap.size+4≤W.heap.size
theorem Bk.step{w W W':World}{vh vd:Value}{m:List T}(h:Bk w W vh vd m)(hs:Stp (fun b=>w.heap.size+4≤b) W W'):Bk w W' vh vd m:=by
 have lt:∀{k:Nat} {o:Obj},W.heap[k]?=some o→k<W.heap.size:=fun h=>(Array.getElem?_eq_some_iff.1 h).1
 obtain⟨es,clock,hm,he⟩:=h.bm
 exact⟨h.stp.after hs fun b hb hlt=>by omega,(hs.blk _ (lt h.b1) (by omega)).trans h.b1,⟨es,clock,(hs.blk _ (lt hm) (by omega)).trans hm,he.step hs (fun b hb=>by omega) fun b hb=>.inl hb⟩,(hs.blk _ (lt h.b3) (by omega)).trans h.b3,Nat.le_trans h.sz hs.size⟩
def Ax(w:World)(el:Nat→List Value)(x:Nat)(a:Act)(W:World):Prop:=∃g,w.heap.size+4≤g∧W.heap[g]?=some (.cells (el x).toArray 67 (0,0))∧Fr 44 [(5,.pointer (some ⟨g,0,none⟩)),(3,.pointer (some ⟨w.heap.size+2,0,none⟩))] a
theorem Pa:pA Tryz.prog 139=some 1:=by kernel_rfl
theorem Pv:nU Tryz.prog 139=some false:=by kernel_rfl
theorem s3:pA Tryz.prog 3=some 1:=by kernel_rfl
theorem a3:nU Tryz.prog 3=some false:=by kernel_rfl
theorem s9:pA Tryz.prog 9=some 1:=by kernel_rfl
theorem a9:nU Tryz.prog 9=some false:=by kernel_rfl
theorem Qh:Tryz.prog.underlying 139=some (.map 3 9):=by kernel_rfl
theorem k3:sV Tryz.prog 3=some 0:=by kernel_rfl
theorem Ot:∃fs,Tryz.prog.underlying 67=some (.struct fs)∧fs.toList.map (fun f=>(f.type,f.offset))=[(3,0),(34,1)]:=by
 have h:(match Tryz.prog.underlying 67 with
  | some (.struct fs)=>decide (fs.toList.map (fun f=>(f.type,f.offset))=[(3,0),(34,1)])
  | _=>false)=true:=by kernel_rfl
 split at h
 ·rename_i fs e;exact⟨fs,e,of_decide_eq_true h⟩
 ·cases h
end Go.Eng.En
namespace Go.Eng.En
open Go.Eng Go.RowKit Go.Proofs
def EO:List Nat→Code→Code
 | [],c=>c
 | 0::p,.seq x _=>EO p x
 | _::p,.seq _ y=>EO p y
 | 0::p,.cond _ x _=>EO p x
 | _::p,.cond _ _ y=>EO p y
 | _::p,.block _ x=>EO p x
 | _::p,.loop x=>EO p x
 | _::_,c=>c
theorem Qi:∃fs,Tryz.prog.underlying 34=some (.struct fs)∧fs.toList.map (fun f=>(f.type,f.offset))=[(9,0),(30,1)]:=by
 have h:(match Tryz.prog.underlying 34 with
  | some (.struct fs)=>decide (fs.toList.map (fun f=>(f.type,f.offset))=[(9,0),(30,1)])
  | _=>false)=true:=by kernel_rfl
 split at h
 ·rename_i fs e;exact⟨fs,e,of_decide_eq_true h⟩
 ·cases h
theorem Pw:∃fs,Tryz.prog.underlying 38=some (.struct fs)∧fs.toList.map (fun f=>(f.type,f.offset))=[(35,0),(36,1)]:=by
 have h:(match Tryz.prog.underlying 38 with
  | some (.struct fs)=>decide (fs.toList.map (fun f=>(f.type,f.offset))=[(35,0),(36,1)])
  | _=>false)=true:=by kernel_rfl
 split at h
 ·rename_i fs e;exact⟨fs,e,of_decide_eq_true h⟩
 ·cases h
theorem Pb:pA Tryz.prog 34=some 2:=by kernel_rfl
theorem a37:nU Tryz.prog 34=some true:=by kernel_rfl
theorem Qj{fs:Array Field}{l:List (TypeId×Nat)}(h:fs.toList.map (fun f=>(f.type,f.offset))=l)(i:Nat){t o:Nat}(hi:l[i]?=some (t,o)):∃fd,fs[i]?=some fd∧fd.type=t∧fd.offset=o:=by
 rw[←h,List.getElem?_map,Array.getElem?_toList] at hi
 cases hf:fs[i]? with
 | none=>rw[hf] at hi;cases hi
 | some fd=>rw[hf] at hi;simp only[Option.map_some,Option.some.injEq,Prod.mk.injEq] at hi;exact⟨fd,rfl,hi.1,hi.2⟩
section
variable {F:Fence} {m:Nat} {n:Nat} {env:List (Nat×Value)} {Df:List Deferred} {a:Act} {w w':World} {Q:Exit→Act→World→Prop} {o:Oper} {next:Act→World→Prop}
theorem vS{P:Program}{x:Operand}{t:TypeId}{f z off ty:Nat}{A:Addr}{l:List (TypeId×Nat)}(hf:Fr n env a Df)(hop:o.op=.fieldAddr t x f)(hu:∃fs,P.underlying t=some (.struct fs)∧fs.toList.map (fun f=>(f.type,f.offset))=l)(hi:l[f]?=some (ty,off))(hz:pA P ty=some z)(hz0:z≠0)
 (hx:AO env x=some (.pointer (some A))):(execOp a.eval o).run P w=.ok (.value (.pointer (some (A.add off)))) w:=by
 obtain⟨fs,h1,h2⟩:=hu
 obtain⟨fd,h3,h4,h5⟩:=Qj h2 f hi
 rw[←h5]
 exact Ed hf hop h1 h3 (by rw[h4];exact hz) hz0 hx
theorem Ba{P:Program}{t:TypeId}{x y z:Operand}{vm vk vv:Value}(hf:Fr n env a Df)(hop:o.op=.mapUpdate t x y z)(hx:AO env x=some vm)(hy:AO env y=some vk)(hz:AO env z=some vv)(hrun:(Instr.mapUpdate t vm vk vv).run P w=.ok () w'):
 (execOp a.eval o).run P w=.ok .skip w':=by
 unfold execOp;rw[hop];simp only[hf.ev hx,hf.ev hy,hf.ev hz,Sem.run_bind,hrun,Result.andThen_ok];rfl
theorem Fr.rnd(h:Fr n env a){p q:Nat}(hp:p<n)(hq:q<n)(u v:Value):Fr n ((q,v)::(p,u)::env) { tmps:=((#[p,q]:Array Nat).zip #[u,v]).foldl (fun t (p,v)=>t.setIfInBounds p v) a.tmps,defers:=[] }:=by
 have e:(#[p,q]:Array Nat).zip #[u,v]=#[(p,u),(q,v)]:=by simp[Array.zip]
 rw[e]
 have e2:(#[(p,u),(q,v)]:Array (Nat×Value)).foldl (fun t (p,v)=>t.setIfInBounds p v) a.tmps=(a.tmps.setIfInBounds p u).setIfInBounds q v:=rfl
 rw[e2]
 have h1:=((h.put hp u).put hq v)
 exact⟨h1.size,rfl,h1.get⟩
end
theorem al{w:World}(o:Obj){k:Nat}{x:Obj}(h:w.heap[k]?=some x):(w.alloc o).heap[k]?=some x:=(Below.heap_alloc w o k (Array.getElem?_eq_some_iff.1 h).1).trans h
theorem Nk(w:World)(o:Obj){k:Nat}(h:k=w.heap.size):(w.alloc o).heap[k]?=some o:=by subst h;exact World.alloc_heap_new w o
def R5(idN:Nat→Int)(nmN:Nat→ByteArray)(slN:Nat→Value)(i:Nat):List Value:=[vI (idN i),.string (nmN i),slN i]
def wS(w:World)(vh vd:Value):World:=(((w.alloc (.cells #[vh,vd] 38)).alloc (.map #[] 0)).alloc (.cells #[.map (some (w.heap.size+1))] 139)).alloc (.cells #[vd] 36)
theorem YU(w:World)(vh vd:Value):(wS w vh vd).heap.size=w.heap.size+4:=by unfold wS;simp only[World.size_alloc]
theorem Ei(w:World)(vh vd:Value):Stp (fun _=>False) w (wS w vh vd):=(((Stp.alloc _ _ _).trans (Stp.alloc _ _ _)).trans (Stp.alloc _ _ _)).trans (Stp.alloc _ _ _)
theorem Nl(w:World)(vh vd:Value):Bk w (wS w vh vd) vh vd []:=by
 refine⟨Ei w vh vd,?_,⟨#[],0,?_,⟨rfl,fun i t e h1 _=>by simp at h1,fun i k v e h1 _=>by simp at h1,rfl,fun i e h1=>by simp at h1⟩⟩,?_,Nat.le_of_eq (YU w vh vd).symm⟩
 ·exact al _ (al _ (al _ (Nk _ _ rfl)))
 ·exact al _ (al _ (Nk _ _ (by simp only[World.size_alloc])))
 ·exact al _ (Nk _ _ (by simp only[World.size_alloc]))
theorem Nm(w:World)(vh vd:Value):(wS w vh vd).cell? ⟨w.heap.size+3,0,none⟩=some vd:=by
 have h:(wS w vh vd).heap[w.heap.size+3]?=some (.cells #[vd] 36):=Nk _ _ (by simp only[World.size_alloc])
 simp only[World.cell?,h]
 rfl
set_option maxRecDepth 20000 in
set_option maxHeartbeats 4000000 in
theorem round{idN:Nat→Int}{nmN:Nat→ByteArray}{slN:Nat→Value}{w W:World}{vh vd:Value}{mp:List T}{x l k:Nat}{a:Act}{c:Code}{Q:Exit→Act→World→Prop}
 (hc:c=(match EO [1,1,0,1] (JC Tryz.f29) with | .block _ (.rangeFunc _ _ _ b)=>b | c=>c)) (hB:Bk w W vh vd mp) (hA:Ax w (R5 idN nmN slN) x a W)
 (hn:∀a' es clock,Bk w (setMap W (w.heap.size+1) es clock) vh vd (kY (.v (vI (idN x))) (.v (.string (nmN x))) mp)→Q .normal a' (setMap W (w.heap.size+1) es clock)):c.wpIn (Fence.wide.inRound l) k Tryz.prog Q a W:=by
 subst hc
 obtain⟨g,hg,hcell,hf⟩:=hA
 have hfn:∀f,(Fence.wide.inRound l).fn f:=fun f=>trivial
 have hcl:∀(j:Nat) y,(R5 idN nmN slN x)[j]?=some y→W.cell? ⟨g,j,none⟩=some y:=fun j y hj=>by
  simp only[World.cell?,hcell]
  simpa using hj
 obtain⟨es,clock,hm,he⟩:=hB.bm
 refine wpIn_block (RJ (by kernel_rfl) ?_)
 refine mZ hfn (fun c h=>by cases h) hf rfl (by decide) (FU hf rfl Pa Pv rfl (by simp only[World.cell?,hB.b3];rfl)) fun a hf=>?_
 refine mZ hfn (fun c h=>by cases h) hf rfl (by decide) (vS hf rfl Ot rfl s3 (by decide) rfl) fun a hf=>?_
 refine mZ hfn (fun c h=>by cases h) hf rfl (by decide) (FU hf rfl s3 a3 rfl (hcl 0 _ rfl)) fun a hf=>?_
 refine mZ hfn (fun c h=>by cases h) hf rfl (by decide) (vS hf rfl Ot rfl Pb (by decide) rfl) fun a hf=>?_
 refine mZ hfn (fun c h=>by cases h) hf rfl (by decide) (vS hf rfl Qi rfl s9 (by decide) rfl) fun a hf=>?_
 refine mZ hfn (fun c h=>by cases h) hf rfl (by decide) (FU hf rfl s9 a9 rfl (hcl 1 _ rfl)) fun a hf=>?_
 have hkk:kT 0 (.v (vI (idN x)))=some (vI (idN x)):=rfl
 have hr:Rd W (fun b=>w.heap.size≤b) (.v (.string (nmN x))) (.string (nmN x)):=.v _
 obtain⟨p1,p2⟩:=QG (kk:=.v (vI (idN x))) (kv:=vI (idN x)) (tv:=.v (.string (nmN x))) he rfl hkk hr (.inr rfl)
 have fin:∀es' clock',(Instr.mapUpdate 139 (.map (some (w.heap.size+1))) (vI (idN x)) (.string (nmN x))).run Tryz.prog W=.ok () (setMap W (w.heap.size+1) es' clock') →
  EntL W (fun b=>w.heap.size≤b) 1000000000 (kY (.v (vI (idN x))) (.v (.string (nmN x))) mp) es' clock'→∃es clock,(Instr.mapUpdate 139 (.map (some (w.heap.size+1))) (vI (idN x)) (.string (nmN x))).run Tryz.prog W=.ok () (setMap W (w.heap.size+1) es clock) ∧
  Bk w (setMap W (w.heap.size+1) es clock) vh vd (kY (.v (vI (idN x))) (.v (.string (nmN x))) mp):=fun es' clock' h1 h2=>by
  have hs:=mX W (w.heap.size+1) es' clock'
  have lt:∀{k:Nat} {o:Obj},W.heap[k]?=some o→k<W.heap.size:=fun h=>(Array.getElem?_eq_some_iff.1 h).1
  refine⟨es',clock',h1,hB.stp.after hs fun b hb hlt=>by omega,(hs.blk _ (lt hB.b1) (by omega)).trans hB.b1,⟨es',clock',?_,h2.step hs (fun b hb=>by omega) fun b hb=>.inl hb⟩,(hs.blk _ (lt hB.b3) (by omega)).trans hB.b3,Nat.le_trans hB.sz hs.size⟩
  have:=lt hm
  simp[setMap,this]
 obtain⟨es1,clock1,r1,r2⟩:∃es clock,(Instr.mapUpdate 139 (.map (some (w.heap.size+1))) (vI (idN x)) (.string (nmN x))).run Tryz.prog W=.ok () (setMap W (w.heap.size+1) es clock) ∧
  Bk w (setMap W (w.heap.size+1) es clock) vh vd (kY (.v (vI (idN x))) (.v (.string (nmN x))) mp):=by
  rcases qK Qh k3 hkk rfl hm he.1 he.2.1 (.string (nmN x)) with⟨q1,q2⟩ | ⟨j,q1,q2⟩
  ·exact fin _ _ q2 (p1 q1)
  ·exact fin _ _ q2 (p2 j q1)
 refine YP hfn (fun c h=>by cases h) hf rfl (Ba hf rfl rfl rfl rfl r1) fun a hf=>?_
 exact hn a _ _ r2
end Go.Eng.En
namespace Go.Eng.En
open Go.Eng Go.RowKit Go.Proofs
abbrev Pc(D:Nat):List Deferred:=[{ target:=.collected D,args:=#[] }]
noncomputable def Jv(t n:Nat):Bool:=match Tryz.prog.info? t with
 | some i=>match i.zero with
  | some z=>decide (z.cells.size=n)
  | none=>false
 | none=>false
theorem GI{t n:Nat}(h:Jv t n=true):∃i z,Tryz.prog.info? t=some i∧i.zero=some z∧z.cells.size=n:=by
 unfold Jv at h
 split at h
 ·rename_i i hi
  split at h
  ·rename_i z hz
   exact⟨i,z,hi,hz,of_decide_eq_true h⟩
  ·cases h
 ·cases h
theorem Fr.mark1{n:Nat}{env:List (Nat×Value)}{a:Act}(h:Fr n env a)(d:Deferred):Fr n env { a with defers:=d::a.defers } [d]:=⟨h.size,by rw[h.defers],h.get⟩
theorem Qk:fO Tryz.prog 87:=⟨_,Tryz.func87,by kernel_rfl,by kernel_rfl⟩
theorem Ql:fO Tryz.prog 148:=⟨_,Tryz.func148,by kernel_rfl,by kernel_rfl⟩
set_option maxRecDepth 20000 in
set_option maxHeartbeats 8000000 in
theorem Ls{idN:Nat→Int}{nmN:Nat→ByteArray}{slN:Nat→Value}{w:World}{vh:Value}{p:Option Addr}{len cap:Nat}{R:Ending→World→Prop}(hmax:len≤maxLen)(h1:∀i,(slN i).oneCell'=true)(hvh:vh.oneCell'=true)
 (hel:0<len→∃A,p=some A∧A.block<w.heap.size∧∀i,i<len→∀(j:Nat) y,[vI (idN i),.string (nmN i),slN i][j]?=some y→w.cell? ((A.add (i*3)).add j)=some y)
 (hpost:∀a W D,Fr 44 [(3,.pointer (some ⟨w.heap.size+2,0,none⟩)),(2,.slice none 0 0),(1,.pointer (some ⟨w.heap.size,0,none⟩))] a (Pc D)→Bk w W vh (.slice p len cap) (EN idN nmN (pre len 0))→W.heap[D]?=some (.deferred (some []))→w.heap.size+4≤D →
  (EO [1,1,1] (JC Tryz.f29)).wp Tryz.prog (bodyPostM Fence.wide 10 Tryz.prog Tryz.f29 R) a W):
 Calls Tryz.prog 29 #[.agg #[vh,.slice p len cap]] w R:=by
 refine R3 (c:=JC Tryz.f29) (k:=10) [.agg #[vh,.slice p len cap]] 43 44 Tryz.func29 (by kernel_rfl) rfl (by kernel_rfl) fun a hf=>?_
 refine wp_seq (dQ (by kernel_rfl) ?_)
 refine dK hf rfl (by decide) (Ee hf rfl rfl) fun a hf=>?_
 refine gU hf rfl rfl (by decide) rfl fun a hf=>?_
 refine wp_seq (dQ (by kernel_rfl) ?_)
 refine dK hf rfl (by decide) (WR rfl) fun a hf=>?_
 obtain⟨i80,z80,hi80,hz80,hs80⟩:=GI (t:=139) (n:=1) (by kernel_rfl)
 obtain⟨i39,z39,hi39,hz39,hs39⟩:=GI (t:=67) (n:=3) (by kernel_rfl)
 refine dK hf rfl (by decide) (AP rfl hi80 hz80) fun a hf=>?_
 refine RH hf rfl (CD hf rfl (cs:=#[.map (some (w.heap.size+1))]) Pa rfl (by simp only[World.size_alloc];rfl) rfl (by simp;rfl) (World.alloc_heap_new _ _) (by rw[hs80];rfl)) fun a hf=>?_
 rw[World.setRow_alloc_new]
 refine wp_seq (wp_seq (dQ (by kernel_rfl) ?_))
 refine dK hf rfl (by decide) (vS hf rfl Pw rfl Mu (by decide) rfl) fun a hf=>?_
 have hw3:∀(W:World),W=((w.alloc (.cells #[vh,.slice p len cap] 38)).alloc (.map #[] 0)).alloc (.cells #[.map (some (w.heap.size+1))] 139)→W.cell? ⟨w.heap.size,1,none⟩=some (.slice p len cap)∧W.heap.size=w.heap.size+3:=fun W hW=>by
  subst hW
  have h:(((w.alloc (.cells #[vh,.slice p len cap] 38)).alloc (.map #[] 0)).alloc (.cells #[.map (some (w.heap.size+1))] 139)).heap[w.heap.size]?=some (.cells #[vh,.slice p len cap] 38):=al _ (al _ (Nk _ _ rfl))
  exact⟨by simp only[World.cell?,h];rfl,by simp only[World.size_alloc]⟩
 refine uQ hf rfl rfl (by decide) Mu Oo rfl (hw3 _ rfl).1 fun a hf=>?_
 refine CC hf rfl rfl rfl (by decide) Qk rfl (Lr (.slice p len cap) _ rfl) fun e w' he=>?_
 obtain⟨rfl,rfl⟩:=he
 refine⟨_,rfl,fun a hf=>?_⟩
 simp only[World.size_alloc] at hf
 show Code.wp Tryz.prog (.block 0 _) _ a (wS w vh (.slice p len cap))
 have hS:=YU w vh (.slice p len cap)
 refine wp_block ((wpIn_wide (n:=10)).1 ?_)
 refine wpIn_rangeFunc_ownH (α:=Nat) rfl (by decide) (gf:=148) (lb:=#[.pointer (some ⟨w.heap.size+3,0,none⟩)]) (hf.ev rfl) trivial (fun args w=>sB Ql)
  (encs:=fun i=>#[vI (i:Nat),.agg (R5 idN nmN slN i).toArray]) (Kp:=Kp (w.heap.size+4) (w.heap.size+1)) (S:=fun xs=>xs=pre len 0) (Sp:=fun _=>True) (N:=len) (w0:=wS w vh (.slice p len cap)) ?seq
  (fun h k=>h.trans k) (fun W l o o' hl _ _ _ b hb _=>?kb) (Below.refl _ _) (fun _=>rfl)
  (fun pre W=>Bk w W vh (.slice p len cap) (EN idN nmN pre)) (fun _ _ _=>False) ?own (fun _ _ _ _ _ hs _ _=>hs) (Nl w vh _) (Ax w (R5 idN nmN slN)) ?axo ?assign ?body ?done ?stop
 case kb=>exact World.putObj_heap_other (by rw[hS] at hl;omega)
 case own=>
  intro s A B row hs hg hr
  refine hs.step (Stp.grown hg fun g e=>?_)
  have:=(hr g e).1
  rw[hS] at this
  exact this
 case axo=>
  rintro x a' _ A B row ⟨g,hg1,hg2,hf⟩ hgr hr
  refine⟨g,hg1,(hgr.block g (Array.getElem?_eq_some_iff.1 hg2).1 fun e=>?_).trans hg2,hf⟩
  obtain⟨o,ho,hc⟩:=(hr g e.symm).2
  rw[hg2] at ho
  cases ho
  cases hc
 case stop=>exact fun D c pre W _ _ h _=>h.elim
 case done=>
  intro D xs W hD hxs hI hd
  subst hxs
  rw[hS] at hD
  exact hpost _ W D ((Fr.mark1 hf _).weak ⟨rfl,rfl,rfl,trivial⟩) hI hd hD
 case body=>
  intro l pre x a' W hl hrec hI hA hlen
  have hA0:=hA
  refine round rfl hI hA0 fun a' es clock hB=>?_
  have hst:=mX W (w.heap.size+1) es clock
  refine⟨⟨hst.size,fun k o hk h1 _=>(hst.blk k (Array.getElem?_eq_some_iff.1 h1).1 (by rw[hS] at hk;omega)).trans h1⟩,fun b hb hne=>?_,by show Bk w _ vh _ (EN idN nmN (pre++[x]));rw[IX];exact hB⟩
  have hsz:=hI.b3
  have:=(Array.getElem?_eq_some_iff.1 hsz).1
  by_cases hbl:b<W.heap.size
  ·exact hst.blk b hbl hne
  ·rw[Array.getElem?_eq_none (by have:=hst.size;show (setMap W _ _ _).heap.size≤b;simp[setMap];omega),Array.getElem?_eq_none (by omega)]
 case assign=>
  intro l pre x W K hI hK
  have hfn:∀f,(Fence.wide.inRound l).fn f:=fun f=>trivial
  have hfr:=Fr.rnd hf (p:=14) (q:=15) (by decide) (by decide) (vI (x:Nat)) (.agg (R5 idN nmN slN x).toArray)
  refine RJ (by kernel_rfl) ?_
  refine mZ hfn (fun c h=>by cases h) hfr rfl (by decide) (AP rfl hi39 hz39) fun a hf=>?_
  refine YP hfn (fun c h=>by cases h) hf rfl (CD hf rfl (cs:=(R5 idN nmN slN x).toArray) IW rfl rfl rfl (fun v hv=>?_) (World.alloc_heap_new _ _) (by rw[hs39];rfl)) fun a hf=>?_
  ·simp only[R5,List.mem_cons,List.not_mem_nil,or_false] at hv
   rcases hv with rfl | rfl | rfl
   ·rfl
   ·rfl
   ·exact h1 x
  rw[World.setRow_alloc_new]
  have hst:=Stp.alloc (fun _=>False) W (.cells (R5 idN nmN slN x).toArray 67)
  have hbl:∀(k:Nat) (o:Obj),W.heap[k]?=some o→(W.alloc (.cells (R5 idN nmN slN x).toArray 67)).heap[k]?=some o:=fun k o h=>al _ h
  refine hK a _ ⟨hst.size,fun k o _ h1 _=>hbl k o h1⟩ (fun b hb _=>hst.blk b (by have:=hI.sz;omega) id) (hI.step (hst.mono fun _ h=>h.elim)) ⟨W.heap.size,hI.sz,World.alloc_heap_new _ _,hf.weak ⟨rfl,rfl,trivial⟩⟩
 case seq=>
  intro l J Jx W hW _ _ hY h0
  rw[hS] at hW
  have hcw:∀{q:Addr} {v:Value},q.block<w.heap.size+4→(wS w vh (.slice p len cap)).cell? q=some v→W.cell? q=some v:=fun hq hc=>(World.cell?_of_block (hW.block _ hq)).trans hc
  refine(Lq (n:=9) (gb:=w.heap.size+3) (gm:=w.heap.size+1) (nS:=w.heap.size+4) (el:=R5 idN nmN slN) (p:=p) (len:=len) (cap:=cap) ⟨by omega,by omega⟩ (hcw (by show w.heap.size+3<_;omega) (Nm w vh _)) (fun h0=>?_) hmax hY h0).mono fun e W' h=>h
  obtain⟨A,rfl,hA1,hA2⟩:=hel h0
  refine⟨A,rfl,by omega,by omega,fun i hi=>⟨rfl,fun j y hj=>hcw (by rw[dH,dH];omega) ?_⟩⟩
  exact(Ei w vh _).cell (hA2 i hi j y hj) id
end Go.Eng.En
namespace Go.Eng.En
open Go.Eng Go.RowKit Go.Proofs
def dT(p:Int×Int):T:=.agg [.v (vI p.1),.v (vI p.2),.v (vI (-1)),.v (vI (-1)),.v (vI (-1))]
def Bb(p:Int×Int):List Value:=[vI p.1,vI p.2,vI (-1),vI (-1),vI (-1)]
def dv(L:List (Int×Int)):List Value:=L.flatMap Bb
noncomputable def EQ(words:List T):List T→List T→Option (List T)
 | [],out=>some out
 | x::l,out=>ob (T.int? .i64 (T.cell x 0)) fun id=>ob (T.str? (T.cell x 1)) fun nm=>ob (T.sl? 7 (T.cell x 2)) fun args=>ob (iX (words,nm,args,())) fun e=>
  bif eqI e.1 0 then EQ words l out else ob (room out [dT (e.1,id)] 40) fun out=>EQ words l out
structure Pk (WD W:World) (lv:Value) (L:List (Int×Int)):Prop where
 stp:Stp (fun _=>False) WD W
 row:rowAt W 71 5 lv L.length (dv L)
 lb:∀b,blk lv=some b→WD.heap.size≤b
theorem Pk.step{WD W W':World}{lv:Value}{L:List (Int×Int)}(h:Pk WD W lv L)(hs:Stp (fun _=>False) W W'):Pk WD W' lv L:=⟨h.stp.trans hs,h.row.step hs fun _ _ h=>h,h.lb⟩
noncomputable def Ej:Bool:=match Tryz.prog.info? 71 with
 | some i=>match i.zero with
  | some z=>decide (z.cells.size=5∧i.size=5∧i.bytes=40)
  | none=>false
 | none=>false
theorem Bc:∃i z,Tryz.prog.info? 71=some i∧i.zero=some z∧z.cells.size=5∧i.size=5∧i.bytes=40:=by
 have h:Ej=true:=by kernel_rfl
 unfold Ej at h
 split at h
 ·rename_i i hi
  split at h
  ·rename_i z hz
   exact⟨i,z,hi,hz,of_decide_eq_true h⟩
  ·cases h
 ·cases h
theorem Pd:Tryz.prog.underlying 68=some (.slice 71):=by kernel_rfl
theorem Lu(x:Int):DP Tryz.prog .neq 42 42 (dV (vI x)) (dV (vI 0)) some=some (dV (.bool (!eqI x 0))):=by kernel_rfl
theorem Id(m:List T)(s:ByteArray)(l:List T):((aA yV iX).call [.c (.t (.sl 1000000000 m)),.agg [.t (.v (.string s)),.t (.sl 7 l)]] [] fun rs po=>some (rs,po))=ob (iX (m,s,l,())) fun q=>some ([.c (.t (.v (.int .i64 q.1)))],[]):=by kernel_rfl
theorem Ie(x y:Int):((aA yT A1).call [.c (.t (.v (.int .i64 x))),.c (.t (.v (.int .i64 y)))] [] fun rs po=>some (rs,po))=some ([.agg [.t (.v (vI x)),.t (.v (vI y)),.t (.v (vI (-1))),.t (.v (vI (-1))),.t (.v (vI (-1)))]],[]):=by kernel_rfl
theorem Qm:fO Tryz.prog 88:=⟨_,Tryz.func88,by kernel_rfl,by kernel_rfl⟩
theorem Qn:fO Tryz.prog 89:=⟨_,Tryz.func89,by kernel_rfl,by kernel_rfl⟩
theorem Ig{w:World}{b:Int}{v:Value}(h:RdRes w (fun _=>False) (fun _=>none) [.c (.t (.v (.int .i64 b)))] v):v=vI b:=by
 rcases(h:RdC1 _ _ _ _ _) with h | ⟨h,_⟩
 ·cases h
 ·exact Rd.inv_v h
theorem Ek{w:World}{vs:List Value}{v:Value}(h:RdRes w (fun _=>False) (fun _=>none) [.agg (vs.map fun v=>.t (.v v))] v):v=.agg vs.toArray:=by
 have h':RdS w (fun _=>False) (fun _=>none) (.agg (vs.map fun v=>.t (.v v))) v:=h
 obtain⟨ys,rfl,h1,h2⟩:=h'
 rw[List.length_map] at h1
 congr 1
 apply Array.ext'
 apply List.ext_getElem?
 intro i
 cases hi:vs[i]? with
 | none=>
  have:=List.getElem?_eq_none_iff.1 hi
  rw[List.getElem?_eq_none (by omega)]
 | some u=>
  have hlt:i<vs.length:=(List.getElem?_eq_some_iff.1 hi).1
  rw[List.getElem?_eq_getElem (by omega)]
  rcases h2 i (.t (.v u)) _ (by rw[List.getElem?_map,hi];rfl) (List.getElem?_eq_getElem (by omega)) with h | ⟨h,_⟩
  ·cases h
  ·rw[Rd.inv_v h]
theorem Bk.words{w W:World}{vh vd:Value}{m:List T}(h:Bk w W vh vd m):RdC1 W (fun _=>False) (fun _=>none) (.t (.sl 1000000000 m)) (.map (some (w.heap.size+1))):=by
 obtain⟨es,clock,hm,h1,h2,h3,h4,h5⟩:=h.bm
 exact .inr ⟨.mp _ _ _ es clock (Nat.le_refl _) hm id h1 h2 ⟨h4,h5⟩ fun i k v e a b=>(h3 i k v e a b).weak fun _ h=>h.elim,rfl⟩
theorem Ih(L:List (Int×Int))(p:Int×Int):dv (L++[p])=dv L++Bb p:=by unfold dv;rw[List.flatMap_append];simp
theorem Jw{W:World}{X:Nat→Prop}:∀L:List (Int×Int),RdT W X (flat (L.map dT)) (dv L)
 | []=>⟨rfl,fun i t y h1 _=>by simp[flat] at h1⟩
 | p::L=>by
  have h:RdT W X (dT p).cells (Bb p):=⟨rfl,fun i t y h1 h2=>by
   match i,h1,h2 with
   | 0,h1,h2=>cases h1;cases h2;exact⟨.v _,rfl⟩
   | 1,h1,h2=>cases h1;cases h2;exact⟨.v _,rfl⟩
   | 2,h1,h2=>cases h1;cases h2;exact⟨.v _,rfl⟩
   | 3,h1,h2=>cases h1;cases h2;exact⟨.v _,rfl⟩
   | 4,h1,h2=>cases h1;cases h2;exact⟨.v _,rfl⟩
   | n+5,h1,h2=>simp[Bb] at h2⟩
  have:=h.append (Jw L)
  rw[List.map_cons,gS]
  exact this
theorem Lv{W:World}{X:Nat→Prop}{lv:Value}{L:List (Int×Int)}(h:rowAt W 71 5 lv L.length (dv L))(hX:∀b,blk lv=some b→¬X b):Rd W X (.sl 5 (L.map dT)) lv:=by
 have ho:okO W X (fun _=>none) lv (.row false 71 5 (L.map dT)):=⟨⟨by decide,by decide⟩,fun t ht=>(by obtain⟨p,_,rfl⟩:=List.mem_map.1 ht;rfl),⟨_,by rw[List.length_map];exact h,Jw L⟩,fun h=>by cases h⟩
 exact vW ho (fun _ h=>h) hX
section
variable {idN:Nat→Int} {nmN:Nat→ByteArray} {slN:Nat→Value} {argN:Nat→List T} {w WD:World} {vh:Value} {p:Option Addr} {len cap D:Nat} {m:List T} {Df:List Deferred}
abbrev UD(w:World)(p:Option Addr)(len cap i:Nat)(lv:Value):List (Nat×Value):=[(25,vI (i:Nat)),(24,vI (len:Nat)),(23,.slice p len cap),(6,lv),(3,.pointer (some ⟨w.heap.size+2,0,none⟩)),(1,.pointer (some ⟨w.heap.size,0,none⟩))]
set_option maxRecDepth 20000 in
set_option maxHeartbeats 8000000 in
theorem Pe{c:Code}{i:Nat}{lv:Value}{L:List (Int×Int)}{a:Act}{W:World}{Q:Exit→Act→World→Prop}{fin:List T}{Dl:List T}{x:T}
 (hc:c=EO [1,1,1,1,0,1,0,0,1,1] (JC Tryz.f29)) (hG:Good Tryz.prog w fun _=>False) (hB:Bk w WD vh (.slice p len cap) m) (hi:i<len) (hmax:len≤maxLen)
 (hel:∃A,p=some A∧A.block<w.heap.size∧∀i,i<len→∀(j:Nat) y,[vI (idN i),.string (nmN i),slN i][j]?=some y→w.cell? ((A.add (i*3)).add j)=some y)
 (h1:∀i,(slN i).oneCell'=true) (hsl:Rd w (fun _=>False) (.sl 7 (argN i)) (slN i))
 (hx:T.cell x 0=.v (vI (idN i))∧T.cell x 1=.v (.string (nmN i))∧T.sl? 7 (T.cell x 2)=some (argN i))
 (hty:EQ m (x::Dl) (L.map dT)=some fin) (hP:Pk WD W lv L) (hf:Fr 44 (UD w p len cap i lv) a Df)
 (hn:∀a' W' lv' L',Fr 44 (UD w p len cap (i+1) lv') a' Df→Pk WD W' lv' L'→EQ m Dl (L'.map dT)=some fin→Q .normal a' W'):c.wp Tryz.prog Q a W:=by
 subst hc
 obtain⟨A,rfl,hA1,hA2⟩:=hel
 obtain⟨x0,x1,x2⟩:=hx
 have hty':=hty
 simp only[EQ,x0,x1,x2] at hty'
 obtain⟨i0,e0,hty1⟩:=aC hty'
 obtain⟨s0,e1,hty2⟩:=aC hty1
 obtain⟨l0,e2,hty3⟩:=aC hty2
 have f0:i0=idN i:=by rw[wF] at e0;cases e0;rfl
 have f1:s0=nmN i:=by rw[iL] at e1;cases e1;rfl
 cases e2
 subst f0;subst f1
 obtain⟨q,hq,hty4⟩:=aC hty3
 obtain⟨i39,z39,hi39,hz39,hs39⟩:=GI (t:=67) (n:=3) (by kernel_rfl)
 have hstp:Stp (fun _=>False) w W:=hB.stp.trans hP.stp
 refine wp_seq (wp_block (wp_seq (dQ (by kernel_rfl) ?_)))
 refine ME (m:=3) hf rfl rfl (by decide) On IW rfl rfl (by omega) (by omega) fun a hf=>?_
 refine dK hf rfl (by decide) (AQ (ys:=R5 idN nmN slN i) hf rfl IW Pu rfl fun j y hj=>hstp.cell (by rw[Int.toNat_natCast];exact hA2 i hi j y hj) id) fun a hf=>?_
 refine dK hf rfl (by decide) (AP rfl hi39 hz39) fun a hf=>?_
 refine RH hf rfl (CD hf rfl (cs:=(R5 idN nmN slN i).toArray) IW rfl rfl rfl (fun v hv=>?_) (World.alloc_heap_new _ _) (by rw[hs39];rfl)) fun a hf=>?_
 ·simp only[R5,List.mem_cons,List.not_mem_nil,or_false] at hv
  rcases hv with rfl | rfl | rfl
  ·rfl
  ·rfl
  ·exact h1 i
 rw[World.setRow_alloc_new]
 have hP1:=hP.step (Stp.alloc (fun _=>False) W (.cells (R5 idN nmN slN i).toArray 67))
 have hbox:=World.alloc_heap_new W (.cells (R5 idN nmN slN i).toArray 67)
 have hcl:∀W',Stp (fun _=>False) (W.alloc (.cells (R5 idN nmN slN i).toArray 67)) W'→∀(j:Nat) y,(R5 idN nmN slN i)[j]?=some y→W'.cell? ⟨W.heap.size,j,none⟩=some y:=fun W' hs j y hj=>hs.cell (by
  simp only[World.cell?,hbox]
  simpa using hj) id
 generalize W.alloc (.cells (R5 idN nmN slN i).toArray 67)=W1 at hP1 hbox hcl
 have hB1:Bk w W1 vh (.slice (some A) len cap) m:=hB.step (hP1.stp.mono fun _ h=>h.elim)
 refine wp_seq (dQ (by kernel_rfl) ?_)
 refine uQ hf rfl rfl (by decide) Pa Pv rfl (by simp only[World.cell?,hB1.b3];rfl) fun a hf=>?_
 refine dK hf rfl (by decide) (vS hf rfl Ot rfl Pb (by decide) rfl) fun a hf=>?_
 refine dK hf rfl (by decide) (AQ (ys:=[.string (nmN i),slN i]) hf rfl Pb a37 rfl fun j y hj=>?_) fun a hf=>?_
 ·have:=hcl W1 (.refl _ _) (j+1) y (by simpa[R5] using hj)
  rw[show ((⟨W.heap.size,0,none⟩:Addr).add 1).add j=⟨W.heap.size,j+1,none⟩ from by rw[kG,Nat.add_comm];unfold Addr.add;split <;> simp_all]
  exact this
 have hrd:Rd W1 (fun _=>False) (.sl 7 (argN i)) (slN i):=hsl.step hB1.stp (fun _ h=>h) fun _ h=>h.elim
 refine KD (args:=[.c (.t (.sl 1000000000 m)),.agg [.t (.v (.string (nmN i))),.t (.sl 7 (argN i))]]) hf rfl rfl rfl (by decide) Qm rfl MO (by rw[Id,hq];rfl) (hG.call hB1.stp fun b h=>h.elim) (MC hB1.words ⟨_,rfl,rfl,fun j c y h1' h2'=>?_⟩) (fun v a W2 hf hs2 hr=>?_) rfl
 ·match j,h1',h2' with
  | 0,h1',h2'=>cases h1';cases h2';exact .inr ⟨.v _,rfl⟩
  | 1,h1',h2'=>cases h1';cases h2';exact .inr ⟨hrd,h1 i⟩
  | n+2,h1',_=>simp at h1'
 rw[Ig hr] at hf
 have hP2:=hP1.step hs2
 have hB2:=hB1.step (hs2.mono fun _ h=>h.elim)
 refine gU hf rfl rfl (by decide) rfl fun a hf=>?_
 refine wp_seq (dQ (by kernel_rfl) ?_)
 refine fS hf rfl rfl (by decide) rfl fun a hf=>?_
 refine oA (v:=.bool (!eqI q.1 0)) hf rfl rfl (by decide) rfl rfl rfl rfl (Lu q.1) fun a hf=>?_
 have hnext:∀(a:Act) (W':World) (lv':Value) (L':List (Int×Int)),Fr 44 [(25,vI (i:Nat)),(24,vI (len:Nat)),(23,.slice (some A) len cap),(6,lv'),(3,.pointer (some ⟨w.heap.size+2,0,none⟩)),(1,.pointer (some ⟨w.heap.size,0,none⟩))] a Df→Pk WD W' lv' L'→EQ m Dl (L'.map dT)=some fin →
  (EO [1,1,1,1,0,1,0,0,1,1,1] (JC Tryz.f29)).wp Tryz.prog Q a W':=by
  intro a W' lv' L' hf hP' ht
  refine dQ (by kernel_rfl) ?_
  refine oA (v:=vI ((i+1:Nat):Int)) hf rfl rfl (by decide) rfl rfl rfl rfl ?_ fun a hf=>?_
  ·rw[Eh,jQ (by omega) (by have h:maxLen≤9223372036854775807:=(by decide);omega)]
   rfl
  refine fS hf rfl rfl (by decide) rfl fun a hf=>?_
  exact hn a W' lv' L' (hf.weak ⟨rfl,rfl,rfl,rfl,rfl,rfl,trivial⟩) hP' ht
 cases hq0:eqI q.1 0 with
 | true=>
  rw[hq0] at hf hty4
  refine wp_cond_false (hf.ev rfl) (wp_skip ?_)
  exact hnext a W2 lv L (hf.weak ⟨rfl,rfl,rfl,rfl,rfl,rfl,trivial⟩) hP2 hty4
 | false=>
  rw[hq0] at hf hty4
  obtain⟨out,ho,hty5⟩:=aC hty4
  obtain⟨rfl,r1,r2⟩:=B0 ho
  obtain⟨i54,z54,q1,q2,q3,q4,q5⟩:=Bc
  refine wp_cond_true (hf.ev rfl) (dQ (by kernel_rfl) ?_)
  refine fS hf rfl rfl (by decide) rfl fun a hf=>?_
  refine fS hf rfl rfl (by decide) rfl fun a hf=>?_
  refine dK hf rfl (by decide) (vS hf rfl Ot rfl s3 (by decide) rfl) fun a hf=>?_
  refine uQ hf rfl rfl (by decide) s3 a3 rfl (hcl W2 hs2 0 _ rfl) fun a hf=>?_
  refine KD (args:=[.c (.t (.v (vI q.1))),.c (.t (.v (vI (idN i))))]) hf rfl rfl rfl (by decide) Qn rfl ML (Ie _ _) (hG.call hB2.stp fun b h=>h.elim) (MC (.inr ⟨.v _,rfl⟩) (.inr ⟨.v _,rfl⟩)) (fun v a W3 hf hs3 hr=>?_) rfl
  rw[Ek (vs:=Bb (q.1,idN i)) hr] at hf
  have hP3:=hP2.step hs3
  refine Ln (cs:=(Bb (q.1,idN i)).toArray) hf rfl rfl (by decide) Pd q1 q2 (by rw[q3];rfl) (by rw[q4];rfl) (show 0<5 by decide) (show 5≤1000 by decide) rfl fun a hf=>?_
  have hr1:=Aw W3 71 (Bb (q.1,idN i)).toArray (show 0<5 by decide)
  have hP4:=hP3.step (Stp.alloc (fun _=>False) W3 (.cells (Bb (q.1,idN i)).toArray 71))
  have hsrc:Src Tryz.prog 5 68 (.slice (some ⟨W3.heap.size,0,none⟩) 1 1) 1 (Bb (q.1,idN i)) (W3.alloc (.cells (Bb (q.1,idN i)).toArray 71)):=
   .ofSlice _ Pd ⟨W3.heap.size,0,none⟩ _ _ _ rfl (fun j u hj=>hr1.cells rfl j u hj) (fun u hu=>by
    simp only[Bb,List.mem_cons,List.not_mem_nil,or_false] at hu
    rcases hu with rfl | rfl | rfl | rfl | rfl <;> rfl)
  generalize W3.alloc (.cells (Bb (q.1,idN i)).toArray 71)=W4 at hP4 hsrc
  rw[List.length_map] at r1 r2
  refine Av (m:=L.length) (q:=1) (xs:=dv L) (news:=Bb (q.1,idN i)) hf rfl rfl (by decide) Pd q1 q2 (by rw[q3,q4]) (by omega) rfl rfl (by rw[q4];exact hP4.row) (by rw[q4];exact hsrc) r1 (by rw[q5];exact r2) fun a v' W5 hf hrow hg hb=>?_
  rw[q4] at hrow
  refine gU hf rfl rfl (by decide) rfl fun a hf=>?_
  have hs5:Stp (fun b=>blk lv=some b) W4 W5:=Stp.grown hg fun b e=>e
  refine hnext a W5 v' (L++[(q.1,idN i)]) (hf.weak ⟨rfl,rfl,rfl,rfl,rfl,rfl,trivial⟩) ⟨hP4.stp.after hs5 fun b hb hlt=>?_,?_,fun b e=>?_⟩ (by rw[List.map_append];exact hty5)
  ·have:=hP4.lb b hb;omega
  ·rw[List.length_append,Ih];exact hrow
  ·rcases hb with hb | hb
   ·exact hP4.lb b (hb▸e)
   ·rw[hb] at e;cases e;exact hP4.stp.size
set_option maxRecDepth 20000 in
set_option maxHeartbeats 8000000 in
theorem Lw{a:Act}{vh:Value}{Dl fin:List T}{R:Ending→World→Prop}(hG:Good Tryz.prog w fun _=>False)(hB:Bk w WD vh (.slice p len cap) m)(hlen:len=Dl.length)(hmax:len≤maxLen)
 (hel:0<len→∃A,p=some A∧A.block<w.heap.size∧∀i,i<len→∀(j:Nat) y,[vI (idN i),.string (nmN i),slN i][j]?=some y→w.cell? ((A.add (i*3)).add j)=some y)
 (h1:∀i,(slN i).oneCell'=true) (hsl:∀i,i<len→Rd w (fun _=>False) (.sl 7 (argN i)) (slN i)) (hD:Oq idN nmN argN Dl) (hty:EQ m Dl []=some fin)
 (hf:Fr 44 [(3,.pointer (some ⟨w.heap.size+2,0,none⟩)),(2,.slice none 0 0),(1,.pointer (some ⟨w.heap.size,0,none⟩))] a (Pc D)) (hd:WD.heap[D]?=some (.deferred (some []))) (hD4:w.heap.size+4≤D)
 (hR:∀v w' L,Stp (fun _=>False) w w'→rowAt w' 71 5 v L.length (dv L)→(∀b,blk v=some b→w.heap.size≤b)→fin=L.map dT→R (.returned v) w'):
 (EO [1,1,1] (JC Tryz.f29)).wp Tryz.prog (bodyPostM Fence.wide 10 Tryz.prog Tryz.f29 R) a WD:=by
 have hcd:∀W,Bk w W vh (.slice p len cap) m→W.cell? ⟨w.heap.size,1,none⟩=some (.slice p len cap):=fun W h=>by simp only[World.cell?,h.b1];rfl
 refine wp_seq (dQ (by kernel_rfl) ?_)
 refine gU hf rfl rfl (by decide) rfl fun a hf=>?_
 refine wp_seq (wp_seq (dQ (by kernel_rfl) ?_))
 refine dK hf rfl (by decide) (vS hf rfl Pw rfl Mu (by decide) rfl) fun a hf=>?_
 refine uQ hf rfl rfl (by decide) Mu Oo rfl (hcd WD hB) fun a hf=>?_
 refine WO hf rfl rfl (by decide) On rfl fun a hf=>?_
 refine fS hf rfl rfl (by decide) rfl fun a hf=>?_
 refine wp_block ?_
 refine MF (m:=len) (fun k a W=>∃(i:Nat) (lv:Value) (L:List (Int×Int)),i+k=len∧EQ m (Dl.drop i) (L.map dT)=some fin∧Fr 44 (UD w p len cap i lv) a (Pc D)∧Pk WD W lv L) ?_ ?_
  ⟨0,_,[],Nat.zero_add _,hty,hf.weak ⟨rfl,rfl,rfl,rfl,rfl,rfl,trivial⟩,.refl _ _,rowAt.nil _ _ _,fun b hb=>by cases hb⟩
 ·rintro K a W ⟨i,lv,L,hi,ht,hf,hP⟩
  have hil:i=len:=by omega
  subst hil
  rw[List.drop_of_length_le (by omega)] at ht
  simp only[EQ,Option.some.injEq] at ht
  refine wp_seq (dQ (by kernel_rfl) ?_)
  refine oA (v:=.bool false) hf rfl rfl (by decide) rfl rfl rfl rfl ?_ fun a hf=>?_
  ·rw[R4,aG,decide_eq_false (by omega)]
  refine wp_seq (wp_cond_false (hf.ev rfl) (wp_exit ?_))
  show Code.wp Tryz.prog (EO [1,1,1,1,1] (JC Tryz.f29)) _ a W
  refine wp_seq (dQ (by kernel_rfl) ?_)
  refine fS hf rfl rfl (by decide) rfl fun a hf=>?_
  refine gU hf rfl rfl (by decide) rfl fun a hf=>?_
  refine wp_ret ?_
  have hdl:D<WD.heap.size:=(Array.getElem?_eq_some_iff.1 hd).1
  have hd':W.heap[D]?=some (.deferred (some [])):=(hP.stp.blk D hdl id).trans hd
  have hput:Stp (fun b=>b=D) W (W.putObj D (.deferred none)):=Stp.grown (grownBy_putObj' W D _) fun g e=>by cases e;rfl
  show LeavesInM Fence.wide 10 Tryz.prog Tryz.f29 a.tmps R a.defers .returning W
  rw[hf.defers]
  refine⟨by simp,.inl ⟨D,_,rfl,run_takeDeferred hd',lv,?_,?_⟩⟩
  ·unfold results
   rw[show Tryz.f29.results=#[.tmp 2] from rfl]
   have:=hf.get 2 lv rfl
   rw[Array.getD_eq_getD_getElem?] at this
   simp[this]
  ·refine hR lv _ L ((hB.stp.trans hP.stp).after hput fun b hb hlt=>by subst hb;omega) (hP.row.step hput fun b hb e=>?_) (fun b hb=>?_) ht.symm
   ·have:=hP.lb b hb;omega
   ·exact Nat.le_trans (Nat.le_trans (by omega) hB.sz) (hP.lb b hb)
 ·rintro k K hK a W ⟨i,lv,L,hi,ht,hg,hP⟩
  have hil:i<len:=by omega
  obtain⟨x,hx⟩:∃x,Dl[i]?=some x:=⟨_,List.getElem?_eq_getElem (by omega)⟩
  have W8:Dl.drop i=x::Dl.drop (i+1):=by
   obtain⟨h,rfl⟩:=List.getElem?_eq_some_iff.1 hx
   exact List.drop_eq_getElem_cons h
  rw[W8] at ht
  refine wp_seq (dQ (by kernel_rfl) ?_)
  refine oA (v:=.bool true) hg rfl rfl (by decide) rfl rfl rfl rfl ?_ fun a hf=>?_
  ·rw[R4,aG,decide_eq_true (by omega)]
  refine wp_seq (wp_cond_true (hf.ev rfl) (wp_skip ?_))
  exact Pe (argN:=argN) rfl hG hB hil hmax (hel (by omega)) h1 (hsl i hil) (hD i x hx) ht hP (hf.weak ⟨rfl,rfl,rfl,rfl,rfl,rfl,trivial⟩) fun a' W' lv' L' hf' hP' ht'=>hK a' W' ⟨i+1,lv',L',by omega,ht',hf',hP'⟩
end
end Go.Eng.En
namespace Go.Eng.En
open Go.Eng Go.RowKit Go.Proofs
noncomputable def wordsL:List T→Option (List T)
 | []=>some []
 | x::l=>ob (wordsL l) fun m=>ob (T.int? .i64 (T.cell x 0)) fun id=>ob (T.str? (T.cell x 1)) fun nm=>some (kY (.v (vI id)) (.v (.string nm)) m)
theorem UE{idN:Nat→Int}{nmN:Nat→ByteArray}{argN:Nat→List T}{D:List T}(hD:Oq idN nmN argN D):∀(j k:Nat) (m:List T),k+j=D.length→wordsL (D.drop k)=some m→m=EN idN nmN (pre D.length k)
 | 0,k,m,hk,h=>by
  rw[List.drop_of_length_le (by omega)] at h
  simp only[wordsL,Option.some.injEq] at h
  rw[show k=D.length from by omega,YT,←h];rfl
 | j+1,k,m,hk,h=>by
  obtain⟨x,hx⟩:∃x,D[k]?=some x:=⟨_,List.getElem?_eq_getElem (by omega)⟩
  have W8:D.drop k=x::D.drop (k+1):=by
   obtain⟨h,rfl⟩:=List.getElem?_eq_some_iff.1 hx
   exact List.drop_eq_getElem_cons h
  rw[W8] at h
  simp only[wordsL] at h
  obtain⟨m1,h1,h⟩:=aC h
  obtain⟨d0,d1,_⟩:=hD k x hx
  rw[d0,d1,wF,iL] at h
  obtain⟨_,e1,h⟩:=aC h
  cases e1
  obtain⟨_,e2,h⟩:=aC h
  cases e2
  cases h
  rw[UE hD j (k+1) m1 (by omega) h1,←IX,UC (by omega)]
theorem M4{m:List T}:∀(l out fin:List T),EQ m l out=some fin→∀x∈l,∃id nm args,T.int? .i64 (T.cell x 0)=some id∧T.str? (T.cell x 1)=some nm∧T.sl? 7 (T.cell x 2)=some args
 | [],_,_,_=>fun x hx=>by cases hx
 | y::l,out,fin,h=>fun x hx=>by
  simp only[EQ] at h
  obtain⟨id,h0,h⟩:=aC h
  obtain⟨nm,h1,h⟩:=aC h
  obtain⟨args,h2,h⟩:=aC h
  rcases List.mem_cons.1 hx with rfl | hx
  ·exact⟨id,nm,args,h0,h1,h2⟩
  ·obtain⟨e,_,h⟩:=aC h
   cases hc:eqI e.1 0 with
   | true=>rw[hc] at h;exact M4 l _ _ h x hx
   | false=>
    rw[hc] at h
    obtain⟨o,_,h⟩:=aC h
    exact M4 l _ _ h x hx
theorem Lx{m D fin:List T}(h:EQ m D []=some fin):∃idN nmN argN,Oq idN nmN argN D:=by
 refine⟨fun i=>((D[i]?).bind fun x=>T.int? .i64 (T.cell x 0)).getD 0,fun i=>((D[i]?).bind fun x=>T.str? (T.cell x 1)).getD ByteArray.empty,fun i=>((D[i]?).bind fun x=>T.sl? 7 (T.cell x 2)).getD [],fun i x hx=>?_⟩
 obtain⟨id,nm,args,h0,h1,h2⟩:=M4 _ _ _ h x (List.mem_of_getElem? hx)
 simp only[hx,Option.bind_some,h0,h1,h2,Option.getD_some]
 exact⟨U3 h0,U4 h1,trivial⟩
end Go.Eng.En
namespace Go.Eng
open Go.Proofs Go.RowKit En
def JY:Sig:={ na:=1,np:=0,hin:={ items:=[.aggs 0 2],shapes:=[.sl 2,.sl 3] },nres:=1,kept:=[],nnew:=0,hout:={ items:=[.slot 0],shapes:=[.sl 5] },nob:=16 }
noncomputable def o8(t:((List T)×(List T)×Unit)):Option ((List T)×Unit):=ob (wordsL t.2.1) fun m=>ob (EQ m t.2.1 []) fun out=>some (out,())
theorem M5:(aA JY o8).OK Tryz.prog 29:=by
 refine CA rfl rfl fun t q hq w X F ρ vals hG hX hvl hv rs hrs=>?_
 unfold o8 at hq
 obtain⟨m,hm,hq⟩:=aC hq
 obtain⟨fin,hfin,hq⟩:=aC hq
 cases hq
 obtain⟨H,D,u⟩:=t
 obtain⟨idN,nmN,argN,hD⟩:=Lx hfin
 match vals,hvl with
 | [v],_=>
 have hr:RdS w X ρ (.agg [.t (.sl 2 H),.t (.sl 3 D)]) v:=hv 0 _ v rfl rfl
 obtain⟨ys,rfl,h1,h2⟩:=hr
 obtain⟨l⟩:=ys
 match l,h1 with
 | [vh,vd],_=>
 have r1:RdC1 w X ρ (.t (.sl 3 D)) vd:=h2 1 _ _ rfl rfl
 rcases r1 with r1 | ⟨r1,_⟩
 ·cases r1
 have r0:RdC1 w X ρ (.t (.sl 2 H)) vh:=h2 0 _ _ rfl rfl
 rcases r0 with r0 | ⟨_,o0⟩
 ·cases r0
 have hr1:Rd w X (.sl 3 D) vd:=r1
 obtain⟨p,cap,slN,rfl,hmax,hone,hel,hsl⟩:=Oz hr1 hD
 have hw:=UE hD D.length 0 m (Nat.zero_add _) hm
 subst hw
 refine Ls (idN:=idN) (nmN:=nmN) (slN:=slN) hmax hone o0 hel fun a W Dm hf hB hd hD4=>?_
 refine Lw (argN:=argN) (fun g k hg=>⟨id,(hG g k hg).2⟩) hB rfl hmax hel hone hsl hD hfin hf hd hD4 fun v w' L hs hrow hb he=>⟨v,rfl,hs,?_⟩
 subst he
 have:rs=[.c (.t (.sl 5 (L.map dT)))]:=by
  have h:UY [.s (.c (.t (.sl 5 (L.map dT))))]=some rs:=hrs
  simp only[UY,Option.map_some,Option.some.injEq] at h
  exact h.symm
 subst this
 exact .inr ⟨Lv hrow fun b hb' hx=>by have:=hX b hx;have:=hb b hb';omega,rowAt.one hrow⟩
def nN:Sig:=⟨0,0,⟨[],[]⟩,1,[],0,⟨[.slot 0],[.bool]⟩,168⟩
noncomputable def cL(t:Unit):Option (Bool×Unit):=ob (u_ref02_Frac ((-3:Int),(8:Int),())) fun x0=>ob (cE (x0.1,x0.2.1,x0.2.2.1,())) fun x1=>ob (u_ref02_Int ((5:Int),())) fun x2=>ob (cE (x2.1,x2.2.1,x2.2.2.1,())) fun x3=>ob (u_ref02_Frac ((1:Int),(3:Int),())) fun x4=>ob (cE (x4.1,x4.2.1,x4.2.2.1,())) fun x5=>ob (o8 ([],[T.agg [T.v (.int .i64 (1:Int)),T.v (.string (ByteArray.mk #[80,76,65,78,69])),T.sl 7 [T.agg [T.v (.int .i64 (3:Int)),T.v (.bool false),T.sl 1 [],T.sl 1 [],T.v (.string (ByteArray.mk #[])),T.v (.int .i64 (0:Int)),T.sl 7 []],T.agg [T.v (.int .i64 (5:Int)),T.v (.bool false),T.sl 1 [],T.sl 1 [],T.v (.string (ByteArray.mk #[])),T.v (.int .i64 (2:Int)),T.sl 7 []],T.agg [T.v (.int .i64 (5:Int)),T.v (.bool false),T.sl 1 [],T.sl 1 [],T.v (.string (ByteArray.mk #[])),T.v (.int .i64 (2:Int)),T.sl 7 []]]],T.agg [T.v (.int .i64 (2:Int)),T.v (.string (ByteArray.mk #[67,65,82,84,69,83,73,65,78,95,80,79,73,78,84])),T.sl 7 [T.agg [T.v (.int .i64 (3:Int)),T.v (.bool false),T.sl 1 [],T.sl 1 [],T.v (.string (ByteArray.mk #[])),T.v (.int .i64 (0:Int)),T.sl 7 []],T.agg [T.v (.int .i64 (6:Int)),T.v (.bool false),T.sl 1 [],T.sl 1 [],T.v (.string (ByteArray.mk #[])),T.v (.int .i64 (0:Int)),T.sl 7 [T.agg [T.v (.int .i64 (1:Int)),T.v (.bool false),T.sl 1 [],T.sl 1 [],T.v (.string (ByteArray.mk #[])),T.v (.int .i64 (0:Int)),T.sl 7 []],T.agg [T.v (.int .i64 (1:Int)),T.v (.bool false),T.sl 1 [],T.sl 1 [],T.v (.string (ByteArray.mk #[])),T.v (.int .i64 (0:Int)),T.sl 7 []],T.agg [T.v (.int .i64 (1:Int)),T.v (.bool false),T.sl 1 [],T.sl 1 [],T.v (.string (ByteArray.mk #[])),T.v (.int .i64 (0:Int)),T.sl 7 []]]]]]],())) fun x6=>bif x1.2.1 then bif eqS x1.1 (ByteArray.mk #[45,48,46,51,55,53]) then bif x3.2.1 then bif eqS x3.1 (ByteArray.mk #[53,46]) then bif Bool.not x5.2.1 then bif eqI (lenL x6.1) (1:Int) then ob (idxL x6.1 (0:Int)) fun x7=>ob (T.int? .i64 (T.cell x7 0)) fun x8=>bif eqI x8 (35:Int) then ob (idxL x6.1 (0:Int)) fun x9=>ob (T.int? .i64 (T.cell x9 1)) fun x10=>some (eqI x10 (1:Int),()) else some (false,()) else some (false,()) else some (false,()) else some (false,()) else some (false,()) else some (false,()) else some (false,())
theorem xY:(aA nN cL).OK Tryz.prog 9:=d4 mixed [23] .leaf (.cs Tryz.func21 FZ <| .cs Tryz.func23 wR <| .cs Tryz.func19 qY <| .cs Tryz.func29 M5 <| .nil) Tryz.func9 fun _=>by kernel_rfl
open Go.Proofs
def dW:Sig:=⟨2,0,⟨[.slot 0,.slot 1],[.sl 7,I6]⟩,2,[],0,⟨[.slot 0,.slot 1],[.sl 3,I6]⟩,86⟩
def oX:Sig:=⟨2,0,⟨[.aggs 0 7,.slot 1],[I6,.bool,.sl 1,.sl 1,.str,I6,.sl 7,I6]⟩,2,[],0,⟨[.slot 0,.slot 1],[.sl 3,I6]⟩,194⟩
noncomputable def w3(self:((List T)×(Int×Unit))→Option ((List T)×(Int×Unit))):List (Go.FuncId×Callee):=[(214,(aA DH oW)),(24,(aA qB fI)),(74,(aA qA u_ref24_Integer)),(41,(aA tP u_ref24_token)),(53,(aA r5 dR)),(42,(aA wU fJ)),(100,(aA dW self))]
noncomputable def cZ(self:(List T×Int×Unit)→Option (List T×Int×Unit))(t:Int×Bool×List T×List T×ByteArray×Int×List T×Int×Unit):Option (List T×Int×Unit):=ob (oW (t.1,t.2.1,t.2.2.1,t.2.2.2.1,t.2.2.2.2.1,t.2.2.2.2.2.1,t.2.2.2.2.2.2.1,())) fun x0=>bif Bool.not x0.1 then some ([],(41:Int),()) else ob (α:=Int×Unit×Int×Bool×Int×Bool×List T×List T×ByteArray×Int×List T×Unit⊕Empty) (bif eqI t.1 (1:Int) then some (.inl (t.2.2.2.2.2.2.2.1,(),t.1,eqI t.1 (1:Int),t.1,t.2.1,t.2.2.1,t.2.2.2.1,t.2.2.2.2.1,t.2.2.2.2.2.1,t.2.2.2.2.2.2.1,())) else some (.inl (t.2.2.2.2.2.2.2.1,(),t.1,eqI t.1 (2:Int),t.1,t.2.1,t.2.2.1,t.2.2.2.1,t.2.2.2.2.1,t.2.2.2.2.2.1,t.2.2.2.2.2.2.1,()))) fun q1=>bB q1 (fun t2=>bif t2.2.2.2.1 then ob (fI (t2.2.2.2.2.2.1,t2.2.2.2.2.2.2.1,t2.2.2.2.2.2.2.2.1,())) fun x3=>ob (α:=T×Int×Unit⊕ByteArray×Unit⊕Empty) (bif eqI t2.2.2.2.2.1 (1:Int) then ob (u_ref24_Integer (t2.2.2.2.2.2.1,t2.2.2.2.2.2.2.1,t2.2.2.2.2.2.2.2.1,())) fun x4=>bif Bool.not x4.1 then some (.inl (T.v (.slice none 0 0),(41:Int),())) else bif Bool.not x3.2.1 then some (.inl (T.v (.slice none 0 0),(4:Int),())) else bif eqI t2.2.2.2.2.1 (1:Int) then ob (subS x3.1 (0:Int) (wr .i64 (subI (lenS x3.1) (1:Int)))) fun x5=>some (.inr (.inl (x5,()))) else some (.inr (.inl (x3.1,()))) else bif Bool.not x3.2.1 then some (.inl (T.v (.slice none 0 0),(4:Int),())) else bif eqI t2.2.2.2.2.1 (1:Int) then ob (subS x3.1 (0:Int) (wr .i64 (subI (lenS x3.1) (1:Int)))) fun x6=>some (.inr (.inl (x6,()))) else some (.inr (.inl (x3.1,())))) fun q7=>bB q7 (fun t8=>ob (T.sl? 3 t8.1) fun x9=>some (x9,t8.2.1,())) fun q10=>bB q10 (fun t11=>ob (u_ref24_token ((2:Int),t11.1,())) fun x12=>some ([T.agg [T.v (.int .i64 x12.1),T.v (.string x12.2.1),T.v (.int .i64 x12.2.2.1)]],(0:Int),())) fun q13=>b0 q13 else ob (α:=Int×Unit×Int×Bool×Int×Bool×List T×List T×ByteArray×Int×List T×Unit⊕Empty) (bif eqI t2.2.2.1 (3:Int) then some (.inl (t2.1,(),t2.2.2.1,eqI t2.2.2.1 (3:Int),t2.2.2.2.2.1,t2.2.2.2.2.2.1,t2.2.2.2.2.2.2.1,t2.2.2.2.2.2.2.2.1,t2.2.2.2.2.2.2.2.2.1,t2.2.2.2.2.2.2.2.2.2.1,t2.2.2.2.2.2.2.2.2.2.2.1,())) else some (.inl (t2.1,(),t2.2.2.1,eqI t2.2.2.1 (4:Int),t2.2.2.2.2.1,t2.2.2.2.2.2.1,t2.2.2.2.2.2.2.1,t2.2.2.2.2.2.2.2.1,t2.2.2.2.2.2.2.2.2.1,t2.2.2.2.2.2.2.2.2.2.1,t2.2.2.2.2.2.2.2.2.2.2.1,()))) fun q14=>bB q14 (fun t15=>bif t15.2.2.2.1 then ob (u_ref24_token ((3:Int),t15.2.2.2.2.2.2.2.2.1,())) fun x16=>ob (α:=Unit×Int×ByteArray×Int×Unit⊕Empty) (bif eqI t15.2.2.2.2.1 (4:Int) then some (.inl ((),(4:Int),x16.2.1,x16.2.2.1,())) else some (.inl ((),x16.1,x16.2.1,x16.2.2.1,()))) fun q17=>bB q17 (fun t18=>ob (dR (t18.2.1,t18.2.2.1,t18.2.2.2.1,())) fun x19=>bif Bool.not x19.1 then some ([],(41:Int),()) else some ([T.agg [T.v (.int .i64 t18.2.1),T.v (.string t18.2.2.1),T.v (.int .i64 t18.2.2.2.1)]],(0:Int),())) fun q20=>b0 q20 else bif eqI t15.2.2.1 (5:Int) then bif ltI t15.2.2.2.2.2.2.2.2.2.1 (1:Int) then some ([],(2:Int),()) else bif ltI (2147483647:Int) t15.2.2.2.2.2.2.2.2.2.1 then some ([],(2:Int),()) else ob (fJ (t15.2.2.2.2.2.2.2.2.2.1,())) fun x21=>ob (u_ref24_token ((5:Int),x21.1,())) fun x22=>some ([T.agg [T.v (.int .i64 x22.1),T.v (.string x22.2.1),T.v (.int .i64 x22.2.2.1)]],(0:Int),()) else bif eqI t15.2.2.1 (7:Int) then ob (u_ref24_token ((11:Int),ByteArray.mk #[],())) fun x23=>some ([T.agg [T.v (.int .i64 x23.1),T.v (.string x23.2.1),T.v (.int .i64 x23.2.2.1)]],(0:Int),()) else bif eqI t15.2.2.1 (8:Int) then ob (u_ref24_token ((12:Int),ByteArray.mk #[],())) fun x24=>some ([T.agg [T.v (.int .i64 x24.1),T.v (.string x24.2.1),T.v (.int .i64 x24.2.2.1)]],(0:Int),()) else bif eqI t15.2.2.1 (6:Int) then bif eqI t15.1 (8:Int) then some ([],(41:Int),()) else ob (self (t15.2.2.2.2.2.2.2.2.2.2.1,wr .i64 (addI t15.1 (1:Int)),())) fun x25=>some (x25.1,x25.2.1,()) else some ([],(41:Int),())) fun q26=>b0 q26) fun q27=>b0 q27
def HR:HT:=(.l (.l (.seq (.l (.one (.seq (.join [(.normal,⟨[.slot 1,.slot 2,.slot 13,.slot 14,.box 2 7],[I6,.lit (.box 2 0),I6,.bool,I6,.bool,.sl 1,.sl 1,.str,I6,.sl 7]⟩)] .leaf) (.cond (.l (.seq (.join [(.ret,⟨[.slot 4,.slot 5],[.tree,I6]⟩),(.normal,⟨[.slot 6],[.str]⟩)] .leaf) .leaf)) (.seq (.join [(.normal,⟨[.slot 1,.slot 2,.slot 13,.slot 48,.box 2 7],[I6,.lit (.box 2 0),I6,.bool,I6,.bool,.sl 1,.sl 1,.str,I6,.sl 7]⟩)] .leaf) (.cond (.l (.seq (.join [(.normal,⟨[.slot 8,.box 8 3],[.lit (.box 8 0),I6,.str,I6]⟩)] .leaf) .leaf)) .leaf)))))) .leaf)))
theorem F7(self:((List T)×(Int×Unit))→Option ((List T)×(Int×Unit)))(hs:(aA dW self).OK Tryz.prog 100):TabOK Tryz.prog [214,24,74,41,53,42] (w3 self):=(TabOK.cons (fun _=>⟨_,Tryz.func214,by kernel_rfl,by kernel_rfl⟩) RZ (aB _ _) (fun _=>(bM (by kernel_rfl))) (by kernel_rfl) (fun _=>aP (aB _ _) rfl rfl) (by kernel_rfl) (TabOK.cons (fun _=>⟨_,Tryz.func24,by kernel_rfl,by kernel_rfl⟩) JJ (aB _ _) (fun _=>(bM (by kernel_rfl))) (by kernel_rfl) (fun _=>aP (aB _ _) rfl rfl) (by kernel_rfl) (TabOK.cons (fun _=>⟨_,Tryz.func74,by kernel_rfl,by kernel_rfl⟩) yY (aB _ _) (fun _=>(bM (by kernel_rfl))) (by kernel_rfl) (fun _=>aP (aB _ _) rfl rfl) (by kernel_rfl) (TabOK.cons (fun _=>⟨_,Tryz.func41,by kernel_rfl,by kernel_rfl⟩) mM (aB _ _) (fun _=>(bM (by kernel_rfl))) (by kernel_rfl) (fun _=>aP (aB _ _) rfl rfl) (by kernel_rfl) (TabOK.cons (fun _=>⟨_,Tryz.func53,by kernel_rfl,by kernel_rfl⟩) tO (aB _ _) (fun _=>(bM (by kernel_rfl))) (by kernel_rfl) (fun _=>aP (aB _ _) rfl rfl) (by kernel_rfl) (TabOK.cons (fun _=>⟨_,Tryz.func42,by kernel_rfl,by kernel_rfl⟩) y7 (aB _ _) (fun _=>(bM (by kernel_rfl))) (by kernel_rfl) (fun _=>aP (aB _ _) rfl rfl) (by kernel_rfl) (TabOK.cons (fun _=>⟨_,Tryz.func100,by kernel_rfl,by kernel_rfl⟩) hs (aB _ _) (fun h=>by cases h) (by kernel_rfl) (fun _=>aP (aB _ _) rfl rfl) (by kernel_rfl) TabOK.nil)))))))
theorem HS(self:((List T)×(Int×Unit))→Option ((List T)×(Int×Unit))):∀t,pH Tryz.prog (w3 self) [214,24,74,41,53,42] HR Tryz.f160 oX t=(cZ self) t:=by
 intro t
 kernel_rfl
theorem HU(self:((List T)×(Int×Unit))→Option ((List T)×(Int×Unit)))(hs:(aA dW self).OK Tryz.prog 100):(aA oX (cZ self)).OK Tryz.prog 160:=pV mixed (F7 self hs) Tryz.func160 (by kernel_rfl) (by kernel_rfl) (HS self)
noncomputable def u6(self:((List T)×(Int×Unit))→Option ((List T)×(Int×Unit))):List (Go.FuncId×Callee):=[(41,(aA tP u_ref24_token)),(160,(aA oX (cZ self)))]
noncomputable def cX(self:(List T×Int×Unit)→Option (List T×Int×Unit))(s1:List T×Int×List T×Int×Unit):Option (List T×Int×List T×Int×Unit⊕T×Int×Unit⊕List T×Unit⊕Empty):=bif ltI s1.2.2.2.1 (lenL s1.1) then ob (α:=List T×Int×List T×Int×Unit⊕Empty) (bif ltI (0:Int) s1.2.2.2.1 then ob (u_ref24_token ((8:Int),ByteArray.mk #[],())) fun x2=>ob (room s1.2.2.1 [T.agg [T.v (.int .i64 x2.1),T.v (.string x2.2.1),T.v (.int .i64 x2.2.2.1)]] 32) fun x3=>some (.inl (s1.1,s1.2.1,x3,s1.2.2.2.1,())) else some (.inl (s1.1,s1.2.1,s1.2.2.1,s1.2.2.2.1,()))) fun q4=>bB q4 (fun t5=>ob (idxL t5.1 t5.2.2.2.1) fun x6=>ob (T.int? .i64 (T.cell x6 0)) fun x7=>ob (T.bool? (T.cell x6 1)) fun x8=>ob (T.sl? 1 (T.cell x6 2)) fun x9=>ob (T.sl? 1 (T.cell x6 3)) fun x10=>ob (T.str? (T.cell x6 4)) fun x11=>ob (T.int? .i64 (T.cell x6 5)) fun x12=>ob (T.sl? 7 (T.cell x6 6)) fun x13=>ob ((cZ self) (x7,x8,x9,x10,x11,x12,x13,t5.2.1,())) fun x14=>bif Bool.not (eqI x14.2.1 (0:Int)) then some (.inr (.inl (T.v (.slice none 0 0),x14.2.1,()))) else ob (room t5.2.2.1 x14.1 32) fun x15=>some (.inl (t5.1,t5.2.1,x15,wr .i64 (addI t5.2.2.2.1 (1:Int)),()))) fun q16=>b0 q16 else some (.inr (.inr (.inl (s1.2.2.1,()))))
noncomputable def kO(self:((List T)×(Int×Unit))→Option ((List T)×(Int×Unit)))(t:((List T)×(Int×Unit))):Option ((List T)×(Int×Unit)):=
 (ob (Go.Eng.u_ref24_token ((6:Int),((ByteArray.mk #[]),()))) fun x0=>(ob (aF (cX self) (t.1,(t.2.1,([(Go.Eng.T.agg [(Go.Eng.T.v (Go.Value.int Go.IntKind.i64 x0.1)),(Go.Eng.T.v (Go.Value.string x0.2.1)),(Go.Eng.T.v (Go.Value.int Go.IntKind.i64 x0.2.2.1))])],((0:Int),()))))) fun q17=>bB q17 (fun t18=>(ob (Go.Eng.T.sl? 3 t18.1) fun x19=>(some (x19,(t18.2.1,()))))) fun q20=>bB q20 (fun t21=>(ob (Go.Eng.u_ref24_token ((7:Int),((ByteArray.mk #[]),()))) fun x22=>(ob (Go.Eng.room t21.1 [(Go.Eng.T.agg [(Go.Eng.T.v (Go.Value.int Go.IntKind.i64 x22.1)),(Go.Eng.T.v (Go.Value.string x22.2.1)),(Go.Eng.T.v (Go.Value.int Go.IntKind.i64 x22.2.2.1))])] 32) fun x23=>(some (x23,((0:Int),())))))) fun q24=>b0 q24))
def F8:HT:=(.l (.l (.seq (.l (.one (.loop ⟨[.slot 0,.slot 1,.slot 6,.slot 7],[.sl 7,I6,.row 90 3 11,I6]⟩ [(.ret,⟨[.slot 4,.slot 5],[.tree,I6]⟩),((.exit 0),⟨[.slot 6],[.row 90 3 11]⟩)] (.l (.seq (.one (.seq (.join [(.normal,⟨[.slot 0,.slot 1,.slot 6,.slot 7],[.sl 7,I6,.row 90 3 23,I6]⟩)] .leaf) .leaf)) .leaf))))) .leaf)))
theorem EG(self:((List T)×(Int×Unit))→Option ((List T)×(Int×Unit)))(hs:(aA dW self).OK Tryz.prog 100):TabOK Tryz.prog [41] (u6 self):=(TabOK.cons (fun _=>⟨_,Tryz.func41,by kernel_rfl,by kernel_rfl⟩) mM (aB _ _) (fun _=>(bM (by kernel_rfl))) (by kernel_rfl) (fun _=>aP (aB _ _) rfl rfl) (by kernel_rfl) (TabOK.cons (fun _=>⟨_,Tryz.func160,by kernel_rfl,by kernel_rfl⟩) (HU self hs) (aB _ _) (fun h=>by cases h) (by kernel_rfl) (fun _=>aP (aB _ _) rfl rfl) (by kernel_rfl) TabOK.nil))
theorem F9(self:((List T)×(Int×Unit))→Option ((List T)×(Int×Unit))):∀t,pH Tryz.prog (u6 self) [41] F8 Tryz.f100 dW t=kO self t:=by
 intro t
 kernel_rfl
noncomputable def b5(n:Nat):((List T)×(Int×Unit))→Option ((List T)×(Int×Unit)):=Nat.rec (motive:=fun _=>((List T)×(Int×Unit))→Option ((List T)×(Int×Unit))) (fun _=>none) (fun _ ih=>kO ih) n
theorem EH(n:Nat):(aA dW (b5 n)).OK Tryz.prog 100:=by
 induction n with
 | zero=>exact vL _
 | succ n ih=>exact pV mixed (EG _ ih) Tryz.func100 (by kernel_rfl) (by kernel_rfl) (F9 (b5 n))
noncomputable def oY:((List T)×(Int×Unit))→Option ((List T)×(Int×Unit)):=b5 20
theorem GA:(aA dW oY).OK Tryz.prog 100:=EH 20
def BG:Sig:=⟨1,0,⟨[.aggs 0 2],[.str,.sl 7]⟩,2,[],0,⟨[.slot 0,.slot 1],[.sl 3,I6]⟩,68⟩
noncomputable def dE(t:ByteArray×List T×Unit):Option (List T×Int×Unit):=ob (u_ref24_token ((1:Int),t.1,())) fun x0=>ob (dR (x0.1,x0.2.1,x0.2.2.1,())) fun x1=>bif Bool.not x1.1 then some ([],(41:Int),()) else bif eqS t.1 (ByteArray.mk #[69,78,68,83,69,67]) then some ([],(41:Int),()) else ob (oY (t.2.1,(0:Int),())) fun x2=>bif Bool.not (eqI x2.2.1 (0:Int)) then some ([],x2.2.1,()) else ob (room [T.agg [T.v (.int .i64 x0.1),T.v (.string x0.2.1),T.v (.int .i64 x0.2.2.1)]] x2.1 32) fun x3=>ob (u_ref24_token ((9:Int),ByteArray.mk #[],())) fun x4=>ob (room x3 [T.agg [T.v (.int .i64 x4.1),T.v (.string x4.2.1),T.v (.int .i64 x4.2.2.1)]] 32) fun x5=>some (x5,(0:Int),())
theorem CI:(aA BG dE).OK Tryz.prog 40:=d4 mixed [41,53] .leaf (.cs Tryz.func41 mM <| .cs Tryz.func53 tO <| .cs Tryz.func100 GA <| .nil) Tryz.func40 fun _=>by kernel_rfl
def JP:Sig:=⟨1,0,⟨[.slot 0],[.str]⟩,1,[],1,⟨[.slot 0],[.row 90 3 0]⟩,14⟩
noncomputable def eY(t:ByteArray×Unit):Option (List T×Unit):=ob (u_ref24_token ((1:Int),t.1,())) fun x0=>ob (u_ref24_token ((9:Int),ByteArray.mk #[],())) fun x1=>some ([T.agg [T.v (.int .i64 x0.1),T.v (.string x0.2.1),T.v (.int .i64 x0.2.2.1)],T.agg [T.v (.int .i64 x1.1),T.v (.string x1.2.1),T.v (.int .i64 x1.2.2.1)]],())
theorem M1:(aA JP eY).OK Tryz.prog 39:=d4 mixed [41] .leaf (.cs Tryz.func41 mM <| .nil) Tryz.func39 fun _=>by kernel_rfl
def DI:Sig:=⟨1,0,⟨[.aggs 0 2],[.sl 2,.sl 3]⟩,2,[],0,⟨[.slot 0,.slot 1],[.str,I6]⟩,204⟩
noncomputable def gX(s3:Unit×List T×Int×List T×List T×Unit):Option (Unit×List T×Int×List T×List T×Unit⊕ByteArray×Int×Unit⊕Unit×List T×List T×List T×Unit⊕Empty):=bif ltI s3.2.2.1 (lenL s3.2.2.2.1) then ob (idxL s3.2.2.2.1 s3.2.2.1) fun x4=>ob (T.str? (T.cell x4 0)) fun x5=>ob (T.sl? 7 (T.cell x4 1)) fun x6=>ob (dE (x5,x6,())) fun x7=>bif Bool.not (eqI x7.2.1 (0:Int)) then some (.inr (.inl (ByteArray.mk #[],x7.2.1,()))) else ob (room s3.2.1 x7.1 32) fun x8=>some (.inl ((),x8,wr .i64 (addI s3.2.2.1 (1:Int)),s3.2.2.2.1,s3.2.2.2.2.1,())) else some (.inr (.inr (.inl ((),s3.2.1,s3.2.2.2.1,s3.2.2.2.2.1,()))))
noncomputable def fL(s17:Unit×List T×Int×List T×List T×Unit):Option (Unit×List T×Int×List T×List T×Unit⊕ByteArray×Int×Unit⊕List T×Unit⊕Empty):=bif ltI s17.2.2.1 (lenL s17.2.2.2.2.1) then ob (idxL s17.2.2.2.2.1 s17.2.2.1) fun x18=>ob (T.int? .i64 (T.cell x18 0)) fun x19=>bif ltI x19 (1:Int) then some (.inr (.inl (ByteArray.mk #[],(2:Int),()))) else ob (T.int? .i64 (T.cell x18 0)) fun x20=>bif ltI (2147483647:Int) x20 then some (.inr (.inl (ByteArray.mk #[],(2:Int),()))) else ob (T.str? (T.cell x18 1)) fun x21=>ob (T.sl? 7 (T.cell x18 2)) fun x22=>ob (dE (x21,x22,())) fun x23=>bif Bool.not (eqI x23.2.1 (0:Int)) then some (.inr (.inl (ByteArray.mk #[],x23.2.1,()))) else ob (T.int? .i64 (T.cell x18 0)) fun x24=>ob (fJ (x24,())) fun x25=>ob (u_ref24_token ((5:Int),x25.1,())) fun x26=>ob (u_ref24_token ((10:Int),ByteArray.mk #[],())) fun x27=>ob (room s17.2.1 [T.agg [T.v (.int .i64 x26.1),T.v (.string x26.2.1),T.v (.int .i64 x26.2.2.1)],T.agg [T.v (.int .i64 x27.1),T.v (.string x27.2.1),T.v (.int .i64 x27.2.2.1)]] 32) fun x28=>ob (room x28 x23.1 32) fun x29=>some (.inl ((),x29,wr .i64 (addI s17.2.2.1 (1:Int)),s17.2.2.2.1,s17.2.2.2.2.1,())) else some (.inr (.inr (.inl (s17.2.1,()))))
noncomputable def lZ(t:List T×List T×Unit):Option (ByteArray×Int×Unit):=bif ltI (2048:Int) (lenL t.2.1) then some (ByteArray.mk #[],(2:Int),()) else ob (eY (ByteArray.mk #[73,83,79,45,49,48,51,48,51,45,50,49],())) fun x0=>ob (eY (ByteArray.mk #[72,69,65,68,69,82],())) fun x1=>ob (room x0.1 x1.1 32) fun x2=>ob (aF gX ((),x2,(0:Int),t.1,t.2.1,())) fun q9=>bB q9 (fun t10=>some (t10.1,t10.2.1,())) fun q11=>bB q11 (fun t12=>ob (eY (ByteArray.mk #[69,78,68,83,69,67],())) fun x13=>ob (room t12.2.1 x13.1 32) fun x14=>ob (eY (ByteArray.mk #[68,65,84,65],())) fun x15=>ob (room x14 x15.1 32) fun x16=>ob (aF fL ((),x16,(0:Int),t12.2.2.1,t12.2.2.2.1,())) fun q30=>bB q30 (fun t31=>some (t31.1,t31.2.1,())) fun q32=>bB q32 (fun t33=>ob (eY (ByteArray.mk #[69,78,68,83,69,67],())) fun x34=>ob (room t33.1 x34.1 32) fun x35=>ob (eY (ByteArray.mk #[69,78,68,45,73,83,79,45,49,48,51,48,51,45,50,49],())) fun x36=>ob (room x35 x36.1 32) fun x37=>ob (oU (x37,())) fun x38=>bif ltI (65536:Int) (lenS x38.1) then some (ByteArray.mk #[],(2:Int),()) else bif ltI (16384:Int) (lenL x37) then some (ByteArray.mk #[],(2:Int),()) else some (x38.1,(0:Int),())) fun q39=>b0 q39) fun q40=>b0 q40
theorem R0:(aA DI lZ).OK Tryz.prog 14:=d4 mixed [42,41,43] (.l (.l (.l (.seq (.l (.one (.loop ⟨[.slot 1,.slot 4,.slot 5,.box 1 2],[.lit (.box 1 0),.row 90 3 19,I6,.sl 2,.sl 3]⟩ [(.ret,⟨[.slot 2,.slot 3],[.str,I6]⟩),((.exit 0),⟨[.slot 1,.slot 4,.box 1 2],[.lit (.box 1 0),.row 90 3 19,.sl 2,.sl 3]⟩)] .leaf))) (.l (.seq (.l (.one (.loop ⟨[.slot 1,.slot 4,.slot 8,.box 1 2],[.lit (.box 1 0),.row 90 3 46,I6,.sl 2,.sl 3]⟩ [(.ret,⟨[.slot 2,.slot 3],[.str,I6]⟩),((.exit 2),⟨[.slot 4],[.row 90 3 46]⟩)] .leaf))) .leaf)))))) (.cs Tryz.func39 M1 <| .cs Tryz.func40 CI <| .cs Tryz.func42 y7 <| .cs Tryz.func41 mM <| .cs Tryz.func43 RY <| .nil) Tryz.func14 fun _=>by kernel_rfl
end Go.Eng
