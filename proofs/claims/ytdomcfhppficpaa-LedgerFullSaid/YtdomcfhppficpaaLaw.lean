/- The functions and the laws of this seat in plain words; each statement names its conditions. -/
import Derived.Test.YtdomcfhppficpaaEng3
import Derived.Test.YtdomcfhppficpaaProg
import Derived.Test.YtdomcfhppficpaaEng2
set_option linter.unusedSimpArgs false
set_option linter.unusedVariables false
namespace Go.Eng
open Go.RowKit Go.Proofs
theorem N6:DK.OK Try.prog 58:=LP (run_callFunc_extern Try.func58 (by kernel_rfl) (by kernel_rfl) (by kernel_rfl) rfl)
open Go.Proofs
theorem a8:Try.prog.follows .mixedOrders=true:=by kernel_rfl
def yY:Sig:=⟨1,0,⟨[.slot 0],[.sl 1]⟩,2,[],0,⟨[.slot 0,.slot 1],[.int .u64,.bool]⟩,52⟩
noncomputable def bH(t:List T×Unit):Option (Int×Bool×Unit):=bif gP (aH t.1) (0:Int) then some ((0:Int),true,()) else bif gP (aH t.1) (1:Int) then ob (eJ t.1 (0:Int)) fun x0=>ob (T.anyInt? (T.cell x0 0)) fun x1=>some (wr .u64 x1,true,()) else bif gP (aH t.1) (2:Int) then ob (eJ t.1 (0:Int)) fun x2=>ob (T.anyInt? (T.cell x2 0)) fun x3=>ob (eJ t.1 (1:Int)) fun x4=>ob (T.anyInt? (T.cell x4 0)) fun x5=>ob (nn (32:Int)) fun x6=>some (oJ .or .u64 (wr .u64 x3) (wr .u64 (F5 .u64 (wr .u64 x5) x6)),true,()) else some ((0:Int),false,())
theorem rB:(aB yY bH).OK Try.prog 63:=lG a8 [] .leaf .nil Try.func63 fun _=>by kernel_rfl
def AH:Sig:=⟨1,0,⟨[.slot 0],[.sl 1]⟩,1,[],0,⟨[.slot 0],[.sl 1]⟩,46⟩
noncomputable def d8(s0:List T×Int×Unit):Option (List T×Int×Unit⊕List T×Int×Unit⊕Empty):=bif oG (0:Int) s0.2.1 then ob (eJ s0.1 (wr .i64 (iJ s0.2.1 (1:Int)))) fun x1=>ob (T.int? .u32 (T.cell x1 0)) fun x2=>bif gP x2 (0:Int) then some (.inl (s0.1,wr .i64 (iJ s0.2.1 (1:Int)),())) else some (.inr (.inl (s0.1,s0.2.1,()))) else some (.inr (.inl (s0.1,s0.2.1,())))
noncomputable def bQ(t:List T×Unit):Option (List T×Unit):=ob (bL d8 (t.1,aH t.1,())) fun q3=>mQ q3 (fun t4=>ob (GD t4.1 (0:Int) t4.2.1) fun x5=>ob (oF [] x5 4) fun x6=>some (x6,())) fun q7=>qT q7
theorem hJ:(aB AH bQ).OK Try.prog 51:=lG a8 [] (.l (.l (.seq (.one (.loop ⟨[.slot 0,.slot 3],[.sl 1,I6]⟩ [((.exit 0),⟨[.slot 0,.slot 3],[.sl 1,I6]⟩)] .leaf)) .leaf))) .nil Try.func51 fun _=>by kernel_rfl
def FV:Sig:=⟨1,0,⟨[.slot 0],[.int .u64]⟩,1,[],0,⟨[.slot 0],[.sl 1]⟩,20⟩
noncomputable def eR(t:Int×Unit):Option (List T×Unit):=ob (nn (32:Int)) fun x0=>ob (bQ ([T.v (.int .u32 (wr .u32 t.1)),T.v (.int .u32 (wr .u32 (e7 .u64 t.1 x0)))],())) fun x1=>some (x1.1,())
theorem r0:(aB FV eR).OK Try.prog 50:=lG a8 [] .leaf (.cs Try.func51 hJ <| .nil) Try.func50 fun _=>by kernel_rfl
def DP:Sig:=⟨2,0,⟨[.slot 0,.slot 1],[.sl 1,.sl 1]⟩,1,[],0,⟨[.slot 0],[I6]⟩,82⟩
noncomputable def eS(s0:List T×List T×Int×Unit):Option (List T×List T×Int×Unit⊕Int×Unit⊕Unit⊕Empty):=bif tU (0:Int) s0.2.2.1 then ob (eJ s0.1 s0.2.2.1) fun x1=>ob (eJ s0.2.1 s0.2.2.1) fun x2=>ob (T.int? .u32 (T.cell x1 0)) fun x3=>ob (T.int? .u32 (T.cell x2 0)) fun x4=>bif oG x3 x4 then some (.inr (.inl ((-1:Int),()))) else ob (eJ s0.1 s0.2.2.1) fun x5=>ob (eJ s0.2.1 s0.2.2.1) fun x6=>ob (T.int? .u32 (T.cell x5 0)) fun x7=>ob (T.int? .u32 (T.cell x6 0)) fun x8=>bif oG x8 x7 then some (.inr (.inl ((1:Int),()))) else some (.inl (s0.1,s0.2.1,wr .i64 (iJ s0.2.2.1 (1:Int)),())) else some (.inr (.inr (.inl ())))
noncomputable def gL(t:List T×List T×Unit):Option (Int×Unit):=bif Bool.not (gP (aH t.1) (aH t.2.1)) then bif oG (aH t.1) (aH t.2.1) then some ((-1:Int),()) else some ((1:Int),()) else ob (bL eS (t.1,t.2.1,wr .i64 (iJ (aH t.1) (1:Int)),())) fun q9=>mQ q9 (fun t10=>some (t10.1,())) fun q11=>mQ q11 (fun t12=>some ((0:Int),())) fun q13=>qT q13
theorem vT:(aB DP gL).OK Try.prog 27:=lG a8 [] (.l (.l (.seq (.l (.one (.loop ⟨[.slot 0,.slot 1,.slot 5],[.sl 1,.sl 1,I6]⟩ [(.ret,⟨[.slot 4],[I6]⟩),((.exit 0),⟨[],[]⟩)] .leaf))) .leaf))) .nil Try.func27 fun _=>by kernel_rfl
def yZ:Sig:=⟨2,0,⟨[.slot 0,.slot 1],[.sl 1,.sl 1]⟩,1,[],0,⟨[.slot 0],[.sl 1]⟩,100⟩
noncomputable def uR(s1:List T×List T×List T×Int×Int×Unit):Option (List T×List T×List T×Int×Int×Unit⊕List T×Unit⊕Empty):=bif oG s1.2.2.2.2.1 (aH s1.1) then ob (α:=List T×List T×List T×Int×Int×Unit⊕Empty) (bif oG s1.2.2.2.2.1 (aH s1.2.1) then ob (eJ s1.2.1 s1.2.2.2.2.1) fun x2=>ob (T.anyInt? (T.cell x2 0)) fun x3=>some (.inl (s1.1,s1.2.1,s1.2.2.1,s1.2.2.2.2.1,wr .u64 (mF s1.2.2.2.1 (wr .u64 x3)),())) else some (.inl (s1.1,s1.2.1,s1.2.2.1,s1.2.2.2.2.1,s1.2.2.2.1,()))) fun q4=>mQ q4 (fun t5=>ob (eJ t5.1 t5.2.2.2.1) fun x6=>ob (T.anyInt? (T.cell x6 0)) fun x7=>ob (α:=List T×List T×List T×Int×Int×Int×Int×Unit⊕Empty) (bif oG (wr .u64 x7) t5.2.2.2.2.1 then some (.inl (t5.1,t5.2.1,t5.2.2.1,(1:Int),t5.2.2.2.1,t5.2.2.2.2.1,wr .u64 (mF (wr .u64 x7) (4294967296:Int)),())) else some (.inl (t5.1,t5.2.1,t5.2.2.1,(0:Int),t5.2.2.2.1,t5.2.2.2.2.1,wr .u64 x7,()))) fun q8=>mQ q8 (fun t9=>ob (gO (aH t9.2.2.1) t9.2.2.2.2.1) fun x10=>ob (oN t9.2.2.1 x10) fun x11=>some (.inl (t9.1,t9.2.1,List.set t9.2.2.1 x10 (T.upd 1 x11 0 [T.v (.int .u32 (wr .u32 (wr .u64 (iJ t9.2.2.2.2.2.2.1 t9.2.2.2.2.2.1))))]),t9.2.2.2.1,wr .i64 (mF t9.2.2.2.2.1 (1:Int)),()))) fun q12=>qT q12) fun q13=>qT q13 else some (.inr (.inl (s1.2.2.1,())))
noncomputable def AI(t:List T×List T×Unit):Option (List T×Unit):=ob (nY (aH t.1) (aH t.1) 4) fun x0=>ob (bL uR (t.1,t.2.1,dR x0.1 (T.v (.int .u32 (0:Int))),(0:Int),(0:Int),())) fun q14=>mQ q14 (fun t15=>ob (bQ (t15.1,())) fun x16=>some (x16.1,())) fun q17=>qT q17
theorem AJ:(aB yZ AI).OK Try.prog 69:=lG a8 [] (.l (.l (.l (.seq (.l (.one (.loop ⟨[.slot 0,.slot 1,.slot 5,.slot 6,.slot 7],[.sl 1,.sl 1,.row 67 1 12,.int .u64,I6]⟩ [((.exit 0),⟨[.slot 5],[.row 67 1 12]⟩)] (.l (.seq (.one (.l (.seq (.join [(.normal,⟨[.slot 0,.slot 1,.slot 5,.slot 7,.slot 8],[.sl 1,.sl 1,.row 67 1 12,I6,.int .u64]⟩)] .leaf) (.l (.l (.seq (.join [(.normal,⟨[.slot 0,.slot 1,.slot 5,.slot 6,.slot 7,.slot 8,.slot 9],[.sl 1,.sl 1,.row 67 1 12,.int .u64,I6,.int .u64,.int .u64]⟩)] .leaf) .leaf)))))) .leaf))))) .leaf)))) (.cs Try.func51 hJ <| .nil) Try.func69 fun _=>by kernel_rfl
def DQ:Sig:=⟨2,0,⟨[.slot 0,.slot 1],[.sl 1,.sl 1]⟩,3,[],0,⟨[.slot 0,.slot 1,.slot 2],[.sl 1,.sl 1,I6]⟩,326⟩
noncomputable def c8(t:List T×List T×Unit):Option (List T×List T×Int×Unit):=bif gP (aH t.2.1) (0:Int) then some ([],[],(3:Int),()) else ob (gL (t.1,t.2.1,())) fun x0=>bif oG x0.1 (0:Int) then ob (bQ (t.1,())) fun x1=>some ([],x1.1,(0:Int),()) else ob (bH (t.1,())) fun x2=>bif x2.2.1 then ob (bH (t.2.1,())) fun x3=>ob (nz x3.1) fun x4=>ob (eR (wr .u64 (bC x2.1 x4),())) fun x5=>ob (nz x3.1) fun x6=>ob (eR (wT x2.1 x6,())) fun x7=>some (x5.1,x7.1,(0:Int),()) else bif gP (aH t.2.1) (1:Int) then ob (eJ t.2.1 (0:Int)) fun x8=>none else ob (GD t.2.1 (wr .i64 (iJ (aH t.2.1) (1:Int))) (aH t.2.1)) fun x9=>none
theorem vU:(aB DQ c8).OK Try.prog 53:=lG a8 [27,63,1000064,1000065,1000066,1000068,1000067,1000070] (.l (.l (.l (.l (.l (.l (.l (.l (.l (.seq (.l (.one (.loop ⟨[],[]⟩ [] (.l (.seq (.one (.l (.seq (.join [] .leaf) (.seq (.join [] .leaf) (.l (.l (.seq (.one (.loop ⟨[],[]⟩ [] .leaf)) .leaf))))))) .leaf))))) .leaf)))))))))) (.cs Try.func27 vT <| .cs Try.func51 hJ <| .cs Try.func63 rB <| .cs Try.func50 r0 <| .cs Try.func69 AJ <| .nil) Try.func53 fun _=>by kernel_rfl
def DR:Sig:=⟨2,0,⟨[.slot 0,.slot 1],[.sl 1,.sl 1]⟩,1,[],0,⟨[.slot 0],[.sl 1]⟩,102⟩
noncomputable def eT(s5:Int×Int×Unit):Option (Int×Int×Unit⊕Int×Unit⊕Empty):=bif Bool.not (gP s5.2.1 (0:Int)) then ob (nz s5.2.1) fun x6=>some (.inl (s5.2.1,wT s5.1 x6,())) else some (.inr (.inl (s5.1,())))
noncomputable def lC(s2:List T×List T×Unit):Option (List T×List T×Unit⊕List T×Unit⊕List T×Unit⊕Empty):=bif oG (0:Int) (aH s2.2.1) then ob (bH (s2.1,())) fun x3=>ob (bH (s2.2.1,())) fun x4=>bif x3.2.1 then bif x4.2.1 then ob (bL eT (x3.1,x4.1,())) fun q7=>mQ q7 (fun t8=>ob (eR (t8.1,())) fun x9=>some (.inr (.inl (x9.1,())))) fun q10=>qT q10 else ob (c8 (s2.1,s2.2.1,())) fun x11=>some (.inl (s2.2.1,x11.2.1,())) else ob (c8 (s2.1,s2.2.1,())) fun x12=>some (.inl (s2.2.1,x12.2.1,())) else some (.inr (.inr (.inl (s2.1,()))))
noncomputable def lP(t:List T×List T×Unit):Option (List T×Unit):=ob (bQ (t.1,())) fun x0=>ob (bQ (t.2.1,())) fun x1=>ob (bL lC (x0.1,x1.1,())) fun q13=>mQ q13 (fun t14=>some (t14.1,())) fun q15=>mQ q15 (fun t16=>some (t16.1,())) fun q17=>qT q17
theorem FW:(aB DR lP).OK Try.prog 52:=lG a8 [63] (.l (.l (.seq (.one (.loop ⟨[.slot 0,.slot 1],[.sl 1,.sl 1]⟩ [(.ret,⟨[.slot 4],[.sl 1]⟩),((.exit 0),⟨[.slot 0],[.sl 1]⟩)] (.l (.one (.l (.l (.seq (.l (.cond (.seq (.one (.loop ⟨[.slot 5,.slot 7],[.int .u64,.int .u64]⟩ [((.exit 2),⟨[.slot 5],[.int .u64]⟩)] .leaf)) .leaf) .leaf)) .leaf))))))) .leaf))) (.cs Try.func51 hJ <| .cs Try.func63 rB <| .cs Try.func50 r0 <| .cs Try.func53 vU <| .nil) Try.func52 fun _=>by kernel_rfl
def v9:Sig:=⟨3,0,⟨[.slot 0,.slot 1,.slot 2],[.bool,.sl 1,.sl 1]⟩,1,[],0,⟨[.aggs 0 3],[.bool,.sl 1,.sl 1]⟩,110⟩
noncomputable def hO(t:Bool×List T×List T×Unit):Option (Bool×List T×List T×Unit):=ob (bQ (t.2.1,())) fun x0=>ob (bQ (t.2.2.1,())) fun x1=>bif gP (aH x0.1) (0:Int) then some (false,[],[],()) else ob (lP (x0.1,x1.1,())) fun x2=>ob (α:=Bool×List T×List T×Unit×Bool×T×T×Unit⊕Empty) (bif Bool.not (gP (aH x2.1) (1:Int)) then ob (c8 (x0.1,x2.1,())) fun x3=>ob (c8 (x1.1,x2.1,())) fun x4=>some (.inl (t.1,x3.1,x4.1,(),false,T.v (.slice none 0 0),T.v (.slice none 0 0),())) else ob (eJ x2.1 (0:Int)) fun x5=>ob (T.int? .u32 (T.cell x5 0)) fun x6=>bif Bool.not (gP x6 (1:Int)) then ob (c8 (x0.1,x2.1,())) fun x7=>ob (c8 (x1.1,x2.1,())) fun x8=>some (.inl (t.1,x7.1,x8.1,(),false,T.v (.slice none 0 0),T.v (.slice none 0 0),())) else some (.inl (t.1,x0.1,x1.1,(),false,T.v (.slice none 0 0),T.v (.slice none 0 0),()))) fun q9=>mQ q9 (fun t10=>ob (α:=Bool×List T×List T×Unit×Bool×T×T×Unit⊕Empty) (bif gP (aH t10.2.2.1) (1:Int) then ob (eJ t10.2.2.1 (0:Int)) fun x11=>ob (T.int? .u32 (T.cell x11 0)) fun x12=>bif gP x12 (1:Int) then some (.inl (t10.1,t10.2.1,[],(),t10.2.2.2.2.1,t10.2.2.2.2.2.1,t10.2.2.2.2.2.2.1,())) else some (.inl (t10.1,t10.2.1,t10.2.2.1,(),t10.2.2.2.2.1,t10.2.2.2.2.2.1,t10.2.2.2.2.2.2.1,())) else some (.inl (t10.1,t10.2.1,t10.2.2.1,(),t10.2.2.2.2.1,t10.2.2.2.2.2.1,t10.2.2.2.2.2.2.1,()))) fun q13=>mQ q13 (fun t14=>some (t14.1,t14.2.1,t14.2.2.1,())) fun q15=>qT q15) fun q16=>qT q16
theorem y3:(aB v9 hO).OK Try.prog 40:=lG a8 [] (.l (.l (.l (.l (.seq (.join [(.normal,⟨[.slot 0,.slot 1,.slot 2,.slot 6,.box 6 3],[.bool,.sl 1,.sl 1,.lit (.box 6 0),.bool,.tree,.tree]⟩)] .leaf) (.seq (.join [(.normal,⟨[.slot 0,.slot 1,.slot 2,.slot 6,.box 6 3],[.bool,.sl 1,.sl 1,.lit (.box 6 0),.bool,.tree,.tree]⟩)] .leaf) .leaf)))))) (.cs Try.func51 hJ <| .cs Try.func52 FW <| .cs Try.func53 vU <| .nil) Try.func40 fun _=>by kernel_rfl
def AK:Sig:=⟨1,0,⟨[.slot 0],[I6]⟩,2,[],0,⟨[.slot 0,.slot 1],[.sl 1,.bool]⟩,30⟩
noncomputable def hS(t:Int×Unit):Option (List T×Bool×Unit):=bif oG t.1 (0:Int) then ob (eR (wr .u64 (mF (wr .u64 (wr .i64 (iJ (0:Int) (wr .i64 (mF t.1 (1:Int)))))) (1:Int)),())) fun x0=>some (x0.1,true,()) else ob (eR (wr .u64 t.1,())) fun x1=>some (x1.1,false,())
theorem DS:(aB AK hS).OK Try.prog 39:=lG a8 [] .leaf (.cs Try.func50 r0 <| .nil) Try.func39 fun _=>by kernel_rfl
def AL:Sig:=⟨2,0,⟨[.slot 0,.slot 1],[I6,I6]⟩,2,[],0,⟨[.aggs 0 3,.slot 1],[.bool,.sl 1,.sl 1,I6]⟩,58⟩
noncomputable def kE(t:Int×Int×Unit):Option (Bool×List T×List T×Int×Unit):=bif gP t.2.1 (0:Int) then some (false,[],[],(3:Int),()) else ob (hS (t.1,())) fun x0=>ob (hS (t.2.1,())) fun x1=>ob (hO (Bool.not (B4 x0.2.1 x1.2.1),x0.1,x1.1,())) fun x2=>some (x2.1,x2.2.1,x2.2.2.1,(0:Int),())
theorem DT:(aB AL kE).OK Try.prog 28:=lG a8 [] .leaf (.cs Try.func39 DS <| .cs Try.func40 y3 <| .nil) Try.func28 fun _=>by kernel_rfl
def l9:Sig:=⟨2,0,⟨[.slot 0,.slot 1],[I6,I6]⟩,1,[],0,⟨[.aggs 0 3],[.bool,.sl 1,.sl 1]⟩,28⟩
noncomputable def bR(t:Int×Int×Unit):Option (Bool×List T×List T×Unit):=ob (kE (t.1,t.2.1,())) fun x0=>some (x0.1,x0.2.1,x0.2.2.1,())
theorem tG:(aB l9 bR).OK Try.prog 14:=lG a8 [] .leaf (.cs Try.func28 DT <| .nil) Try.func14 fun _=>by kernel_rfl
def rC:Sig:=⟨2,0,⟨[.aggs 0 3,.aggs 1 3],[.bool,.sl 1,.sl 1,.bool,.sl 1,.sl 1]⟩,1,[],0,⟨[.slot 0],[.bool]⟩,52⟩
noncomputable def hZ(t:Bool×List T×List T×Bool×List T×List T×Unit):Option (Bool×Unit):=bif B4 t.1 t.2.2.2.1 then ob (gL (t.2.1,t.2.2.2.2.1,())) fun x0=>bif gP x0.1 (0:Int) then ob (gL (t.2.2.1,t.2.2.2.2.2.1,())) fun x1=>some (gP x1.1 (0:Int),()) else some (false,()) else some (false,())
theorem DU:(aB rC hZ).OK Try.prog 13:=lG a8 [27] .leaf (.cs Try.func27 vT <| .nil) Try.func13 fun _=>by kernel_rfl
noncomputable def nT(t:Bool×List T×List T×Unit):Option (Int×Unit):=bif gP (aH t.2.1) (0:Int) then some ((0:Int),()) else bif t.1 then some ((-1:Int),()) else some ((1:Int),())
noncomputable def nU(t:Int×Int×Bool×List T×List T×Unit):Option (Bool×Unit):=bif tU (0:Int) t.1 then bif tU t.1 (2147483647:Int) then bif tU (1:Int) t.2.1 then bif tU t.2.1 (5:Int) then ob (nT (t.2.2.1,t.2.2.2.1,t.2.2.2.2.1,())) fun x0=>some (tU (0:Int) x0.1,()) else some (false,()) else some (false,()) else some (false,()) else some (false,())
noncomputable def fG(s0:List T×Int×Unit):Option (List T×Int×Unit⊕Bool×Unit⊕Unit⊕Empty):=bif oG s0.2.1 (aH s0.1) then ob (eJ s0.1 s0.2.1) fun x1=>ob (T.int? .i64 (T.cell x1 0)) fun x2=>ob (T.int? .i64 (T.cell x1 1)) fun x3=>ob (T.bool? (T.cell x1 2)) fun x4=>ob (T.sl? 1 (T.cell x1 3)) fun x5=>ob (T.sl? 1 (T.cell x1 4)) fun x6=>ob (nU (x2,x3,x4,x5,x6,())) fun x7=>bif Bool.not x7.1 then some (.inr (.inl (false,()))) else some (.inl (s0.1,wr .i64 (mF s0.2.1 (1:Int)),())) else some (.inr (.inr (.inl ())))
noncomputable def rD(t:List T×Unit):Option (Bool×Unit):=bif oG (1024:Int) (aH t.1) then some (false,()) else ob (bL fG (t.1,(0:Int),())) fun q8=>mQ q8 (fun t9=>some (t9.1,())) fun q10=>mQ q10 (fun t11=>some (true,())) fun q12=>qT q12
def sA:Sig:=⟨1,0,⟨[.slot 0],[.int .u32]⟩,1,[],0,⟨[.slot 0],[I6]⟩,38⟩
noncomputable def eH(t:Int×Unit):Option (Int×Unit):=ob (α:=Int×Int×Unit⊕Empty) (bif tU (65536:Int) t.1 then ob (nn (16:Int)) fun x0=>some (.inl (e7 .u32 t.1 x0,(16:Int),())) else some (.inl (t.1,(0:Int),()))) fun q1=>mQ q1 (fun t2=>ob (α:=Int×Int×Unit⊕Empty) (bif tU (256:Int) t2.1 then ob (nn (8:Int)) fun x3=>some (.inl (e7 .u32 t2.1 x3,wr .i64 (mF t2.2.1 (8:Int)),())) else some (.inl (t2.1,t2.2.1,()))) fun q4=>mQ q4 (fun t5=>ob (D3 (ByteArray.mk #[0,1,2,2,3,3,3,3,4,4,4,4,4,4,4,4,5,5,5,5,5,5,5,5,5,5,5,5,5,5,5,5,6,6,6,6,6,6,6,6,6,6,6,6,6,6,6,6,6,6,6,6,6,6,6,6,6,6,6,6,6,6,6,6,7,7,7,7,7,7,7,7,7,7,7,7,7,7,7,7,7,7,7,7,7,7,7,7,7,7,7,7,7,7,7,7,7,7,7,7,7,7,7,7,7,7,7,7,7,7,7,7,7,7,7,7,7,7,7,7,7,7,7,7,7,7,7,7,8,8,8,8,8,8,8,8,8,8,8,8,8,8,8,8,8,8,8,8,8,8,8,8,8,8,8,8,8,8,8,8,8,8,8,8,8,8,8,8,8,8,8,8,8,8,8,8,8,8,8,8,8,8,8,8,8,8,8,8,8,8,8,8,8,8,8,8,8,8,8,8,8,8,8,8,8,8,8,8,8,8,8,8,8,8,8,8,8,8,8,8,8,8,8,8,8,8,8,8,8,8,8,8,8,8,8,8,8,8,8,8,8,8,8,8,8,8,8,8,8,8,8,8,8,8,8,8]) (wr .u8 t5.1)) fun x6=>some (wr .i64 (mF t5.2.1 (wr .i64 x6)),())) fun q7=>qT q7) fun q8=>qT q8
theorem tH:(aB sA eH).OK Try.prog 57:=lG a8 [] (.l (.seq (.join [(.normal,⟨[.slot 0,.slot 2],[.int .u32,I6]⟩)] .leaf) (.seq (.join [(.normal,⟨[.slot 0,.slot 2],[.int .u32,I6]⟩)] .leaf) .leaf))) .nil Try.func57 fun _=>by kernel_rfl
def wA:Sig:=⟨1,0,⟨[.slot 0],[.sl 1]⟩,1,[],0,⟨[.slot 0],[.sl 1]⟩,42⟩
noncomputable def lQ(s0:List T×Int×Unit):Option (List T×Int×Unit⊕List T×Int×Unit⊕Empty):=bif oG (0:Int) s0.2.1 then ob (eJ s0.1 (wr .i64 (iJ s0.2.1 (1:Int)))) fun x1=>ob (T.int? .u32 (T.cell x1 0)) fun x2=>bif gP x2 (0:Int) then some (.inl (s0.1,wr .i64 (iJ s0.2.1 (1:Int)),())) else some (.inr (.inl (s0.1,s0.2.1,()))) else some (.inr (.inl (s0.1,s0.2.1,())))
noncomputable def cO(t:List T×Unit):Option (List T×Unit):=ob (bL lQ (t.1,aH t.1,())) fun q3=>mQ q3 (fun t4=>ob (GD t4.1 (0:Int) t4.2.1) fun x5=>some (x5,())) fun q6=>qT q6
theorem pG:(aB wA cO).OK Try.prog 55:=lG a8 [] (.l (.l (.seq (.one (.loop ⟨[.slot 0,.slot 3],[.sl 1,I6]⟩ [((.exit 0),⟨[.slot 0,.slot 3],[.sl 1,I6]⟩)] .leaf)) .leaf))) .nil Try.func55 fun _=>by kernel_rfl
def wB:Sig:=⟨1,0,⟨[.slot 0],[.sl 1]⟩,1,[],0,⟨[.slot 0],[I6]⟩,40⟩
noncomputable def eU(t:List T×Unit):Option (Int×Unit):=ob (cO (t.1,())) fun x0=>bif gP (aH x0.1) (0:Int) then some ((0:Int),()) else ob (eJ x0.1 (wr .i64 (iJ (aH x0.1) (1:Int)))) fun x1=>ob (T.int? .u32 (T.cell x1 0)) fun x2=>ob (eH (x2,())) fun x3=>some (wr .i64 (mF (wr .i64 (eI (32:Int) (wr .i64 (iJ (aH x0.1) (1:Int))))) x3.1),())
theorem y4:(aB wB eU).OK Try.prog 47:=lG a8 [57] .leaf (.cs Try.func55 pG <| .cs Try.func57 tH <| .nil) Try.func47 fun _=>by kernel_rfl
def pH:Sig:=⟨2,0,⟨[.slot 0,.slot 1],[.sl 1,.sl 1]⟩,1,[],0,⟨[.slot 0],[I6]⟩,90⟩
noncomputable def dM(s2:List T×List T×Int×Unit):Option (List T×List T×Int×Unit⊕Int×Unit⊕Unit⊕Empty):=bif tU (0:Int) s2.2.2.1 then ob (eJ s2.1 s2.2.2.1) fun x3=>ob (eJ s2.2.1 s2.2.2.1) fun x4=>ob (T.int? .u32 (T.cell x3 0)) fun x5=>ob (T.int? .u32 (T.cell x4 0)) fun x6=>bif Bool.not (gP x5 x6) then ob (eJ s2.1 s2.2.2.1) fun x7=>ob (eJ s2.2.1 s2.2.2.1) fun x8=>ob (T.int? .u32 (T.cell x7 0)) fun x9=>ob (T.int? .u32 (T.cell x8 0)) fun x10=>bif oG x9 x10 then some (.inr (.inl ((-1:Int),()))) else some (.inr (.inl ((1:Int),()))) else some (.inl (s2.1,s2.2.1,wr .i64 (iJ s2.2.2.1 (1:Int)),())) else some (.inr (.inr (.inl ())))
noncomputable def eD(t:List T×List T×Unit):Option (Int×Unit):=ob (cO (t.1,())) fun x0=>ob (cO (t.2.1,())) fun x1=>bif Bool.not (gP (aH x0.1) (aH x1.1)) then bif oG (aH x0.1) (aH x1.1) then some ((-1:Int),()) else some ((1:Int),()) else ob (bL dM (x0.1,x1.1,wr .i64 (iJ (aH x0.1) (1:Int)),())) fun q11=>mQ q11 (fun t12=>some (t12.1,())) fun q13=>mQ q13 (fun t14=>some ((0:Int),())) fun q15=>qT q15
theorem AM:(aB pH eD).OK Try.prog 44:=lG a8 [] (.l (.l (.l (.seq (.l (.one (.loop ⟨[.slot 0,.slot 1,.slot 5],[.sl 1,.sl 1,I6]⟩ [(.ret,⟨[.slot 4],[I6]⟩),((.exit 0),⟨[],[]⟩)] .leaf))) .leaf)))) (.cs Try.func55 pG <| .nil) Try.func44 fun _=>by kernel_rfl
def uS:Sig:=⟨1,0,⟨[.slot 0],[.sl 1]⟩,1,[],0,⟨[.slot 0],[.int .u64]⟩,42⟩
noncomputable def d4(s0:List T×Int×Int×Unit):Option (List T×Int×Int×Unit⊕Int×Unit⊕Empty):=bif tU (0:Int) s0.2.2.1 then ob (nn (32:Int)) fun x1=>ob (eJ s0.1 s0.2.2.1) fun x2=>ob (T.anyInt? (T.cell x2 0)) fun x3=>some (.inl (s0.1,oJ .or .u64 (wr .u64 (F5 .u64 s0.2.1 x1)) (wr .u64 x3),wr .i64 (iJ s0.2.2.1 (1:Int)),())) else some (.inr (.inl (s0.2.1,())))
noncomputable def d9(t:List T×Unit):Option (Int×Unit):=ob (bL d4 (t.1,(0:Int),wr .i64 (iJ (aH t.1) (1:Int)),())) fun q4=>mQ q4 (fun t5=>some (t5.1,())) fun q6=>qT q6
theorem wC:(aB uS d9).OK Try.prog 54:=lG a8 [] (.l (.l (.seq (.l (.one (.loop ⟨[.slot 0,.slot 3,.slot 4],[.sl 1,.int .u64,I6]⟩ [((.exit 0),⟨[.slot 3],[.int .u64]⟩)] .leaf))) .leaf))) .nil Try.func54 fun _=>by kernel_rfl
def j0:Sig:=⟨2,0,⟨[.slot 0,.slot 1],[.int .u64,.int .u64]⟩,1,[],0,⟨[.slot 0],[.int .u64]⟩,24⟩
noncomputable def iM(s0:Int×Int×Unit):Option (Int×Int×Unit⊕Int×Unit⊕Empty):=bif Bool.not (gP s0.2.1 (0:Int)) then ob (nz s0.2.1) fun x1=>some (.inl (s0.2.1,wT s0.1 x1,())) else some (.inr (.inl (s0.1,())))
noncomputable def cP(t:Int×Int×Unit):Option (Int×Unit):=ob (bL iM (t.1,t.2.1,())) fun q2=>mQ q2 (fun t3=>some (t3.1,())) fun q4=>qT q4
theorem sB:(aB j0 cP).OK Try.prog 71:=lG a8 [] (.l (.seq (.one (.loop ⟨[.slot 0,.slot 1],[.int .u64,.int .u64]⟩ [((.exit 0),⟨[.slot 0],[.int .u64]⟩)] .leaf)) .leaf)) .nil Try.func71 fun _=>by kernel_rfl
noncomputable def mT:List (FuncId×Callee):=[]
theorem lR:TabOK Try.prog [] mT:=TabOK.nil
def iA:Sig:=⟨3,0,⟨[.slot 0,.slot 1,.slot 2],[.bool,.int .u64,.int .u64]⟩,1,[],0,⟨[.aggs 0 3],[.bool,.sl 1,.sl 1]⟩,100⟩
noncomputable def mU:List (FuncId×Callee):=[(71,(aB j0 cP)),(72,(R2 Try.prog mT [] Try.f72))]
noncomputable def aP(t:Bool×Int×Int×Unit):Option (Bool×List T×List T×Unit):=bif gP t.2.1 (0:Int) then some (false,[],[],()) else ob (cP (t.2.1,t.2.2.1,())) fun x0=>ob (nz x0.1) fun x1=>ob (nz x0.1) fun x2=>ob (nY (4:Int) (4:Int) 4) fun x3=>ob (gO (aH (dR x3.1 (T.v (.int .u32 (0:Int))))) (0:Int)) fun x4=>ob (oN (dR x3.1 (T.v (.int .u32 (0:Int)))) x4) fun x5=>ob (nn (32:Int)) fun x6=>bif gP (e7 .u64 (wr .u64 (bC t.2.1 x1)) x6) (0:Int) then ob (lU (aH (List.set (dR x3.1 (T.v (.int .u32 (0:Int)))) x4 (T.upd 1 x5 0 [T.v (.int .u32 (wr .u32 (wr .u64 (bC t.2.1 x1))))]))) (0:Int) (1:Int) (1:Int)) fun x7=>ob (α:=Unit×Unit×Bool×T×T×Bool×List T×List T×Unit⊕Empty) (bif oG (1:Int) (wr .u64 (bC t.2.2.1 x2)) then ob (B9 (aH (List.set (dR x3.1 (T.v (.int .u32 (0:Int)))) x4 (T.upd 1 x5 0 [T.v (.int .u32 (wr .u32 (wr .u64 (bC t.2.1 x1))))]))) (1:Int) (aH (List.set (dR x3.1 (T.v (.int .u32 (0:Int)))) x4 (T.upd 1 x5 0 [T.v (.int .u32 (wr .u32 (wr .u64 (bC t.2.1 x1))))])))) fun x8=>ob (gO (sG x8.2) (0:Int)) fun x9=>ob (oN (List.set (dR x3.1 (T.v (.int .u32 (0:Int)))) x4 (T.upd 1 x5 0 [T.v (.int .u32 (wr .u32 (wr .u64 (bC t.2.1 x1))))])) (fX x8.1 x9)) fun x10=>ob (nn (32:Int)) fun x11=>bif gP (e7 .u64 (wr .u64 (bC t.2.2.1 x2)) x11) (0:Int) then ob (lU (aH (List.set (List.set (dR x3.1 (T.v (.int .u32 (0:Int)))) x4 (T.upd 1 x5 0 [T.v (.int .u32 (wr .u32 (wr .u64 (bC t.2.1 x1))))])) (fX x8.1 x9) (T.upd 1 x10 0 [T.v (.int .u32 (wr .u32 (wr .u64 (bC t.2.2.1 x2))))]))) (1:Int) (2:Int) (2:Int)) fun x12=>some (.inl ((),(),false,T.v (.slice none 0 0),T.v (.slice none 0 0),t.1,cY (List.set (List.set (dR x3.1 (T.v (.int .u32 (0:Int)))) x4 (T.upd 1 x5 0 [T.v (.int .u32 (wr .u32 (wr .u64 (bC t.2.1 x1))))])) (fX x8.1 x9) (T.upd 1 x10 0 [T.v (.int .u32 (wr .u32 (wr .u64 (bC t.2.2.1 x2))))])) x7.1 x7.2,cY (List.set (List.set (dR x3.1 (T.v (.int .u32 (0:Int)))) x4 (T.upd 1 x5 0 [T.v (.int .u32 (wr .u32 (wr .u64 (bC t.2.1 x1))))])) (fX x8.1 x9) (T.upd 1 x10 0 [T.v (.int .u32 (wr .u32 (wr .u64 (bC t.2.2.1 x2))))])) x12.1 x12.2,())) else ob (nn (32:Int)) fun x13=>ob (gO (sG x8.2) (1:Int)) fun x14=>ob (oN (List.set (List.set (dR x3.1 (T.v (.int .u32 (0:Int)))) x4 (T.upd 1 x5 0 [T.v (.int .u32 (wr .u32 (wr .u64 (bC t.2.1 x1))))])) (fX x8.1 x9) (T.upd 1 x10 0 [T.v (.int .u32 (wr .u32 (wr .u64 (bC t.2.2.1 x2))))])) (fX x8.1 x14)) fun x15=>ob (lU (aH (List.set (List.set (List.set (dR x3.1 (T.v (.int .u32 (0:Int)))) x4 (T.upd 1 x5 0 [T.v (.int .u32 (wr .u32 (wr .u64 (bC t.2.1 x1))))])) (fX x8.1 x9) (T.upd 1 x10 0 [T.v (.int .u32 (wr .u32 (wr .u64 (bC t.2.2.1 x2))))])) (fX x8.1 x14) (T.upd 1 x15 0 [T.v (.int .u32 (wr .u32 (e7 .u64 (wr .u64 (bC t.2.2.1 x2)) x13)))]))) (1:Int) (3:Int) (3:Int)) fun x16=>some (.inl ((),(),false,T.v (.slice none 0 0),T.v (.slice none 0 0),t.1,cY (List.set (List.set (List.set (dR x3.1 (T.v (.int .u32 (0:Int)))) x4 (T.upd 1 x5 0 [T.v (.int .u32 (wr .u32 (wr .u64 (bC t.2.1 x1))))])) (fX x8.1 x9) (T.upd 1 x10 0 [T.v (.int .u32 (wr .u32 (wr .u64 (bC t.2.2.1 x2))))])) (fX x8.1 x14) (T.upd 1 x15 0 [T.v (.int .u32 (wr .u32 (e7 .u64 (wr .u64 (bC t.2.2.1 x2)) x13)))])) x7.1 x7.2,cY (List.set (List.set (List.set (dR x3.1 (T.v (.int .u32 (0:Int)))) x4 (T.upd 1 x5 0 [T.v (.int .u32 (wr .u32 (wr .u64 (bC t.2.1 x1))))])) (fX x8.1 x9) (T.upd 1 x10 0 [T.v (.int .u32 (wr .u32 (wr .u64 (bC t.2.2.1 x2))))])) (fX x8.1 x14) (T.upd 1 x15 0 [T.v (.int .u32 (wr .u32 (e7 .u64 (wr .u64 (bC t.2.2.1 x2)) x13)))])) x16.1 x16.2,())) else some (.inl ((),(),false,T.v (.slice none 0 0),T.v (.slice none 0 0),t.1,cY (List.set (dR x3.1 (T.v (.int .u32 (0:Int)))) x4 (T.upd 1 x5 0 [T.v (.int .u32 (wr .u32 (wr .u64 (bC t.2.1 x1))))])) x7.1 x7.2,[],()))) fun q17=>mQ q17 (fun t18=>some (t18.2.2.2.2.2.1,t18.2.2.2.2.2.2.1,t18.2.2.2.2.2.2.2.1,())) fun q19=>qT q19 else ob (nn (32:Int)) fun x20=>ob (gO (aH (List.set (dR x3.1 (T.v (.int .u32 (0:Int)))) x4 (T.upd 1 x5 0 [T.v (.int .u32 (wr .u32 (wr .u64 (bC t.2.1 x1))))]))) (1:Int)) fun x21=>ob (oN (List.set (dR x3.1 (T.v (.int .u32 (0:Int)))) x4 (T.upd 1 x5 0 [T.v (.int .u32 (wr .u32 (wr .u64 (bC t.2.1 x1))))])) x21) fun x22=>ob (lU (aH (List.set (List.set (dR x3.1 (T.v (.int .u32 (0:Int)))) x4 (T.upd 1 x5 0 [T.v (.int .u32 (wr .u32 (wr .u64 (bC t.2.1 x1))))])) x21 (T.upd 1 x22 0 [T.v (.int .u32 (wr .u32 (e7 .u64 (wr .u64 (bC t.2.1 x1)) x20)))]))) (0:Int) (2:Int) (2:Int)) fun x23=>ob (α:=Unit×Unit×Bool×T×T×Bool×List T×List T×Unit⊕Empty) (bif oG (1:Int) (wr .u64 (bC t.2.2.1 x2)) then ob (B9 (aH (List.set (List.set (dR x3.1 (T.v (.int .u32 (0:Int)))) x4 (T.upd 1 x5 0 [T.v (.int .u32 (wr .u32 (wr .u64 (bC t.2.1 x1))))])) x21 (T.upd 1 x22 0 [T.v (.int .u32 (wr .u32 (e7 .u64 (wr .u64 (bC t.2.1 x1)) x20)))]))) (2:Int) (aH (List.set (List.set (dR x3.1 (T.v (.int .u32 (0:Int)))) x4 (T.upd 1 x5 0 [T.v (.int .u32 (wr .u32 (wr .u64 (bC t.2.1 x1))))])) x21 (T.upd 1 x22 0 [T.v (.int .u32 (wr .u32 (e7 .u64 (wr .u64 (bC t.2.1 x1)) x20)))])))) fun x24=>ob (gO (sG x24.2) (0:Int)) fun x25=>ob (oN (List.set (List.set (dR x3.1 (T.v (.int .u32 (0:Int)))) x4 (T.upd 1 x5 0 [T.v (.int .u32 (wr .u32 (wr .u64 (bC t.2.1 x1))))])) x21 (T.upd 1 x22 0 [T.v (.int .u32 (wr .u32 (e7 .u64 (wr .u64 (bC t.2.1 x1)) x20)))])) (fX x24.1 x25)) fun x26=>ob (nn (32:Int)) fun x27=>bif gP (e7 .u64 (wr .u64 (bC t.2.2.1 x2)) x27) (0:Int) then ob (lU (aH (List.set (List.set (List.set (dR x3.1 (T.v (.int .u32 (0:Int)))) x4 (T.upd 1 x5 0 [T.v (.int .u32 (wr .u32 (wr .u64 (bC t.2.1 x1))))])) x21 (T.upd 1 x22 0 [T.v (.int .u32 (wr .u32 (e7 .u64 (wr .u64 (bC t.2.1 x1)) x20)))])) (fX x24.1 x25) (T.upd 1 x26 0 [T.v (.int .u32 (wr .u32 (wr .u64 (bC t.2.2.1 x2))))]))) (2:Int) (3:Int) (3:Int)) fun x28=>some (.inl ((),(),false,T.v (.slice none 0 0),T.v (.slice none 0 0),t.1,cY (List.set (List.set (List.set (dR x3.1 (T.v (.int .u32 (0:Int)))) x4 (T.upd 1 x5 0 [T.v (.int .u32 (wr .u32 (wr .u64 (bC t.2.1 x1))))])) x21 (T.upd 1 x22 0 [T.v (.int .u32 (wr .u32 (e7 .u64 (wr .u64 (bC t.2.1 x1)) x20)))])) (fX x24.1 x25) (T.upd 1 x26 0 [T.v (.int .u32 (wr .u32 (wr .u64 (bC t.2.2.1 x2))))])) x23.1 x23.2,cY (List.set (List.set (List.set (dR x3.1 (T.v (.int .u32 (0:Int)))) x4 (T.upd 1 x5 0 [T.v (.int .u32 (wr .u32 (wr .u64 (bC t.2.1 x1))))])) x21 (T.upd 1 x22 0 [T.v (.int .u32 (wr .u32 (e7 .u64 (wr .u64 (bC t.2.1 x1)) x20)))])) (fX x24.1 x25) (T.upd 1 x26 0 [T.v (.int .u32 (wr .u32 (wr .u64 (bC t.2.2.1 x2))))])) x28.1 x28.2,())) else ob (nn (32:Int)) fun x29=>ob (gO (sG x24.2) (1:Int)) fun x30=>ob (oN (List.set (List.set (List.set (dR x3.1 (T.v (.int .u32 (0:Int)))) x4 (T.upd 1 x5 0 [T.v (.int .u32 (wr .u32 (wr .u64 (bC t.2.1 x1))))])) x21 (T.upd 1 x22 0 [T.v (.int .u32 (wr .u32 (e7 .u64 (wr .u64 (bC t.2.1 x1)) x20)))])) (fX x24.1 x25) (T.upd 1 x26 0 [T.v (.int .u32 (wr .u32 (wr .u64 (bC t.2.2.1 x2))))])) (fX x24.1 x30)) fun x31=>ob (lU (aH (List.set (List.set (List.set (List.set (dR x3.1 (T.v (.int .u32 (0:Int)))) x4 (T.upd 1 x5 0 [T.v (.int .u32 (wr .u32 (wr .u64 (bC t.2.1 x1))))])) x21 (T.upd 1 x22 0 [T.v (.int .u32 (wr .u32 (e7 .u64 (wr .u64 (bC t.2.1 x1)) x20)))])) (fX x24.1 x25) (T.upd 1 x26 0 [T.v (.int .u32 (wr .u32 (wr .u64 (bC t.2.2.1 x2))))])) (fX x24.1 x30) (T.upd 1 x31 0 [T.v (.int .u32 (wr .u32 (e7 .u64 (wr .u64 (bC t.2.2.1 x2)) x29)))]))) (2:Int) (4:Int) (4:Int)) fun x32=>some (.inl ((),(),false,T.v (.slice none 0 0),T.v (.slice none 0 0),t.1,cY (List.set (List.set (List.set (List.set (dR x3.1 (T.v (.int .u32 (0:Int)))) x4 (T.upd 1 x5 0 [T.v (.int .u32 (wr .u32 (wr .u64 (bC t.2.1 x1))))])) x21 (T.upd 1 x22 0 [T.v (.int .u32 (wr .u32 (e7 .u64 (wr .u64 (bC t.2.1 x1)) x20)))])) (fX x24.1 x25) (T.upd 1 x26 0 [T.v (.int .u32 (wr .u32 (wr .u64 (bC t.2.2.1 x2))))])) (fX x24.1 x30) (T.upd 1 x31 0 [T.v (.int .u32 (wr .u32 (e7 .u64 (wr .u64 (bC t.2.2.1 x2)) x29)))])) x23.1 x23.2,cY (List.set (List.set (List.set (List.set (dR x3.1 (T.v (.int .u32 (0:Int)))) x4 (T.upd 1 x5 0 [T.v (.int .u32 (wr .u32 (wr .u64 (bC t.2.1 x1))))])) x21 (T.upd 1 x22 0 [T.v (.int .u32 (wr .u32 (e7 .u64 (wr .u64 (bC t.2.1 x1)) x20)))])) (fX x24.1 x25) (T.upd 1 x26 0 [T.v (.int .u32 (wr .u32 (wr .u64 (bC t.2.2.1 x2))))])) (fX x24.1 x30) (T.upd 1 x31 0 [T.v (.int .u32 (wr .u32 (e7 .u64 (wr .u64 (bC t.2.2.1 x2)) x29)))])) x32.1 x32.2,())) else some (.inl ((),(),false,T.v (.slice none 0 0),T.v (.slice none 0 0),t.1,cY (List.set (List.set (dR x3.1 (T.v (.int .u32 (0:Int)))) x4 (T.upd 1 x5 0 [T.v (.int .u32 (wr .u32 (wr .u64 (bC t.2.1 x1))))])) x21 (T.upd 1 x22 0 [T.v (.int .u32 (wr .u32 (e7 .u64 (wr .u64 (bC t.2.1 x1)) x20)))])) x23.1 x23.2,[],()))) fun q33=>mQ q33 (fun t34=>some (t34.2.2.2.2.2.1,t34.2.2.2.2.2.2.1,t34.2.2.2.2.2.2.2.1,())) fun q35=>qT q35
def mV:HT:=(.l (.l (.l (.l (.l (.l (.l (.seq (.join [(.normal,⟨[.slot 6,.slot 10,.box 6 3,.box 10 3],[.lit (.box 6 0),.lit (.box 10 0),.bool,.tree,.tree,.bool,.sl 1,.sl 1]⟩)] .leaf) .leaf))))))))
theorem tI:TabOK Try.prog [71] mU:=(.cs Try.func71 sB (TabOK.cons (fun _=>⟨_,Try.func72,by kernel_rfl,by kernel_rfl⟩) (P1 a8 lR Try.func72 (by kernel_rfl)) (NW lR) (fun h=>by cases h) (by kernel_rfl) (fun h=>by cases h) (by kernel_rfl) TabOK.nil))
theorem uT:∀t,vS Try.prog mU [71] mV Try.f59 iA t=aP t:=fun _=>by kernel_rfl
theorem uU:(aB iA aP).OK Try.prog 59:=lG a8 [71] mV tI Try.func59 uT
def iB:Sig:=⟨1,0,⟨[.aggs 0 3],[.bool,.sl 1,.sl 1]⟩,3,[],0,⟨[.slot 0,.slot 1,.slot 2],[.int .u64,.int .u64,.bool]⟩,60⟩
noncomputable def bA(t:Bool×List T×List T×Unit):Option (Int×Int×Bool×Unit):=bif oG (1:Int) (aH t.2.1) then some ((0:Int),(0:Int),false,()) else bif oG (1:Int) (aH t.2.2.1) then some ((0:Int),(0:Int),false,()) else ob (α:=Unit×Int×Bool×List T×List T×Unit⊕Empty) (bif gP (aH t.2.2.1) (1:Int) then ob (eJ t.2.2.1 (0:Int)) fun x0=>ob (T.anyInt? (T.cell x0 0)) fun x1=>some (.inl ((),wr .u64 x1,t.1,t.2.1,t.2.2.1,())) else some (.inl ((),(1:Int),t.1,t.2.1,t.2.2.1,()))) fun q2=>mQ q2 (fun t3=>ob (d9 (t3.2.2.2.1,())) fun x4=>some (x4.1,t3.2.1,Bool.not (gP t3.2.1 (0:Int)),())) fun q5=>qT q5
theorem mW:(aB iB bA).OK Try.prog 42:=lG a8 [54] (.l (.l (.l (.seq (.join [(.normal,⟨[.slot 1,.slot 3,.box 1 3],[.lit (.box 1 0),.int .u64,.bool,.sl 1,.sl 1]⟩)] .leaf) .leaf)))) (.cs Try.func54 wC <| .nil) Try.func42 fun _=>by kernel_rfl
def wD:Sig:=⟨0,0,⟨[],[]⟩,1,[],0,⟨[.slot 0],[.sl 1]⟩,4⟩
noncomputable def pI(t:Unit):Option (List T×Unit):=some ([T.v (.int .u32 (1:Int))],())
theorem y5:(aB wD pI).OK Try.prog 56:=lG a8 [] .leaf .nil Try.func56 fun _=>by kernel_rfl
def jW:Sig:=⟨1,0,⟨[.aggs 0 3],[.bool,.sl 1,.sl 1]⟩,1,[],0,⟨[.slot 0],[.sl 1]⟩,20⟩
noncomputable def cQ(t:Bool×List T×List T×Unit):Option (List T×Unit):=bif gP (aH t.2.2.1) (0:Int) then ob (pI ()) fun x0=>some (x0.1,()) else some (t.2.2.1,())
theorem pJ:(aB jW cQ).OK Try.prog 46:=lG a8 [] .leaf (.cs Try.func56 y5 <| .nil) Try.func46 fun _=>by kernel_rfl
def bS:Sig:=⟨2,0,⟨[.slot 0,.slot 1],[.sl 1,.sl 1]⟩,1,[],0,⟨[.slot 0],[.bool]⟩,52⟩
noncomputable def aN(s0:List T×List T×Int×Int×Unit):Option (List T×List T×Int×Int×Unit⊕Bool×Unit⊕Unit⊕Empty):=bif oG s0.2.2.2.1 s0.2.2.1 then ob (eJ s0.1 s0.2.2.2.1) fun x1=>ob (eJ s0.2.1 s0.2.2.2.1) fun x2=>ob (T.int? .u32 (T.cell x1 0)) fun x3=>ob (T.int? .u32 (T.cell x2 0)) fun x4=>bif Bool.not (gP x3 x4) then some (.inr (.inl (false,()))) else some (.inl (s0.1,s0.2.1,s0.2.2.1,wr .i64 (mF s0.2.2.2.1 (1:Int)),())) else some (.inr (.inr (.inl ())))
noncomputable def aC(t:List T×List T×Unit):Option (Bool×Unit):=bif Bool.not (gP (aH t.1) (aH t.2.1)) then some (false,()) else ob (bL aN (t.1,t.2.1,aH t.1,(0:Int),())) fun q5=>mQ q5 (fun t6=>some (t6.1,())) fun q7=>mQ q7 (fun t8=>some (true,())) fun q9=>qT q9
theorem dF:(aB bS aC).OK Try.prog 43:=lG a8 [] (.l (.l (.seq (.l (.one (.loop ⟨[.slot 0,.slot 1,.slot 12,.slot 13],[.sl 1,.sl 1,I6,I6]⟩ [(.ret,⟨[.slot 4],[.bool]⟩),((.exit 0),⟨[],[]⟩)] .leaf))) .leaf))) .nil Try.func43 fun _=>by kernel_rfl
def c9:Sig:=⟨1,0,⟨[.slot 0],[.sl 1]⟩,1,[],0,⟨[.slot 0],[.sl 1]⟩,16⟩
noncomputable def aI(t:List T×Unit):Option (List T×Unit):=bif EL t.1 then vK (some ([],())) (ob (oF [] t.1 4) fun x0=>some (x0,())) else ob (oF [] t.1 4) fun x1=>some (x1,())
theorem iK:(aB c9 aI).OK Try.prog 49:=lG a8 [] .leaf .nil Try.func49 fun _=>by kernel_rfl
def mX:Sig:=⟨1,0,⟨[.aggs 0 3],[.bool,.sl 1,.sl 1]⟩,1,[],0,⟨[.slot 0],[I6]⟩,22⟩
noncomputable def b9(t:Bool×List T×List T×Unit):Option (Int×Unit):=ob (eU (t.2.1,())) fun x0=>bif gP x0.1 (0:Int) then some ((0:Int),()) else bif t.1 then some ((-1:Int),()) else some ((1:Int),())
theorem oA:(aB mX b9).OK Try.prog 35:=lG a8 [47] .leaf (.cs Try.func47 y4 <| .nil) Try.func35 fun _=>by kernel_rfl
def oB:Sig:=⟨3,0,⟨[.aggs 0 3,.aggs 1 3,.slot 2],[.bool,.sl 1,.sl 1,.bool,.sl 1,.sl 1,.bool]⟩,1,[],0,⟨[.aggs 0 3],[.bool,.sl 1,.sl 1]⟩,304⟩
noncomputable def pK:List (FuncId×Callee):=[(42,(aB iB bA)),(58,DK),(59,(aB iA aP)),(46,R1 (aB jW cQ)),(43,(aB bS aC))]
noncomputable def eV(t:Bool×List T×List T×Bool×List T×List T×Bool×Unit):Option (Bool×List T×List T×Unit):=ob (α:=Unit×Bool×List T×List T×Unit⊕Bool×Unit×Unit×Unit×Bool×List T×List T×Bool×List T×List T×Bool×T×T×Unit⊕Empty) (ob (bA (t.1,t.2.1,t.2.2.1,())) fun x0=>bif x0.2.2.1 then ob (bA (t.2.2.2.1,t.2.2.2.2.1,t.2.2.2.2.2.1,())) fun x1=>bif x1.2.2.1 then ob (yT (wr .u64 (eI x0.1 x1.2.1)) (wr .u64 (eI x1.1 x0.2.1)) (0:Int)) fun x2=>bif B4 t.1 t.2.2.2.2.2.2.1 then bif gP (yU (wr .u64 (eI x0.1 x1.2.1)) (wr .u64 (eI x1.1 x0.2.1)) (0:Int)) (0:Int) then ob (aP (t.2.2.2.2.2.2.1,x2,wr .u64 (eI x0.2.1 x1.2.1),())) fun x3=>some (.inl ((),x3.1,x3.2.1,x3.2.2.1,())) else bif Bool.not (B4 t.1 t.2.2.2.2.2.2.1) then bif tU (wr .u64 (eI x1.1 x0.2.1)) (wr .u64 (eI x0.1 x1.2.1)) then ob (aP (t.1,wr .u64 (iJ (wr .u64 (eI x0.1 x1.2.1)) (wr .u64 (eI x1.1 x0.2.1))),wr .u64 (eI x0.2.1 x1.2.1),())) fun x4=>some (.inl ((),x4.1,x4.2.1,x4.2.2.1,())) else bif Bool.not (B4 t.1 t.2.2.2.2.2.2.1) then ob (aP (t.2.2.2.2.2.2.1,wr .u64 (iJ (wr .u64 (eI x1.1 x0.2.1)) (wr .u64 (eI x0.1 x1.2.1))),wr .u64 (eI x0.2.1 x1.2.1),())) fun x5=>some (.inl ((),x5.1,x5.2.1,x5.2.2.1,())) else some (.inr (.inl (t.2.2.2.2.2.2.1,(),(),(),t.1,t.2.1,t.2.2.1,t.2.2.2.1,t.2.2.2.2.1,t.2.2.2.2.2.1,false,T.v (.slice none 0 0),T.v (.slice none 0 0),()))) else bif Bool.not (B4 t.1 t.2.2.2.2.2.2.1) then ob (aP (t.2.2.2.2.2.2.1,wr .u64 (iJ (wr .u64 (eI x1.1 x0.2.1)) (wr .u64 (eI x0.1 x1.2.1))),wr .u64 (eI x0.2.1 x1.2.1),())) fun x6=>some (.inl ((),x6.1,x6.2.1,x6.2.2.1,())) else some (.inr (.inl (t.2.2.2.2.2.2.1,(),(),(),t.1,t.2.1,t.2.2.1,t.2.2.2.1,t.2.2.2.2.1,t.2.2.2.2.2.1,false,T.v (.slice none 0 0),T.v (.slice none 0 0),()))) else bif Bool.not (B4 t.1 t.2.2.2.2.2.2.1) then bif tU (wr .u64 (eI x1.1 x0.2.1)) (wr .u64 (eI x0.1 x1.2.1)) then ob (aP (t.1,wr .u64 (iJ (wr .u64 (eI x0.1 x1.2.1)) (wr .u64 (eI x1.1 x0.2.1))),wr .u64 (eI x0.2.1 x1.2.1),())) fun x7=>some (.inl ((),x7.1,x7.2.1,x7.2.2.1,())) else bif Bool.not (B4 t.1 t.2.2.2.2.2.2.1) then ob (aP (t.2.2.2.2.2.2.1,wr .u64 (iJ (wr .u64 (eI x1.1 x0.2.1)) (wr .u64 (eI x0.1 x1.2.1))),wr .u64 (eI x0.2.1 x1.2.1),())) fun x8=>some (.inl ((),x8.1,x8.2.1,x8.2.2.1,())) else some (.inr (.inl (t.2.2.2.2.2.2.1,(),(),(),t.1,t.2.1,t.2.2.1,t.2.2.2.1,t.2.2.2.2.1,t.2.2.2.2.2.1,false,T.v (.slice none 0 0),T.v (.slice none 0 0),()))) else bif Bool.not (B4 t.1 t.2.2.2.2.2.2.1) then ob (aP (t.2.2.2.2.2.2.1,wr .u64 (iJ (wr .u64 (eI x1.1 x0.2.1)) (wr .u64 (eI x0.1 x1.2.1))),wr .u64 (eI x0.2.1 x1.2.1),())) fun x9=>some (.inl ((),x9.1,x9.2.1,x9.2.2.1,())) else some (.inr (.inl (t.2.2.2.2.2.2.1,(),(),(),t.1,t.2.1,t.2.2.1,t.2.2.2.1,t.2.2.2.2.1,t.2.2.2.2.2.1,false,T.v (.slice none 0 0),T.v (.slice none 0 0),()))) else some (.inr (.inl (t.2.2.2.2.2.2.1,(),(),(),t.1,t.2.1,t.2.2.1,t.2.2.2.1,t.2.2.2.2.1,t.2.2.2.2.2.1,false,T.v (.slice none 0 0),T.v (.slice none 0 0),()))) else some (.inr (.inl (t.2.2.2.2.2.2.1,(),(),(),t.1,t.2.1,t.2.2.1,t.2.2.2.1,t.2.2.2.2.1,t.2.2.2.2.2.1,false,T.v (.slice none 0 0),T.v (.slice none 0 0),())))) fun q10=>mQ q10 (fun t11=>some (t11.2.1,t11.2.2.1,t11.2.2.2.1,())) fun q12=>mQ q12 (fun t13=>ob (cQ (t13.2.2.2.2.1,t13.2.2.2.2.2.1,t13.2.2.2.2.2.2.1,())) fun x14=>ob (α:=Bool×Unit×Unit×List T×List T×List T×Bool×List T×List T×Bool×T×T×Unit⊕Empty) (ob (aC (t13.2.2.2.2.2.2.1,t13.2.2.2.2.2.2.2.2.2.1,())) fun x15=>bif Bool.not x15.1 then ob (cQ (t13.2.2.2.2.2.2.2.1,t13.2.2.2.2.2.2.2.2.1,t13.2.2.2.2.2.2.2.2.2.1,())) fun x16=>none else some (.inl (t13.1,(),(),t13.2.2.2.2.2.1,t13.2.2.2.2.2.2.2.2.1,x14.1,t13.2.2.2.2.1,t13.2.2.2.2.2.1,t13.2.2.2.2.2.2.1,t13.2.2.2.2.2.2.2.2.2.2.1,t13.2.2.2.2.2.2.2.2.2.2.2.1,t13.2.2.2.2.2.2.2.2.2.2.2.2.1,()))) fun q17=>mQ q17 (fun t18=>bif B4 t18.2.2.2.2.2.2.1 t18.1 then none else none) fun q19=>qT q19) fun q20=>qT q20
def pL:HT:=(.l (.seq (.join [(.ret,⟨[.slot 6,.box 6 3],[.lit (.box 6 0),.bool,.sl 1,.sl 1]⟩),(.normal,⟨[.slot 2,.slot 3,.slot 4,.slot 6,.box 3 3,.box 4 3,.box 6 3],[.bool,.lit (.box 3 0),.lit (.box 4 0),.lit (.box 6 0),.bool,.sl 1,.sl 1,.bool,.sl 1,.sl 1,.bool,.tree,.tree]⟩)] .leaf) (.l (.seq (.join [(.normal,⟨[.slot 2,.slot 3,.slot 6,.slot 15,.slot 16,.slot 17,.box 3 3,.box 6 3],[.bool,.lit (.box 3 0),.lit (.box 6 0),.sl 1,.sl 1,.sl 1,.bool,.sl 1,.sl 1,.bool,.tree,.tree]⟩)] .leaf) .leaf))))
theorem wE:TabOK Try.prog [42,1000046,43,1000045,1000061,1000060,1000062] pK:=(.cs Try.func42 mW (TabOK.cons (fun h=>by cases h) N6 HR (fun h=>by cases h) (by kernel_rfl) (fun h=>by cases h) (by kernel_rfl) (.cs Try.func59 uU (TabOK.consP (fun _=>⟨_,Try.func46,by kernel_rfl,by kernel_rfl⟩) (DJ pJ) (wO (a6 _ _)) (fun h=>by cases h) (fun _=>gK (a6 _ _)) (fun _=>(gK (a6 _ _)).framed) (by kernel_rfl) (.cs Try.func43 dF TabOK.nil)))))
theorem y6:∀t,vS Try.prog pK [42,1000046,43,1000045,1000061,1000060,1000062] pL Try.f48 oB t=eV t:=fun _=>by kernel_rfl
theorem y7:(aB oB eV).OK Try.prog 48:=lG a8 [42,1000046,43,1000045,1000061,1000060,1000062] pL wE Try.func48 y6
def wF:Sig:=⟨2,0,⟨[.aggs 0 3,.aggs 1 3],[.bool,.sl 1,.sl 1,.bool,.sl 1,.sl 1]⟩,1,[],0,⟨[.aggs 0 3],[.bool,.sl 1,.sl 1]⟩,20⟩
noncomputable def iC(t:Bool×List T×List T×Bool×List T×List T×Unit):Option (Bool×List T×List T×Unit):=ob (eV (t.1,t.2.1,t.2.2.1,t.2.2.2.1,t.2.2.2.2.1,t.2.2.2.2.2.1,t.2.2.2.1,())) fun x0=>some (x0.1,x0.2.1,x0.2.2.1,())
theorem y8:(aB wF iC).OK Try.prog 37:=lG a8 [] .leaf (.cs Try.func48 y7 <| .nil) Try.func37 fun _=>by kernel_rfl
def oC:Sig:=⟨2,0,⟨[.aggs 0 3,.aggs 1 3],[.bool,.sl 1,.sl 1,.bool,.sl 1,.sl 1]⟩,1,[],0,⟨[.slot 0],[I6]⟩,160⟩
noncomputable def pM:List (FuncId×Callee):=[(35,(aB mX b9)),(42,(aB iB bA)),(43,(aB bS aC)),(44,(aB pH eD)),(46,R1 (aB jW cQ))]
noncomputable def eW(t:Bool×List T×List T×Bool×List T×List T×Unit):Option (Int×Unit):=ob (b9 (t.1,t.2.1,t.2.2.1,())) fun x0=>ob (b9 (t.2.2.2.1,t.2.2.2.2.1,t.2.2.2.2.2.1,())) fun x1=>bif Bool.not (gP x0.1 x1.1) then bif oG x0.1 x1.1 then some ((-1:Int),()) else some ((1:Int),()) else ob (α:=Unit×Int×Bool×List T×List T×Unit⊕Empty) (ob (bA (t.1,t.2.1,t.2.2.1,())) fun x2=>ob (aC (t.2.2.1,t.2.2.2.2.2.1,())) fun x3=>bif x3.1 then ob (eD (t.2.1,t.2.2.2.2.1,())) fun x4=>some (.inl ((),x4.1,t.1,t.2.1,t.2.2.1,())) else ob (bA (t.2.2.2.1,t.2.2.2.2.1,t.2.2.2.2.2.1,())) fun x5=>bif x2.2.2.1 then bif x5.2.2.1 then bif oG (wr .u64 (eI x2.1 x5.2.1)) (wr .u64 (eI x5.1 x2.2.1)) then some (.inl ((),(-1:Int),t.1,t.2.1,t.2.2.1,())) else bif oG (wr .u64 (eI x5.1 x2.2.1)) (wr .u64 (eI x2.1 x5.2.1)) then some (.inl ((),(1:Int),t.1,t.2.1,t.2.2.1,())) else some (.inl ((),(0:Int),t.1,t.2.1,t.2.2.1,())) else ob (cQ (t.2.2.2.1,t.2.2.2.2.1,t.2.2.2.2.2.1,())) fun x6=>none else ob (cQ (t.2.2.2.1,t.2.2.2.2.1,t.2.2.2.2.2.1,())) fun x7=>none) fun q8=>mQ q8 (fun t9=>bif t9.2.2.1 then some (wr .i64 (iJ (0:Int) t9.2.1),()) else some (t9.2.1,())) fun q10=>qT q10
def pN:HT:=(.l (.l (.l (.seq (.join [(.normal,⟨[.slot 2,.slot 7,.box 2 3],[.lit (.box 2 0),I6,.bool,.sl 1,.sl 1]⟩)] .leaf) .leaf))))
theorem wG:TabOK Try.prog [35,42,43,44,1000046,1000045] pM:=(.cs Try.func35 oA (.cs Try.func42 mW (.cs Try.func43 dF (.cs Try.func44 AM (TabOK.consP (fun _=>⟨_,Try.func46,by kernel_rfl,by kernel_rfl⟩) (DJ pJ) (wO (a6 _ _)) (fun h=>by cases h) (fun _=>gK (a6 _ _)) (fun _=>(gK (a6 _ _)).framed) (by kernel_rfl) TabOK.nil)))))
theorem y9:∀t,vS Try.prog pM [35,42,43,44,1000046,1000045] pN Try.f32 oC t=eW t:=fun _=>by kernel_rfl
theorem zA:(aB oC eW).OK Try.prog 32:=lG a8 [35,42,43,44,1000046,1000045] pN wG Try.func32 y9
def zB:Sig:=⟨1,0,⟨[.aggs 0 3],[.bool,.sl 1,.sl 1]⟩,1,[],0,⟨[.aggs 0 3],[.bool,.sl 1,.sl 1]⟩,24⟩
noncomputable def BU:List (FuncId×Callee):=[(49,R1 (aB c9 aI))]
noncomputable def kO(t:Bool×List T×List T×Unit):Option (Bool×List T×List T×Unit):=ob (aI (t.2.1,())) fun x0=>ob (aI (t.2.2.1,())) fun x1=>some (t.1,x0.1,x1.1,())
def BV:HT:=.leaf
theorem HV:TabOK Try.prog [1000049] BU:=(TabOK.consP (fun _=>⟨_,Try.func49,by kernel_rfl,by kernel_rfl⟩) (DJ iK) (wO (a6 _ _)) (fun h=>by cases h) (fun _=>gK (a6 _ _)) (fun _=>(gK (a6 _ _)).framed) (by kernel_rfl) TabOK.nil)
theorem LT:∀t,vS Try.prog BU [1000049] BV Try.f38 zB t=kO t:=fun _=>by kernel_rfl
theorem BW:(aB zB kO).OK Try.prog 38:=lG a8 [1000049] BV HV Try.func38 LT
def tJ:Sig:=⟨1,0,⟨[.aggs 0 5],[I6,I6,.bool,.sl 1,.sl 1]⟩,1,[],0,⟨[.aggs 0 5],[I6,I6,.bool,.sl 1,.sl 1]⟩,16⟩
noncomputable def gM(t:Int×Int×Bool×List T×List T×Unit):Option (Int×Int×Bool×List T×List T×Unit):=ob (kO (t.2.2.1,t.2.2.2.1,t.2.2.2.2.1,())) fun x0=>some (t.1,t.2.1,x0.1,x0.2.1,x0.2.2.1,())
theorem pO:(aB tJ gM).OK Try.prog 29:=lG a8 [] .leaf (.cs Try.func38 BW <| .nil) Try.func29 fun _=>by kernel_rfl
def jX:Sig:=⟨2,0,⟨[.slot 0,.slot 1],[.sl 5,.lit (.t (.v (.func (.func 29) #[] #[])))]⟩,1,[],1,⟨[.slot 0],[.row 44 5 0]⟩,56⟩
noncomputable def aE(s1:Unit×List T×List T×Int×Int×Unit):Option (Unit×List T×List T×Int×Int×Unit⊕List T×Unit⊕Empty):=bif oG s1.2.2.2.2.1 s1.2.2.2.1 then ob (eJ s1.2.2.1 s1.2.2.2.2.1) fun x2=>ob (T.int? .i64 (T.cell x2 0)) fun x3=>ob (T.int? .i64 (T.cell x2 1)) fun x4=>ob (T.bool? (T.cell x2 2)) fun x5=>ob (T.sl? 1 (T.cell x2 3)) fun x6=>ob (T.sl? 1 (T.cell x2 4)) fun x7=>ob (gM (x3,x4,x5,x6,x7,())) fun x8=>ob (gO (aH s1.2.1) s1.2.2.2.2.1) fun x9=>ob (oN s1.2.1 x9) fun x10=>some (.inl ((),List.set s1.2.1 x9 (T.upd 5 x10 0 [T.v (.int .i64 x8.1),T.v (.int .i64 x8.2.1),T.v (.bool x8.2.2.1),T.sl 1 x8.2.2.2.1,T.sl 1 x8.2.2.2.2.1]),s1.2.2.1,s1.2.2.2.1,wr .i64 (mF s1.2.2.2.2.1 (1:Int)),())) else some (.inr (.inl (s1.2.1,())))
noncomputable def cD(t:List T×Unit×Unit):Option (List T×Unit):=bif EL t.1 then vK (some ([],())) (ob (nY (aH t.1) (aH t.1) 72) fun x0=>ob (bL aE ((),dR x0.1 (T.agg [T.v (.int .i64 (0:Int)),T.v (.int .i64 (0:Int)),T.v (.bool false),T.v (.slice none 0 0),T.v (.slice none 0 0)]),t.1,aH t.1,(0:Int),())) fun q11=>mQ q11 (fun t12=>some (t12.1,())) fun q13=>qT q13) else ob (nY (aH t.1) (aH t.1) 72) fun x14=>ob (bL aE ((),dR x14.1 (T.agg [T.v (.int .i64 (0:Int)),T.v (.int .i64 (0:Int)),T.v (.bool false),T.v (.slice none 0 0),T.v (.slice none 0 0)]),t.1,aH t.1,(0:Int),())) fun q25=>mQ q25 (fun t26=>some (t26.1,())) fun q27=>qT q27
theorem kF:(aB jX cD).OK Try.prog 34:=lG a8 [] (.l (.l (.l (.seq (.l (.one (.loop ⟨[.slot 1,.slot 5,.slot 13,.slot 14,.slot 15],[.lit (C.t (T.v (Go.Value.func (Go.Fn.func 29) #[] #[]))),.row 44 5 12,.sl 5,I6,I6]⟩ [((.exit 0),⟨[.slot 5],[.row 44 5 12]⟩)] .leaf))) .leaf)))) (.cs Try.func29 pO <| .nil) Try.func34 fun _=>by kernel_rfl
def rE:Sig:=⟨1,0,⟨[.slot 0],[.sl 5]⟩,1,[],1,⟨[.slot 0],[.row 44 5 0]⟩,10⟩
noncomputable def dA(t:List T×Unit):Option (List T×Unit):=ob (cD (t.1,(),())) fun x0=>some (x0.1,())
theorem tK:(aB rE dA).OK Try.prog 22:=lG a8 [] .leaf (.cs Try.func34 kF <| .cs Try.func29 pO <| .nil) Try.func22 fun _=>by kernel_rfl
def mY:Sig:=⟨1,0,⟨[.aggs 0 5],[I6,I6,.bool,.sl 1,.sl 1]⟩,1,[],0,⟨[.slot 0],[.bool]⟩,54⟩
noncomputable def cV(t:Int×Int×Bool×List T×List T×Unit):Option (Bool×Unit):=bif tU (0:Int) t.1 then bif tU t.1 (2147483647:Int) then bif tU (1:Int) t.2.1 then bif tU t.2.1 (5:Int) then ob (b9 (t.2.2.1,t.2.2.2.1,t.2.2.2.2.1,())) fun x0=>some (tU (0:Int) x0.1,()) else some (false,()) else some (false,()) else some (false,()) else some (false,())
theorem oD:(aB mY cV).OK Try.prog 23:=lG a8 [35] .leaf (.cs Try.func35 oA <| .nil) Try.func23 fun _=>by kernel_rfl
def tL:Sig:=⟨1,0,⟨[.aggs 0 5],[I6,I6,.bool,.sl 1,.sl 1]⟩,1,[],0,⟨[.slot 0],[.bool]⟩,12⟩
noncomputable def i8(t:Int×Int×Bool×List T×List T×Unit):Option (Bool×Unit):=ob (cV (t.1,t.2.1,t.2.2.1,t.2.2.2.1,t.2.2.2.2.1,())) fun x0=>some (Bool.not x0.1,())
theorem i9:(aB tL i8).OK Try.prog 31:=lG a8 [23] .leaf (.cs Try.func23 oD <| .nil) Try.func31 fun _=>by kernel_rfl
def d5:Sig:=⟨2,0,⟨[.slot 0,.slot 1],[.sl 5,.lit (.t (.v (.func (.func 31) #[] #[])))]⟩,1,[],0,⟨[.slot 0],[I6]⟩,38⟩
noncomputable def aG(s0:List T×Unit×Int×Int×Unit):Option (List T×Unit×Int×Int×Unit⊕Int×Unit⊕Unit⊕Empty):=bif oG s0.2.2.2.1 s0.2.2.1 then ob (eJ s0.1 s0.2.2.2.1) fun x1=>ob (T.int? .i64 (T.cell x1 0)) fun x2=>ob (T.int? .i64 (T.cell x1 1)) fun x3=>ob (T.bool? (T.cell x1 2)) fun x4=>ob (T.sl? 1 (T.cell x1 3)) fun x5=>ob (T.sl? 1 (T.cell x1 4)) fun x6=>ob (i8 (x2,x3,x4,x5,x6,())) fun x7=>bif x7.1 then some (.inr (.inl (s0.2.2.2.1,()))) else some (.inl (s0.1,(),s0.2.2.1,wr .i64 (mF s0.2.2.2.1 (1:Int)),())) else some (.inr (.inr (.inl ())))
noncomputable def a5(t:List T×Unit×Unit):Option (Int×Unit):=ob (bL aG (t.1,(),aH t.1,(0:Int),())) fun q8=>mQ q8 (fun t9=>some (t9.1,())) fun q10=>mQ q10 (fun t11=>some ((-1:Int),())) fun q12=>qT q12
theorem eA:(aB d5 a5).OK Try.prog 41:=lG a8 [31] (.l (.seq (.l (.one (.loop ⟨[.slot 0,.slot 1,.slot 7,.slot 8],[.sl 5,.lit (C.t (T.v (Go.Value.func (Go.Fn.func 31) #[] #[]))),I6,I6]⟩ [(.ret,⟨[.slot 4],[I6]⟩),((.exit 0),⟨[],[]⟩)] .leaf))) .leaf)) (.cs Try.func31 i9 <| .nil) Try.func41 fun _=>by kernel_rfl
def dG:Sig:=⟨2,0,⟨[.slot 0,.slot 1],[.sl 5,.lit (.t (.v (.func (.func 31) #[] #[])))]⟩,1,[],0,⟨[.slot 0],[.bool]⟩,18⟩
noncomputable def aU(t:List T×Unit×Unit):Option (Bool×Unit):=ob (a5 (t.1,(),())) fun x0=>some (tU (0:Int) x0.1,())
theorem dN:(aB dG aU).OK Try.prog 30:=lG a8 [31,41] .leaf (.cs Try.func31 i9 <| .cs Try.func41 eA <| .nil) Try.func30 fun _=>by kernel_rfl
def jY:Sig:=⟨1,0,⟨[.slot 0],[.sl 5]⟩,1,[],0,⟨[.slot 0],[.bool]⟩,22⟩
noncomputable def aV(t:List T×Unit):Option (Bool×Unit):=bif tU (aH t.1) (1024:Int) then ob (aU (t.1,(),())) fun x0=>some (Bool.not x0.1,()) else some (false,())
theorem iD:(aB jY aV).OK Try.prog 17:=lG a8 [30,31] .leaf (.cs Try.func30 dN <| .cs Try.func31 i9 <| .nil) Try.func17 fun _=>by kernel_rfl
def tM:Sig:=⟨1,0,⟨[.aggs 0 5],[I6,I6,.bool,.sl 1,.sl 1]⟩,1,[],0,⟨[.slot 0],[.bool]⟩,6⟩
noncomputable def jA(t:Int×Int×Bool×List T×List T×Unit):Option (Bool×Unit):=some (true,())
theorem mZ:(aB tM jA).OK Try.prog 26:=lG a8 [] .leaf .nil Try.func26 fun _=>by kernel_rfl
def AN:Sig:=⟨2,0,⟨[.slot 0,.slot 1],[.sl 5,.lit (.t (.v (.func (.func 26) #[] #[])))]⟩,1,[],0,⟨[.aggs 0 3],[.bool,.sl 1,.sl 1]⟩,48⟩
noncomputable def cW(s0:Unit×Unit×Unit×List T×Int×Int×Bool×T×T×Bool×List T×List T×Unit):Option (Unit×Unit×Unit×List T×Int×Int×Bool×T×T×Bool×List T×List T×Unit⊕Unit×Unit×Bool×T×T×Bool×List T×List T×Unit⊕Empty):=bif oG s0.2.2.2.2.2.1 s0.2.2.2.2.1 then ob (α:=Unit×Unit×Unit×List T×Int×Int×Bool×T×T×Bool×List T×List T×Unit⊕Empty) (ob (eJ s0.2.2.2.1 s0.2.2.2.2.2.1) fun x1=>ob (T.int? .i64 (T.cell x1 0)) fun x2=>ob (T.int? .i64 (T.cell x1 1)) fun x3=>ob (T.bool? (T.cell x1 2)) fun x4=>ob (T.sl? 1 (T.cell x1 3)) fun x5=>ob (T.sl? 1 (T.cell x1 4)) fun x6=>ob (jA (x2,x3,x4,x5,x6,())) fun x7=>bif x7.1 then ob (T.bool? (T.cell x1 2)) fun x8=>ob (T.sl? 1 (T.cell x1 3)) fun x9=>ob (T.sl? 1 (T.cell x1 4)) fun x10=>ob (iC (s0.2.2.2.2.2.2.2.2.2.1,s0.2.2.2.2.2.2.2.2.2.2.1,s0.2.2.2.2.2.2.2.2.2.2.2.1,x8,x9,x10,())) fun x11=>some (.inl ((),(),(),s0.2.2.2.1,s0.2.2.2.2.1,s0.2.2.2.2.2.1,s0.2.2.2.2.2.2.1,s0.2.2.2.2.2.2.2.1,s0.2.2.2.2.2.2.2.2.1,x11.1,x11.2.1,x11.2.2.1,())) else some (.inl ((),(),(),s0.2.2.2.1,s0.2.2.2.2.1,s0.2.2.2.2.2.1,s0.2.2.2.2.2.2.1,s0.2.2.2.2.2.2.2.1,s0.2.2.2.2.2.2.2.2.1,s0.2.2.2.2.2.2.2.2.2.1,s0.2.2.2.2.2.2.2.2.2.2.1,s0.2.2.2.2.2.2.2.2.2.2.2.1,()))) fun q12=>mQ q12 (fun t13=>some (.inl ((),(),(),t13.2.2.2.1,t13.2.2.2.2.1,wr .i64 (mF t13.2.2.2.2.2.1 (1:Int)),t13.2.2.2.2.2.2.1,t13.2.2.2.2.2.2.2.1,t13.2.2.2.2.2.2.2.2.1,t13.2.2.2.2.2.2.2.2.2.1,t13.2.2.2.2.2.2.2.2.2.2.1,t13.2.2.2.2.2.2.2.2.2.2.2.1,()))) fun q14=>qT q14 else some (.inr (.inl ((),(),s0.2.2.2.2.2.2.1,s0.2.2.2.2.2.2.2.1,s0.2.2.2.2.2.2.2.2.1,s0.2.2.2.2.2.2.2.2.2.1,s0.2.2.2.2.2.2.2.2.2.2.1,s0.2.2.2.2.2.2.2.2.2.2.2.1,())))
noncomputable def kG(t:List T×Unit×Unit):Option (Bool×List T×List T×Unit):=ob (bL cW ((),(),(),t.1,aH t.1,(0:Int),false,T.v (.slice none 0 0),T.v (.slice none 0 0),false,[],[],())) fun q15=>mQ q15 (fun t16=>ob (kO (t16.2.2.2.2.2.1,t16.2.2.2.2.2.2.1,t16.2.2.2.2.2.2.2.1,())) fun x17=>some (x17.1,x17.2.1,x17.2.2.1,())) fun q18=>qT q18
theorem DV:(aB AN kG).OK Try.prog 25:=lG a8 [26] (.l (.l (.seq (.l (.one (.loop ⟨[.slot 1,.slot 4,.slot 5,.slot 8,.slot 9,.slot 10,.box 4 3,.box 5 3],[.lit (C.t (T.v (Go.Value.func (Go.Fn.func 26) #[] #[]))),.lit (.box 4 0),.lit (.box 5 0),.sl 5,I6,I6,.bool,.tree,.tree,.bool,.sl 1,.sl 1]⟩ [((.exit 0),⟨[.slot 4,.slot 5,.box 4 3,.box 5 3],[.lit (.box 4 0),.lit (.box 5 0),.bool,.tree,.tree,.bool,.sl 1,.sl 1]⟩)] (.l (.l (.seq (.join [(.normal,⟨[.slot 1,.slot 4,.slot 5,.slot 8,.slot 9,.slot 10,.box 4 3,.box 5 3],[.lit (C.t (T.v (Go.Value.func (Go.Fn.func 26) #[] #[]))),.lit (.box 4 0),.lit (.box 5 0),.sl 5,I6,I6,.bool,.tree,.tree,.bool,.sl 1,.sl 1]⟩)] .leaf) .leaf)))))) .leaf))) (.cs Try.func26 mZ <| .cs Try.func37 y8 <| .cs Try.func38 BW <| .nil) Try.func25 fun _=>by kernel_rfl
def oE:Sig:=⟨1,0,⟨[.slot 0],[.sl 5]⟩,2,[],0,⟨[.aggs 0 3,.slot 1],[.bool,.sl 1,.sl 1,.bool]⟩,20⟩
noncomputable def dO(t:List T×Unit):Option (Bool×List T×List T×Bool×Unit):=ob (aV (t.1,())) fun x0=>bif Bool.not x0.1 then some (false,[],[],false,()) else ob (kG (t.1,(),())) fun x1=>some (x1.1,x1.2.1,x1.2.2.1,true,())
theorem pP:(aB oE dO).OK Try.prog 11:=lG a8 [17,26] .leaf (.cs Try.func17 iD <| .cs Try.func25 DV <| .cs Try.func26 mZ <| .nil) Try.func11 fun _=>by kernel_rfl
def m6:Sig:=⟨2,0,⟨[.slot 0,.aggs 1 3],[.sl 5,.bool,.sl 1,.sl 1]⟩,1,[],0,⟨[.slot 0],[.bool]⟩,38⟩
noncomputable def eB(t:List T×Bool×List T×List T×Unit):Option (Bool×Unit):=ob (dO (t.1,())) fun x0=>bif x0.2.2.2.1 then ob (eW (x0.1,x0.2.1,x0.2.2.1,t.2.1,t.2.2.1,t.2.2.2.1,())) fun x1=>some (tU x1.1 (0:Int),()) else some (false,())
theorem wH:(aB m6 eB).OK Try.prog 18:=lG a8 [32] .leaf (.cs Try.func11 pP <| .cs Try.func32 zA <| .nil) Try.func18 fun _=>by kernel_rfl
def pQ:Sig:=⟨2,0,⟨[.slot 0,.slot 1],[.sl 5,.sl 5]⟩,2,[],0,⟨[.slot 0,.slot 1],[.sl 5,I6]⟩,54⟩
noncomputable def cG(t:List T×List T×Unit):Option (List T×Int×Unit):=ob (aV (t.1,())) fun x0=>bif Bool.not x0.1 then some ([],(1:Int),()) else ob (aV (t.2.1,())) fun x1=>bif Bool.not x1.1 then some ([],(1:Int),()) else bif oG (1024:Int) (wr .i64 (mF (aH t.1) (aH t.2.1))) then some ([],(2:Int),()) else ob (dA (t.1,())) fun x2=>ob (dA (t.2.1,())) fun x3=>ob (oF x2.1 x3.1 72) fun x4=>some (x4,(0:Int),())
theorem AO:(aB pQ cG).OK Try.prog 16:=lG a8 [17] .leaf (.cs Try.func17 iD <| .cs Try.func22 tK <| .nil) Try.func16 fun _=>by kernel_rfl
def mA:Sig:=⟨2,0,⟨[.slot 0,.aggs 1 5],[.sl 5,I6,I6,.bool,.sl 1,.sl 1]⟩,2,[],0,⟨[.slot 0,.slot 1],[.sl 5,I6]⟩,50⟩
noncomputable def tN:List (FuncId×Callee):=[(17,(aB jY aV)),(23,(aB mY cV)),(22,(aB rE dA)),(29,(aB tJ gM)),(2000000,BQ [3] [])]
noncomputable def bT(t:List T×Int×Int×Bool×List T×List T×Unit):Option (List T×Int×Unit):=ob (aV (t.1,())) fun x0=>bif Bool.not x0.1 then some ([],(1:Int),()) else ob (cV (t.2.1,t.2.2.1,t.2.2.2.1,t.2.2.2.2.1,t.2.2.2.2.2.1,())) fun x1=>bif Bool.not x1.1 then some ([],(1:Int),()) else bif gP (aH t.1) (1024:Int) then some ([],(2:Int),()) else ob (dA (t.1,())) fun x2=>ob (gM (t.2.1,t.2.2.1,t.2.2.2.1,t.2.2.2.2.1,t.2.2.2.2.2.1,())) fun x3=>ob (oF x2.1 [T.agg [T.v (.int .i64 x3.1),T.v (.int .i64 x3.2.1),T.v (.bool x3.2.2.1),T.sl 1 x3.2.2.2.1,T.sl 1 x3.2.2.2.2.1]] 72) fun x4=>some (x4,(0:Int),())
def tO:HT:=.leaf
theorem AP:TabOK Try.prog [17,23,9000000,4000017,4000023,4000022,4000029] tN:=(.cs Try.func17 iD (.cs Try.func23 oD (.cs Try.func22 tK (.cs Try.func29 pO (TabOK.flag (by kernel_rfl) (by kernel_rfl) (by kernel_rfl) (by kernel_rfl) (by kernel_rfl))))))
theorem DW:∀t,vS Try.prog tN [17,23,9000000,4000017,4000023,4000022,4000029] tO Try.f15 mA t=bT t:=fun _=>by kernel_rfl
theorem DX:(aB mA bT).OK Try.prog 15:=lG a8 [17,23,9000000,4000017,4000023,4000022,4000029] tO AP Try.func15 DW
def dP:Sig:=⟨0,0,⟨[],[]⟩,1,[],0,⟨[.slot 0],[.bool]⟩,62⟩
noncomputable def iE:List (FuncId×Callee):=[(14,R1 (aB l9 bR)),(11,(aB oE dO)),(13,(aB rC hZ)),(18,(aB m6 eB))]
noncomputable def bB(t:Unit):Option (Bool×Unit):=ob (bR ((1:Int),(2:Int),())) fun x0=>ob (bR ((1:Int),(3:Int),())) fun x1=>ob (dO ([T.agg [T.v (.int .i64 (0:Int)),T.v (.int .i64 (2:Int)),T.v (.bool x0.1),T.sl 1 x0.2.1,T.sl 1 x0.2.2.1],T.agg [T.v (.int .i64 (0:Int)),T.v (.int .i64 (3:Int)),T.v (.bool x1.1),T.sl 1 x1.2.1,T.sl 1 x1.2.2.1]],())) fun x2=>bif x2.2.2.2.1 then ob (bR ((5:Int),(6:Int),())) fun x3=>ob (hZ (x2.1,x2.2.1,x2.2.2.1,x3.1,x3.2.1,x3.2.2.1,())) fun x4=>bif x4.1 then ob (bR ((5:Int),(6:Int),())) fun x5=>ob (eB ([T.agg [T.v (.int .i64 (0:Int)),T.v (.int .i64 (2:Int)),T.v (.bool x0.1),T.sl 1 x0.2.1,T.sl 1 x0.2.2.1],T.agg [T.v (.int .i64 (0:Int)),T.v (.int .i64 (3:Int)),T.v (.bool x1.1),T.sl 1 x1.2.1,T.sl 1 x1.2.2.1]],x5.1,x5.2.1,x5.2.2.1,())) fun x6=>bif x6.1 then ob (bR ((4:Int),(5:Int),())) fun x7=>ob (eB ([T.agg [T.v (.int .i64 (0:Int)),T.v (.int .i64 (2:Int)),T.v (.bool x0.1),T.sl 1 x0.2.1,T.sl 1 x0.2.2.1],T.agg [T.v (.int .i64 (0:Int)),T.v (.int .i64 (3:Int)),T.v (.bool x1.1),T.sl 1 x1.2.1,T.sl 1 x1.2.2.1]],x7.1,x7.2.1,x7.2.2.1,())) fun x8=>some (Bool.not x8.1,()) else some (false,()) else some (false,()) else some (false,())
def iF:HT:=.leaf
theorem m7:TabOK Try.prog [1000014,13,18] iE:=(TabOK.consP (fun _=>⟨_,Try.func14,by kernel_rfl,by kernel_rfl⟩) (DJ tG) (wO (a6 _ _)) (fun h=>by cases h) (fun _=>gK (a6 _ _)) (fun _=>(gK (a6 _ _)).framed) (by kernel_rfl) (.cs Try.func11 pP (.cs Try.func13 DU (.cs Try.func18 wH TabOK.nil))))
theorem nV:∀t,vS Try.prog iE [1000014,13,18] iF Try.f6 dP t=bB t:=fun _=>by kernel_rfl
theorem nW:(aB dP bB).OK Try.prog 6:=lG a8 [1000014,13,18] iF m7 Try.func6 nV
end Go.Eng
namespace Go.Eng.Rt
open Go.Eng
abbrev BB:Nat:=4294967296
def val:List Nat→Nat
 | []=>0
 | a::l=>a+BB*val l
def aJ(n:Nat):List Nat:=if h:n=0 then [] else (n%BB)::aJ (n/BB)
termination_by n
decreasing_by exact Nat.div_lt_self (Nat.pos_of_ne_zero h) (by decide)
def Lim(l:List Nat):Prop:=∀x∈l,x<BB
theorem b4:aJ 0=[]:=by rw[aJ];simp
theorem gN{n:Nat}(h:n≠0):aJ n=(n%BB)::aJ (n/BB):=by rw[aJ];simp[h]
theorem uV{n:Nat}(h:n≠0)(hn:n<BB):aJ n=[n]:=by
 rw[gN h,Nat.mod_eq_of_lt hn,Nat.div_eq_of_lt hn,b4]
theorem LU{n:Nat}(h:BB≤n)(hn:n<BB*BB):aJ n=[n%BB,n/BB]:=by
 rw[gN (by simp only[BB] at h;omega),uV (n:=n/BB)]
 ·have:0<n/BB:=Nat.div_pos h (by decide)
  omega
 ·exact Nat.div_lt_of_lt_mul hn
theorem dQ(n:Nat):val (aJ n)=n:=by
 induction n using Nat.strongRecOn with
 | _ n ih=>
  by_cases h:n=0
  ·subst h;rw[b4];rfl
  ·rw[gN h,val,ih _ (Nat.div_lt_self (Nat.pos_of_ne_zero h) (by decide))]
   exact Nat.mod_add_div n BB
theorem fH(n:Nat):Lim (aJ n):=by
 induction n using Nat.strongRecOn with
 | _ n ih=>
  by_cases h:n=0
  ·subst h;rw[b4];intro x hx;cases hx
  ·rw[gN h]
   intro x hx
   rcases List.mem_cons.1 hx with rfl | hx
   ·exact Nat.mod_lt _ (by decide)
   ·exact ih _ (Nat.div_lt_self (Nat.pos_of_ne_zero h) (by decide)) x hx
theorem Lim.nil:Lim []:=fun x h=>by cases h
theorem Lim.cons{a:Nat}{l:List Nat}(h:a<BB)(hl:Lim l):Lim (a::l):=fun x hx=>by
 rcases List.mem_cons.1 hx with rfl | hx
 ·exact h
 ·exact hl x hx
theorem Lim.head{a:Nat}{l:List Nat}(h:Lim (a::l)):a<BB:=h a (by simp)
theorem Lim.tail{a:Nat}{l:List Nat}(h:Lim (a::l)):Lim l:=fun x hx=>h x (by simp[hx])
theorem Lim.append{l m:List Nat}(h:Lim l)(h':Lim m):Lim (l++m):=fun x hx=>(List.mem_append.1 hx).elim (h x) (h' x)
theorem N7{l:List Nat}(h:Lim l):val l<BB ^ l.length:=by
 induction l with
 | nil=>simp[val]
 | cons a l ih=>
  have h1:=h.head
  have h2:=ih h.tail
  rw[val,List.length_cons,Nat.pow_succ]
  have h3:val l+1≤BB ^ l.length:=h2
  have h4:BB*(val l+1)≤BB*BB ^ l.length:=Nat.mul_le_mul_left _ h3
  have h5:BB*(val l+1)=BB*val l+BB:=by rw[Nat.mul_add];simp
  rw[Nat.mul_comm (BB ^ l.length)]
  omega
def jO(l:List Nat):List Nat:=(l.reverse.dropWhile (·==0)).reverse
theorem pS(l:List Nat):jO (l++[0])=jO l:=by
 unfold jO;simp
theorem zC{l:List Nat}{a:Nat}(h:a≠0):jO (l++[a])=l++[a]:=by
 unfold jO;simp[h]
theorem zD(l m:List Nat):val (l++m)=val l+BB ^ l.length*val m:=by
 induction l with
 | nil=>simp[val]
 | cons a l ih=>
  rw[List.cons_append,val,val,ih,List.length_cons,Nat.pow_succ,Nat.mul_add,Nat.mul_comm (BB ^ l.length) BB,Nat.mul_assoc]
  omega
theorem N8{n:Nat}(h:n≠0):aJ n≠[]:=by rw[gN h];simp
theorem HW{l:List Nat}{a:Nat}(hl:Lim l)(ha:a<BB)(h0:a≠0):aJ (val (l++[a]))=l++[a]:=by
 induction l with
 | nil=>rw[List.nil_append];show aJ (a+BB*0)=[a];rw[Nat.mul_zero,Nat.add_zero,uV h0 ha]
 | cons b l ih=>
  have h1:=hl.head
  rw[List.cons_append,val]
  have hp:val (l++[a])≠0:=by
   intro h
   have:=ih hl.tail
   rw[h,b4] at this
   simp at this
  rw[gN (by simp only[BB];omega),Nat.add_mul_mod_self_left,Nat.mod_eq_of_lt h1,Nat.add_mul_div_left _ _ (by decide),Nat.div_eq_of_lt h1,Nat.zero_add,ih hl.tail]
theorem BX{l:List Nat}(h:Lim l):aJ (val l)=jO l:=by
 have key:∀k (l:List Nat),l.length=k→Lim l→aJ (val l)=jO l:=by
  intro k
  induction k with
  | zero=>
   intro l hl _
   have:=List.eq_nil_of_length_eq_zero hl
   subst this
   exact b4
  | succ k ih=>
   intro l hl h
   have hne:l≠[]:=by intro e;subst e;simp at hl
   obtain⟨m,a,rfl⟩:∃m a,l=m++[a]:=⟨l.dropLast,l.getLast hne,(List.dropLast_concat_getLast hne).symm⟩
   have hm:Lim m:=fun x hx=>h x (List.mem_append.2 (.inl hx))
   have ha:a<BB:=h a (by simp)
   by_cases h0:a=0
   ·subst h0
    rw[pS,zD,show val [0]=0 from rfl,Nat.mul_zero,Nat.add_zero]
    exact ih m (by simp at hl;exact hl) hm
   ·rw[HW hm ha h0,zC h0]
 exact key _ l rfl h
theorem BY{a b:Nat}(h:aJ a=aJ b):a=b:=by rw[←dQ a,h,dQ]
theorem m8{n k:Nat}:(aJ n).length≤k↔n<BB ^ k:=by
 constructor
 ·intro h
  have:=N7 (fH n)
  rw[dQ] at this
  exact Nat.lt_of_lt_of_le this (Nat.pow_le_pow_right (by decide) h)
 ·intro h
  induction k generalizing n with
  | zero=>
   have:n=0:=by simpa using h
   subst this;simp[b4]
  | succ k ih=>
   by_cases h0:n=0
   ·subst h0;simp[b4]
   ·rw[gN h0,List.length_cons]
    have:=ih (n:=n/BB) (Nat.div_lt_of_lt_mul (by rw[Nat.mul_comm,←Nat.pow_succ];exact h))
    omega
def d6(n:Nat):T:=.v (.int .u32 (n:Int))
def j8(l:List Nat):List T:=l.map d6
def lm(n:Nat):List T:=j8 (aJ n)
def dn(d:Nat):List T:=if d=1 then [] else lm d
theorem kH(l:List Nat):(j8 l).length=l.length:=by simp[j8]
theorem kI:lm 0=[]:=by rw[lm,b4];rfl
theorem mB{n:Nat}(h:n≠0)(hn:n<BB):lm n=[d6 n]:=by rw[lm,uV h hn];rfl
theorem R7{n:Nat}(h:BB≤n)(hn:n<BB*BB):lm n=[d6 (n%BB),d6 (n/BB)]:=by rw[lm,LU h hn];rfl
theorem N9{a b:Nat}(h:d6 a=d6 b):a=b:=by
 unfold d6 at h
 injection h with h
 injection h with _ h
 omega
theorem P7{a b:List Nat}(h:j8 a=j8 b):a=b:=by
 induction a generalizing b with
 | nil=>cases b with
  | nil=>rfl
  | cons y b=>simp[j8] at h
 | cons x a ih=>cases b with
  | nil=>simp[j8] at h
  | cons y b=>
   simp only[j8,List.map_cons,List.cons.injEq] at h
   rw[N9 h.1,ih h.2]
theorem zE{a b:Nat}(h:lm a=lm b):a=b:=BY (P7 h)
end Go.Eng.Rt
namespace Go.Eng.Rt
open Go.Eng
def a7(q:Rat):Bool:=decide (q.num<0)
def cA(q:Rat):List T:=lm q.num.natAbs
def cE(q:Rat):List T:=dn q.den
def sg(neg:Bool)(n:Nat):Int:=if neg then -(n:Int) else n
theorem HX(neg:Bool)(n:Nat):(sg neg n).natAbs=n:=by cases neg <;> simp[sg]
theorem uW(q:Rat):sg (a7 q) q.num.natAbs=q.num:=by
 unfold sg a7
 by_cases h:q.num<0
 ·rw[decide_eq_true h,if_pos rfl];omega
 ·rw[decide_eq_false h];simp;omega
theorem OA{n:Int}{d:Nat}(hd:d≠0):(mkRat n d).den=d/n.natAbs.gcd d:=by
 rw[Rat.mkRat_def,dif_neg hd,Rat.normalize_eq]
theorem OB{n:Int}{d:Nat}(hd:d≠0):(mkRat n d).num=n/(n.natAbs.gcd d:Nat):=by
 rw[Rat.mkRat_def,dif_neg hd,Rat.normalize_eq]
theorem OC(neg:Bool){n d:Nat}(hd:d≠0):(mkRat (sg neg n) d).num.natAbs=n/n.gcd d:=by
 rw[OB hd,HX]
 unfold sg
 have hg:0<n.gcd d:=Nat.gcd_pos_of_pos_right _ (Nat.pos_of_ne_zero hd)
 cases neg with
 | false=>simp only[Bool.false_eq_true,if_false];rw[←Int.natCast_ediv];exact Int.natAbs_natCast _
 | true=>
  simp only[if_true]
  rw[Int.neg_ediv_of_dvd (Int.natCast_dvd_natCast.2 (Nat.gcd_dvd_left n d)),Int.natAbs_neg,←Int.natCast_ediv];exact Int.natAbs_natCast _
theorem HY(neg:Bool){n d:Nat}(hd:d≠0)(hn:n≠0):a7 (mkRat (sg neg n) d)=neg:=by
 unfold a7
 rw[OB hd,HX]
 have hg:0<n.gcd d:=Nat.gcd_pos_of_pos_right _ (Nat.pos_of_ne_zero hd)
 have hq:0<n/n.gcd d:=Nat.div_pos (Nat.le_of_dvd (Nat.pos_of_ne_zero hn) (Nat.gcd_dvd_left n d)) hg
 unfold sg
 cases neg with
 | false=>
  simp only[Bool.false_eq_true,if_false];rw[←Int.natCast_ediv]
  exact decide_eq_false (by omega)
 | true=>
  simp only[if_true]
  rw[Int.neg_ediv_of_dvd (Int.natCast_dvd_natCast.2 (Nat.gcd_dvd_left n d)),←Int.natCast_ediv]
  exact decide_eq_true (by omega)
theorem JR(neg:Bool)(d:Nat):mkRat (sg neg 0) d=0:=by
 cases neg <;> simp[sg,Rat.zero_mkRat]
theorem JS(neg:Bool){n d:Nat}(hd:d≠0):cA (mkRat (sg neg n) d)=lm (n/n.gcd d):=by unfold cA;rw[OC neg hd]
theorem JT(neg:Bool){n d:Nat}(hd:d≠0):cE (mkRat (sg neg n) d)=dn (d/n.gcd d):=by unfold cE;rw[OA hd,HX]
theorem uX:a7 0=false:=rfl
theorem uY:cA 0=[]:=kI
theorem uZ:cE 0=[]:=rfl
theorem OD{a b:Nat}(ha:a≠0)(hb:b≠0)(h:dn a=dn b):a=b:=by
 unfold dn at h
 split at h <;> split at h
 ·omega
 ·rw[←kI] at h;exact absurd (zE h).symm hb
 ·rw[←kI] at h;exact absurd (zE h) ha
 ·exact zE h
theorem P8{p q:Rat}(h1:a7 p=a7 q)(h2:p.num.natAbs=q.num.natAbs)(h3:p.den=q.den):p=q:=by
 have:p.num=q.num:=by rw[←uW p,h1,h2,uW q]
 cases p;cases q
 simp only at this h3
 subst this;subst h3;rfl
theorem R8(p q:Rat):p+q=mkRat (p.num*q.den+q.num*p.den) (p.den*q.den):=by
 rw[Rat.add_def,Rat.mkRat_def,dif_neg (Nat.mul_ne_zero p.den_nz q.den_nz)]
theorem nX(a:Bool)(n:Nat)(m:Nat):sg a n*(m:Int)=sg a (n*m):=by
 cases a <;> simp[sg,Int.neg_mul]
theorem R9(a:Bool)(n m:Nat):sg a n+sg a m=sg a (n+m):=by
 cases a <;> simp[sg] <;> omega
theorem OE{a b:Bool}(hab:a≠b){n m:Nat}(h:m≤n):sg a n+sg b m=sg a (n-m):=by
 cases a <;> cases b <;> simp[sg] at hab ⊢ <;> omega
def Sm(q:Rat):Prop:=q.num.natAbs<2147483648∧q.den<2147483648
theorem Sm.zero:Sm 0:=⟨by decide,by decide⟩
theorem P9{q:Rat}(h:q.den<BB):cE q=if q.den=1 then [] else [d6 q.den]:=by
 unfold cE dn
 split
 ·rfl
 ·rw[mB q.den_nz h]
theorem zF{q:Rat}:q.num.natAbs=0↔q=0:=by
 constructor
 ·intro h;exact Rat.num_eq_zero.1 (by omega)
 ·rintro rfl;rfl
theorem zG{p q:Rat}:p<q↔p.num*q.den<q.num*p.den:=Rat.lt_iff p q
end Go.Eng.Rt
namespace Go.Eng.Rt
open Go.Eng
def En(D k:Nat)(q:Rat):Prop:=∃m:Nat,m≤k∧q=mkRat (m:Int) D
theorem En.add{D a b:Nat}{p q:Rat}(hD:D≠0)(hp:En D a p)(hq:En D b q):En D (a+b) (p+q):=by
 obtain⟨m,hm,rfl⟩:=hp
 obtain⟨n,hn,rfl⟩:=hq
 refine⟨m+n,by omega,?_⟩
 rw[Rat.mkRat_add_mkRat _ _ hD hD,Rat.mkRat_eq_iff (Nat.mul_ne_zero hD hD) hD]
 push_cast
 rw[←Int.add_mul,Int.mul_assoc]
theorem En.zero{D k:Nat}:En D k 0:=⟨0,Nat.zero_le _,by simp[Rat.zero_mkRat]⟩
theorem En.mono{D a b:Nat}{q:Rat}(h:En D a q)(hab:a≤b):En D b q:=by
 obtain⟨m,hm,e⟩:=h;exact⟨m,by omega,e⟩
theorem En.sm{D k:Nat}{q:Rat}(hD:D≠0)(hD':D<2147483648)(hk:k<2147483648)(h:En D k q):Sm q:=by
 obtain⟨m,hm,rfl⟩:=h
 have e:(m:Int)=sg false m:=rfl
 constructor
 ·rw[e,OC false hD]
  exact Nat.lt_of_le_of_lt (Nat.div_le_self _ _) (by omega)
 ·rw[OA hD]
  exact Nat.lt_of_le_of_lt (Nat.div_le_self _ _) hD'
theorem En.nn{D k:Nat}{q:Rat}(hD:D≠0)(h:En D k q):a7 q=false:=by
 obtain⟨m,hm,rfl⟩:=h
 by_cases h0:m=0
 ·subst h0;simp[Rat.zero_mkRat];rfl
 ·exact HY false hD h0
theorem En.frac{n d D k:Nat}(hd:d≠0)(hD:D≠0)(hdD:d ∣ D)(h:n*(D/d)≤k):En D k (mkRat (n:Int) d):=by
 refine⟨n*(D/d),h,?_⟩
 rw[Rat.mkRat_eq_iff hd hD]
 obtain⟨c,rfl⟩:=hdD
 rw[Nat.mul_div_cancel_left _ (Nat.pos_of_ne_zero hd)]
 push_cast
 rw[Int.mul_assoc,Int.mul_comm (c:Int) d]
end Go.Eng.Rt
namespace Go.Eng.Rt
open Go.Eng
abbrev fP:Nat:=18446744073709551616
theorem Q3(n:Nat):wr .u32 (n:Int)=((n%BB:Nat):Int):=by
 unfold wr IntKind.wrap
 simp only[IntKind.bits,IntKind.signed,Bool.false_and,Bool.false_eq_true,if_false]
 rw[show ((2:Int) ^ 32)=((BB:Nat):Int) from rfl]
 omega
theorem S9(n:Nat):wr .u64 (n:Int)=((n%fP:Nat):Int):=by
 unfold wr IntKind.wrap
 simp only[IntKind.bits,IntKind.signed,Bool.false_and,Bool.false_eq_true,if_false]
 rw[show ((2:Int) ^ 64)=((fP:Nat):Int) from rfl]
 omega
theorem fS{n:Nat}(h:n<fP):wr .u64 (n:Int)=(n:Int):=by rw[S9,Nat.mod_eq_of_lt h]
theorem LZ{n:Nat}(h:n<4611686018427387904):wr .i64 (n:Int)=(n:Int):=zY (by omega) (by omega)
theorem qJ{n:Int}(h0:-4611686018427387904<n)(h:n<4611686018427387904):wr .i64 n=n:=zY (by omega) (by omega)
theorem Q4(n:Nat):e7 .u64 (n:Int) 32=((n/BB:Nat):Int):=by
 unfold e7
 rw[show ((2:Int) ^ (min (Int.toNat 32) (IntKind.bits .u64)))=((BB:Nat):Int) from rfl,Int.fdiv_eq_ediv_of_nonneg _ (by omega)]
 exact(Int.natCast_ediv n BB).symm
theorem Q5(n:Nat):F5 .u64 (n:Int) 32=((n*BB:Nat):Int):=by
 unfold F5
 rw[show ((2:Int) ^ (min (Int.toNat 32) (IntKind.bits .u64)))=((BB:Nat):Int) from rfl]
 exact(Int.natCast_mul n BB).symm
theorem QA:nn (32:Int)=some 32:=by unfold nn;rfl
theorem QB{a b:Nat}(h:a<BB):a ||| (b*BB)=a+b*BB:=by
 rw[Nat.or_comm,Nat.add_comm,show b*BB=b <<< 32 by rw[Nat.shiftLeft_eq]]
 exact(Nat.shiftLeft_add_eq_or_of_lt (by simpa using h) b).symm
theorem TA{a b:Nat}(ha:a<BB)(hb:b<BB):oJ .or .u64 (a:Int) ((b*BB:Nat):Int)=((a+b*BB:Nat):Int):=by
 have hlt:a+b*BB<fP:=by simp only[BB,fP] at *;omega
 unfold oJ
 have e:∀n:Nat,n<fP→(BitVec.ofInt 64 (n:Int)).toNat=n:=fun n hn=>by
  rw[BitVec.ofInt_natCast,BitVec.toNat_ofNat]
  exact Nat.mod_eq_of_lt (by simp only[fP] at hn;omega)
 show IntKind.wrap .u64 (((BitVec.ofInt 64 (a:Int) ||| BitVec.ofInt 64 ((b*BB:Nat):Int)).toNat:Nat):Int)=_
 rw[BitVec.toNat_or,e a (by simp only[BB,fP] at *;omega),e (b*BB) (by simp only[BB,fP] at *;omega),QB ha]
 have:=fS hlt
 unfold wr at this
 exact this
theorem TB{a b:Nat}(ha:a<BB)(hb:b<BB):oJ .or .u64 ((b*BB:Nat):Int) (a:Int)=((a+b*BB:Nat):Int):=by
 rw[←TA ha hb]
 unfold oJ
 simp only[BitVec.or_comm]
theorem lS(l:List Nat)(i:Nat):(j8 l)[i]?=(l[i]?).map d6:=by simp[j8]
theorem cX(n:Nat):T.cell (d6 n) 0=d6 n:=rfl
theorem jP(n:Nat):T.int? .u32 (d6 n)=some (n:Int):=by unfold d6;simp
theorem tP(n:Nat):T.anyInt? (d6 n)=some (n:Int):=rfl
theorem FX(l:List Nat)(k:Nat):(j8 l).take k=j8 (l.take k):=by unfold j8;simp
theorem Lim.take{l:List Nat}(h:Lim l)(k:Nat):Lim (l.take k):=fun x hx=>h x (List.mem_of_mem_take hx)
theorem Lim.drop{l:List Nat}(h:Lim l)(k:Nat):Lim (l.drop k):=fun x hx=>h x (List.mem_of_mem_drop hx)
theorem Lim.get{l:List Nat}(h:Lim l){i:Nat}{x:Nat}(hi:l[i]?=some x):x<BB:=h x (List.mem_of_getElem? hi)
theorem Lim.set{l:List Nat}(h:Lim l){x:Nat}(hx:x<BB)(i:Nat):Lim (l.set i x):=fun y hy=>by
 rcases List.mem_or_eq_of_mem_set hy with h1 | h1
 ·exact h y h1
 ·subst h1;exact hx
theorem Lim.rep(n:Nat):Lim (List.replicate n 0):=fun x hx=>by rw[List.eq_of_mem_replicate hx];decide
theorem BZ(l:List Nat):jO l <+: l:=by
 unfold jO
 have:=List.dropWhile_suffix (l:=l.reverse) (·==0)
 have h2:=List.reverse_prefix.2 this
 simpa using h2
theorem zH(l:List Nat):l.take (jO l).length=jO l:=(List.prefix_iff_eq_take.1 (BZ l)).symm
theorem tQ(l:List Nat):(jO l).length≤l.length:=(BZ l).length_le
theorem zI{l:List Nat}(h:Lim l):j8 (jO l)=lm (val l):=by rw[lm,BX h]
theorem pT(n:Nat):(lm n).length=(aJ n).length:=by simp[lm,j8]
theorem tR{n:Nat}:(lm n).length=0↔n=0:=by
 rw[pT]
 constructor
 ·intro h
  rcases Nat.eq_zero_or_pos n with h0 | h0
  ·exact h0
  ·rw[gN (by omega)] at h;simp at h
 ·intro h;subst h;rw[b4];rfl
theorem OF{n:Nat}:(lm n).length≤1↔n<BB:=by rw[pT,m8];simp
def eX(a b:Nat):Int:=if a<b then -1 else if a=b then 0 else 1
theorem B0{l:List Nat}{i x:Nat}(hi:l[i]?=some x):val l=val (l.take i)+BB ^ i*(x+BB*val (l.drop (i+1))):=by
 have hlt:i<l.length:=(List.getElem?_eq_some_iff.1 hi).1
 have hx:l[i]=x:=by rw[List.getElem?_eq_getElem hlt] at hi;exact Option.some.inj hi
 have h1:val (l.take i++l.drop i)=val l:=by rw[List.take_append_drop]
 rw[←h1,zD,List.drop_eq_getElem_cons hlt,hx,val,List.length_take,Nat.min_eq_left (Nat.le_of_lt hlt)]
theorem qD{a b:List Nat}(ha:Lim a){i x y:Nat}(hx:a[i]?=some x)(hy:b[i]?=some y)(hxy:x<y)(hd:a.drop (i+1)=b.drop (i+1)):val a<val b:=by
 rw[B0 hx,B0 hy,hd]
 have hlt:i<a.length:=(List.getElem?_eq_some_iff.1 hx).1
 have h1:=N7 (ha.take i)
 rw[List.length_take,Nat.min_eq_left (Nat.le_of_lt hlt)] at h1
 have h2:BB ^ i*(x+1+BB*val (b.drop (i+1)))≤BB ^ i*(y+BB*val (b.drop (i+1))):=Nat.mul_le_mul_left _ (by omega)
 rw[show x+1+BB*val (b.drop (i+1))=(x+BB*val (b.drop (i+1)))+1 by omega,Nat.mul_add] at h2
 omega
end Go.Eng.Rt
namespace Go.Eng.Rt
open Go.Eng
abbrev LM:Nat:=1000000
theorem vV(l:List Nat)(hl:l.length<LM):∀n,n≤l.length→bL d8 (j8 l,(n:Int),())=some (.inl (j8 l,(((jO (l.take n)).length:Nat):Int),())):=by
 intro n
 induction n with
 | zero=>intro _;exact a9 (by simp[d8,jO])
 | succ n ih=>
  intro hn
  have hlt:n<l.length:=hn
  have ht:l.take (n+1)=l.take n++[l[n]]:=List.take_succ_eq_append_getElem hlt
  have step:d8 (j8 l,((n+1:Nat):Int),())=if l[n]=0 then some (.inl (j8 l,(n:Int),())) else some (.inr (.inl (j8 l,((n+1:Nat):Int),()))):=by
   unfold d8
   simp only[b6,jF]
   rw[decide_eq_true (by omega),show ((n+1:Nat):Int)-1=(n:Int) by omega,LZ (by simp only[LM] at hl;omega),d7,lS,List.getElem?_eq_getElem hlt]
   simp only[cond_true,Option.map_some,dC,cX,jP,bG]
   by_cases h0:l[n]=0
   ·rw[if_pos h0,decide_eq_true (by omega)];rfl
   ·rw[if_neg h0,decide_eq_false (by omega)];rfl
  rw[ht]
  by_cases h0:l[n]=0
  ·rw[if_pos h0] at step
   rw[g8 step,ih (by omega),h0,pS]
  ·rw[if_neg h0] at step
   rw[a9 step,zC h0]
   simp only[List.length_append,List.length_take,Nat.min_eq_left (Nat.le_of_lt hlt),List.length_cons,List.length_nil]
theorem HZ{l:List Nat}(h:Lim l):(lm (val l)).length≤l.length:=by rw[←zI h,kH];exact tQ l
theorem OG{l:List Nat}(h:Lim l)(hl:l.length<LM):bQ (j8 l,())=some (lm (val l),()):=by
 unfold bQ
 have e:=vV l hl l.length (Nat.le_refl _)
 rw[List.take_length] at e
 simp only[aX,kH,e,dC,c6]
 rw[E3 (by omega) (by omega) (by rw[kH];have:=tQ l;omega)]
 simp only[Int.toNat_natCast,Int.toNat_zero,List.drop_zero,dC,FX,zH,zI h]
 have hlen:=HZ h
 rw[wK (by simp only[List.length_nil];simp only[LM] at hl;omega) (by decide)]
 rfl
theorem tS{n:Nat}(h:(aJ n).length<LM):bQ (lm n,())=some (lm n,()):=by
 have:=OG (fH n) h
 rw[dQ] at this
 exact this
theorem iG{n:Nat}(h:n<fP):(aJ n).length<LM:=by
 have:(aJ n).length≤2:=m8.2 h
 simp only[LM];omega
theorem OH{n:Nat}(h:n<fP):eR ((n:Int),())=some (lm n,()):=by
 unfold eR
 simp only[QA,dC,Q3,Q4]
 have hd:n/BB<BB:=Nat.div_lt_of_lt_mul h
 have e:=OG (l:=[n%BB,n/BB%BB]) (Lim.cons (Nat.mod_lt _ (by decide)) (Lim.cons (Nat.mod_lt _ (by decide)) Lim.nil)) (by simp only[List.length_cons,List.length_nil,LM];omega)
 have hv:val [n%BB,n/BB%BB]=n:=by
  rw[Nat.mod_eq_of_lt hd]
  simp only[val,Nat.mul_zero,Nat.add_zero]
  exact Nat.mod_add_div n BB
 rw[hv] at e
 simp only[j8,List.map_cons,List.map_nil,d6] at e
 rw[e]
 rfl
theorem QC{l:List Nat}(h:Lim l):bH (j8 l,())=some (if l.length≤2 then (val l:Int) else 0,decide (l.length≤2),()):=by
 match l,h with
 | [],_=>unfold bH;simp[j8,val]
 | [a],h=>
  have ha:=h.head
  unfold bH
  simp only[aX,kH,List.length_cons,List.length_nil,bG]
  rw[jM _ (by omega)]
  simp[j8,cX,tP,val,fS (show a<fP by simp only[BB,fP] at *;omega)]
 | [a,b],h=>
  have ha:=h.head
  have hb:=h.tail.head
  unfold bH
  simp only[aX,kH,List.length_cons,List.length_nil,bG]
  rw[jM _ (by omega),jM _ (by omega)]
  have e1:wr .u64 (a:Int)=(a:Int):=fS (by simp only[BB,fP] at *;omega)
  have e2:wr .u64 (b:Int)=(b:Int):=fS (by simp only[BB,fP] at *;omega)
  have e3:wr .u64 ((b*BB:Nat):Int)=((b*BB:Nat):Int):=fS (by simp only[BB,fP] at *;omega)
  have g0:(j8 [a,b])[(0:Int).toNat]?=some (d6 a):=rfl
  have g1:(j8 [a,b])[(1:Int).toNat]?=some (d6 b):=rfl
  rw[g0,g1,decide_eq_false (by omega),decide_eq_false (by omega),decide_eq_true (by omega)]
  simp only[cond_false,cond_true,dC,cX,tP,QA,e1,e2,Q5,e3,TA ha hb]
  rw[if_pos (by omega),decide_eq_true (by omega)]
  simp only[val,Nat.mul_zero,Nat.add_zero]
  rw[Nat.mul_comm b BB]
 | a::b::c::l,h=>
  unfold bH
  simp only[aX,kH,List.length_cons,bG]
  rw[decide_eq_false (by omega),decide_eq_false (by omega),decide_eq_false (by omega),if_neg (by omega),decide_eq_false (by omega)]
  rfl
theorem H0{a b:List Nat}(ha:Lim a)(hb:Lim b)(hl:a.length=b.length)(hm:a.length<LM):∀n,n≤a.length→a.drop n=b.drop n →
 bL eS (j8 a,j8 b,(n:Int)-1,())=some (if val a=val b then .inr (.inl ()) else .inl (eX (val a) (val b),())):=by
 intro n
 induction n with
 | zero=>
  intro _ hd
  have:a=b:=by simpa using hd
  subst this
  rw[if_pos rfl]
  exact a9 (by unfold eS;simp only[jU];rw[decide_eq_false (by omega)];rfl)
 | succ n ih=>
  intro hn hd
  have h1:n<a.length:=hn
  have h2:n<b.length:=by omega
  have ga:=List.getElem?_eq_getElem h1
  have gb:=List.getElem?_eq_getElem h2
  have step:eS (j8 a,j8 b,((n+1:Nat):Int)-1,())=if a[n]<b[n] then some (.inr (.inl (-1,()))) else if b[n]<a[n] then some (.inr (.inl (1,()))) else some (.inl (j8 a,j8 b,(n:Int)-1,())):=by
   unfold eS
   rw[show ((n+1:Nat):Int)-1=(n:Int) by omega]
   simp only[jU,b6,jF]
   rw[decide_eq_true (by omega),d7,d7,lS,lS,ga,gb,qJ (by omega) (by simp only[LM] at hm;omega)]
   simp only[cond_true,Option.map_some,dC,cX,jP]
   by_cases c1:a[n]<b[n]
   ·rw[if_pos c1,decide_eq_true (by omega)];rfl
   ·rw[if_neg c1,decide_eq_false (by omega)]
    by_cases c2:b[n]<a[n]
    ·rw[if_pos c2,decide_eq_true (by omega)];rfl
    ·rw[if_neg c2,decide_eq_false (by omega)];rfl
  by_cases c1:a[n]<b[n]
  ·rw[if_pos c1] at step
   have:=qD ha ga gb c1 hd
   rw[a9 step,if_neg (by omega)]
   unfold eX
   rw[if_pos this]
  ·rw[if_neg c1] at step
   by_cases c2:b[n]<a[n]
   ·rw[if_pos c2] at step
    have:=qD hb gb ga c2 hd.symm
    rw[a9 step,if_neg (by omega)]
    unfold eX
    rw[if_neg (by omega),if_neg (by omega)]
   ·rw[if_neg c2] at step
    rw[g8 step]
    refine ih (by omega) ?_
    rw[List.drop_eq_getElem_cons h1,List.drop_eq_getElem_cons h2,hd,show a[n]=b[n] by omega]
theorem DY{x y:Nat}(h:(aJ x).length<(aJ y).length):x<y:=by
 have h1:x<BB ^ (aJ x).length:=m8.1 (Nat.le_refl _)
 have h2:¬y<BB ^ (aJ x).length:=fun hh=>by
  have:=m8.2 hh
  omega
 omega
theorem OI{x y:Nat}(hx:(aJ x).length<LM)(hy:(aJ y).length<LM):gL (lm x,lm y,())=some (eX x y,()):=by
 unfold gL
 simp only[aX,pT,bG,b6,jF]
 by_cases hl:(aJ x).length=(aJ y).length
 ·rw[decide_eq_true (by omega),qJ (by omega) (by simp only[LM] at hx;omega)]
  have:=H0 (fH x) (fH y) hl hx (aJ x).length (Nat.le_refl _) (by rw[List.drop_length,hl,List.drop_length])
  rw[dQ,dQ] at this
  simp only[lm,Bool.not_true,cond_false,this,dC]
  by_cases he:x=y
  ·subst he;simp[eX,M4,c6]
  ·rw[if_neg he];rfl
 ·rw[decide_eq_false (by omega)]
  simp only[Bool.not_false,cond_true]
  by_cases hc:(aJ x).length<(aJ y).length
  ·have:=DY hc
   rw[decide_eq_true (by omega)]
   unfold eX
   rw[if_pos this];rfl
  ·have:=DY (x:=y) (y:=x) (by omega)
   rw[decide_eq_false (by omega)]
   unfold eX
   rw[if_neg (by omega),if_neg (by omega)];rfl
theorem tT{n:Nat}(h:n<fP):bH (lm n,())=some ((n:Int),true,()):=by
 have h2:(aJ n).length≤2:=m8.2 h
 have:=QC (fH n)
 rw[if_pos h2,decide_eq_true h2,dQ] at this
 exact this
theorem OJ(a b:Nat):(a:Int).tdiv (b:Int)=((a/b:Nat):Int):=rfl
theorem Q6(a b:Nat):(a:Int).tmod (b:Int)=((a%b:Nat):Int):=rfl
theorem JU{a b:Nat}(ha:a<fP)(hb:b<fP)(h0:b≠0):c8 (lm a,lm b,())=some (lm (a/b),lm (a%b),0,()):=by
 unfold c8
 simp only[aX,bG,b6]
 have hbl:(lm b).length≠0:=fun h=>h0 (tR.1 h)
 rw[decide_eq_false (by omega)]
 simp only[cond_false,OI (iG ha) (iG hb),dC]
 unfold eX
 by_cases hlt:a<b
 ·rw[if_pos hlt,decide_eq_true (by omega)]
  simp only[cond_true,tS (iG ha),dC]
  rw[Nat.div_eq_of_lt hlt,Nat.mod_eq_of_lt hlt,kI]
 ·rw[if_neg hlt]
  have:decide ((if a=b then (0:Int) else 1)<0)=false:=decide_eq_false (by split <;> omega)
  rw[this]
  simp only[cond_false,tT ha,tT hb,dC,cond_true,IY,CY,OJ,Q6]
  rw[IZ (by omega)]
  have hd:a/b<fP:=Nat.lt_of_le_of_lt (Nat.div_le_self _ _) ha
  have hm:a%b<fP:=Nat.lt_of_le_of_lt (Nat.mod_le _ _) ha
  simp only[dC,OJ,Q6,fS hd,OH hd,OH hm]
theorem FY{a b:Nat}:bL eT ((a:Int),(b:Int),())=some (.inl (((a.gcd b:Nat):Int),())):=by
 induction b using Nat.strongRecOn generalizing a with
 | _ b ih=>
  by_cases h0:b=0
  ·subst h0
   exact a9 (by unfold eT;simp[Nat.gcd_zero_right,M4,c6])
  ·have step:eT ((a:Int),(b:Int),())=some (.inl ((b:Int),((a%b:Nat):Int),())):=by
    unfold eT
    simp only[bG,CY]
    rw[decide_eq_false (by omega),IZ (by omega)]
    rfl
   rw[g8 step,ih (a%b) (Nat.mod_lt _ (Nat.pos_of_ne_zero h0)),Nat.gcd_comm a b,Nat.gcd_rec b a,Nat.gcd_comm]
theorem TC{a b:Nat}(ha:a<fP)(hb:b<fP):lP (lm a,lm b,())=some (lm (a.gcd b),()):=by
 unfold lP
 simp only[tS (iG ha),tS (iG hb),dC]
 by_cases h0:b=0
 ·subst h0
  rw[a9 (e:=.inr (.inl (lm a,()))) (by unfold lC;simp[kI])]
  simp[Nat.gcd_zero_right,M4,c6]
 ·have hbl:(lm b).length≠0:=fun h=>h0 (tR.1 h)
  have hg:a.gcd b<fP:=Nat.lt_of_le_of_lt (Nat.gcd_le_right _ (Nat.pos_of_ne_zero h0)) hb
  rw[a9 (e:=.inl (lm (a.gcd b),())) (by
   unfold lC
   simp only[b6,aX]
   rw[decide_eq_true (by omega)]
   simp only[cond_true,tT ha,tT hb,dC,FY,c6,OH hg])]
  rfl
theorem JV{d:Nat}(hd:d<fP)(h0:d≠0):(lm d).length=1↔d<BB:=by
 constructor
 ·intro h;exact OF.1 (by omega)
 ·intro h;rw[mB h0 h];rfl
theorem OL(neg:Bool){n d:Nat}(hn:n<fP)(hd:d<fP)(h0:d≠0):hO (neg,lm n,lm d,())=some (a7 (mkRat (sg neg n) d),cA (mkRat (sg neg n) d),cE (mkRat (sg neg n) d),()):=by
 unfold hO
 simp only[tS (iG hn),tS (iG hd),dC,aX,bG]
 by_cases hz:n=0
 ·subst hz
  rw[decide_eq_true (by rw[kI];rfl),JR,uX,uY,uZ]
  rfl
 ·have hnl:(lm n).length≠0:=fun h=>hz (tR.1 h)
  have hg:n.gcd d<fP:=Nat.lt_of_le_of_lt (Nat.gcd_le_right _ (Nat.pos_of_ne_zero h0)) hd
  have hg0:n.gcd d≠0:=Nat.gcd_ne_zero_right h0
  rw[decide_eq_false (by omega),HY neg h0 hz,JS neg h0,JT neg h0]
  have hq0:d/n.gcd d≠0:=by
   have:=Nat.div_pos (Nat.le_of_dvd (Nat.pos_of_ne_zero h0) (Nat.gcd_dvd_right n d)) (Nat.pos_of_ne_zero hg0)
   omega
  have hq:d/n.gcd d<fP:=Nat.lt_of_le_of_lt (Nat.div_le_self _ _) hd
  have fin:∀(N:List T) (e:Nat),e<fP→e≠0→(ob (α:=((Bool×List T×List T×Unit×Bool×T×T×Unit)⊕Empty)) (bif (gP (aH (lm e)) (1:Int)) then (ob (eJ (lm e) (0:Int)) fun x11=>(ob (T.int? .u32 (T.cell x11 0)) fun x12=>(bif (gP x12 (1:Int)) then (some (Sum.inl (neg,N,[],(),false,(T.v (.slice none 0 0)),(T.v (.slice none 0 0)),()))) else (some (Sum.inl (neg,N,lm e,(),false,(T.v (.slice none 0 0)),(T.v (.slice none 0 0)),())))))) else (some (Sum.inl (neg,N,lm e,(),false,(T.v (.slice none 0 0)),(T.v (.slice none 0 0)),()))))
   fun q13=>mQ q13 (fun t14=>(some (t14.1,t14.2.1,t14.2.2.1,()))) fun q15=>qT q15)=some (neg,N,dn e,()):=by
   intro N e he he0
   simp only[aX,bG]
   by_cases h1:e<BB
   ·rw[decide_eq_true (by rw[mB he0 h1];rfl)]
    simp only[cond_true]
    rw[mB he0 h1,jM _ (by omega)]
    simp only[Int.toNat_zero,List.getElem?_cons_zero,dC,cX,jP]
    unfold dn
    by_cases h2:e=1
    ·subst h2;rfl
    ·rw[if_neg h2,decide_eq_false (by omega),mB he0 h1];rfl
   ·rw[decide_eq_false (by have:=(JV he he0).1;omega)]
    unfold dn
    rw[if_neg (by simp only[BB] at h1;omega)]
    rfl
  simp only[cond_false,TC hn hd,dC,aX]
  have tail:=fin (lm (n/n.gcd d)) (d/n.gcd d) hq hq0
  simp only[aX,bG] at tail
  by_cases h1:n.gcd d=1
  ·have e1:lm (n.gcd d)=[d6 1]:=by rw[h1];exact mB (by decide) (by decide)
   rw[e1]
   rw[h1,Nat.div_one,Nat.div_one] at tail ⊢
   simp only[List.length_cons,List.length_nil]
   rw[decide_eq_true (by omega),jM _ (by omega)]
   simp only[Bool.not_true,cond_false,Int.toNat_zero,List.getElem?_cons_zero,dC,cX,jP]
   rw[decide_eq_true (by omega)]
   simp only[Bool.not_true,cond_false,dC,c6]
   exact tail
  ·by_cases h2:n.gcd d<BB
   ·have e1:lm (n.gcd d)=[d6 (n.gcd d)]:=mB hg0 h2
    rw[decide_eq_true (by rw[e1];rfl)]
    have e2:eJ (lm (n.gcd d)) 0=some (d6 (n.gcd d)):=by rw[e1,jM _ (by omega)];rfl
    simp only[Bool.not_true,cond_false,e2,dC,cX,jP]
    rw[decide_eq_false (by omega)]
    simp only[Bool.not_false,cond_true,JU hn hg hg0,JU hd hg hg0,dC,c6]
    exact tail
   ·rw[decide_eq_false (by have:=(JV hg hg0).1;omega)]
    simp only[Bool.not_false,cond_true,JU hn hg hg0,JU hd hg hg0,dC,c6]
    exact tail
theorem OM{n:Int}(h1:-4611686018427387904<n)(h2:n<4611686018427387904):hS (n,())=some (lm n.natAbs,decide (n<0),()):=by
 unfold hS
 simp only[b6,fV,jF]
 by_cases h:n<0
 ·rw[decide_eq_true h]
  have e:wr .u64 (wr .u64 (wr .i64 (0-wr .i64 (n+1)))+1)=((n.natAbs:Nat):Int):=by
   rw[qJ (n:=n+1) (by omega) (by omega),qJ (by omega) (by omega),show 0-(n+1)=((n.natAbs-1:Nat):Int) by omega,fS (by simp only[fP];omega),
    show ((n.natAbs-1:Nat):Int)+1=((n.natAbs:Nat):Int) by omega,fS (by simp only[fP];omega)]
  simp only[cond_true,e,OH (n:=n.natAbs) (by simp only[fP];omega),dC]
 ·rw[decide_eq_false h]
  have e:wr .u64 n=((n.natAbs:Nat):Int):=by
   rw[show n=((n.natAbs:Nat):Int) by omega,fS (by simp only[fP];omega)];rfl
  simp only[cond_false,e,OH (n:=n.natAbs) (by simp only[fP];omega),dC]
def bM(n d:Int):Rat:=mkRat (sg (decide (n<0) != decide (d<0)) n.natAbs) d.natAbs
theorem T5(a b:Bool):(!(a==b))=(a != b):=rfl
theorem SA{n d:Int}(h1:-4611686018427387904<n)(h2:n<4611686018427387904)(h3:-4611686018427387904<d)(h4:d<4611686018427387904)(h0:d≠0):
 kE (n,d,())=some (a7 (bM n d),cA (bM n d),cE (bM n d),0,()):=by
 unfold kE
 simp only[bG]
 rw[decide_eq_false h0]
 simp only[cond_false,OM h1 h2,OM h3 h4,dC,G3,T5]
 rw[OL _ (by simp only[fP];omega) (by simp only[fP];omega) (by omega)]
 rfl
theorem zJ{n d:Int}(h1:-4611686018427387904<n)(h2:n<4611686018427387904)(h3:-4611686018427387904<d)(h4:d<4611686018427387904)(h0:d≠0):
 bR (n,d,())=some (a7 (bM n d),cA (bM n d),cE (bM n d),()):=by
 unfold bR
 simp only[SA h1 h2 h3 h4 h0,dC]
theorem B1{n d:Int}(hd:0<d):bM n d=mkRat n d.natAbs:=by
 unfold bM
 rw[decide_eq_false (show ¬d<0 by omega)]
 congr 1
 unfold sg
 by_cases h:n<0
 ·rw[decide_eq_true h];simp;omega
 ·rw[decide_eq_false h];simp;omega
def vW(q:Rat):Prop:=(aJ q.num.natAbs).length<LM∧(aJ q.den).length<LM
theorem Sm.fit{q:Rat}(h:Sm q):vW q:=⟨iG (by have:=h.1;simp only[fP];omega),iG (by have:=h.2;simp only[fP];omega)⟩
theorem FZ(d:Nat):∃m,dn d=lm m∧(m=d∨m=0):=by
 unfold dn
 split
 ·exact⟨0,kI.symm,.inr rfl⟩
 ·exact⟨d,rfl,.inl rfl⟩
theorem qF{a b:Nat}:eX a b=0↔a=b:=by
 unfold eX
 by_cases h1:a<b
 ·rw[if_pos h1];omega
 ·rw[if_neg h1];split <;> omega
theorem SB{p q:Rat}(hp:vW p)(hq:vW q):hZ (a7 p,cA p,cE p,a7 q,cA q,cE q,())=some (decide (p=q),()):=by
 unfold hZ
 simp only[G3]
 by_cases hn:a7 p=a7 q
 ·rw[hn]
  simp only[beq_self_eq_true,cond_true]
  unfold cA
  rw[OI hp.1 hq.1]
  simp only[dC,bG]
  by_cases h1:p.num.natAbs=q.num.natAbs
  ·rw[decide_eq_true (qF.2 h1)]
   simp only[cond_true]
   obtain⟨m,e1,c1⟩:=FZ p.den
   obtain⟨m',e2,c2⟩:=FZ q.den
   have l1:(aJ m).length<LM:=by rcases c1 with rfl | rfl;exact hp.2;rw[b4];decide
   have l2:(aJ m').length<LM:=by rcases c2 with rfl | rfl;exact hq.2;rw[b4];decide
   unfold cE
   rw[e1,e2,OI l1 l2]
   simp only[dC]
   congr 2
   rw[decide_eq_decide,qF]
   constructor
   ·intro h
    exact P8 hn h1 (OD p.den_nz q.den_nz (by rw[e1,e2,h]))
   ·intro h
    subst h
    exact zE (e1.symm.trans e2)
  ·rw[decide_eq_false (fun h=>h1 (qF.1 h)),decide_eq_false (fun h=>h1 (by rw[h]))]
   rfl
 ·have hb:(a7 p==a7 q)=false:=by simpa using hn
  rw[hb,decide_eq_false (fun h=>hn (by rw[h]))]
  rfl
def u0(q:Rat):Int:=if q=0 then 0 else if a7 q then -1 else 1
theorem F1{q:Rat}:(cA q).length=0↔q=0:=by unfold cA;rw[tR,zF]
theorem SC(q:Rat):nT (a7 q,cA q,cE q,())=some (u0 q,()):=by
 unfold nT u0
 simp only[aX,bG]
 by_cases h:q=0
 ·rw[if_pos h,decide_eq_true (by have:=F1.2 h;omega)];rfl
 ·rw[if_neg h,decide_eq_false (fun hh=>h (F1.1 (by omega)))]
  cases a7 q <;> rfl
end Go.Eng.Rt
namespace Go.Eng.Rt
open Go.Eng
theorem F2(l:List Nat)(hl:l.length<LM):∀n,n≤l.length→bL lQ (j8 l,(n:Int),())=some (.inl (j8 l,(((jO (l.take n)).length:Nat):Int),())):=
 vV l hl
theorem SD{l:List Nat}(h:Lim l)(hl:l.length<LM):cO (j8 l,())=some (lm (val l),()):=by
 unfold cO
 have e:=F2 l hl l.length (Nat.le_refl _)
 rw[List.take_length] at e
 simp only[aX,kH,e,dC,c6]
 rw[E3 (by omega) (by omega) (by rw[kH];have:=tQ l;omega)]
 simp only[Int.toNat_natCast,Int.toNat_zero,List.drop_zero,dC,FX,zH,zI h]
theorem DZ{n:Nat}(h:(aJ n).length<LM):cO (lm n,())=some (lm n,()):=by
 have:=SD (fH n) h
 rw[dQ] at this
 exact this
def JW(s:ByteArray)(t:(Int×Unit)):Option (Int×Unit):=
 (ob (α:=((Int×Int×Unit)⊕Empty)) (bif (tU (65536:Int) t.1) then (ob (nn (16:Int)) fun x0=>(some (Sum.inl ((e7 .u32 t.1 x0),(16:Int),())))) else (some (Sum.inl (t.1,(0:Int),())))) fun q1=>mQ q1 (fun t2=>(ob (α:=((Int×Int×Unit)⊕Empty)) (bif (tU (256:Int) t2.1) then (ob (nn (8:Int)) fun x3=>(some (Sum.inl ((e7 .u32 t2.1 x3),(wr .i64 (mF t2.2.1 (8:Int))),())))) else (some (Sum.inl (t2.1,t2.2.1,())))) fun q4=>mQ q4 (fun t5=>(ob (D3 s (wr .u8 t5.1)) fun x6=>(some ((wr .i64 (mF t5.2.1 (wr .i64 x6))),())))) fun q7=>qT q7)) fun q8=>qT q8)
def TD(s:ByteArray):Bool:=(List.range 256).all fun y=>match D3 s (y:Int) with
 | some k=>decide (0≤k)&&decide (k≤8)&&(y==0||decide (1≤k))
 | none=>false
theorem QD:∃s,(∀t,eH t=JW s t)∧TD s=true:=⟨_,fun _=>rfl,by decide +kernel⟩
theorem TE(n:Nat):e7 .u32 (n:Int) 16=((n/65536:Nat):Int):=by
 unfold e7
 rw[show ((2:Int) ^ (min (Int.toNat 16) (IntKind.bits .u32)))=((65536:Nat):Int) from rfl,Int.fdiv_eq_ediv_of_nonneg _ (by omega)]
 exact(Int.natCast_ediv n _).symm
theorem TF(n:Nat):e7 .u32 (n:Int) 8=((n/256:Nat):Int):=by
 unfold e7
 rw[show ((2:Int) ^ (min (Int.toNat 8) (IntKind.bits .u32)))=((256:Nat):Int) from rfl,Int.fdiv_eq_ediv_of_nonneg _ (by omega)]
 exact(Int.natCast_ediv n _).symm
theorem QE{x:Nat}(hx:x<BB):∃k:Nat,eH ((x:Int),())=some ((k:Int),())∧k≤32∧(x≠0→k≠0):=by
 obtain⟨s,hs,ht⟩:=QD
 have tab:∀y:Nat,y<256→∃k:Nat,D3 s (wr .u8 (y:Int))=some (k:Int)∧k≤8∧(y≠0→k≠0):=fun y hy=>by
  have:=List.all_eq_true.1 ht y (List.mem_range.2 hy)
  rw[T3 (by omega) (by omega)]
  cases hi:D3 s (y:Int) with
  | none=>rw[hi] at this;cases this
  | some k=>
   rw[hi] at this
   simp only[Bool.and_eq_true,decide_eq_true_eq,Bool.or_eq_true,beq_iff_eq] at this
   obtain⟨k',rfl⟩:=Int.eq_ofNat_of_zero_le this.1.1
   exact⟨k',rfl,by omega,fun h=>by omega⟩
 rw[hs]
 unfold JW
 have n16:nn (16:Int)=some 16:=by unfold nn;rfl
 have n8:nn (8:Int)=some 8:=by unfold nn;rfl
 simp only[jU,fV]
 have last:∀(y c:Nat),y<256→c≤24→∃k:Nat,(ob (D3 s (wr .u8 (y:Int))) fun x6=>(some ((wr .i64 ((c:Int)+(wr .i64 x6))),())))=some ((k:Int),())∧k≤32∧(y≠0∨c≠0→k≠0):=fun y c hy hc=>by
  obtain⟨k,h1,h2,h3⟩:=tab y hy
  rw[h1]
  simp only[dC]
  rw[LZ (n:=k) (by omega),show (c:Int)+(k:Int)=((c+k:Nat):Int) by omega,LZ (by omega)]
  exact⟨c+k,rfl,by omega,fun h=>by omega⟩
 by_cases h1:65536≤x
 ·rw[decide_eq_true (by omega)]
  simp only[cond_true,n16,dC,TE,c6]
  by_cases h2:256≤x/65536
  ·rw[decide_eq_true (by omega)]
   simp only[cond_true,n8,dC,TF,c6]
   rw[show (16:Int)+8=((24:Nat):Int) from rfl,LZ (by omega)]
   obtain⟨k,e1,e2,e3⟩:=last (x/65536/256) 24 (by simp only[BB] at hx;omega) (by omega)
   exact⟨k,e1,e2,fun _=>e3 (.inr (by omega))⟩
  ·rw[decide_eq_false (by omega)]
   simp only[cond_false,dC,c6]
   obtain⟨k,e1,e2,e3⟩:=last (x/65536) 16 (by omega) (by omega)
   exact⟨k,e1,e2,fun _=>e3 (.inr (by omega))⟩
 ·rw[decide_eq_false (by omega)]
  simp only[cond_false,dC,c6]
  by_cases h2:256≤x
  ·rw[decide_eq_true (by omega)]
   simp only[cond_true,n8,dC,TF,c6]
   rw[show (0:Int)+8=((8:Nat):Int) from rfl,LZ (by omega)]
   obtain⟨k,e1,e2,e3⟩:=last (x/256) 8 (by omega) (by omega)
   exact⟨k,e1,e2,fun _=>e3 (.inr (by omega))⟩
  ·rw[decide_eq_false (by omega)]
   simp only[cond_false,dC,c6]
   obtain⟨k,e1,e2,e3⟩:=last x 0 (by omega) (by omega)
   exact⟨k,e1,e2,fun h=>e3 (.inl h)⟩
theorem H1{n:Nat}(h:n≠0):∃x,(aJ n)[(aJ n).length-1]?=some x∧x≠0∧x<BB:=by
 have hne:aJ n≠[]:=N8 h
 obtain⟨m,a,e⟩:∃m a,aJ n=m++[a]:=⟨(aJ n).dropLast,(aJ n).getLast hne,(List.dropLast_concat_getLast hne).symm⟩
 have hl:=fH n
 refine⟨a,by rw[e];simp,?_,hl a (by rw[e];simp)⟩
 intro h0
 subst h0
 have h1:aJ (val (aJ n))=jO (aJ n):=BX hl
 rw[dQ,e,pS] at h1
 have h2:=congrArg List.length h1
 have h3:=tQ m
 simp at h2
 omega
theorem SE{n:Nat}(h:(aJ n).length<LM):∃k:Nat,eU (lm n,())=some ((k:Int),())∧(k=0↔n=0):=by
 unfold eU
 simp only[DZ h,dC,aX,bG,jF,CX,fV]
 by_cases h0:n=0
 ·subst h0
  rw[decide_eq_true (by rw[kI];rfl)]
  exact⟨0,rfl,by simp⟩
 ·have hl:(lm n).length≠0:=fun hh=>h0 (tR.1 hh)
  obtain⟨x,h1,h2,h3⟩:=H1 h0
  obtain⟨k,g1,g2,g3⟩:=QE h3
  rw[decide_eq_false (by omega),qJ (by omega) (by rw[pT];simp only[LM] at h;omega)]
  have hll:=pT n
  rw[show ((lm n).length:Int)-1=(((aJ n).length-1:Nat):Int) by omega]
  simp only[cond_false,d7]
  unfold lm
  simp only[lS,h1,Option.map_some,dC,cX,jP,g1]
  rw[show (32:Int)*(((aJ n).length-1:Nat):Int)=((32*((aJ n).length-1):Nat):Int) by push_cast;rfl,LZ (by simp only[LM] at h;omega),
   show ((32*((aJ n).length-1):Nat):Int)+(k:Int)=((32*((aJ n).length-1)+k:Nat):Int) by omega,LZ (by simp only[LM] at h;omega)]
  exact⟨_,rfl,by constructor <;> intro hh <;> have:=g3 h2 <;> omega⟩
theorem H2{a b:List Nat}(ha:Lim a)(hb:Lim b)(hl:a.length=b.length)(hm:a.length<LM):∀n,n≤a.length→a.drop n=b.drop n →
 bL dM (j8 a,j8 b,(n:Int)-1,())=some (if val a=val b then .inr (.inl ()) else .inl (eX (val a) (val b),())):=by
 intro n
 induction n with
 | zero=>
  intro _ hd
  have:a=b:=by simpa using hd
  subst this
  rw[if_pos rfl]
  exact a9 (by unfold dM;simp only[jU];rw[decide_eq_false (by omega)];rfl)
 | succ n ih=>
  intro hn hd
  have h1:n<a.length:=hn
  have h2:n<b.length:=by omega
  have ga:=List.getElem?_eq_getElem h1
  have gb:=List.getElem?_eq_getElem h2
  have step:dM (j8 a,j8 b,((n+1:Nat):Int)-1,())=if a[n]<b[n] then some (.inr (.inl (-1,()))) else if b[n]<a[n] then some (.inr (.inl (1,()))) else some (.inl (j8 a,j8 b,(n:Int)-1,())):=by
   unfold dM
   rw[show ((n+1:Nat):Int)-1=(n:Int) by omega]
   simp only[jU,b6,jF,bG]
   rw[decide_eq_true (by omega),d7,d7,lS,lS,ga,gb,qJ (by omega) (by simp only[LM] at hm;omega)]
   simp only[cond_true,Option.map_some,dC,cX,jP]
   by_cases c1:a[n]<b[n]
   ·rw[if_pos c1,decide_eq_false (by omega),decide_eq_true (by omega)];rfl
   ·rw[if_neg c1]
    by_cases c2:b[n]<a[n]
    ·rw[if_pos c2,decide_eq_false (by omega),decide_eq_false (by omega)];rfl
    ·rw[if_neg c2,decide_eq_true (by omega)];rfl
  by_cases c1:a[n]<b[n]
  ·rw[if_pos c1] at step
   have:=qD ha ga gb c1 hd
   rw[a9 step,if_neg (by omega)]
   unfold eX
   rw[if_pos this]
  ·rw[if_neg c1] at step
   by_cases c2:b[n]<a[n]
   ·rw[if_pos c2] at step
    have:=qD hb gb ga c2 hd.symm
    rw[a9 step,if_neg (by omega)]
    unfold eX
    rw[if_neg (by omega),if_neg (by omega)]
   ·rw[if_neg c2] at step
    rw[g8 step]
    refine ih (by omega) ?_
    rw[List.drop_eq_getElem_cons h1,List.drop_eq_getElem_cons h2,hd,show a[n]=b[n] by omega]
theorem TG{x y:Nat}(hx:(aJ x).length<LM)(hy:(aJ y).length<LM):eD (lm x,lm y,())=some (eX x y,()):=by
 unfold eD
 simp only[DZ hx,DZ hy,dC,aX,pT,bG,b6,jF]
 by_cases hl:(aJ x).length=(aJ y).length
 ·rw[decide_eq_true (by omega),qJ (by omega) (by simp only[LM] at hx;omega)]
  have:=H2 (fH x) (fH y) hl hx (aJ x).length (Nat.le_refl _) (by rw[List.drop_length,hl,List.drop_length])
  rw[dQ,dQ] at this
  simp only[lm,Bool.not_true,cond_false,this,dC]
  by_cases he:x=y
  ·subst he;simp[eX]
  ·rw[if_neg he];rfl
 ·rw[decide_eq_false (by omega)]
  simp only[Bool.not_false,cond_true]
  by_cases hc:(aJ x).length<(aJ y).length
  ·have:=DY hc
   rw[decide_eq_true (by omega)]
   unfold eX
   rw[if_pos this];rfl
  ·have:=DY (x:=y) (y:=x) (by omega)
   rw[decide_eq_false (by omega)]
   unfold eX
   rw[if_neg (by omega),if_neg (by omega)];rfl
theorem SF{n:Nat}(h:n<BB):d9 (lm n,())=some ((n:Int),()):=by
 unfold d9
 by_cases h0:n=0
 ·subst h0
  rw[kI]
  rw[a9 (e:=.inl (0,())) (by simp[d4,qJ])]
  rfl
 ·rw[mB h0 h]
  have e:oJ .or .u64 (0:Int) (n:Int)=(n:Int):=by
   have:=TB (a:=n) (b:=0) h (by decide)
   simpa using this
  rw[g8 (s':=([d6 n],(n:Int),-1,())) (by
   unfold d4
   simp only[jU,aX,jF,List.length_cons,List.length_nil]
   rw[qJ (by omega) (by omega),decide_eq_true (by omega),jM _ (by omega),qJ (by omega) (by omega)]
   simp only[cond_true,QA,dC]
   have e2:F5 .u64 (0:Int) 32=0:=by have:=Q5 0;simpa using this
   have e3:wr .u64 (0:Int)=0:=fS (n:=0) (by decide)
   simp[cX,tP,e2,e3,fS (show n<fP by simp only[BB,fP] at *;omega),e])]
  rw[a9 (e:=.inl ((n:Int),())) (by simp[d4])]
  rfl
def UI(q:Rat):Prop:=q.num.natAbs<BB∧q.den<BB
theorem Sm.s1{q:Rat}(h:Sm q):UI q:=⟨by have:=h.1;simp only[BB];omega,by have:=h.2;simp only[BB];omega⟩
theorem wP{q:Rat}(h:UI q)(b:Bool):bA (b,cA q,cE q,())=some ((q.num.natAbs:Int),(q.den:Int),true,()):=by
 obtain⟨h1,h2⟩:=h
 have hd:=q.den_nz
 have l1:(cA q).length≤1:=OF.2 h1
 unfold bA
 simp only[b6,aX,bG]
 rw[decide_eq_false (by omega)]
 have w:d9 (cA q,())=some ((q.num.natAbs:Int),()):=SF h1
 rw[P9 h2]
 by_cases hd1:q.den=1
 ·rw[if_pos hd1]
  simp only[List.length_nil]
  rw[decide_eq_false (by omega),decide_eq_false (by omega)]
  simp only[cond_false,dC,c6,w]
  rw[hd1];rfl
 ·rw[if_neg hd1]
  simp only[List.length_cons,List.length_nil]
  rw[decide_eq_false (by omega),decide_eq_true (by omega),jM _ (by omega)]
  simp only[cond_false,cond_true,Int.toNat_zero,List.getElem?_cons_zero,dC,cX,tP,c6,w]
  rw[fS (by simp only[BB,fP] at *;omega),decide_eq_false (by omega)]
  rfl
theorem LV(a b:Nat):cP ((a:Int),(b:Int),())=some (((a.gcd b:Nat):Int),()):=by
 unfold cP
 have:bL iM ((a:Int),(b:Int),())=some (.inl (((a.gcd b:Nat):Int),())):=FY
 rw[this];rfl
theorem QF{α:Type}(l:List α)(a n:Nat):cY l a n=(l.drop a).take n:=by unfold cY;rfl
theorem QG(a b:Nat):fX a b=a+b:=by unfold fX;rfl
theorem T6:dR 4 (T.v (.int .u32 (0:Int)))=[d6 0,d6 0,d6 0,d6 0]:=by rw[I0];rfl
theorem SG:nY (4:Int) 4 4=some (4,4):=by unfold nY;rfl
theorem T7{n:Int}(h:0<n):gO n 0=some 0:=by rw[M6 (by omega) h];rfl
theorem SH(n:Nat):T.v (.int .u32 (wr .u32 (n:Int)))=d6 (n%BB):=by rw[Q3];rfl
theorem TH(n m:Nat):T.upd 1 (d6 n) 0 [d6 m]=d6 m:=RX _ _
theorem k1:lU 4 0 1 1=some (0,1):=by unfold lU;rfl
theorem k2:lU 4 1 2 2=some (1,1):=by unfold lU;rfl
theorem k3:lU 4 1 3 3=some (1,2):=by unfold lU;rfl
theorem k4:lU 4 0 2 2=some (0,2):=by unfold lU;rfl
theorem k5:lU 4 2 3 3=some (2,1):=by unfold lU;rfl
theorem k6:lU 4 2 4 4=some (2,2):=by unfold lU;rfl
theorem k7:B9 4 1 4=some (1,3):=by unfold B9;rfl
theorem k8:B9 4 2 4=some (2,2):=by unfold B9;rfl
theorem k9:wr .i64 (1+1)=2:=zY (by omega) (by omega)
theorem UJ:wr .i64 (1+2)=3:=zY (by omega) (by omega)
theorem UK:wr .i64 (2+1)=3:=zY (by omega) (by omega)
theorem UL:wr .i64 (2+2)=4:=zY (by omega) (by omega)
theorem UM:sG 3=3:=by unfold sG;rfl
theorem UN:sG 2=2:=by unfold sG;rfl
theorem UO:gO 4 0=some 0:=by unfold gO;rfl
theorem UP:gO 4 1=some 1:=by unfold gO;rfl
theorem T8:gO 3 0=some 0:=by unfold gO;rfl
theorem T9:gO 3 1=some 1:=by unfold gO;rfl
theorem UA:gO 2 0=some 0:=by unfold gO;rfl
theorem UQ:gO 2 1=some 1:=by unfold gO;rfl
theorem D0(neg:Bool){n d:Nat}(hn:n<fP)(hd:d<fP)(h0:d≠0):
 aP (neg,(n:Int),(d:Int),())=some (a7 (mkRat (sg neg n) d),cA (mkRat (sg neg n) d),cE (mkRat (sg neg n) d),()):=by
 unfold aP
 simp only[bG]
 by_cases hz:n=0
 ·subst hz
  rw[decide_eq_true (by omega),JR,uX,uY,uZ]
  rfl
 ·rw[decide_eq_false (by omega)]
  have hg0:n.gcd d≠0:=Nat.gcd_ne_zero_right h0
  have hq1:n/n.gcd d≠0:=by
   have:=Nat.div_pos (Nat.le_of_dvd (Nat.pos_of_ne_zero hz) (Nat.gcd_dvd_left n d)) (Nat.pos_of_ne_zero hg0)
   omega
  have hq2:d/n.gcd d≠0:=by
   have:=Nat.div_pos (Nat.le_of_dvd (Nat.pos_of_ne_zero h0) (Nat.gcd_dvd_right n d)) (Nat.pos_of_ne_zero hg0)
   omega
  have b1:n/n.gcd d<fP:=Nat.lt_of_le_of_lt (Nat.div_le_self _ _) hn
  have b2:d/n.gcd d<fP:=Nat.lt_of_le_of_lt (Nat.div_le_self _ _) hd
  rw[HY neg h0 hz,JS neg h0,JT neg h0]
  simp only[cond_false,LV,dC,IZ (show ((n.gcd d:Nat):Int)≠0 by omega),SG,T6,aX,List.length_cons,List.length_nil,IY,OJ,fS b1,fS b2]
  generalize n/n.gcd d=N at *
  generalize d/n.gcd d=M at *
  clear hn hd hz h0 hg0
  have m1:N%BB<BB:=Nat.mod_lt _ (by decide)
  have m2:M%BB<BB:=Nat.mod_lt _ (by decide)
  have c1:N/BB<BB:=Nat.div_lt_of_lt_mul b1
  have c2:M/BB<BB:=Nat.div_lt_of_lt_mul b2
  rw[T7 (by omega)]
  simp only[dC,CZ,List.getElem?_cons_zero,QA,Q4,SH,TH,List.set_cons_zero,b6,fV]
  have l4:∀a b c d:T,(([a,b,c,d]:List T).length:Int)=4:=fun _ _ _ _=>rfl
  have dm:∀(m:Nat),m<fP→decide (((m/BB:Nat):Int)=0)=decide (m<BB):=fun m hm=>by
   rw[decide_eq_decide]
   constructor
   ·intro h
    have:m/BB=0:=by omega
    exact(Nat.div_eq_zero_iff.1 this).resolve_left (by decide)
   ·intro h;rw[Nat.div_eq_of_lt h];rfl
  have d1:decide ((1:Int)<(M:Int))=!decide (M=1):=by
   by_cases h:M=1
   ·subst h;rfl
   ·rw[decide_eq_true (by omega),decide_eq_false h];rfl
  rw[dm N b1]
  have r1:N/BB%BB=N/BB:=Nat.mod_eq_of_lt c1
  have r2:M/BB%BB=M/BB:=Nat.mod_eq_of_lt c2
  have two:∀m:Nat,¬m<BB→m<fP→lm m=[d6 (m%BB),d6 (m/BB)]:=fun m h1 h2=>R7 (by omega) h2
  unfold dn
  have fN:N<BB→lm N=[d6 (N%BB)]:=fun h=>by rw[Nat.mod_eq_of_lt h,mB hq1 h]
  have fM:M<BB→lm M=[d6 (M%BB)]:=fun h=>by rw[Nat.mod_eq_of_lt h,mB hq2 h]
  have e1:decide (M=1)=true∨decide (M=1)=false:=by cases decide (M=1) <;> simp
  have e2:decide (N<BB)=true∧lm N=[d6 (N%BB)]∨decide (N<BB)=false∧lm N=[d6 (N%BB),d6 (N/BB)]:=by
   by_cases h:N<BB
   ·exact .inl ⟨decide_eq_true h,fN h⟩
   ·exact .inr ⟨decide_eq_false h,two N h b1⟩
  have e3:decide (M<BB)=true∧lm M=[d6 (M%BB)]∨decide (M<BB)=false∧lm M=[d6 (M%BB),d6 (M/BB)]:=by
   by_cases h:M<BB
   ·exact .inl ⟨decide_eq_true h,fM h⟩
   ·exact .inr ⟨decide_eq_false h,two M h b2⟩
  have e4:(if M=1 then ([]:List T) else lm M)=bif decide (M=1) then [] else lm M:=by
   by_cases h:M=1
   ·rw[if_pos h,decide_eq_true h];rfl
   ·rw[if_neg h,decide_eq_false h];rfl
  rw[e4,d1,dm M b2]
  rcases e1 with h1 | h1 <;> rcases e2 with⟨h2,g2⟩ | ⟨h2,g2⟩ <;> rcases e3 with⟨h3,g3⟩ | ⟨h3,g3⟩
  all_goals simp only[h1,h2,h3,g2,g3,Bool.not_true,Bool.not_false,cond_true,cond_false,k1,k2,k3,k4,k5,k6,k7,k8,k9,UJ,UK,UL,UO,UP,T8,T9,UA,UQ,UM,UN,dC,l4,CZ,List.length_set,List.set_cons_zero,List.set_cons_succ,List.getElem?_cons_zero,List.getElem?_cons_succ,QG,Nat.add_zero,Nat.reduceAdd,TH,r1,r2,c6,QF,List.drop_zero,List.drop_succ_cons,List.take_succ_cons,List.take_zero]
theorem QH{a b:List Nat}(ha:a.length<LM):aC (j8 a,j8 b,())=some (decide (a=b),()):=by
 unfold aC
 simp only[aX,kH,bG]
 by_cases hl:a.length=b.length
 ·rw[decide_eq_true (by omega)]
  simp only[Bool.not_true,cond_false]
  have key:∀d i,i+d=a.length→a.take i=b.take i→bL aN (j8 a,j8 b,(a.length:Int),(i:Int),())=some (if a=b then .inr (.inl ()) else .inl (false,())):=by
   intro d
   induction d with
   | zero=>
    intro i hi ht
    have:i=a.length:=by omega
    subst this
    rw[List.take_length,hl,List.take_length] at ht
    rw[if_pos ht]
    exact a9 (by unfold aN;simp only[b6];rw[decide_eq_false (by omega)];rfl)
   | succ d ih=>
    intro i hi ht
    have h1:i<a.length:=by omega
    have h2:i<b.length:=by omega
    have ga:=List.getElem?_eq_getElem h1
    have gb:=List.getElem?_eq_getElem h2
    have step:aN (j8 a,j8 b,(a.length:Int),(i:Int),())=if a[i]=b[i] then some (.inl (j8 a,j8 b,(a.length:Int),((i+1:Nat):Int),())) else some (.inr (.inl (false,()))):=by
     unfold aN
     simp only[b6,fV,bG]
     rw[decide_eq_true (by omega),d7,d7,lS,lS,ga,gb,show (i:Int)+1=((i+1:Nat):Int) by omega,LZ (by simp only[LM] at ha;omega)]
     simp only[cond_true,Option.map_some,dC,cX,jP]
     by_cases h:a[i]=b[i]
     ·rw[if_pos h,decide_eq_true (by omega)];rfl
     ·rw[if_neg h,decide_eq_false (by omega)];rfl
    by_cases h:a[i]=b[i]
    ·rw[if_pos h] at step
     rw[g8 step]
     refine ih (i+1) (by omega) ?_
     rw[List.take_succ_eq_append_getElem h1,List.take_succ_eq_append_getElem h2,ht,h]
    ·rw[if_neg h] at step
     rw[a9 step,if_neg]
     intro hab
     subst hab
     exact h rfl
  have:=key a.length 0 (by omega) (by simp)
  rw[show ((0:Nat):Int)=0 from rfl] at this
  rw[this]
  by_cases hab:a=b
  ·rw[if_pos hab,decide_eq_true hab];rfl
  ·rw[if_neg hab,decide_eq_false hab];rfl
 ·rw[decide_eq_false (by omega),decide_eq_false (fun h=>hl (by rw[h]))]
  rfl
theorem H3{q:Rat}(h:vW q):b9 (a7 q,cA q,cE q,())=some (u0 q,()):=by
 unfold b9
 obtain⟨k,h1,h2⟩:=SE h.1
 have h1':eU (cA q,())=some ((k:Int),()):=h1
 simp only[h1',dC,bG]
 unfold u0
 by_cases h0:q=0
 ·rw[if_pos h0,decide_eq_true (by have:=h2.2 (zF.2 h0);omega)];rfl
 ·rw[if_neg h0,decide_eq_false (fun hh=>h0 (zF.1 (h2.1 (by omega))))]
  cases a7 q <;> rfl
theorem qG(q:Rat):(u0 q=0∧q=0)∨(u0 q=-1∧q.num<0)∨(u0 q=1∧0<q.num):=by
 unfold u0
 by_cases h:q=0
 ·exact .inl ⟨if_pos h,h⟩
 ·have h0:q.num≠0:=fun hh=>h (Rat.num_eq_zero.1 hh)
  rw[if_neg h]
  unfold a7
  by_cases hl:q.num<0
  ·rw[decide_eq_true hl];exact .inr (.inl ⟨rfl,hl⟩)
  ·rw[decide_eq_false hl];exact .inr (.inr ⟨rfl,by omega⟩)
def AQ(p q:Rat):Int:=if p<q then -1 else if p=q then 0 else 1
theorem QI{p q:Rat}:(p.num*q.den<q.num*p.den→AQ p q=-1)∧(p.num*q.den=q.num*p.den→AQ p q=0)∧(q.num*p.den<p.num*q.den→AQ p q=1):=by
 refine⟨fun h=>?_,fun h=>?_,fun h=>?_⟩
 ·unfold AQ;rw[if_pos (zG.2 h)]
 ·have e:p=q:=by
   rw[←Rat.mkRat_self p,←Rat.mkRat_self q]
   exact(Rat.mkRat_eq_iff p.den_nz q.den_nz).2 h
  unfold AQ
  rw[if_neg (fun hh=>by have:=zG.1 hh;omega),if_pos e]
 ·unfold AQ
  rw[if_neg (fun hh=>by have:=zG.1 hh;omega),if_neg (fun hh=>by subst hh;omega)]
theorem Q7{p q:Rat}(hp:Sm p)(hq:Sm q):eW (a7 p,cA p,cE p,a7 q,cA q,cE q,())=some (AQ p q,()):=by
 have p0:=p.den_nz
 have q0:=q.den_nz
 unfold eW
 simp only[H3 hp.fit,H3 hq.fit,dC,bG,b6,jF]
 have pd:(0:Int)<p.den:=by omega
 have qd:(0:Int)<q.den:=by omega
 have key:∀s:Int,(s<0→s*q.den<0)∧(0<s→0<s*q.den):=fun s=>⟨fun h=>Int.mul_neg_of_neg_of_pos h qd,fun h=>Int.mul_pos h qd⟩
 have key':∀s:Int,(s<0→s*p.den<0)∧(0<s→0<s*p.den):=fun s=>⟨fun h=>Int.mul_neg_of_neg_of_pos h pd,fun h=>Int.mul_pos h pd⟩
 obtain⟨c1,c2,c3⟩:=QI (p:=p) (q:=q)
 have zp:p=0→p.num*q.den=0:=fun h=>by subst h;simp
 have zq:q=0→q.num*p.den=0:=fun h=>by subst h;simp
 by_cases hs:u0 p=u0 q
 ·rw[decide_eq_true hs]
  simp only[Bool.not_true,cond_false,wP hp.s1,wP hq.s1,dC]
  obtain⟨m1,f1,g1⟩:=FZ p.den
  obtain⟨m2,f2,g2⟩:=FZ q.den
  have eqd:aC (cE p,cE q,())=some (decide (p.den=q.den),()):=by
   have l1:(aJ m1).length<LM:=by rcases g1 with rfl | rfl;exact hp.fit.2;rw[b4];decide
   unfold cE
   rw[f1,f2]
   have:=QH (a:=aJ m1) (b:=aJ m2) l1
   unfold lm
   rw[this]
   congr 2
   rw[decide_eq_decide]
   constructor
   ·intro h;exact OD p0 q0 (by rw[f1,f2,BY h])
   ·intro h;rw[h] at f1;exact congrArg aJ (zE (f1.symm.trans f2))
  have natc:eD (cA p,cA q,())=some (eX p.num.natAbs q.num.natAbs,()):=TG hp.fit.1 hq.fit.1
  have sizes:∀(x y:Int) (a b:Nat),x=sg (a7 p) a→y=sg (a7 p) b→p.num*q.den=x→q.num*p.den=y→some ((bif a7 p then 0-eX a b else eX a b),())=some (AQ p q,()):=fun x y a b hx hy e1 e2=>by
   rw[e1,e2] at c1 c2 c3
   congr 2
   unfold eX
   cases hn:a7 p with
   | true=>
    rw[hn] at hx hy
    simp only[sg,if_true] at hx hy
    simp only[cond_true]
    by_cases h1:a<b
    ·rw[if_pos h1,c3 (by omega)];rfl
    ·rw[if_neg h1]
     by_cases h2:a=b
     ·rw[if_pos h2,c2 (by omega)];rfl
     ·rw[if_neg h2,c1 (by omega)];rfl
   | false=>
    rw[hn] at hx hy
    simp only[sg,Bool.false_eq_true,if_false] at hx hy
    simp only[cond_false]
    by_cases h1:a<b
    ·rw[if_pos h1,c1 (by omega)]
    ·rw[if_neg h1]
     by_cases h2:a=b
     ·rw[if_pos h2,c2 (by omega)]
     ·rw[if_neg h2,c3 (by omega)]
  have hneg:a7 p=a7 q:=by
   unfold a7
   rcases qG p with⟨a1,a2⟩ | ⟨a1,a2⟩ | ⟨a1,a2⟩ <;> rcases qG q with⟨b1,b2⟩ | ⟨b1,b2⟩ | ⟨b1,b2⟩ <;> first
    | (rw[a1,b1] at hs;cases hs;done)
    | (subst a2;subst b2;rfl)
    | (rw[decide_eq_true a2,decide_eq_true b2])
    | (rw[decide_eq_false (by omega),decide_eq_false (by omega)])
  have wc:∀a b:Nat,wr .i64 (0-eX a b)=0-eX a b:=fun a b=>by
   have:eX a b=-1∨eX a b=0∨eX a b=1:=by
    unfold eX
    by_cases h1:a<b
    ·rw[if_pos h1];exact .inl rfl
    ·rw[if_neg h1]
     by_cases h2:a=b
     ·rw[if_pos h2];exact .inr (.inl rfl)
     ·rw[if_neg h2];exact .inr (.inr rfl)
   exact qJ (by omega) (by omega)
  rw[eqd]
  simp only[dC]
  have hpn:=uW p
  have hqn:=uW q
  by_cases hd:p.den=q.den
  ·rw[decide_eq_true hd]
   simp only[cond_true,natc,dC,c6,wc]
   have pos:∀s:Bool,sg s p.num.natAbs*(q.den:Int)=sg s (p.num.natAbs*q.den):=fun s=>nX s _ _
   have hcm:eX p.num.natAbs q.num.natAbs=eX (p.num.natAbs*q.den) (q.num.natAbs*p.den):=by
    rw[hd]
    unfold eX
    have i1:p.num.natAbs*q.den<q.num.natAbs*q.den↔p.num.natAbs<q.num.natAbs:=Nat.mul_lt_mul_right (Nat.pos_of_ne_zero q0)
    have i2:p.num.natAbs*q.den=q.num.natAbs*q.den↔p.num.natAbs=q.num.natAbs:=Nat.mul_left_inj q0
    simp only[i1,i2]
   rw[hcm]
   have fin:=sizes _ _ (p.num.natAbs*q.den) (q.num.natAbs*p.den) rfl rfl (by rw[←nX,hpn]) (by rw[←nX,hneg,hqn])
   cases hn:a7 p <;> rw[hn] at fin <;> exact fin
  ·rw[decide_eq_false hd]
   have bp:=hp.1;have bq:=hq.1;have bpd:=hp.2;have bqd:=hq.2
   have m1:p.num.natAbs*q.den<2147483648*2147483648:=Nat.mul_lt_mul'' bp bqd
   have m2:q.num.natAbs*p.den<2147483648*2147483648:=Nat.mul_lt_mul'' bq bpd
   simp only[cond_false,cond_true,dC,CX]
   rw[show ((p.num.natAbs:Nat):Int)*(q.den:Int)=((p.num.natAbs*q.den:Nat):Int) from(Int.natCast_mul _ _).symm,show ((q.num.natAbs:Nat):Int)*(p.den:Int)=((q.num.natAbs*p.den:Nat):Int) from(Int.natCast_mul _ _).symm,
    fS (by simp only[fP];omega),fS (by simp only[fP];omega)]
   have fin:=sizes _ _ (p.num.natAbs*q.den) (q.num.natAbs*p.den) rfl rfl (by rw[←nX,hpn]) (by rw[←nX,hneg,hqn])
   generalize p.num.natAbs*q.den=a at *
   generalize q.num.natAbs*p.den=b at *
   by_cases h1:a<b
   ·rw[decide_eq_true (by omega)]
    have hc:eX a b=-1:=by unfold eX;rw[if_pos h1]
    rw[hc] at fin
    simp only[cond_true,dC,c6]
    rw[qJ (n:=0 - -1) (by omega) (by omega)]
    cases hn:a7 p <;> rw[hn] at fin <;> exact fin
   ·rw[decide_eq_false (by omega)]
    by_cases h2:b<a
    ·rw[decide_eq_true (by omega)]
     have hc:eX a b=1:=by unfold eX;rw[if_neg h1,if_neg (by omega)]
     rw[hc] at fin
     simp only[cond_false,cond_true,dC,c6]
     rw[qJ (n:=0-1) (by omega) (by omega)]
     cases hn:a7 p <;> rw[hn] at fin <;> exact fin
    ·rw[decide_eq_false (by omega)]
     have hc:eX a b=0:=qF.2 (by omega)
     rw[hc] at fin
     simp only[cond_false,dC,c6]
     rw[qJ (n:=0-0) (by omega) (by omega)]
     cases hn:a7 p <;> rw[hn] at fin <;> exact fin
 ·rw[decide_eq_false hs]
  simp only[Bool.not_false,cond_true]
  rcases qG p with⟨a1,a2⟩ | ⟨a1,a2⟩ | ⟨a1,a2⟩ <;> rcases qG q with⟨b1,b2⟩ | ⟨b1,b2⟩ | ⟨b1,b2⟩ <;> rw[a1,b1]
  ·exact absurd (a1.trans b1.symm) hs
  ·have:=(key' _).1 b2
   rw[c3 (by rw[zp a2];exact this)];rfl
  ·have:=(key' _).2 b2
   rw[c1 (by rw[zp a2];exact this)];rfl
  ·have:=(key _).1 a2
   rw[c1 (by rw[zq b2];exact this)];rfl
  ·exact absurd (a1.trans b1.symm) hs
  ·have h1:=(key _).1 a2
   have h2:=(key' _).2 b2
   rw[c1 (by omega)];rfl
  ·have:=(key _).2 a2
   rw[c3 (by rw[zq b2];exact this)];rfl
  ·have h1:=(key _).2 a2
   have h2:=(key' _).1 b2
   rw[c3 (by omega)];rfl
  ·exact absurd (a1.trans b1.symm) hs
theorem QJ(a b:Nat):yT (a:Int) (b:Int) 0=some (((a+b)%fP:Nat):Int):=by
 unfold yT
 rw[if_pos ⟨by omega,by omega,by omega,by omega⟩]
 congr 1
theorem QK{a b:Nat}(h:a+b<fP):yU (a:Int) (b:Int) 0=0:=by
 unfold yU
 simp only[fP] at h
 omega
theorem TI{p q:Rat}(hp:Sm p)(hq:Sm q)(neg:Bool):eV (a7 p,cA p,cE p,a7 q,cA q,cE q,neg,()) =
 (let r:=mkRat (sg (a7 p) (p.num.natAbs*q.den)+sg neg (q.num.natAbs*p.den)) (p.den*q.den);some (a7 r,cA r,cE r,())):=by
 have p0:=p.den_nz
 have q0:=q.den_nz
 have bp:=hp.1;have bq:=hq.1;have bpd:=hp.2;have bqd:=hq.2
 have m1:p.num.natAbs*q.den<2147483648*2147483648:=Nat.mul_lt_mul'' bp bqd
 have m2:q.num.natAbs*p.den<2147483648*2147483648:=Nat.mul_lt_mul'' bq bpd
 have m3:p.den*q.den<2147483648*2147483648:=Nat.mul_lt_mul'' bpd bqd
 have d0:p.den*q.den≠0:=Nat.mul_ne_zero p0 q0
 unfold eV
 simp only[wP hp.s1,wP hq.s1,dC,cond_true,CX,jF,jU,bG,G3]
 rw[show ((p.num.natAbs:Nat):Int)*(q.den:Int)=((p.num.natAbs*q.den:Nat):Int) from(Int.natCast_mul _ _).symm,show ((q.num.natAbs:Nat):Int)*(p.den:Int)=((q.num.natAbs*p.den:Nat):Int) from(Int.natCast_mul _ _).symm,
  show ((p.den:Nat):Int)*(q.den:Int)=((p.den*q.den:Nat):Int) from(Int.natCast_mul _ _).symm,fS (n:=p.num.natAbs*q.den) (by simp only[fP];omega),fS (n:=q.num.natAbs*p.den) (by simp only[fP];omega),fS (n:=p.den*q.den) (by simp only[fP];omega)]
 generalize p.num.natAbs*q.den=a at *
 generalize q.num.natAbs*p.den=b at *
 generalize p.den*q.den=d at *
 rw[QJ,QK (by simp only[fP];omega),Nat.mod_eq_of_lt (by simp only[fP];omega)]
 simp only[dC]
 by_cases hn:a7 p=neg
 ·rw[hn]
  simp only[beq_self_eq_true,cond_true,decide_true]
  rw[D0 neg (by simp only[fP];omega) (by simp only[fP];omega) d0]
  simp only[dC,c6,R9]
 ·have hb:(a7 p==neg)=false:=by simpa using hn
  simp only[hb,cond_false,Bool.not_false,cond_true]
  by_cases hle:b≤a
  ·rw[decide_eq_true (by omega),show (a:Int)-(b:Int)=((a-b:Nat):Int) by omega,fS (n:=a-b) (by simp only[fP];omega),D0 (a7 p) (by simp only[fP];omega) (by simp only[fP];omega) d0]
   simp only[cond_true,dC,c6,OE hn hle]
  ·rw[decide_eq_false (by omega),show (b:Int)-(a:Int)=((b-a:Nat):Int) by omega,fS (n:=b-a) (by simp only[fP];omega),D0 neg (by simp only[fP];omega) (by simp only[fP];omega) d0]
   simp only[cond_false,dC,c6]
   rw[Int.add_comm,OE (Ne.symm hn) (by omega)]
theorem TJ{p q:Rat}(hp:Sm p)(hq:Sm q):iC (a7 p,cA p,cE p,a7 q,cA q,cE q,())=some (a7 (p+q),cA (p+q),cE (p+q),()):=by
 unfold iC
 simp only[TI hp hq,dC]
 rw[←nX,←nX,uW,uW,←R8]
theorem JX{l:List T}(h:l.length<1000000000):aI (l,())=some (l,()):=by
 have hr:oF [] l 4=some l:=by rw[wK (by simp only[List.length_nil];omega) (by decide)];rfl
 unfold aI
 simp only[hr,dC]
 unfold EL
 cases l with
 | nil=>exact EZ rfl rfl
 | cons a l=>rfl
theorem QL{q:Rat}(h:vW q):(cA q).length<1000000000:=by
 have:=h.1
 unfold cA
 rw[pT]
 simp only[LM] at this;omega
theorem QM{q:Rat}(h:vW q):(cE q).length<1000000000:=by
 obtain⟨m,e,c⟩:=FZ q.den
 unfold cE
 rw[e,pT]
 rcases c with rfl | rfl
 ·have:=h.2;simp only[LM] at this;omega
 ·rw[b4];decide
theorem Q8{q:Rat}(h:vW q):kO (a7 q,cA q,cE q,())=some (a7 q,cA q,cE q,()):=by
 unfold kO
 simp only[JX (QL h),JX (QM h),dC]
end Go.Eng.Rt
namespace Go.Eng
end Go.Eng
namespace Go.Eng.Lg
open Go.Eng Go.Eng.Rt
structure E where
 s:Int
 k:Int
 q:Rat
def bV(e:E):T:=.agg [.v (.int .i64 e.s),.v (.int .i64 e.k),.v (.bool (a7 e.q)),.sl 1 (cA e.q),.sl 1 (cE e.q)]
theorem c0(e:E):T.int? .i64 ((bV e).cell 0)=some e.s:=rfl
theorem c1(e:E):T.int? .i64 ((bV e).cell 1)=some e.k:=rfl
theorem c2(e:E):T.bool? ((bV e).cell 2)=some (a7 e.q):=rfl
theorem c3(e:E):T.sl? 1 ((bV e).cell 3)=some (cA e.q):=rfl
theorem c4(e:E):T.sl? 1 ((bV e).cell 4)=some (cE e.q):=rfl
def eC(e:E):Bool:=decide (0≤e.s)&&decide (e.s≤2147483647)&&decide (1≤e.k)&&decide (e.k≤5)&&decide (0≤u0 e.q)
theorem zK{e:E}(h:vW e.q):cV (e.s,e.k,a7 e.q,cA e.q,cE e.q,())=some (eC e,()):=by
 unfold cV eC
 simp only[jU,H3 h,dC]
 cases decide (0≤e.s) <;> cases decide (e.s≤2147483647) <;> cases decide (1≤e.k) <;> cases decide (e.k≤5) <;> rfl
theorem SI(e:E):nU (e.s,e.k,a7 e.q,cA e.q,cE e.q,())=some (eC e,()):=by
 unfold nU eC
 simp only[jU,SC,dC]
 cases decide (0≤e.s) <;> cases decide (e.s≤2147483647) <;> cases decide (1≤e.k) <;> cases decide (e.k≤5) <;> rfl
def Fits(l:List E):Prop:=∀e∈l,vW e.q
theorem Fits.get{l:List E}(h:Fits l){i:Nat}{e:E}(hi:l[i]?=some e):vW e.q:=h e (List.mem_of_getElem? hi)
theorem wQ(l:List E)(i:Nat):(l.map bV)[i]?=(l[i]?).map bV:=List.getElem?_map
def mC(l:List E):Bool:=decide (l.length≤1024)&&l.all eC
theorem Q9{S X:Type}{F:S→Option (S⊕X)}(l:List E)(st:Nat→S)(yes:X)(no:Nat→X)(p:E→Bool)
 (h:∀i e,l[i]?=some e→F (st i)=if p e then some (.inl (st (i+1))) else some (.inr (no i))) (hend:F (st l.length)=some (.inr yes)):
 ∃i,bL F (st 0)=some (if l.all p then yes else no i):=by
 have key:∀d i,i+d=l.length→∃j,bL F (st i)=some (if (l.drop i).all p then yes else no j):=by
  intro d
  induction d with
  | zero=>
   intro i hi
   have:i=l.length:=by omega
   subst this
   exact⟨0,by rw[List.drop_length,a9 hend];rfl⟩
  | succ d ih=>
   intro i hi
   have hlt:i<l.length:=by omega
   have hc:=h i _ (List.getElem?_eq_getElem hlt)
   rw[List.drop_eq_getElem_cons hlt]
   by_cases hp:p l[i]=true
   ·rw[if_pos hp] at hc
    obtain⟨j,hj⟩:=ih (i+1) (by omega)
    exact⟨j,by rw[g8 hc,hj,List.all_cons,hp,Bool.true_and]⟩
   ·rw[if_neg hp] at hc
    exact⟨i,by rw[a9 hc,List.all_cons,(Bool.not_eq_true _).mp hp,Bool.false_and];rfl⟩
 obtain⟨j,hj⟩:=key l.length 0 (by omega)
 exact⟨j,by rw[hj,List.drop_zero]⟩
theorem SJ(l:List E)(hl:l.length<1000000):rD (l.map bV,())=some (mC l,()):=by
 unfold rD mC
 simp only[b6,aX,List.length_map]
 by_cases h:l.length≤1024
 ·rw[decide_eq_false (by omega),decide_eq_true h]
  obtain⟨j,hj⟩:=Q9 (F:=fG) l (fun i=>(l.map bV,(i:Int),())) (.inr (.inl ())) (fun _=>.inl (false,())) eC (fun i e he=>by
   have hlt:i<l.length:=(List.getElem?_eq_some_iff.1 he).1
   unfold fG
   simp only[b6,aX,List.length_map,fV,d7,wQ,he,Option.map_some]
   rw[decide_eq_true (by omega),show (i:Int)+1=((i+1:Nat):Int) by omega,LZ (by omega)]
   simp only[cond_true,dC,c0,c1,c2,c3,c4,SI]
   cases eC e <;> rfl) (by
   unfold fG
   simp only[b6,aX,List.length_map]
   rw[decide_eq_false (by omega)];rfl)
  simp only[cond_false]
  rw[show (0:Int)=((0:Nat):Int) from rfl,hj]
  cases l.all eC <;> rfl
 ·rw[decide_eq_true (by omega),decide_eq_false h];rfl
theorem kJ(l:List E)(hf:Fits l)(hl:l.length<1000000):aV (l.map bV,())=some (mC l,()):=by
 unfold aV mC
 simp only[jU,aX,List.length_map]
 by_cases h:l.length≤1024
 ·rw[decide_eq_true (by omega),decide_eq_true h]
  obtain⟨j,hj⟩:=Q9 (F:=aG) l (fun i=>(l.map bV,(),(l.length:Int),(i:Int),())) (.inr (.inl ())) (fun i=>.inl ((i:Int),())) eC (fun i e he=>by
   have hlt:i<l.length:=(List.getElem?_eq_some_iff.1 he).1
   have hfe:=hf.get he
   unfold aG i8
   simp only[b6,fV,d7,wQ,he,Option.map_some]
   rw[decide_eq_true (by omega),show (i:Int)+1=((i+1:Nat):Int) by omega,LZ (by omega)]
   simp only[cond_true,dC,c0,c1,c2,c3,c4,zK hfe]
   cases eC e <;> rfl) (by
   unfold aG
   simp only[b6]
   rw[decide_eq_false (by omega)];rfl)
  unfold aU a5
  simp only[cond_true,aX,List.length_map]
  rw[show (0:Int)=((0:Nat):Int) from rfl,hj]
  cases l.all eC
  ·simp only[Bool.false_eq_true,if_false,dC,c6,jU]
   rw[decide_eq_true (by omega)];rfl
  ·simp
 ·rw[decide_eq_false (by omega),decide_eq_false h];rfl
theorem JY{e:E}(h:vW e.q):gM (e.s,e.k,a7 e.q,cA e.q,cE e.q,())=some (e.s,e.k,a7 e.q,cA e.q,cE e.q,()):=by
 unfold gM
 simp only[Q8 h,dC]
def dL:T:=.agg [.v (.int .i64 0),.v (.int .i64 0),.v (.bool false),.v (.slice none 0 0),.v (.slice none 0 0)]
theorem UB(x:T)(a b c d e:T)(hx:x.cells.length=5):T.upd 5 x 0 [a,b,c,d,e]=.agg [a,b,c,d,e]:=by
 unfold T.upd
 have:x.cells.take 0++[a,b,c,d,e]++x.cells.drop (0+[a,b,c,d,e].length)=[a,b,c,d,e]:=by
  rw[List.take_zero,List.nil_append,List.drop_eq_nil_of_le (by simp[hx]),List.append_nil]
 rw[this];rfl
theorem LW(l:List E)(hf:Fits l)(hl:l.length<1000000):
 bL aE ((),List.replicate l.length dL,l.map bV,(l.length:Int),(0:Int),())=some (.inl (l.map bV,())):=by
 have key:∀i,i≤l.length→bL aE ((),List.replicate l.length dL,l.map bV,(l.length:Int),(0:Int),()) =
  bL aE ((),(l.take i).map bV++List.replicate (l.length-i) dL,l.map bV,(l.length:Int),(i:Int),()):=by
  intro i
  induction i with
  | zero=>intro _;simp
  | succ i ih=>
   intro hi
   have hlt:i<l.length:=hi
   have he:=List.getElem?_eq_getElem hlt
   have hfe:=hf.get he
   rw[ih (by omega)]
   have hlen:((l.take i).map bV++List.replicate (l.length-i) dL).length=l.length:=by simp;omega
   have hti:((l.take i).map bV).length=i:=by simp;omega
   refine g8 ?_
   unfold aE
   simp only[b6,fV,d7,wQ,he,Option.map_some,aX,hlen]
   rw[decide_eq_true (by omega),show (i:Int)+1=((i+1:Nat):Int) by omega,LZ (by omega),M5 (by omega)]
   simp only[cond_true,dC,c0,c1,c2,c3,c4,JY hfe,CZ]
   have hz:((l.take i).map bV++List.replicate (l.length-i) dL)[i]?=some dL:=by
    rw[List.getElem?_append_right (by omega),hti,Nat.sub_self,List.getElem?_replicate,if_pos (by omega)]
   rw[hz]
   simp only[dC]
   rw[UB _ _ _ _ _ _ rfl]
   congr 5
   rw[List.set_append_right _ _ (by omega),hti,Nat.sub_self,show l.length-i=(l.length-(i+1))+1 by omega,List.replicate_succ,List.set_cons_zero,List.take_succ_eq_append_getElem hlt,List.map_append,List.append_assoc]
   rfl
 rw[key l.length (Nat.le_refl _),List.take_length,Nat.sub_self,List.replicate_zero,List.append_nil]
 refine a9 ?_
 unfold aE
 simp only[b6]
 rw[decide_eq_false (by omega)];rfl
theorem zL(l:List E)(hf:Fits l)(hl:l.length<1000000):dA (l.map bV,())=some (l.map bV,()):=by
 unfold dA cD
 simp only[aX,List.length_map]
 rw[M7 (by omega) (by omega) (by omega) (by decide)]
 simp only[dC,Int.toNat_natCast,I0]
 have:=LW l hf hl
 unfold dL at this
 rw[this]
 simp only[dC,c6]
 unfold EL
 cases l with
 | nil=>rw[show ([]:List E).map bV=[] from rfl];simp only[List.isEmpty_nil,cond_true];rw[EZ (r:=([],())) rfl rfl];rfl
 | cons e l=>rfl
def mD(l:List E):Rat:=l.foldl (fun a e=>a+e.q) 0
theorem B2(l:List E)(e:E):mD (l++[e])=mD l+e.q:=by unfold mD;rw[List.foldl_append];rfl
theorem SK(l:List E)(h:∀e∈l,En 60 100000 e.q):En 60 (100000*l.length) (mD l):=by
 have key:∀k (l:List E),l.length=k→(∀e∈l,En 60 100000 e.q)→En 60 (100000*k) (mD l):=by
  intro k
  induction k with
  | zero=>
   intro l hl _
   have:=List.eq_nil_of_length_eq_zero hl
   subst this
   exact En.zero
  | succ k ih=>
   intro l hl h
   have hne:l≠[]:=by intro e;subst e;simp at hl
   obtain⟨m,a,rfl⟩:∃m a,l=m++[a]:=⟨l.dropLast,l.getLast hne,(List.dropLast_concat_getLast hne).symm⟩
   rw[B2]
   exact(En.add (by decide) (ih m (by simpa using hl) fun e he=>h e (List.mem_append.2 (.inl he))) (h a (by simp))).mono (by omega)
 exact key _ l rfl h
theorem TK(l:List E)(h:∀e∈l,En 60 100000 e.q)(hl:l.length≤1024):kG (l.map bV,(),())=some (a7 (mD l),cA (mD l),cE (mD l),()):=by
 have sm:∀k,k≤l.length→Sm (mD (l.take k)):=fun k hk=>by
  have:=SK (l.take k) fun e he=>h e (List.mem_of_mem_take he)
  exact this.sm (by decide) (by decide) (by rw[List.length_take];omega)
 let st:Nat→_:=fun(i:Nat)=>(((),(),(),l.map bV,(l.length:Int),(i:Int),false,T.v (.slice none 0 0),T.v (.slice none 0 0),a7 (mD (l.take i)),cA (mD (l.take i)),cE (mD (l.take i)),()):Unit×Unit×Unit×List T×Int×Int×Bool×T×T×Bool×List T×List T×Unit)
 have hgo:∀i,i<l.length→cW (st i)=some (.inl (st (i+1))):=fun i hlt=>by
  have he:=List.getElem?_eq_getElem hlt
  have hq:Sm l[i].q:=(h _ (List.getElem_mem hlt)).sm (by decide) (by decide) (by decide)
  unfold cW jA
  simp only[st,b6,fV,d7,wQ,he,Option.map_some]
  rw[decide_eq_true (by omega)]
  simp only[cond_true,dC,c0,c1,c2,c3,c4,TJ (sm i (by omega)) hq,c6]
  rw[show (i:Int)+1=((i+1:Nat):Int) by omega,LZ (by omega)]
  rw[List.take_succ_eq_append_getElem hlt,B2]
 have hall:=KY (F:=cW) l.length st hgo
 have h0:st 0=((),(),(),l.map bV,(l.length:Int),(0:Int),false,T.v (.slice none 0 0),T.v (.slice none 0 0),false,[],[],()):=by
  simp only[st,List.take_zero]
  show _=_
  rw[show mD []=0 from rfl,uX,uY,uZ]
  rfl
 have hend:bL cW (st l.length)=some (.inl ((),(),false,T.v (.slice none 0 0),T.v (.slice none 0 0),a7 (mD l),cA (mD l),cE (mD l),())):=by
  refine a9 ?_
  unfold cW
  simp only[st,b6]
  rw[decide_eq_false (by omega),List.take_length];rfl
 unfold kG
 simp only[aX,List.length_map]
 rw[←h0,hall,hend]
 have fit:vW (mD l):=by have:=sm l.length (Nat.le_refl _);rw[List.take_length] at this;exact this.fit
 simp only[dC,c6,Q8 fit]
theorem QN(l:List E)(h:∀e∈l,En 60 100000 e.q)(hl:l.length≤1024)(hv:mC l=true):dO (l.map bV,())=some (a7 (mD l),cA (mD l),cE (mD l),true,()):=by
 have hf:Fits l:=fun e he=>((h e he).sm (by decide) (by decide) (by decide)).fit
 unfold dO
 simp only[kJ l hf (by omega),hv,dC,Bool.not_true,cond_false,TK l h hl]
theorem JZ{n d:Int}(hn:0≤n∧n≤8)(hd:1≤d∧d≤6):En 60 480 (bM n d):=by
 rw[B1 (by omega)]
 obtain⟨n',rfl⟩:=Int.eq_ofNat_of_zero_le hn.1
 obtain⟨d',rfl⟩:=Int.eq_ofNat_of_zero_le (show 0≤d by omega)
 have:d'=1∨d'=2∨d'=3∨d'=4∨d'=5∨d'=6:=by omega
 refine En.frac (by simp;omega) (by decide) ?_ ?_
 ·rcases this with rfl | rfl | rfl | rfl | rfl | rfl <;> decide
 ·rcases this with rfl | rfl | rfl | rfl | rfl | rfl <;> simp <;> omega
theorem SL:bB ()=some (true,()):=by
 have f1:=zJ (n:=1) (d:=2) (by omega) (by omega) (by omega) (by omega) (by omega)
 have f2:=zJ (n:=1) (d:=3) (by omega) (by omega) (by omega) (by omega) (by omega)
 have f3:=zJ (n:=5) (d:=6) (by omega) (by omega) (by omega) (by omega) (by omega)
 have f4:=zJ (n:=4) (d:=5) (by omega) (by omega) (by omega) (by omega) (by omega)
 let l:List E:=[⟨0,2,bM 1 2⟩,⟨0,3,bM 1 3⟩]
 have hen:∀e∈l,En 60 480 e.q:=fun e he=>by
  simp only[l,List.mem_cons,List.not_mem_nil,or_false] at he
  rcases he with rfl | rfl
  ·exact JZ (n:=1) (d:=2) ⟨by omega,by omega⟩ ⟨by omega,by omega⟩
  ·exact JZ (n:=1) (d:=3) ⟨by omega,by omega⟩ ⟨by omega,by omega⟩
 have hv:mC l=true:=by decide +kernel
 have hs:mD l=bM 5 6:=by decide +kernel
 have tot:=QN l (fun e he=>(hen e he).mono (by decide)) (by decide) hv
 rw[hs] at tot
 have sm5:Sm (bM 5 6):=by unfold Sm;decide +kernel
 have sm4:Sm (bM 4 5):=by unfold Sm;decide +kernel
 have hl:l.map bV=[T.agg [.v (.int .i64 0),.v (.int .i64 2),.v (.bool (a7 (bM 1 2))),.sl 1 (cA (bM 1 2)),.sl 1 (cE (bM 1 2))],T.agg [.v (.int .i64 0),.v (.int .i64 3),.v (.bool (a7 (bM 1 3))),.sl 1 (cA (bM 1 3)),.sl 1 (cE (bM 1 3))]]:=rfl
 rw[hl] at tot
 unfold bB eB
 simp only[f1,f2,f3,f4,tot,dC,cond_true,SB sm5.fit sm5.fit,decide_true,Q7 sm5 sm5,Q7 sm5 sm4,jU]
 rw[show AQ (bM 5 6) (bM 5 6)=0 by decide +kernel,show AQ (bM 5 6) (bM 4 5)=1 by decide +kernel]
 rfl
end Go.Eng.Lg
namespace Go.Eng.Lg
open Go.Eng Go.Eng.Rt
def rep(m:Nat)(e:E):List E:=List.replicate m e
theorem iH{m:Nat}{e:E}(h:vW e.q):Fits (rep m e):=fun x hx=>by rw[List.eq_of_mem_replicate hx];exact h
theorem ON{m:Nat}{e:E}(h:eC e=true):(rep m e).all eC=true:=by
 rw[List.all_eq_true]
 intro x hx
 rw[List.eq_of_mem_replicate hx];exact h
theorem m9{m:Nat}{e:E}(h:eC e=true)(hm:m≤1024):mC (rep m e)=true:=by
 unfold mC
 rw[ON h,decide_eq_true (by unfold rep;rw[List.length_replicate];exact hm)];rfl
theorem J0{m:Nat}{e:E}(hm:1024<m):mC (rep m e)=false:=by
 unfold mC
 rw[decide_eq_false (by unfold rep;rw[List.length_replicate];omega)];rfl
theorem jG(m:Nat)(e:E):(rep m e).length=m:=List.length_replicate
theorem TL{m:Nat}{e:E}(he:vW e.q)(hg:eC e=true)(hm:m<1024):
 bT ((rep m e).map bV,e.s,e.k,a7 e.q,cA e.q,cE e.q,())=some ((rep m e++[e]).map bV,0,()):=by
 have hl:=jG m e
 unfold bT
 simp only[kJ (rep m e) (iH he) (by omega),zK he,dC,m9 (m:=m) hg (show m≤1024 by omega),hg,Bool.not_true,cond_false,bG,aX,List.length_map]
 rw[decide_eq_false (by omega)]
 simp only[cond_false,zL (rep m e) (iH he) (by omega),JY he,dC]
 rw[wK (by simp;omega) (by decide)]
 simp only[dC,List.map_append]
 rfl
theorem LX{e:E}(he:vW e.q)(hg:eC e=true):
 bT ((rep 1024 e).map bV,e.s,e.k,a7 e.q,cA e.q,cE e.q,())=some ([],2,()):=by
 have hl:=jG 1024 e
 unfold bT
 simp only[kJ (rep 1024 e) (iH he) (by omega),zK he,dC,m9 (m:=1024) hg (show 1024≤1024 by omega),hg,Bool.not_true,cond_false,bG,aX,List.length_map]
 rw[decide_eq_true (by omega)]
 rfl
theorem OO{e:E}(he:vW e.q):
 bT ((rep 1025 e).map bV,e.s,e.k,a7 e.q,cA e.q,cE e.q,())=some ([],1,()):=by
 have hl:=jG 1025 e
 unfold bT
 simp only[kJ (rep 1025 e) (iH he) (by omega),J0 (show 1024<1025 by omega),dC,Bool.not_false,cond_true]
theorem H4{e:E}(he:vW e.q):aV ((rep 1025 e).map bV,())=some (false,()):=by
 have hl:=jG 1025 e
 rw[kJ (rep 1025 e) (iH he) (by omega),J0 (show 1024<1025 by omega)]
theorem H5{e:E}(he:vW e.q)(hg:eC e=true):cG ((rep 1024 e).map bV,(rep 1 e).map bV,())=some ([],2,()):=by
 have hl:=jG 1024 e
 have hl1:=jG 1 e
 unfold cG
 simp only[kJ (rep 1024 e) (iH he) (by omega),kJ (rep 1 e) (iH he) (by omega),dC,m9 hg (show 1024≤1024 by omega),m9 hg (show 1≤1024 by omega),Bool.not_true,cond_false,b6,fV,aX,List.length_map,hl,hl1]
 rw[qJ (by omega) (by omega),decide_eq_true (by omega)]
 rfl
theorem LY{e:E}(he:vW e.q)(hg:eC e=true):cG ((rep 1024 e).map bV,[],())=some ((rep 1024 e).map bV,0,()):=by
 have hl:=jG 1024 e
 have h0:aV ([],())=some (true,()):=kJ [] (fun _ h=>by cases h) (by decide)
 have h1:dA ([],())=some ([],()):=zL [] (fun _ h=>by cases h) (by decide)
 unfold cG
 simp only[kJ (rep 1024 e) (iH he) (by omega),h0,dC,m9 hg (show 1024≤1024 by omega),Bool.not_true,cond_false,b6,fV,aX,List.length_map,hl,List.length_nil]
 rw[qJ (by omega) (by omega),decide_eq_false (by omega)]
 simp only[cond_false,zL (rep 1024 e) (iH he) (by omega),h1,dC]
 rw[wK (by simp;omega) (by decide)]
 simp only[dC,List.append_nil]
end Go.Eng.Lg
namespace Go.Eng.Lg
open Go.Eng Go.Eng.Rt Go.RowKit Go.Proofs
theorem H6:Try.prog.underlying 26=some (.slice 44):=by kernel_rfl
theorem ul5:Try.prog.underlying 5=some (.int .u8):=by kernel_rfl
theorem UR:Try.prog.underlying 2=some (.int .i64):=by kernel_rfl
theorem US:Try.prog.underlying 3=some (.int .i64):=by kernel_rfl
theorem QO:kP Try.prog 44=some 5:=by kernel_rfl
theorem UC:mG Try.prog 44=some true:=by kernel_rfl
noncomputable def OP:Bool:=match Try.prog.info? 44 with
 | some i=>match i.zero with
  | some z=>decide (z.cells.size=5∧i.size=5∧i.bytes≤1000)
  | none=>false
 | none=>false
theorem u3:∃i z,Try.prog.info? 44=some i∧i.zero=some z∧z.cells.size=5∧i.size=5∧i.bytes≤1000:=by
 have h:OP=true:=by kernel_rfl
 unfold OP at h
 split at h
 ·rename_i i hi
  split at h
  ·rename_i z hz
   exact⟨i,z,hi,hz,of_decide_eq_true h⟩
  ·cases h
 ·cases h
def vI(z:Int):Value:=.int .i64 z
def pg(g:Nat):Value:=.pointer (some ⟨g,0,none⟩)
theorem OQ(x y:Int):sE Try.prog .add 3 3 (dV (vI x)) (dV (vI y)) some=some (dV (vI (wr .i64 (x+y)))):=by rw[←fV];kernel_rfl
theorem OR(x y:Int):sE Try.prog .lss 3 3 (dV (vI x)) (dV (vI y)) some=some (dV (.bool (oG x y))):=by kernel_rfl
theorem OS(x y:Int):sE Try.prog .eql 3 3 (dV (vI x)) (dV (vI y)) some=some (dV (.bool (gP x y))):=by kernel_rfl
theorem zM(x y:Int):sE Try.prog .eql 30 30 (dV (vI x)) (dV (vI y)) some=some (dV (.bool (gP x y))):=by kernel_rfl
theorem QP(x:Int):sE Try.prog .rem 5 5 (dV (.int .u8 x)) (dV (.int .u8 5)) some=some (dV (.int .u8 (wT x 5))):=by
 have:sE Try.prog .rem 5 5 (dV (.int .u8 x)) (dV (.int .u8 5)) some=ob (nz 5) fun y=>some (dV (.int .u8 (wT x y))):=by kernel_rfl
 rw[this,IZ (by decide)];rfl
structure Wl (e:E) (cs:Array Value) (g:Nat) (w0 w:World) (lv:Value) (m:Nat):Prop where
 lo:w0.heap.size≤g
 box:w.heap[g]?=some (.cells cs 44 (0,0))
 sz:cs.size=5
 rd:RdT w (fun b=>blk lv=some b) (bV e).cells cs.toList
 row:rowAt w 44 5 lv m (List.replicate m cs.toList).flatten
 lb:∀b,blk lv=some b→w0.heap.size≤b∧b≠g
 stp:Stp (fun _=>False) w0 w
section
variable {e:E} {cs:Array Value} {g m:Nat} {w0 w w':World} {lv:Value}
theorem Wl.step(h:Wl e cs g w0 w lv m)(hs:Stp (fun _=>False) w w'):Wl e cs g w0 w' lv m:=
 ⟨h.lo,(hs.blk g (Array.getElem?_eq_some_iff.1 h.box).1 id).trans h.box,h.sz,h.rd.step hs (fun _ h=>h.elim) fun b hb=>.inl hb,h.row.step hs fun _ _ h=>h,h.lb,h.stp.trans hs⟩
theorem sK:∀m,flat ((rep m e).map bV)=(List.replicate m (bV e).cells).flatten
 | 0=>rfl
 | m+1=>by
  show flat (bV e::(rep m e).map bV)=_
  rw[dH,sK m];rfl
theorem J1{X:Nat→Prop}(h:RdT w X (bV e).cells cs.toList):∀m,RdT w X (List.replicate m (bV e).cells).flatten (List.replicate m cs.toList).flatten
 | 0=>⟨rfl,fun i t y h1 _=>by simp at h1⟩
 | m+1=>by
  rw[List.replicate_succ,List.replicate_succ,List.flatten_cons,List.flatten_cons]
  exact h.append (J1 h m)
theorem QQ(m:Nat):Uni 5 ((rep m e).map bV):=fun t ht=>by
 obtain⟨x,_,rfl⟩:=List.mem_map.1 ht
 rfl
theorem OT{X:Nat→Prop}(h:RdT w X (bV e).cells cs.toList){v:Value}(hr:rowAt w 44 5 v m (List.replicate m cs.toList).flatten):Rd w (fun _=>False) (.sl 5 ((rep m e).map bV)) v:=by
 have ho:okO w X (fun _=>none) v (.row false 44 5 ((rep m e).map bV)):=⟨⟨by decide,by decide⟩,QQ m,⟨_,by rw[List.length_map,jG];exact hr,by rw[sK];exact J1 h m⟩,fun h=>by cases h⟩
 exact mH ho (fun _ h=>h.elim) fun _ _ h=>h
theorem Wl.tree(h:Wl e cs g w0 w lv m):Rd w (fun _=>False) (.sl 5 ((rep m e).map bV)) lv:=OT h.rd h.row
theorem Wl.one(h:Wl e cs g w0 w lv m):lv.oneCell'=true:=rowAt.one h.row
theorem F3{α:Type}(l:List α):∀(m k:Nat),k≤m→(List.replicate m l).flatten.take (k*l.length)=(List.replicate k l).flatten
 | m,0,_=>by simp
 | 0,k+1,h=>by omega
 | m+1,k+1,h=>by
  rw[List.replicate_succ,List.replicate_succ,List.flatten_cons,List.flatten_cons,Nat.add_mul,Nat.one_mul,Nat.add_comm (k*l.length),List.take_append,List.take_of_length_le (by omega),Nat.add_sub_cancel_left,F3 l m k (by omega)]
theorem Wl.open_(h:Wl e cs g w0 w lv m)(hm:0<m):∃gb off cap,lv=.slice (some ⟨gb,off,none⟩) m cap∧m≤cap∧∀k,k≤m→rowAt w 44 5 (.slice (some ⟨gb,off,none⟩) k cap) k (List.replicate k cs.toList).flatten:=by
 rcases h.row.2 with⟨_,h0⟩ | ⟨gb,off,cap,cur,e1,h1,h2,h3,h4,h5,h6⟩
 ·omega
 ·refine⟨gb,off,cap,e1,h3,fun k hk=>⟨?_,.inr ⟨gb,off,cap,cur,rfl,h1,h2,by omega,h4,h5,?_⟩⟩⟩
  ·have hc:cs.toList.length=5:=by rw[Array.length_toList];exact h.sz
   have hu:(List.replicate k cs.toList).flatten.length=k*5:=by rw[List.length_flatten,List.map_replicate,List.sum_replicate_nat,hc]
   exact hu
  ·have h7:=F3 cs.toList m k hk
   rw[Array.length_toList,h.sz,←h6,List.take_take,Nat.min_eq_left (Nat.mul_le_mul_right _ hk)] at h7
   exact h7
theorem Wl.arg(h:Wl e cs g w0 w lv m):RdS w (fun _=>False) (fun _=>none) (.agg ((bV e).cells.map C.t)) (.agg cs):=
 ⟨cs,rfl,by rw[List.length_map];exact h.rd.1,fun i c y h1 h2=>by
  rw[List.getElem?_map] at h1
  cases ht:(bV e).cells[i]? with
  | none=>simp[ht] at h1
  | some t=>
   simp only[ht,Option.map_some,Option.some.injEq] at h1
   subst h1
   exact .inr ⟨(h.rd.2 i t y ht h2).1.weak fun _ h=>h.elim,(h.rd.2 i t y ht h2).2⟩⟩
theorem Wl.good{k:Nat→Prop}(h:Wl e cs g w0 w lv m)(hG:Good Try.prog w0 k):Good Try.prog w (fun _=>False):=fun q kd hq=>⟨id,let ⟨z,hz⟩:=(hG q kd hq).2;⟨z,h.stp.cell hz id⟩⟩
theorem Wl.app(h:Wl e cs g w0 w lv m){v':Value}(hr:rowAt w' 44 5 v' (m+1) ((List.replicate m cs.toList).flatten++cs.toList))(hg:w.grownBy w' (blk lv))(hb:blk v'=blk lv∨blk v'=some w.heap.size)(hk:rowAt w' 44 5 lv m (List.replicate m cs.toList).flatten):
 Wl e cs g w0 w' v' (m+1)∧Wl e cs g w0 w' lv m:=by
 have hs:Stp (fun b=>blk lv=some b) w w':=Stp.grown hg fun b e=>e
 have hgl:g<w.heap.size:=(Array.getElem?_eq_some_iff.1 h.box).1
 have hbox:w'.heap[g]?=some (.cells cs 44 (0,0)):=(hs.blk g hgl (fun e=>(h.lb g e).2 rfl)).trans h.box
 have hst:Stp (fun _=>False) w0 w':=h.stp.after hs fun b hb hlt=>by have:=(h.lb b hb).1;omega
 have hv:∀b,blk v'=some b→blk lv=some b∨w.heap.size≤b:=fun b e=>by
  rcases hb with hb | hb
  ·exact .inl (hb▸e)
  ·rw[hb] at e;cases e;exact .inr (Nat.le_refl _)
 refine⟨⟨h.lo,hbox,h.sz,h.rd.step hs (fun _ h=>h) hv,?_,fun b e=>?_,hst⟩,⟨h.lo,hbox,h.sz,h.rd.step hs (fun _ h=>h) fun b e=>.inl e,hk,h.lb,hst⟩⟩
 ·rw[List.replicate_succ',List.flatten_append]
  simpa using hr
 ·rcases hv b e with e | e
  ·exact h.lb b e
  ·exact⟨by have:=h.stp.size;omega,by omega⟩
end
theorem TM(l:List T)(e:E):((aB mA bT).call [.c (.t (.sl 5 l)),.agg ((bV e).cells.map C.t)] [] fun rs po=>some (rs,po))=ob (bT (l,e.s,e.k,a7 e.q,cA e.q,cE e.q,())) fun q=>some ([.c (.t (.sl 5 q.1)),.c (.t (.v (.int .i64 q.2.1)))],[]):=by kernel_rfl
theorem SM(l m:List T):((aB pQ cG).call [.c (.t (.sl 5 l)),.c (.t (.sl 5 m))] [] fun rs po=>some (rs,po))=ob (cG (l,m,())) fun q=>some ([.c (.t (.sl 5 q.1)),.c (.t (.v (.int .i64 q.2.1)))],[]):=by kernel_rfl
theorem QR(l:List T):((aB jY aV).call [.c (.t (.sl 5 l))] [] fun rs po=>some (rs,po))=ob (aV (l,())) fun q=>some ([.c (.t (.v (.bool q.1)))],[]):=by kernel_rfl
theorem SN:((aB dP bB).call [] [] fun rs po=>some (rs,po))=ob (bB ()) fun q=>some ([.c (.t (.v (.bool q.1)))],[]):=by kernel_rfl
theorem SO(x y:Int):((aB l9 bR).call [.c (.t (.v (.int .i64 x))),.c (.t (.v (.int .i64 y)))] [] fun rs po=>some (rs,po))=ob (bR (x,y,())) fun q=>some ([.agg [.t (.v (.bool q.1)),.t (.sl 1 q.2.1),.t (.sl 1 q.2.2.1)]],[]):=by kernel_rfl
theorem J2{w:World}{l:List T}{z:Int}{v:Value}(h:RdRes w (fun _=>False) (fun _=>none) [.c (.t (.sl 5 l)),.c (.t (.v (.int .i64 z)))] v):∃p c,v=.tuple #[.slice p l.length c,vI z]:=by
 obtain⟨vs,rfl,h1,h2⟩:=h
 obtain⟨l0⟩:=vs
 match l0,h1 with
 | [y0,y1],_=>
  have a0:=h2 0 _ y0 rfl rfl
  have a1:=h2 1 _ y1 rfl rfl
  rcases(a0:RdC1 _ _ _ _ _) with a0 | ⟨a0,_⟩
  ·cases a0
  rcases(a1:RdC1 _ _ _ _ _) with a1 | ⟨a1,_⟩
  ·cases a1
  have e1:=Rd.inv_v a1
  subst e1
  have a0:Rd w (fun _=>False) (.sl 5 l) y0:=a0
  cases a0 with
  | mp _ _ _ _ _ hbig=>omega
  | nil=>exact⟨none,0,rfl⟩
  | sl _ _ ad q ys=>exact⟨some ad,q,rfl⟩
theorem F4{w:World}{b:Bool}{v:Value}(h:RdRes w (fun _=>False) (fun _=>none) [.c (.t (.v (.bool b)))] v):v=.bool b:=by
 rcases(h:RdC1 _ _ _ _ _) with h | ⟨h,_⟩
 ·cases h
 ·exact Rd.inv_v h
theorem OU{w:World}{X:Nat→Prop}{ρ:cB}{s s':S1}{v v':Value}(h:RdS w X ρ s v)(h':RdS w X ρ s' v'):RdSs w X ρ [s,s'] [v,v']:=NY h h'
end Go.Eng.Lg
namespace Go.Eng.Lg
open Go.Eng Go.Eng.Rt Go.RowKit Go.Proofs
theorem RA{n:Int}(h0:0≤n)(h1:n≤255):vW (bM n 7)∧0≤u0 (bM n 7):=by
 have en:En 7 255 (bM n 7):=by
  rw[B1 (by omega)]
  obtain⟨n',rfl⟩:=Int.eq_ofNat_of_zero_le h0
  exact En.frac (by decide) (by decide) (by decide) (by simp;omega)
 refine⟨(en.sm (by decide) (by decide) (by decide)).fit,?_⟩
 have hn:=en.nn (by decide)
 unfold u0
 split
 ·exact Int.le_refl _
 ·have:a7 (bM n 7)=false:=hn
  rw[this];decide
def TZ(n k:Int):E:=⟨0,k,bM n 7⟩
theorem OV{n k:Int}(h0:0≤n)(h1:n≤255)(k0:1≤k)(k1:k≤5):eC (TZ n k)=true:=by
 unfold eC TZ
 simp only
 rw[decide_eq_true (show (0:Int)≤0 by omega),decide_eq_true (show (0:Int)≤2147483647 by omega),decide_eq_true k0,decide_eq_true k1,decide_eq_true (RA h0 h1).2];rfl
set_option maxRecDepth 4000 in
theorem TN{n kd:Int}(h0:0≤n)(h1:n≤255)(k0:0≤kd)(k1:kd≤255){w0:World}{F:Nat→Prop}{a:Act}{Q:Exit→Act→World→Prop}(hG:Good Try.prog w0 F)(hf:Fr 107 [(0,.int .u8 n),(1,.int .u8 kd)] a)
 (hn:∀a' w' cs g,Fr 107 [(5,pg g)] a'→Wl (TZ n (1+kd%5)) cs g w0 w' (.slice none 0 0) 0→Q .normal a' w'):(match i0 Try.f4 with | .seq _ (.seq r _)=>r | c=>c).wp Try.prog Q a w0:=by
 refine lA (by kernel_rfl) ?_
 refine aY hf rfl rfl (by decide) rfl fun a hf=>?_
 refine jV hf rfl rfl (by decide) rfl rfl rfl rfl (QP _) fun a hf=>?_
 refine bY hf rfl (by decide) (JP hf rfl ul5 US rfl) fun a hf=>?_
 refine jV hf rfl rfl (by decide) rfl rfl rfl rfl (OQ _ _) fun a hf=>?_
 refine aY hf rfl rfl (by decide) rfl fun a hf=>?_
 refine bY hf rfl (by decide) (JP hf rfl ul5 UR rfl) fun a hf=>?_
 have hkd:wT kd 5=kd%5:=by rw[CY,Int.tmod_eq_emod_of_nonneg k0]
 have e1:wr .i64 (wT kd 5)=kd%5:=by rw[hkd,zY (by omega) (by omega)]
 have e2:wr .i64 n=n:=zY (by omega) (by omega)
 rw[e1,e2,show wr .i64 (1+kd%5)=1+kd%5 from zY (by omega) (by omega)] at hf
 have hfr:=zJ (n:=n) (d:=7) (by omega) (by omega) (by decide) (by decide) (by decide)
 refine tF (args:=[.c (.t (.v (.int .i64 n))),.c (.t (.v (.int .i64 7)))]) hf rfl rfl rfl (by decide) ⟨_,Try.func14,by kernel_rfl,by kernel_rfl⟩ rfl tG (by rw[SO,hfr];rfl) (fun q kd hq=>⟨id,(hG q kd hq).2⟩) (OU (.inr ⟨.v _,rfl⟩) (.inr ⟨.v _,rfl⟩)) (fun v a w1 hf hs1 hr=>?_) rfl
 have hr':RdS w1 (fun _=>False) (fun _=>none) (.agg [.t (.v (.bool (a7 (bM n 7)))),.t (.sl 1 (cA (bM n 7))),.t (.sl 1 (cE (bM n 7)))]) v:=hr
 obtain⟨ys,rfl,y1,y2⟩:=hr'
 obtain⟨l0⟩:=ys
 match l0,y1 with
 | [y0,s1,s2],_=>
 have a0:=y2 0 _ y0 rfl rfl
 have a1:=y2 1 _ s1 rfl rfl
 have a2:=y2 2 _ s2 rfl rfl
 rcases(a0:RdC1 _ _ _ _ _) with a0 | ⟨a0,_⟩
 ·cases a0
 rcases(a1:RdC1 _ _ _ _ _) with a1 | ⟨a1,o1⟩
 ·cases a1
 rcases(a2:RdC1 _ _ _ _ _) with a2 | ⟨a2,o2⟩
 ·cases a2
 have e0:=Rd.inv_v a0
 subst e0
 have b1:Rd w1 (fun _=>False) (.sl 1 (cA (bM n 7))) s1:=a1
 have b2:Rd w1 (fun _=>False) (.sl 1 (cE (bM n 7))) s2:=a2
 refine bY hf rfl (by decide) (N3 (q:=[(1,vI (1+kd%5)),(2,.agg ⟨[.bool (a7 (bM n 7)),s1,s2]⟩)]) (ds:=[(1,dV (vI (1+kd%5))),(2,.s (.agg [.t (.v (.bool (a7 (bM n 7)))),.t (.v s1),.t (.v s2)]))]) (cs:=[vI 0,vI (1+kd%5),.bool (a7 (bM n 7)),s1,s2]) hf rfl rfl ⟨rfl,fun i p r h1 h2=>?_⟩ (by kernel_rfl)) fun a hf=>?_
 ·match i,h1,h2 with
  | 0,h1,h2=>cases h1;cases h2;exact⟨rfl,.val rfl⟩
  | 1,h1,h2=>
   cases h1;cases h2
   refine⟨rfl,_,rfl,rfl,fun i c y h1 h2=>?_⟩
   match i,h1,h2 with
   | 0,h1,h2=>cases h1;cases h2;exact .inr ⟨.v _,rfl⟩
   | 1,h1,h2=>cases h1;cases h2;exact .inr ⟨.v _,o1⟩
   | 2,h1,h2=>cases h1;cases h2;exact .inr ⟨.v _,o2⟩
 obtain⟨i44,z44,q1,q2,q3,q4,q5⟩:=u3
 refine N4 hf rfl rfl (by decide) q1 q2 fun a hf=>?_
 have hnew:(w1.alloc (.cells z44.cells 44)).heap[w1.heap.size]?=some (.cells z44.cells 44 (0,0)):=heap_alloc_new w1 _
 refine LR (cs:=[vI 0,vI (1+kd%5),.bool (a7 (bM n 7)),s1,s2].toArray) hf rfl rfl QO rfl rfl (fun v hv=>?_) hnew q3 fun a hf=>?_
 ·simp only[List.mem_cons,List.not_mem_nil,or_false] at hv
  rcases hv with rfl | rfl | rfl | rfl | rfl
  ·rfl
  ·rfl
  ·rfl
  ·exact o1
  ·exact o2
 have hs2:Stp (fun _=>False) w0 ((w1.alloc (.cells z44.cells 44)).setRow w1.heap.size [vI 0,vI (1+kd%5),.bool (a7 (bM n 7)),s1,s2].toArray):=
  (hs1.trans (Stp.alloc _ w1 (.cells z44.cells 44))).after (cJ (w1.alloc (.cells z44.cells 44)) w1.heap.size _) fun b hb hlt=>by have:=hs1.size;omega
 have hs3:Stp (fun _=>False) w1 ((w1.alloc (.cells z44.cells 44)).setRow w1.heap.size [vI 0,vI (1+kd%5),.bool (a7 (bM n 7)),s1,s2].toArray):=
  (Stp.alloc _ w1 (.cells z44.cells 44)).after (cJ (w1.alloc (.cells z44.cells 44)) w1.heap.size _) fun b hb hlt=>by omega
 refine hn a _ _ _ (hf.weak ⟨rfl,trivial⟩) ⟨hs1.size,setRow_heap _ _ _ _ _ _ hnew,rfl,⟨rfl,fun i t y h1 h2=>?_⟩,rowAt.nil _ _ _,fun b h=>(by cases h),hs2⟩
 have nx:∀b,¬(blk (Value.slice none 0 0)=some b):=fun b h=>by cases h
 match i,h1,h2 with
 | 0,h1,h2=>cases h1;cases h2;exact⟨.v _,rfl⟩
 | 1,h1,h2=>cases h1;cases h2;exact⟨.v _,rfl⟩
 | 2,h1,h2=>cases h1;cases h2;exact⟨.v _,rfl⟩
 | 3,h1,h2=>cases h1;cases h2;exact⟨b1.step hs3 (fun _ h=>h.elim) fun b h=>(nx b h).elim,o1⟩
 | 4,h1,h2=>cases h1;cases h2;exact⟨b2.step hs3 (fun _ h=>h.elim) fun b h=>(nx b h).elim,o2⟩
end Go.Eng.Lg
namespace Go.Eng.Lg
open Go.Eng Go.Eng.Rt Go.RowKit Go.Proofs
def gC:List Nat→Code→Code
 | [],c=>c
 | 0::p,.seq x _=>gC p x
 | _::p,.seq _ y=>gC p y
 | 0::p,.cond _ x _=>gC p x
 | _::p,.cond _ _ y=>gC p y
 | _::p,.block _ x=>gC p x
 | _::p,.loop x=>gC p x
 | _::_,c=>c
def iN:Code→Array Oper
 | .region _ ops _=>ops
 | _=>#[]
section
variable {e:E} {cs:Array Value} {g m k n d:Nat} {w0 w w':World} {lv:Value} {env:List (Nat×Value)} {a:Act} {Q:Exit→Act→World→Prop} {next:Act→World→Prop} {o:Oper}
theorem Wl.lenc(h:Wl e cs g w0 w lv m):cs.toList.length=5:=by rw[Array.length_toList];exact h.sz
theorem Wl.one1(h:Wl e cs g w0 w lv m):∀u∈cs.toList,u.oneCell'=true:=fun u hu=>by
 obtain⟨i,hi,rfl⟩:=List.getElem_of_mem hu
 have hl:=h.rd.1
 exact(h.rd.2 i _ _ (List.getElem?_eq_getElem (by omega)) (List.getElem?_eq_getElem hi)).2
theorem zN{x:Operand}(h:Wl e cs g w0 w lv m)(hf:Fr n env a)(hop:o.op=.buildSlice 26 1 #[(0,x)])(hd:o.dst=some d)(hlt:d<n)(hx:sD env x=some (.agg cs))
 (hn:∀a' gb w',Fr n ((d,.slice (some ⟨gb,0,none⟩) 1 1)::env) a'→Wl e cs g w0 w' lv m→rowAt w' 44 5 (.slice (some ⟨gb,0,none⟩) 1 1) 1 cs.toList→next a' w'):o.wp Try.prog a w next Q:=by
 obtain⟨i,z,q1,q2,q3,q4,q5⟩:=u3
 refine R5 hf hop hd hlt H6 q1 q2 (by rw[q3,h.sz]) (by rw[q4,h.sz]) (by rw[h.sz];decide) (by rw[h.sz];decide) hx fun a' hf=>?_
 have hr:=LS w 44 cs (by rw[h.sz];decide)
 rw[h.sz] at hr
 exact hn a' _ _ hf (h.step (Stp.alloc _ _ _)) hr
theorem qH{x y:Operand}{gb:Nat}(h:Wl e cs g w0 w lv m)(hm:m≤1024)(hrow:rowAt w 44 5 (.slice (some ⟨gb,0,none⟩) 1 1) 1 cs.toList)(hf:Fr n env a)(hop:o.op=.call { callee:=.builtin .append,args:=#[x,y],argTypes:=#[26,26] })(hd:o.dst=some d)(hlt:d<n)(hx:sD env x=some lv)(hy:sD env y=some (.slice (some ⟨gb,0,none⟩) 1 1))
 (hn:∀a' v' w',Fr n ((d,v')::env) a'→Wl e cs g w0 w' v' (m+1)→Wl e cs g w0 w' lv m→next a' w'):o.wp Try.prog a w next Q:=by
 obtain⟨i,z,q1,q2,q3,q4,q5⟩:=u3
 have hsrc:Src Try.prog 5 26 (.slice (some ⟨gb,0,none⟩) 1 1) 1 cs.toList w:=
  .ofSlice _ H6 ⟨gb,0,none⟩ _ _ _ (by rw[h.lenc]) (fun j u hj=>hrow.cells rfl j u hj) h.one1
 refine HU (m:=m) (q:=1) (xs:=(List.replicate m cs.toList).flatten) (news:=cs.toList) hf hop hd hlt H6 q1 q2 (by rw[q3,q4]) (by omega) hx hy (by rw[q4];exact h.row) (by rw[q4];exact hsrc) (by simp only[maxLen];omega) ?_ fun a' v' w' hf hr hg hb hk=>?_
 ·calc (m+1)*i.bytes≤1025*1000:=Nat.mul_le_mul (by omega) q5
   _≤_:=by decide
 ·rw[q4] at hr hk
  have:=h.app hr hg hb hk
  exact hn a' v' w' hf this.1 this.2
theorem SP{x:Operand}(h:Wl e cs g w0 w lv m)(hf:Fr n env a)(hop:o.op=.load 44 x)(hx:sD env x=some (pg g)):(execOp a.eval o).run Try.prog w=.ok (.value (.agg cs)) w:=
 N5 hf hop (by rw[h.sz];exact QO) UC hx h.box
theorem fT{x:Operand}(h:Wl e cs g w0 w lv m)(hf:Fr n env a)(hop:o.op=.load 44 x)(hd:o.dst=some d)(hlt:d<n)(hx:sD env x=some (pg g))(hn:∀a',Fr n ((d,.agg cs)::env) a'→next a' w):o.wp Try.prog a w next Q:=
 bY hf hd hlt (SP h hf hop hx) hn
theorem Wl.shape(h:Wl e cs g w0 w lv m)(hm:0<m):∃gb off cap,lv=.slice (some ⟨gb,off,none⟩) m cap∧m≤cap:=by
 obtain⟨gb,off,cap,h1,h2,_⟩:=h.open_ hm
 exact⟨gb,off,cap,h1,h2⟩
theorem Wl.part{gb off cap:Nat}(h:Wl e cs g w0 w (.slice (some ⟨gb,off,none⟩) m cap) m)(hm:0<m)(hk:k≤m):RdC1 w (fun _=>False) (fun _=>none) (.t (.sl 5 ((rep k e).map bV))) (.slice (some ⟨gb,off,none⟩) k cap):=by
 obtain⟨gb',off',cap',h1,h2,h3⟩:=h.open_ hm
 cases h1
 exact .inr ⟨OT h.rd (h3 k hk),rowAt.one (h3 k hk)⟩
theorem Wl.whole(h:Wl e cs g w0 w lv m):RdC1 w (fun _=>False) (fun _=>none) (.t (.sl 5 ((rep m e).map bV))) lv:=.inr ⟨h.tree,h.one⟩
theorem T8:eN Try.prog 15:=⟨_,Try.func15,by kernel_rfl,by kernel_rfl⟩
theorem T9:eN Try.prog 16:=⟨_,Try.func16,by kernel_rfl,by kernel_rfl⟩
theorem UA:eN Try.prog 17:=⟨_,Try.func17,by kernel_rfl,by kernel_rfl⟩
theorem k6:eN Try.prog 6:=⟨_,Try.func6,by kernel_rfl,by kernel_rfl⟩
theorem H7{c:Call}{v:Value}{k:Nat}{l:List T}{z:Int}(hG:Good Try.prog w0 fun _=>False)(h:Wl e cs g w0 w lv m)(hf:Fr n env a)(hop:o.op=.call c)(hc:c.callee=.value (.func 15))(hd:o.dst=some d)(hlt:d<n)(hv:P3 env c.args.toList=some [v,.agg cs])
 (hr:RdC1 w (fun _=>False) (fun _=>none) (.t (.sl 5 ((rep k e).map bV))) v) (hu:bT ((rep k e).map bV,e.s,e.k,a7 e.q,cA e.q,cE e.q,())=some (l,z,()))
 (hn:∀a' w' p q,Fr n ((d,.tuple #[.slice p l.length q,vI z])::env) a'→Wl e cs g w0 w' lv m→next a' w'):o.wp Try.prog a w next Q:=by
 refine tF (args:=[.c (.t (.sl 5 ((rep k e).map bV))),.agg ((bV e).cells.map C.t)]) hf hop hc hd hlt T8 hv DX (by rw[TM,hu];rfl) (h.good hG) (OU hr h.arg) (fun v a' w' hf hs hr=>?_) rfl
 obtain⟨p,q,rfl⟩:=J2 hr
 exact hn a' w' p q hf (h.step hs)
theorem J3{c:Call}{v v2:Value}{l1 l2 l:List T}{z:Int}(hG:Good Try.prog w0 fun _=>False)(h:Wl e cs g w0 w lv m)(hf:Fr n env a)(hop:o.op=.call c)(hc:c.callee=.value (.func 16))(hd:o.dst=some d)(hlt:d<n)(hv:P3 env c.args.toList=some [v,v2])
 (hr:RdC1 w (fun _=>False) (fun _=>none) (.t (.sl 5 l1)) v) (hr2:RdC1 w (fun _=>False) (fun _=>none) (.t (.sl 5 l2)) v2) (hu:cG (l1,l2,())=some (l,z,()))
 (hn:∀a' w' p q,Fr n ((d,.tuple #[.slice p l.length q,vI z])::env) a'→Wl e cs g w0 w' lv m→next a' w'):o.wp Try.prog a w next Q:=by
 refine tF (args:=[.c (.t (.sl 5 l1)),.c (.t (.sl 5 l2))]) hf hop hc hd hlt T9 hv AO (by rw[SM,hu];rfl) (h.good hG) (OU hr hr2) (fun v a' w' hf hs hr=>?_) rfl
 obtain⟨p,q,rfl⟩:=J2 hr
 exact hn a' w' p q hf (h.step hs)
set_option maxRecDepth 20000 in
theorem TO{c:Code}(hc:c=gC [1,1,1,0,1] (i0 Try.f4))(hw:Wl e cs g w0 w (.slice none 0 0) 0)(hf:Fr 107 [(7,vI 0),(6,.slice none 0 0),(5,pg g)] a)
 (hn:∀a' w' lv,Fr 107 [(6,lv),(5,pg g)] a'→Wl e cs g w0 w' lv 1024→Q .normal a' w'):c.wp Try.prog Q a w:=by
 subst hc
 obtain⟨M,hM⟩:∃M:Nat,M=1024:=⟨_,rfl⟩
 refine wp_block (N1 (m:=M) (fun m a w=>∃i lv,i+m=M∧Fr 107 [(7,vI ((i:Nat):Int)),(6,lv),(5,pg g)] a∧Wl e cs g w0 w lv i) ?_ ?_ ⟨0,_,Nat.zero_add _,hf,hw⟩)
 ·rintro K a w ⟨i,lv,hi,hf,hw⟩
  refine wp_seq (wp_seq (lA (by kernel_rfl) ?_))
  refine aY hf rfl rfl (by decide) rfl fun a hf=>?_
  refine jV hf rfl rfl (by decide) rfl rfl rfl rfl (OR _ _) fun a hf=>?_
  have he:oG (i:Int) 1024=false:=by rw[b6];exact decide_eq_false (by omega)
  refine wp_cond_false (by rw[hf.ev (x:=.tmp 27) rfl,he]) (wp_exit ?_)
  have:i=1024:=by omega
  subst this
  exact hn a w lv (hf.weak ⟨rfl,rfl,trivial⟩) hw
 ·rintro m K hK a w ⟨i,lv,hi,hf,hw⟩
  refine wp_seq (wp_seq (lA (by kernel_rfl) ?_))
  refine aY hf rfl rfl (by decide) rfl fun a hf=>?_
  refine jV hf rfl rfl (by decide) rfl rfl rfl rfl (OR _ _) fun a hf=>?_
  have he:oG (i:Int) 1024=true:=by rw[b6];exact decide_eq_true (by omega)
  refine wp_cond_true (by rw[hf.ev (x:=.tmp 27) rfl,he]) (wp_skip ?_)
  refine wp_seq (wp_block (lA (by kernel_rfl) ?_))
  refine aY hf rfl rfl (by decide) rfl fun a hf=>?_
  refine fT hw hf rfl rfl (by decide) rfl fun a hf=>?_
  refine zN hw hf rfl rfl (by decide) rfl fun a gb w hf hw hr=>?_
  refine qH hw (by omega) hr hf rfl rfl (by decide) rfl rfl fun a v' w hf hw _=>?_
  refine bU hf rfl rfl (by decide) rfl fun a hf=>?_
  refine lA (by kernel_rfl) ?_
  refine aY hf rfl rfl (by decide) rfl fun a hf=>?_
  refine jV hf rfl rfl (by decide) rfl rfl rfl rfl (OQ _ _) fun a hf=>?_
  refine bU hf rfl rfl (by decide) rfl fun a hf=>?_
  refine hK a w ⟨i+1,v',by omega,?_,hw⟩
  rw[show wr .i64 ((i:Int)+1)=((i+1:Nat):Int) from(zY (by omega) (by omega)).trans (by omega)] at hf
  exact hf.weak ⟨rfl,rfl,rfl,trivial⟩
end
end Go.Eng.Lg
namespace Go.Eng.Lg
open Go.Eng Go.Eng.Rt Go.RowKit Go.Proofs
section
variable {e:E} {cs:Array Value} {g m k n d:Nat} {w0 w w':World} {lv:Value} {env:List (Nat×Value)} {a:Act} {Q:Exit→Act→World→Prop} {next:Act→World→Prop} {o:Oper}
theorem RB{gb off:Nat}:(⟨gb,off,none⟩:Addr).add (0*5)=⟨gb,off,none⟩:=rfl
theorem TP{m:Nat}:((rep m e++[e]).map bV).length=m+1:=by rw[List.length_map,List.length_append,jG];rfl
def pR(k:Nat):List Nat:=[1,1,1]++List.replicate k 1++[0]
set_option maxRecDepth 20000 in
theorem TQ{c:Code}(hc:c=gC (pR 1) (i0 Try.f4))(he:vW e.q)(hg:eC e=true)(hG:Good Try.prog w0 fun _=>False)(hQ:∀c a d v w,Q (.panic c) (a.put d v) w→Q (.panic c) a w)
 (hw:Wl e cs g w0 w lv 1024) (hf:Fr 107 [(6,lv),(5,pg g)] a)
 (hn:∀a' w' p q,Fr 107 [(9,vI 0),(8,.slice p 1024 q),(6,lv),(5,pg g)] a'→Wl e cs g w0 w' lv 1024→Q .normal a' w'):c.wp Try.prog Q a w:=by
 subst hc
 obtain⟨gb,off,cap,rfl,hcap⟩:=hw.shape (by decide)
 have hw:=hw.step (Stp.drew (fun _=>False) w)
 refine wp_region_any a8 ?_
 refine lB (ops:=iN (gC (pR 1) (i0 Try.f4))) (i:=0) (fuel:=8) hf rfl (by kernel_rfl) (by kernel_rfl) (by kernel_rfl) hQ rfl rfl (by decide) (fun w=>DL hf rfl rfl) fun a hf=>?_
 refine lB (ops:=iN (gC (pR 1) (i0 Try.f4))) (i:=1) (fuel:=7) hf rfl (by kernel_rfl) (by kernel_rfl) (by kernel_rfl) hQ rfl rfl (by decide) (fun w=>BT (i:=1023) hf rfl H6 QO rfl rfl (by decide) (by decide) hcap (by omega)) fun a hf=>?_
 rw[RB,show (1023:Int).toNat=1023 from rfl] at hf
 refine fL (i:=2) (fuel:=6) (by kernel_rfl) rfl rfl ?_
 refine fT hw hf rfl rfl (by decide) rfl fun a hf=>?_
 refine fL (i:=3) (fuel:=5) (by kernel_rfl) rfl rfl ?_
 refine H7 hG hw hf rfl rfl rfl (by decide) rfl (hw.part (k:=1023) (by decide) (by decide)) (TL he hg (by decide)) fun a w p q hf hw=>?_
 rw[TP] at hf
 refine fL (i:=4) (fuel:=4) (by kernel_rfl) rfl rfl ?_
 refine aY hf rfl rfl (by decide) rfl fun a hf=>?_
 refine lB (ops:=iN (gC (pR 1) (i0 Try.f4))) (i:=5) (fuel:=3) hf rfl (by kernel_rfl) (by kernel_rfl) (by kernel_rfl) hQ rfl rfl (by decide) (fun w=>dE hf rfl rfl rfl) fun a hf=>?_
 refine lB (ops:=iN (gC (pR 1) (i0 Try.f4))) (i:=6) (fuel:=2) hf rfl (by kernel_rfl) (by kernel_rfl) (by kernel_rfl) hQ rfl rfl (by decide) (fun w=>dE hf rfl rfl rfl) fun a hf=>?_
 refine fL (i:=7) (fuel:=1) (by kernel_rfl) rfl rfl ?_
 refine bU hf rfl rfl (by decide) rfl fun a hf=>?_
 refine fL (i:=8) (fuel:=0) (by kernel_rfl) rfl rfl ?_
 refine bU hf rfl rfl (by decide) rfl fun a hf=>?_
 exact wpAny_done (by kernel_rfl) (hn a w p q (hf.weak ⟨rfl,rfl,rfl,rfl,trivial⟩) hw) _
set_option maxRecDepth 20000 in
theorem TR{c:Code}{p8:Option Addr}{q8:Nat}(hc:c=gC (pR 2) (i0 Try.f4))(he:vW e.q)(hg:eC e=true)(hG:Good Try.prog w0 fun _=>False)
 (hw:Wl e cs g w0 w lv 1024) (hf:Fr 107 [(9,vI 0),(8,.slice p8 1024 q8),(6,lv),(5,pg g)] a)
 (hn:∀a' w',Fr 107 [(11,vI 2),(9,vI 0),(8,.slice p8 1024 q8),(6,lv),(5,pg g)] a'→Wl e cs g w0 w' lv 1024→Q .normal a' w'):c.wp Try.prog Q a w:=by
 subst hc
 refine lA (by kernel_rfl) ?_
 refine aY hf rfl rfl (by decide) rfl fun a hf=>?_
 refine fT hw hf rfl rfl (by decide) rfl fun a hf=>?_
 refine H7 hG hw hf rfl rfl rfl (by decide) rfl hw.whole (LX he hg) fun a w p q hf hw=>?_
 refine aY hf rfl rfl (by decide) rfl fun a hf=>?_
 refine bY hf rfl (by decide) (dE hf rfl rfl rfl) fun a hf=>?_
 refine bY hf rfl (by decide) (dE hf rfl rfl rfl) fun a hf=>?_
 refine bU hf rfl rfl (by decide) rfl fun a hf=>?_
 refine bU hf rfl rfl (by decide) rfl fun a hf=>?_
 exact hn a w (hf.weak ⟨rfl,rfl,rfl,rfl,rfl,trivial⟩) hw
set_option maxRecDepth 20000 in
theorem TS{c:Code}{p8:Option Addr}{q8:Nat}(hc:c=gC (pR 3) (i0 Try.f4))(he:vW e.q)(hg:eC e=true)(hG:Good Try.prog w0 fun _=>False)
 (hw:Wl e cs g w0 w lv 1024) (hf:Fr 107 [(11,vI 2),(9,vI 0),(8,.slice p8 1024 q8),(6,lv),(5,pg g)] a)
 (hn:∀a' w',Fr 107 [(13,vI 2),(11,vI 2),(9,vI 0),(8,.slice p8 1024 q8),(6,lv),(5,pg g)] a'→Wl e cs g w0 w' lv 1024→Q .normal a' w'):c.wp Try.prog Q a w:=by
 subst hc
 obtain⟨gb,off,cap,rfl,hcap⟩:=hw.shape (by decide)
 refine lA (by kernel_rfl) ?_
 refine aY hf rfl rfl (by decide) rfl fun a hf=>?_
 refine aY hf rfl rfl (by decide) rfl fun a hf=>?_
 refine bY hf rfl (by decide) (BT (i:=1) hf rfl H6 QO rfl rfl (by decide) (by decide) hcap (by omega)) fun a hf=>?_
 rw[RB,show (1:Int).toNat=1 from rfl] at hf
 refine J3 hG hw hf rfl rfl rfl (by decide) rfl hw.whole (hw.part (k:=1) (by decide) (by decide)) (H5 he hg) fun a w p q hf hw=>?_
 refine aY hf rfl rfl (by decide) rfl fun a hf=>?_
 refine bY hf rfl (by decide) (dE hf rfl rfl rfl) fun a hf=>?_
 refine bY hf rfl (by decide) (dE hf rfl rfl rfl) fun a hf=>?_
 refine bU hf rfl rfl (by decide) rfl fun a hf=>?_
 refine bU hf rfl rfl (by decide) rfl fun a hf=>?_
 exact hn a w (hf.weak ⟨rfl,rfl,rfl,rfl,rfl,rfl,trivial⟩) hw
set_option maxRecDepth 20000 in
theorem SQ{c:Code}{p8:Option Addr}{q8:Nat}(hc:c=gC (pR 4) (i0 Try.f4))(he:vW e.q)(hg:eC e=true)(hG:Good Try.prog w0 fun _=>False)
 (hw:Wl e cs g w0 w lv 1024) (hf:Fr 107 [(13,vI 2),(11,vI 2),(9,vI 0),(8,.slice p8 1024 q8),(6,lv),(5,pg g)] a)
 (hn:∀a' w' p q,Fr 107 [(15,vI 0),(14,.slice p 1024 q),(13,vI 2),(11,vI 2),(9,vI 0),(8,.slice p8 1024 q8),(6,lv),(5,pg g)] a'→Wl e cs g w0 w' lv 1024→Q .normal a' w'):c.wp Try.prog Q a w:=by
 subst hc
 refine lA (by kernel_rfl) ?_
 refine aY hf rfl rfl (by decide) rfl fun a hf=>?_
 refine J3 (l2:=[]) hG hw hf rfl rfl rfl (by decide) rfl hw.whole (.inr ⟨.nil _ (by decide),rfl⟩) (LY he hg) fun a w p q hf hw=>?_
 rw[List.length_map,jG] at hf
 refine aY hf rfl rfl (by decide) rfl fun a hf=>?_
 refine bY hf rfl (by decide) (dE hf rfl rfl rfl) fun a hf=>?_
 refine bY hf rfl (by decide) (dE hf rfl rfl rfl) fun a hf=>?_
 refine bU hf rfl rfl (by decide) rfl fun a hf=>?_
 refine bU hf rfl rfl (by decide) rfl fun a hf=>?_
 exact hn a w p q (hf.weak ⟨rfl,rfl,rfl,rfl,rfl,rfl,rfl,rfl,trivial⟩) hw
set_option maxRecDepth 20000 in
set_option maxHeartbeats 4000000 in
theorem SR{c:Code}{p8 pE:Option Addr}{q8 qE:Nat}(hc:c=gC (pR 5) (i0 Try.f4))(he:vW e.q)(hG:Good Try.prog w0 fun _=>False)(hQ:∀c a d v w,Q (.panic c) (a.put d v) w→Q (.panic c) a w)
 (hw:Wl e cs g w0 w lv 1024) (hf:Fr 107 [(15,vI 0),(14,.slice pE 1024 qE),(13,vI 2),(11,vI 2),(9,vI 0),(8,.slice p8 1024 q8),(6,lv),(5,pg g)] a)
 (hn:∀a' w',Fr 107 [(17,vI 1),(15,vI 0),(14,.slice pE 1024 qE),(13,vI 2),(11,vI 2),(9,vI 0),(8,.slice p8 1024 q8),(6,lv),(5,pg g)] a'→Wl e cs g w0 w' lv 1024→Q .normal a' w'):c.wp Try.prog Q a w:=by
 subst hc
 have tail:∀(listed:Array Bool) a w v63,Region.ready .any (iN (gC (pR 5) (i0 Try.f4))) listed=[5]→Region.ready .any (iN (gC (pR 5) (i0 Try.f4))) (listed.setIfInBounds 5 true)=[6]→(Region.ready .any (iN (gC (pR 5) (i0 Try.f4))) ((listed.setIfInBounds 5 true).setIfInBounds 6 true)).contains 7=true→Region.free .any (iN (gC (pR 5) (i0 Try.f4))) ((listed.setIfInBounds 5 true).setIfInBounds 6 true) 7=true→(Region.ready .any (iN (gC (pR 5) (i0 Try.f4))) (((listed.setIfInBounds 5 true).setIfInBounds 6 true).setIfInBounds 7 true)).contains 8=true→Region.free .any (iN (gC (pR 5) (i0 Try.f4))) (((listed.setIfInBounds 5 true).setIfInBounds 6 true).setIfInBounds 7 true) 8=true→Region.ready .any (iN (gC (pR 5) (i0 Try.f4))) ((((listed.setIfInBounds 5 true).setIfInBounds 6 true).setIfInBounds 7 true).setIfInBounds 8 true)=[9]→Region.ready .any (iN (gC (pR 5) (i0 Try.f4))) (((((listed.setIfInBounds 5 true).setIfInBounds 6 true).setIfInBounds 7 true).setIfInBounds 8 true).setIfInBounds 9 true)=[10]→Region.ready .any (iN (gC (pR 5) (i0 Try.f4))) ((((((listed.setIfInBounds 5 true).setIfInBounds 6 true).setIfInBounds 7 true).setIfInBounds 8 true).setIfInBounds 9 true).setIfInBounds 10 true)=[]→Region.noSelect (iN (gC (pR 5) (i0 Try.f4)))=true →
  Fr 107 [(63,v63),(64,.agg cs),(15,vI 0),(14,.slice pE 1024 qE),(13,vI 2),(11,vI 2),(9,vI 0),(8,.slice p8 1024 q8),(6,lv),(5,pg g)] a→Wl e cs g w0 w lv 1024→Wl e cs g w0 w v63 1025→wpAny Try.prog .any (iN (gC (pR 5) (i0 Try.f4))) Q 6 listed a w:=by
  intro listed a w v63 r5 r6 r7 f7 r8 f8 r9 r10 r11 ns hf hw hv
  refine fL r5 rfl rfl ?_
  refine H7 hG hw hf rfl rfl rfl (by decide) rfl hv.whole (OO he) fun a w p q hf hw=>?_
  refine fL r6 rfl rfl ?_
  refine aY hf rfl rfl (by decide) rfl fun a hf=>?_
  refine lB (ops:=(iN (gC (pR 5) (i0 Try.f4)))) (i:=7) (fuel:=3) hf rfl ns f7 r7 hQ rfl rfl (by decide) (fun w=>dE hf rfl rfl rfl) fun a hf=>?_
  refine lB (ops:=(iN (gC (pR 5) (i0 Try.f4)))) (i:=8) (fuel:=2) hf rfl ns f8 r8 hQ rfl rfl (by decide) (fun w=>dE hf rfl rfl rfl) fun a hf=>?_
  refine fL r9 rfl rfl ?_
  refine bU hf rfl rfl (by decide) rfl fun a hf=>?_
  refine fL r10 rfl rfl ?_
  refine bU hf rfl rfl (by decide) rfl fun a hf=>?_
  exact wpAny_done r11 (hn a w (hf.weak ⟨rfl,rfl,rfl,rfl,rfl,rfl,rfl,rfl,rfl,trivial⟩) hw) _
 have hw:=hw.step (Stp.drew (fun _=>False) w)
 refine wp_region_any a8 ?_
 refine lB (ops:=(iN (gC (pR 5) (i0 Try.f4)))) (i:=0) (fuel:=10) hf rfl (by kernel_rfl) (by kernel_rfl) (by kernel_rfl) hQ rfl rfl (by decide) (fun w=>DL hf rfl rfl) fun a hf=>?_
 refine DN (i:=1) (j:=4) (fuel:=9) (by kernel_rfl) rfl rfl rfl rfl ?_ ?_
 ·refine fT hw hf rfl rfl (by decide) rfl fun a hf=>?_
  refine DN (i:=2) (j:=4) (fuel:=8) (by kernel_rfl) rfl rfl rfl rfl ?_ ?_
  ·refine zN hw hf rfl rfl (by decide) rfl fun a gb w hf hw hr=>?_
   refine DN (i:=3) (j:=4) (fuel:=7) (by kernel_rfl) rfl rfl rfl rfl ?_ ?_
   ·refine qH hw (by decide) hr hf rfl rfl (by decide) rfl rfl fun a v' w hf hv hw=>?_
    refine fL (i:=4) (fuel:=6) (by kernel_rfl) rfl rfl ?_
    refine fT hw hf rfl rfl (by decide) rfl fun a hf=>?_
    exact tail _ a _ _ (by kernel_rfl) (by kernel_rfl) (by kernel_rfl) (by kernel_rfl) (by kernel_rfl) (by kernel_rfl) (by kernel_rfl) (by kernel_rfl) (by kernel_rfl) (by kernel_rfl) (hf.weak ⟨rfl,rfl,rfl,rfl,rfl,rfl,rfl,rfl,rfl,rfl,trivial⟩) hw hv
   ·refine fT hw hf rfl rfl (by decide) rfl fun a hf=>?_
    refine fL (i:=3) (fuel:=6) (by kernel_rfl) rfl rfl ?_
    refine qH hw (by decide) hr hf rfl rfl (by decide) rfl rfl fun a v' w hf hv hw=>?_
    exact tail _ a _ _ (by kernel_rfl) (by kernel_rfl) (by kernel_rfl) (by kernel_rfl) (by kernel_rfl) (by kernel_rfl) (by kernel_rfl) (by kernel_rfl) (by kernel_rfl) (by kernel_rfl) (hf.weak ⟨rfl,rfl,rfl,rfl,rfl,rfl,rfl,rfl,rfl,rfl,trivial⟩) hw hv
  ·refine fT hw hf rfl rfl (by decide) rfl fun a hf=>?_
   refine fL (i:=2) (fuel:=7) (by kernel_rfl) rfl rfl ?_
   refine zN hw hf rfl rfl (by decide) rfl fun a gb w hf hw hr=>?_
   refine fL (i:=3) (fuel:=6) (by kernel_rfl) rfl rfl ?_
   refine qH hw (by decide) hr hf rfl rfl (by decide) rfl rfl fun a v' w hf hv hw=>?_
   exact tail _ a _ _ (by kernel_rfl) (by kernel_rfl) (by kernel_rfl) (by kernel_rfl) (by kernel_rfl) (by kernel_rfl) (by kernel_rfl) (by kernel_rfl) (by kernel_rfl) (by kernel_rfl) (hf.weak ⟨rfl,rfl,rfl,rfl,rfl,rfl,rfl,rfl,rfl,rfl,trivial⟩) hw hv
 ·refine fT hw hf rfl rfl (by decide) rfl fun a hf=>?_
  refine fL (i:=1) (fuel:=8) (by kernel_rfl) rfl rfl ?_
  refine fT hw hf rfl rfl (by decide) rfl fun a hf=>?_
  refine fL (i:=2) (fuel:=7) (by kernel_rfl) rfl rfl ?_
  refine zN hw hf rfl rfl (by decide) rfl fun a gb w hf hw hr=>?_
  refine fL (i:=3) (fuel:=6) (by kernel_rfl) rfl rfl ?_
  refine qH hw (by decide) hr hf rfl rfl (by decide) rfl rfl fun a v' w hf hv hw=>?_
  exact tail _ a _ _ (by kernel_rfl) (by kernel_rfl) (by kernel_rfl) (by kernel_rfl) (by kernel_rfl) (by kernel_rfl) (by kernel_rfl) (by kernel_rfl) (by kernel_rfl) (by kernel_rfl) (hf.weak ⟨rfl,rfl,rfl,rfl,rfl,rfl,rfl,rfl,rfl,rfl,trivial⟩) hw hv
end
end Go.Eng.Lg
namespace Go.Eng.Lg
open Go.Eng Go.Eng.Rt Go.RowKit Go.Proofs
section
variable {e:E} {cs:Array Value} {g m k n d:Nat} {w0 w w':World} {lv:Value} {env:List (Nat×Value)} {a:Act} {Q:Exit→Act→World→Prop} {next:Act→World→Prop} {o:Oper}
theorem OW{c:Call}{v:Value}{l:List T}{b:Bool}(hG:Good Try.prog w0 fun _=>False)(h:Wl e cs g w0 w lv m)(hf:Fr n env a)(hop:o.op=.call c)(hc:c.callee=.value (.func 17))(hd:o.dst=some d)(hlt:d<n)(hv:P3 env c.args.toList=some [v])
 (hr:RdC1 w (fun _=>False) (fun _=>none) (.t (.sl 5 l)) v) (hu:aV (l,())=some (b,()))
 (hn:∀a' w',Fr n ((d,.bool b)::env) a'→Wl e cs g w0 w' lv m→next a' w'):o.wp Try.prog a w next Q:=by
 refine tF (args:=[.c (.t (.sl 5 l))]) hf hop hc hd hlt UA hv iD (by rw[QR,hu];rfl) (h.good hG) ⟨rfl,fun i s y h1 h2=>?_⟩ (fun v a' w' hf hs hr=>?_) rfl
 ·match i,h1,h2 with
  | 0,h1,h2=>cases h1;cases h2;exact hr
 rw[F4 hr] at hf
 exact hn a' w' hf (h.step hs)
theorem QS{c:Call}(hG:Good Try.prog w0 fun _=>False)(h:Wl e cs g w0 w lv m)(hf:Fr n env a)(hop:o.op=.call c)(hc:c.callee=.value (.func 6))(hd:o.dst=some d)(hlt:d<n)(hv:P3 env c.args.toList=some [])
 (hn:∀a' w',Fr n ((d,.bool true)::env) a'→Wl e cs g w0 w' lv m→next a' w'):o.wp Try.prog a w next Q:=by
 refine tF (args:=[]) hf hop hc hd hlt k6 hv nW (by rw[SN,SL];rfl) (h.good hG) ⟨rfl,fun i s y h1 h2=>(by cases h1)⟩ (fun v a' w' hf hs hr=>?_) rfl
 rw[F4 hr] at hf
 exact hn a' w' hf (h.step hs)
set_option maxRecDepth 20000 in
set_option maxHeartbeats 4000000 in
theorem SS{c:Code}{p8 pE:Option Addr}{q8 qE:Nat}(hc:c=gC (pR 6) (i0 Try.f4))(he:vW e.q)(hG:Good Try.prog w0 fun _=>False)
 (hw:Wl e cs g w0 w lv 1024) (hf:Fr 107 [(17,vI 1),(15,vI 0),(14,.slice pE 1024 qE),(13,vI 2),(11,vI 2),(9,vI 0),(8,.slice p8 1024 q8),(6,lv),(5,pg g)] a)
 (hn:∀a' w',Fr 107 [(4,.bool true)] a'→Stp (fun _=>False) w0 w'→Q .normal a' w'):c.wp Try.prog Q a w:=by
 subst hc
 refine P5 ?_
 refine⟨aR rfl,aY hf rfl rfl (by decide) rfl fun a hf=>?_⟩
 refine⟨aR rfl,jV hf rfl rfl (by decide) rfl rfl rfl rfl (zM _ _) fun a hf=>?_⟩
 rw[show gP 0 0=true from by rw[bG];rfl] at hf
 refine⟨aR rfl,aY hf rfl rfl (by decide) rfl fun a hf=>?_⟩
 refine⟨aL hf rfl rfl rfl,aY hf rfl rfl (by decide) rfl fun a hf=>?_⟩
 refine⟨aL hf rfl rfl rfl,NZ hf rfl rfl (by decide) H6 rfl fun a hf=>?_⟩
 refine⟨aL hf rfl rfl rfl,jV hf rfl rfl (by decide) rfl rfl rfl rfl (OS _ _) fun a hf=>?_⟩
 rw[show gP ((1024:Nat):Int) 1024=true from by rw[bG];rfl] at hf
 refine⟨aR rfl,bY hf rfl (by decide) (lO (b:=true) hf rfl rfl rfl rfl) fun a hf=>?_⟩
 refine⟨aR rfl,aY hf rfl rfl (by decide) rfl fun a hf=>?_⟩
 refine⟨aL hf rfl rfl rfl,aY hf rfl rfl (by decide) rfl fun a hf=>?_⟩
 refine⟨aL hf rfl rfl rfl,jV hf rfl rfl (by decide) rfl rfl rfl rfl (zM _ _) fun a hf=>?_⟩
 rw[show gP 2 2=true from by rw[bG];rfl] at hf
 refine⟨aR rfl,bY hf rfl (by decide) (lO (b:=true) hf rfl rfl rfl rfl) fun a hf=>?_⟩
 refine⟨aR rfl,aY hf rfl rfl (by decide) rfl fun a hf=>?_⟩
 refine⟨aL hf rfl rfl rfl,aY hf rfl rfl (by decide) rfl fun a hf=>?_⟩
 refine⟨aL hf rfl rfl rfl,jV hf rfl rfl (by decide) rfl rfl rfl rfl (zM _ _) fun a hf=>?_⟩
 rw[show gP 2 2=true from by rw[bG];rfl] at hf
 refine⟨aR rfl,bY hf rfl (by decide) (lO (b:=true) hf rfl rfl rfl rfl) fun a hf=>?_⟩
 refine⟨aR rfl,aY hf rfl rfl (by decide) rfl fun a hf=>?_⟩
 refine⟨aL hf rfl rfl rfl,aY hf rfl rfl (by decide) rfl fun a hf=>?_⟩
 refine⟨aL hf rfl rfl rfl,jV hf rfl rfl (by decide) rfl rfl rfl rfl (zM _ _) fun a hf=>?_⟩
 rw[show gP 0 0=true from by rw[bG];rfl] at hf
 refine⟨aR rfl,bY hf rfl (by decide) (lO (b:=true) hf rfl rfl rfl rfl) fun a hf=>?_⟩
 refine⟨aR rfl,aY hf rfl rfl (by decide) rfl fun a hf=>?_⟩
 refine⟨aL hf rfl rfl rfl,aY hf rfl rfl (by decide) rfl fun a hf=>?_⟩
 refine⟨aL hf rfl rfl rfl,NZ hf rfl rfl (by decide) H6 rfl fun a hf=>?_⟩
 refine⟨aL hf rfl rfl rfl,jV hf rfl rfl (by decide) rfl rfl rfl rfl (OS _ _) fun a hf=>?_⟩
 rw[show gP ((1024:Nat):Int) 1024=true from by rw[bG];rfl] at hf
 refine⟨aR rfl,bY hf rfl (by decide) (lO (b:=true) hf rfl rfl rfl rfl) fun a hf=>?_⟩
 refine⟨aR rfl,aY hf rfl rfl (by decide) rfl fun a hf=>?_⟩
 refine⟨aL hf rfl rfl rfl,aY hf rfl rfl (by decide) rfl fun a hf=>?_⟩
 refine⟨aL hf rfl rfl rfl,jV hf rfl rfl (by decide) rfl rfl rfl rfl (zM _ _) fun a hf=>?_⟩
 rw[show gP 1 1=true from by rw[bG];rfl] at hf
 refine⟨aR rfl,bY hf rfl (by decide) (lO (b:=true) hf rfl rfl rfl rfl) fun a hf=>?_⟩
 refine⟨aR rfl,aY hf rfl rfl (by decide) rfl fun a hf=>?_⟩
 refine⟨aL hf rfl rfl rfl,aY hf rfl rfl (by decide) rfl fun a hf=>?_⟩
 refine⟨aL hf rfl rfl rfl,fT hw hf rfl rfl (by decide) rfl fun a hf=>?_⟩
 refine⟨aL hf rfl rfl rfl,zN hw hf rfl rfl (by decide) rfl fun a gb w hf hw hr=>?_⟩
 refine⟨aL hf rfl rfl rfl,qH hw (by decide) hr hf rfl rfl (by decide) rfl rfl fun a v' w hf hv hw=>?_⟩
 refine⟨aL hf rfl rfl rfl,OW hG hv hf rfl rfl rfl (by decide) rfl hv.whole (H4 he) fun a w hf hv=>?_⟩
 refine⟨aL hf rfl rfl rfl,bY hf rfl (by decide) (R4 hf rfl rfl) fun a hf=>?_⟩
 refine⟨aR rfl,bY hf rfl (by decide) (lO (b:=true) hf rfl rfl rfl rfl) fun a hf=>?_⟩
 refine⟨aR rfl,aY hf rfl rfl (by decide) rfl fun a hf=>?_⟩
 refine⟨aL hf rfl rfl rfl,QS hG hv hf rfl rfl rfl (by decide) rfl fun a w hf hv=>?_⟩
 refine⟨aR rfl,bY hf rfl (by decide) (lO (b:=true) hf rfl rfl rfl rfl) fun a hf=>?_⟩
 refine⟨aR rfl,bU hf rfl rfl (by decide) rfl fun a hf=>?_⟩
 exact hn a w (hf.weak ⟨rfl,trivial⟩) hv.stp
end
theorem UT:Try.f4.ntmps-2=105:=by kernel_rfl
theorem Fr.two(x y:Value)(n:Nat):Fr (n+2) [(0,x),(1,y)] { tmps:=#[x,y]++Array.replicate n undef,defers:=[] }:=by
 refine⟨by simp;omega,rfl,fun t v hl=>?_⟩
 rcases List.mem_cons.1 (yW hl) with e | e
 ·cases e;rw[Array.getD_eq_getD_getElem?,Array.getElem?_append_left (show 0<(#[x,y]:Array Value).size from Nat.zero_lt_two)];rfl
 ·rw[List.mem_singleton] at e;cases e;rw[Array.getD_eq_getD_getElem?,Array.getElem?_append_left (show 1<(#[x,y]:Array Value).size from Nat.one_lt_two)];rfl
theorem QT{P:Program}{fn:Func}{t n:Nat}{env:List (Nat×Value)}{a:Act}{w:World}{v:Value}{R:Ending→World→Prop}(hr:fn.results=#[.tmp t])(hf:Fr n env a)(hv:env.lookup t=some v)(h:R (.returned v) w):bodyPost P fn R .ret a w:=by
 refine⟨hf.defers,v,?_,h⟩
 unfold results
 rw[hr]
 have:=hf.get t v hv
 rw[Array.getD_eq_getD_getElem?] at this
 simp[this]
set_option maxRecDepth 20000 in
set_option maxHeartbeats 4000000 in
theorem full(W:World)(hG:Good Try.prog W fun _=>False){n kd:Int}(h0:0≤n)(h1:n≤255)(k0:0≤kd)(k1:kd≤255):Calls Try.prog 4 #[.int .u8 n,.int .u8 kd] W fun e W'=>e=.returned (.bool true)∧Below W.heap.size W W':=by
 refine calls_of_wp (c:=i0 Try.f4) Try.func4 (by kernel_rfl) ?_
 have hf0:Fr 107 [(0,.int .u8 n),(1,.int .u8 kd)] { tmps:=(#[.int .u8 n,.int .u8 kd]:Array Value)++Array.replicate (Try.f4.ntmps-(#[.int .u8 n,.int .u8 kd]:Array Value).size) undef,defers:=[] }:=by
  rw[show Try.f4.ntmps-(#[.int .u8 n,.int .u8 kd]:Array Value).size=105 from UT]
  exact Fr.two _ _ 105
 have he:=(RA h0 h1).1
 have hg:eC (TZ n (1+kd%5))=true:=OV h0 h1 (by omega) (by omega)
 have hQ:∀c a d v w,bodyPost Try.prog Try.f4 (fun e W'=>e=.returned (.bool true)∧Below W.heap.size W W') (.panic c) (a.put d v) w→bodyPost Try.prog Try.f4 (fun e W'=>e=.returned (.bool true)∧Below W.heap.size W W') (.panic c) a w:=fun _ _ _ _ _ h=>absurd h.2.1 fun h=>by cases h
 refine wp_seq (lA (by kernel_rfl) ?_)
 refine bU hf0 rfl rfl (by decide) rfl fun a hf=>?_
 refine wp_seq (TN (n:=n) (kd:=kd) h0 h1 k0 k1 hG (hf.weak ⟨rfl,rfl,trivial⟩) fun a w cs g hf hw=>?_)
 refine wp_seq (lA (by kernel_rfl) ?_)
 refine bU hf rfl rfl (by decide) rfl fun a hf=>?_
 refine wp_seq (wp_seq (lA (by kernel_rfl) ?_))
 refine bU hf rfl rfl (by decide) rfl fun a hf=>?_
 refine TO rfl hw (hf.weak ⟨rfl,rfl,rfl,trivial⟩) fun a w lv hf hw=>?_
 refine wp_seq (TQ rfl he hg hG hQ hw hf fun a w p q hf hw=>?_)
 refine wp_seq (TR rfl he hg hG hw hf fun a w hf hw=>?_)
 refine wp_seq (TS rfl he hg hG hw hf fun a w hf hw=>?_)
 refine wp_seq (SQ rfl he hg hG hw hf fun a w p q hf hw=>?_)
 refine wp_seq (SR rfl he hG hQ hw hf fun a w hf hw=>?_)
 refine wp_seq (SS rfl he hG hw hf fun a w hf hs=>?_)
 exact wp_ret (QT rfl hf rfl ⟨rfl,hs.below fun b h=>h⟩)
end Go.Eng.Lg
