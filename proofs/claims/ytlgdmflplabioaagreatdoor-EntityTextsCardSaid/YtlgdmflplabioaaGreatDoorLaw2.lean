/- The functions and the laws of this seat in plain words; each statement names its conditions. -/
import Derived.Lib.OthersKept
import Derived.Test.YtlgdmflplabioaaGreatDoorLaw
import Derived.Test.YtlgdmflplabioaaGreatDoorEng3
import Derived.Test.YtlgdmflplabioaaGreatDoorProg
set_option linter.unusedSimpArgs false
set_option linter.unusedVariables false
namespace Go.Eng.Lex
open Go.Eng
def vA(c:UInt8):Bool:=decide (65≤c.toNat)&&decide (c.toNat≤90)
def lJ(c:UInt8):Bool:=decide (48≤c.toNat)&&decide (c.toNat≤57)
def Jy(c:UInt8):Bool:=decide (c.toNat=9)||decide (c.toNat=10)||decide (c.toNat=13)||decide (c.toNat=32)
def GJ(c:UInt8):Bool:=vA c||lJ c||decide (c.toNat=95)
def PS(c:UInt8):Bool:=vA c||lJ c||decide (c.toNat=95)||decide (c.toNat=45)
theorem ci(n:Nat)(m:Nat):((n:Int)=(m:Int))=(n=m):=propext ⟨by omega,by omega⟩
theorem GK(c:UInt8):fX ((c.toNat:Int),())=some (vA c,()):=by
 unfold fX vA
 simp only[rP]
 by_cases h:65≤c.toNat
 ·simp[h,show (65:Int)≤(c.toNat:Int) by omega];omega
 ·simp[h,show ¬(65:Int)≤(c.toNat:Int) by omega]
theorem GL(c:UInt8):eS ((c.toNat:Int),())=some (lJ c,()):=by
 unfold eS lJ
 simp only[rP]
 by_cases h:48≤c.toNat
 ·simp[h,show (48:Int)≤(c.toNat:Int) by omega];omega
 ·simp[h,show ¬(48:Int)≤(c.toNat:Int) by omega]
theorem YV(c:UInt8):qM ((c.toNat:Int),())=some (vA c,()):=GK c
theorem YW(c:UInt8):qN ((c.toNat:Int),())=some (lJ c,()):=GL c
theorem YX(c:UInt8)(k:Nat):decide ((c.toNat:Int)=(k:Int))=decide (c.toNat=k):=by simp only[ci]
theorem Ly(c:UInt8):oO ((c.toNat:Int),())=some (PS c,()):=by
 unfold oO PS
 simp only[GK,GL,bC,bZ]
 rw[show (95:Int)=((95:Nat):Int) from rfl,show (45:Int)=((45:Nat):Int) from rfl]
 simp only[YX]
 cases vA c <;> cases lJ c <;> by_cases h1:c.toNat=95 <;> simp[h1]
theorem Ii(c:UInt8):mK ((c.toNat:Int),())=some (GJ c,()):=by
 unfold mK GJ
 simp only[GK,GL,bC,bZ]
 rw[show (95:Int)=((95:Nat):Int) from rfl]
 simp only[YX]
 cases vA c <;> cases lJ c <;> by_cases h1:c.toNat=95 <;> simp[h1]
def cY(p:UInt8→Bool):Bs→Nat
 | []=>0
 | c::l=>if p c then cY p l+1 else 0
theorem YY(p:UInt8→Bool):∀l,cY p l≤l.length
 | []=>Nat.le_refl _
 | c::l=>by
  simp only[cY,List.length_cons]
  have:=YY p l
  split <;> omega
theorem El{S E:Type}{F:S→Option (S⊕E)}(st:Nat→S)(out:Nat→E)(p:UInt8→Bool)(l:Bs)
 (h:∀i c,l[i]?=some c→F (st i)=if p c then some (.inl (st (i+1))) else some (.inr (out i))) (hend:F (st l.length)=some (.inr (out l.length))):
 ∀i,i≤l.length→aF F (st i)=some (out (i+cY p (l.drop i))):=by
 have key:∀d i,i+d=l.length→aF F (st i)=some (out (i+cY p (l.drop i))):=by
  intro d
  induction d with
  | zero=>
   intro i hi
   have:i=l.length:=by omega
   subst this
   simp[cY,aT hend]
  | succ d ih=>
   intro i hi
   have hlt:i<l.length:=by omega
   have hc:=h i l[i] (List.getElem?_eq_getElem hlt)
   rw[List.drop_eq_getElem_cons hlt]
   simp only[cY]
   by_cases hp:p l[i]=true
   ·rw[if_pos hp] at hc ⊢
    rw[bX hc,ih (i+1) (by omega)]
    congr 2;omega
   ·rw[if_neg hp] at hc ⊢
    rw[aT hc];rfl
 exact fun i hi=>key (l.length-i) i (by omega)
def mx:Nat:=4000000000
theorem UF(a b:Nat):decide ((a:Int)<(b:Int))=decide (a<b):=by simp
theorem dN{n:Nat}(h:n<mx):wr .i64 ((n:Int)+1)=((n+1:Nat):Int):=by unfold mx at h;rw[jQ (by omega) (by omega)];omega
theorem M6{l:Bs}{i:Nat}{c:UInt8}(h:l[i]?=some c):i<l.length:=(List.getElem?_eq_some_iff.1 h).1
theorem vB{l:Bs}{i:Nat}(hl:l.length<mx)(hi:i≤l.length):cS (bs l,(i:Int),(),())=some (((i+cY lJ (l.drop i):Nat):Int),()):=by
 unfold cS
 rw[El (F:=iE) (fun i=>(bs l,(i:Int),(),())) (fun i=>.inl ((i:Int),())) lJ l ?_ ?_ i hi]
 ·rfl
 ·intro i c hc
  have hlt:=M6 hc
  simp only[iE,aG,gN,UF,hlt,decide_true,cond_true,kJ,hc,Option.map_some,bC,GL,aY,dN (Nat.lt_trans hlt hl)]
  cases lJ c <;> rfl
 ·simp[iE]
theorem WX{l:Bs}{i:Nat}(hl:l.length<mx)(hi:i≤l.length):f8 (bs l,(i:Int),(),())=some (((i+cY PS (l.drop i):Nat):Int),()):=by
 unfold f8
 rw[El (F:=iQ) (fun i=>(bs l,(i:Int),(),())) (fun i=>.inl ((i:Int),())) PS l ?_ ?_ i hi]
 ·rfl
 ·intro i c hc
  have hlt:=M6 hc
  simp only[iQ,aG,gN,UF,hlt,decide_true,cond_true,kJ,hc,Option.map_some,bC,Ly,aY,dN (Nat.lt_trans hlt hl)]
  cases PS c <;> rfl
 ·simp[iQ]
theorem UG{l:Bs}{i:Nat}(hl:l.length<mx)(hi:i≤l.length):fB (bs l,(i:Int),(),())=some (((i+cY GJ (l.drop i):Nat):Int),()):=by
 unfold fB
 rw[El (F:=iF) (fun i=>(bs l,(i:Int),(),())) (fun i=>.inl ((i:Int),())) GJ l ?_ ?_ i hi]
 ·rfl
 ·intro i c hc
  have hlt:=M6 hc
  simp only[iF,aG,gN,UF,hlt,decide_true,cond_true,kJ,hc,Option.map_some,bC,Ii,aY,dN (Nat.lt_trans hlt hl)]
  cases GJ c <;> rfl
 ·simp[iF]
def hd(l:Bs):UInt8:=l.headD 0
theorem Em{l:Bs}{i:Nat}:gJ (bs l,(i:Int),())=some (((hd (l.drop i)).toNat:Int),()):=by
 unfold gJ
 simp only[aG,gN,UF]
 by_cases h:i<l.length
 ·rw[List.drop_eq_getElem_cons h]
  simp[h,kJ,List.getElem?_eq_getElem h,hd]
 ·simp[h,List.drop_eq_nil_of_le (Nat.le_of_not_lt h),hd]
def fE(l:Bs):Nat:=if (hd l).toNat=43∨(hd l).toNat=45 then 1 else 0
theorem Eo{l:Bs}{i:Nat}(hl:l.length<mx)(hi:i≤l.length):lX (bs l,(i:Int),())=some (((i+fE (l.drop i):Nat):Int),()):=by
 unfold lX fE
 simp only[Em,bC,bZ,aY]
 rw[show (43:Int)=((43:Nat):Int) from rfl,show (45:Int)=((45:Nat):Int) from rfl]
 simp only[YX]
 by_cases h1:(hd (l.drop i)).toNat=43 <;> by_cases h2:(hd (l.drop i)).toNat=45 <;> simp[h1,h2,dN (show i<mx by omega)]
theorem IY{l:Bs}{i k:Nat}(h:(hd (l.drop i)).toNat=k)(hk:k≠0):i<l.length:=by
 rcases Nat.lt_or_ge i l.length with h' | h'
 ·exact h'
 ·rw[List.drop_eq_nil_of_le h'] at h;simp[hd] at h;omega
theorem R6{n k:Nat}(h:n+k<3*mx):wr .i64 ((n:Int)+(k:Int))=((n+k:Nat):Int):=by unfold mx at h;rw[jQ (by omega) (by omega)];omega
def CK(l:Bs):Nat:=
 let f:=fE l
 let e:=f+cY lJ (l.drop f)
 if e=f then 0 else if (hd (l.drop e)).toNat=46 then
  let e2:=e+1+cY lJ (l.drop (e+1))
  if (hd (l.drop e2)).toNat=69 then
   let f2:=e2+1+fE (l.drop (e2+1))
   let g:=f2+cY lJ (l.drop f2)
   if f2<g then g else e2
  else e2
 else e
theorem GM(l:Bs):fE l≤l.length:=by
 unfold fE
 cases l with
 | nil=>simp[hd]
 | cons c l=>split <;> simp
theorem f9(p:UInt8→Bool){l:Bs}{i:Nat}(h:i≤l.length):i+cY p (l.drop i)≤l.length:=by
 have:=YY p (l.drop i)
 rw[List.length_drop] at this;omega
theorem tX{l:Bs}{i:Nat}(h:i≤l.length):i+fE (l.drop i)≤l.length:=by
 have:=GM (l.drop i)
 rw[List.length_drop] at this;omega
theorem Ij(l:Bs):CK l≤l.length:=by
 unfold CK
 have h1:=GM l
 have h2:=f9 lJ h1
 simp only
 split
 ·omega
 ·split
  ·rename_i h
   have h3:=IY h (by omega)
   have h4:=f9 lJ (l:=l) (i:=fE l+cY lJ (l.drop (fE l))+1) (by omega)
   split
   ·rename_i h
    have h5:=IY h (by omega)
    have h6:=tX (l:=l) (i:=fE l+cY lJ (l.drop (fE l))+1+cY lJ (l.drop (fE l+cY lJ (l.drop (fE l))+1))+1) (by omega)
    have h7:=f9 lJ h6
    split <;> omega
   ·omega
  ·omega
theorem Ep{l:Bs}{i:Nat}(hl:l.length<mx)(hi:i≤l.length):eB (bs l,(i:Int),())=some (((i+CK (l.drop i):Nat):Int),()):=by
 unfold eB CK
 simp only[List.drop_drop]
 have h1:=tX hi
 have h2:=f9 lJ h1
 simp only[Eo hl hi,bC,vB hl h1,bZ,aG,UF,Em,aY]
 generalize he:i+fE (l.drop i)=f at *
 generalize hr:cY lJ (l.drop f)=r at *
 by_cases c1:r=0
 ·subst c1;simp
 ·rw[decide_eq_false (by omega),if_neg (by omega),cond_false]
  rw[show i+(fE (l.drop i)+r)=f+r by omega]
  rw[show (46:Int)=((46:Nat):Int) from rfl,YX]
  by_cases c2:(hd (l.drop (f+r))).toNat=46
  ·have h3:=IY c2 (by omega)
   rw[decide_eq_true c2,if_pos c2]
   simp only[Bool.not_true,cond_false]
   rw[dN (by omega)]
   have h4:=f9 lJ (l:=l) (i:=f+r+1) (by omega)
   simp only[vB hl (show f+r+1≤l.length by omega),bC,Em]
   rw[show i+(fE (l.drop i)+r+1)=f+r+1 by omega]
   generalize hr2:cY lJ (l.drop (f+r+1))=r2 at *
   rw[show i+(fE (l.drop i)+r+1+r2)=f+r+1+r2 by omega]
   rw[show (69:Int)=((69:Nat):Int) from rfl,YX]
   by_cases c3:(hd (l.drop (f+r+1+r2))).toNat=69
   ·have h5:=IY c3 (by omega)
    rw[decide_eq_true c3,if_pos c3]
    simp only[Bool.not_true,cond_false]
    rw[dN (by omega)]
    have h6:=tX (l:=l) (i:=f+r+1+r2+1) (by omega)
    simp only[Eo hl (show f+r+1+r2+1≤l.length by omega),bC]
    rw[show i+(fE (l.drop i)+r+1+r2+1)=f+r+1+r2+1 by omega]
    generalize hs:fE (l.drop (f+r+1+r2+1))=sg at *
    simp only[vB hl h6,bC,UF]
    rw[show i+(fE (l.drop i)+r+1+r2+1+sg)=f+r+1+r2+1+sg by omega]
    generalize hr3:cY lJ (l.drop (f+r+1+r2+1+sg))=r3 at *
    by_cases c4:r3=0
    ·subst c4
     rw[decide_eq_false (by omega),if_neg (by omega)]
     simp only[cond_false];congr 3;omega
    ·rw[decide_eq_true (by omega),if_pos (by omega)]
     simp only[cond_true];congr 3;omega
   ·rw[decide_eq_false c3,if_neg c3]
    simp only[Bool.not_false,cond_true];congr 3;omega
  ·rw[decide_eq_false c2,if_neg c2]
   simp only[Bool.not_false,cond_true];congr 3;omega
def l8:Bs→Option (Bs×Nat)
 | []=>none
 | c::l=>if c.toNat<32∨126<c.toNat then none else if c.toNat=39 then
  match l with
  | d::m=>if d.toNat=39 then (l8 m).map fun q=>(c::q.1,q.2+2) else some ([],1)
  | []=>some ([],1)
  else (l8 l).map fun q=>(c::q.1,q.2+1)
theorem tY(c:UInt8)(l:Bs):l8 (c::l)=if c.toNat<32∨126<c.toNat then none else if c.toNat=39 then
 if (hd l).toNat=39 then (l8 l.tail).map fun q=>(c::q.1,q.2+2) else some ([],1)
 else (l8 l).map fun q=>(c::q.1,q.2+1):=by
 cases l <;> rfl
def mQ(b:UInt8):T:=T.v (.int .u8 b.toNat)
theorem WY(l:Bs)(c:UInt8):l.map mQ++[T.v (.int .u8 (c.toNat:Int))]=(l++[c]).map mQ:=by simp[mQ]
theorem IZ(l:Bs):strOf (l.map mQ)=some (bs l):=T0 l
def Jz:(Int×ByteArray×Unit)⊕((Int×Unit)⊕Empty)→Int×ByteArray
 | .inl t=>(t.1,t.2.1)
 | .inr (.inl t)=>(t.1,bs [])
def M7(b i:Nat)(out:Bs):Option (Bs×Nat)→Int×ByteArray
 | some q=>(((i+q.2:Nat):Int),bs (out++q.1))
 | none=>((b:Int),bs [])
theorem R7:ByteArray.mk #[]=bs []:=rfl
theorem w8{l:Bs}{i:Nat}{c:UInt8}(h:l[i]?=some c):l.drop i=c::l.drop (i+1):=by
 obtain⟨h1,rfl⟩:=List.getElem?_eq_some_iff.1 h
 exact List.drop_eq_getElem_cons h1
theorem Bd{l:Bs}{b:Nat}(hl:l.length<mx)(hb:b<l.length):∀(d i:Nat) (out:Bs),l.length≤i+d→out.length≤i →
 ∃e,aF iG (bs l,(b:Int),out.map mQ,(i:Int),())=some e∧Jz e=M7 b i out (l8 (l.drop i)):=by
 intro d
 induction d using Nat.strongRecOn with
 | _ d ih=>
  intro i out hd0 ho
  by_cases hlt:i<l.length
  ·obtain⟨c,hc⟩:∃c,l[i]?=some c:=⟨_,List.getElem?_eq_getElem hlt⟩
   have hq:=w8 hc
   generalize hres:iG (bs l,(b:Int),out.map mQ,(i:Int),())=res
   have hF:=hres
   unfold iG at hF
   simp only[aG,gN,UF,hlt,decide_true,cond_true,kJ,hc,Option.map_some,bC,bZ,Em,aY,dN (Nat.lt_trans hlt hl),IZ,R7] at hF
   rw[show (32:Int)=((32:Nat):Int) from rfl,show (126:Int)=((126:Nat):Int) from rfl,show (39:Int)=((39:Nat):Int) from rfl] at hF
   simp only[UF,YX] at hF
   rw[hq]
   rw[tY]
   by_cases c1:c.toNat<32
   ·simp only[c1,decide_true,cond_true,bC,aM] at hF
    rw[if_pos (.inl c1)]
    exact⟨_,aT (hres.trans hF.symm),rfl⟩
   by_cases c2:126<c.toNat
   ·simp only[c1,c2,decide_true,decide_false,cond_true,cond_false,bC,aM] at hF
    rw[if_pos (.inr c2)]
    exact⟨_,aT (hres.trans hF.symm),rfl⟩
   rw[if_neg (by omega)]
   have hroom:∀o:Bs,o.length≤i→room (o.map mQ) [T.v (.int .u8 (c.toNat:Int))] 1=some ((o++[c]).map mQ):=fun o h=>by
    rw[hM (by simp;unfold mx at hl;omega) (by omega),WY]
   by_cases c3:c.toNat=39
   ·rw[if_pos c3]
    by_cases c4:(hd (l.drop (i+1))).toNat=39
    ·have hlt2:=IY c4 (by omega)
     simp only[c1,c2,decide_false,cond_false] at hF
     simp only[c3,c4,decide_true,cond_true,bC,aM,uP,Bool.not_true,cond_false] at hF
     rw[←c3] at hF
     simp only[hroom out ho,bC] at hF
     rw[dN (show i+1<mx by omega)] at hF
     obtain⟨e,he,hf⟩:=ih (d-2) (by omega) (i+2) (out++[c]) (by omega) (by simp;omega)
     refine⟨e,(bX (hres.trans hF.symm)).trans he,hf.trans ?_⟩
     rw[if_pos c4,List.tail_drop]
     cases l8 (l.drop (i+2)) with
     | none=>rfl
     | some q=>simp only[Option.map_some,M7,List.append_assoc,List.singleton_append];congr 2;omega
    ·simp only[c1,c2,decide_false,cond_false] at hF
     simp only[c3,c4,decide_true,decide_false,cond_true,bC,aM,Bool.not_false] at hF
     refine⟨_,aT (hres.trans hF.symm),?_⟩
     rw[if_neg c4]
     simp[Jz,M7]
   ·rw[if_neg c3]
    simp only[c1,c2,c3,decide_false,cond_false,bC,uP,aM,hroom out ho] at hF
    rw[dN (show i<mx by omega)] at hF
    obtain⟨e,he,hf⟩:=ih (d-1) (by omega) (i+1) (out++[c]) (by omega) (by simp;omega)
    refine⟨e,(bX (hres.trans hF.symm)).trans he,hf.trans ?_⟩
    cases l8 (l.drop (i+1)) with
    | none=>rfl
    | some q=>simp only[Option.map_some,M7,List.append_assoc,List.singleton_append];congr 2;omega
  ·rw[List.drop_eq_nil_of_le (Nat.le_of_not_lt hlt)]
   refine⟨.inr (.inl ((b:Int),())),aT ?_,rfl⟩
   unfold iG
   simp only[aG,gN,UF,hlt,decide_false,cond_false]
theorem Er{l:Bs}{i:Nat}(hl:l.length<mx)(hi:i<l.length):
 lF (bs l,(i:Int),())=some ((M7 i (i+1) [] (l8 (l.drop (i+1)))).1,(M7 i (i+1) [] (l8 (l.drop (i+1)))).2,()):=by
 unfold lF
 simp only[aY,dN (Nat.lt_trans hi hl)]
 obtain⟨e,he,hf⟩:=Bd hl hi l.length (i+1) [] (by omega) (by simp)
 rw[show ([]:Bs).map mQ=[] from rfl] at he
 rw[he,bC,←hf]
 rcases e with e | e | e
 ·rfl
 ·rfl
 ·cases e
def fV(c:UInt8):Nat:=
 if c.toNat=40 then 6 else if c.toNat=41 then 7 else if c.toNat=44 then 8 else if c.toNat=59 then 9 else if c.toNat=61 then 10 else if c.toNat=36 then 11 else if c.toNat=42 then 12 else 0
theorem w9{α:Type}(p:Prop)[Decidable p](a b:α):(bif decide p then a else b)=if p then a else b:=by by_cases h:p <;> simp[h]
theorem UH(c:UInt8):gK ((c.toNat:Int),())=some ((fV c:Int),()):=by
 unfold gK fV
 simp only[bZ]
 rw[show (40:Int)=((40:Nat):Int) from rfl,show (41:Int)=((41:Nat):Int) from rfl,show (44:Int)=((44:Nat):Int) from rfl,show (59:Int)=((59:Nat):Int) from rfl,
  show (61:Int)=((61:Nat):Int) from rfl,show (36:Int)=((36:Nat):Int) from rfl,show (42:Int)=((42:Nat):Int) from rfl]
 simp only[YX,w9]
 repeat' (first | (split;rfl))
 rfl
def vT(s:Bs):Nat×Bs×Nat:=
 let c:=hd s
 if vA c then (1,s.take (cY PS s),cY PS s)
 else if lJ c∨c.toNat=43∨c.toNat=45 then (2,s.take (CK s),CK s)
 else if c.toNat=39 then match l8 s.tail with
  | some q=>(3,q.1,q.2+1)
  | none=>(3,[],0)
 else if c.toNat=46 then
  let n:=cY GJ s.tail
  if vA (hd s.tail) then if (hd (s.drop (n+1))).toNat=46 then (4,s.tail.take n,n+2) else (0,[],0) else (0,[],0)
 else if c.toNat=35 then
  let n:=cY lJ s.tail
  if n=0 then (0,[],0) else (5,s.tail.take n,n+1)
 else if fV c=0 then (0,[],0) else (fV c,[],1)
theorem xA{l:Bs}{i n:Nat}(h:i+n≤l.length):subS (bs l) (i:Int) ((i+n:Nat):Int)=some (bs ((l.drop i).take n)):=by
 rw[KB (by omega) h,Nat.add_sub_cancel_left]
theorem Ik{l:Bs}{i:Nat}(hl:l.length<mx)(hi:i<l.length):
 iK (bs l,(i:Int),())=some (((vT (l.drop i)).1:Int),bs (vT (l.drop i)).2.1,(i:Int),((i+(vT (l.drop i)).2.2:Nat):Int),()):=by
 obtain⟨c,hc⟩:∃c,l[i]?=some c:=⟨_,List.getElem?_eq_getElem hi⟩
 have hq:=w8 hc
 unfold iK vT
 rw[hq]
 simp only[hd,List.headD_cons,List.tail_cons,kJ,hc,Option.map_some,bC,GK,GL,UH,bZ]
 rw[show (43:Int)=((43:Nat):Int) from rfl,show (45:Int)=((45:Nat):Int) from rfl,show (39:Int)=((39:Nat):Int) from rfl,show (46:Int)=((46:Nat):Int) from rfl,show (35:Int)=((35:Nat):Int) from rfl]
 simp only[YX]
 by_cases c1:vA c=true
 ·have hr:=f9 PS (Nat.le_of_lt hi)
  rw[hq] at hr
  simp only[c1,cond_true,if_true,WX hl (Nat.le_of_lt hi),bC,hq,xA hr,aM]
  rfl
 simp only[c1,cond_false,Bool.false_eq_true,if_false]
 have hnum:eB (bs l,(i:Int),())=some (((i+CK (c::l.drop (i+1)):Nat):Int),()):=by rw[Ep hl (Nat.le_of_lt hi),hq]
 have hn:=Ij (l.drop i)
 rw[List.length_drop,hq] at hn
 have hnsub:=xA (l:=l) (i:=i) (n:=CK (c::l.drop (i+1))) (by omega)
 by_cases c2:lJ c=true
 ·simp only[c2,cond_true,true_or,if_true,hnum,bC,hnsub,aM,hq];rfl
 by_cases c3:c.toNat=43
 ·simp only[c2,c3,decide_true,cond_true,cond_false,true_or,or_true,if_true,hnum,bC,hnsub,aM,hq];rfl
 by_cases c4:c.toNat=45
 ·simp only[c2,c3,c4,decide_true,decide_false,cond_true,cond_false,or_true,if_true,hnum,bC,hnsub,aM,hq];rfl
 simp only[c2,c3,c4,decide_false,cond_false,or_self,if_false,Bool.false_eq_true]
 by_cases c5:c.toNat=39
 ·simp only[c5,decide_true,cond_true,if_true,Er hl hi,bC,aM]
  cases l8 (l.drop (i+1)) with
  | none=>rfl
  | some q=>simp only[M7,List.nil_append];congr 5;omega
 simp only[c5,decide_false,cond_false,if_false]
 have hrin:=f9 GJ (show i+1≤l.length by omega)
 have hrdg:=f9 lJ (show i+1≤l.length by omega)
 simp only[aY,dN (Nat.lt_trans hi hl),UG hl (show i+1≤l.length by omega),vB hl (show i+1≤l.length by omega),bC,Em,GK,xA hrin,xA hrdg]
 by_cases c6:c.toNat=46
 ·simp only[c6,decide_true,cond_true,if_true]
  by_cases d1:vA (hd (l.drop (i+1)))=true
  ·have e1:(c::l.drop (i+1)).drop (cY GJ (l.drop (i+1))+1)=l.drop (i+1+cY GJ (l.drop (i+1))):=by rw[←hq,List.drop_drop];congr 1;omega
   have d1':vA ((l.drop (i+1)).headD 0)=true:=d1
   simp only[d1,d1',Bool.not_true,cond_false,if_true,e1,YX]
   by_cases d2:(hd (l.drop (i+1+cY GJ (l.drop (i+1))))).toNat=46
   ·have d2':((l.drop (i+1+cY GJ (l.drop (i+1)))).headD 0).toNat=46:=d2
    have hlt:=IY d2 (by omega)
    simp only[d2,d2',decide_true,Bool.not_true,cond_false,bC,aM,if_true]
    rw[dN (by omega)]
    congr 5;omega
   ·have d2':¬((l.drop (i+1+cY GJ (l.drop (i+1)))).headD 0).toNat=46:=d2
    simp only[d2,d2',decide_false,Bool.not_false,cond_true,bC,aM,uP,if_false];rfl
  ·have d1':¬vA ((l.drop (i+1)).headD 0)=true:=d1
   simp only[d1,d1',Bool.not_false,cond_true,if_false,bC,aM,uP];rfl
 simp only[c6,decide_false,cond_false,if_false]
 by_cases c7:c.toNat=35
 ·simp only[c7,decide_true,cond_true,if_true]
  by_cases d1:cY lJ (l.drop (i+1))=0
  ·simp only[d1,Nat.add_zero,decide_true,cond_true,bC,uP,aM,if_true];rfl
  ·rw[decide_eq_false (by omega)]
   simp only[d1,if_false,cond_false,bC,aM]
   congr 5;omega
 simp only[c7,decide_false,cond_false,if_false]
 rw[show (0:Int)=((0:Nat):Int) from rfl]
 by_cases c8:fV c=0
 ·simp only[c8,decide_true,Bool.not_true,cond_false,bC,aM,if_true];rfl
 ·rw[decide_eq_false (by omega)]
  simp only[c8,if_false,Bool.not_false,cond_true,bC,aM];rfl
section
variable {l:Bs} {i:Nat} {out:List T}
end
end Go.Eng.Lex
namespace Go.Eng.Lex
open Go.Eng
theorem GN{s:Bs}(hl:s.length<mx):gL (bs s,())=some ((cY lJ s:Int),()):=by
 unfold gL
 have:=El (F:=kM) (fun i=>(bs s,(i:Int),())) (fun i=>.inl ((i:Int),())) lJ s ?_ ?_ 0 (Nat.zero_le _)
 ·rw[show (0:Int)=((0:Nat):Int) from rfl,this]
  simp
 ·intro i c hc
  have hlt:=M6 hc
  simp only[kM,aG,gN,UF,hlt,decide_true,cond_true,kJ,hc,Option.map_some,bC,YW,aY,dN (Nat.lt_trans hlt hl)]
  cases lJ c <;> rfl
 ·simp[kM]
def DN(minus:Bool)(s:Bs):Nat:=if vA (hd s) then cY (if minus then PS else GJ) s.tail+1 else 0
theorem Lz{s:Bs}(hl:s.length<mx)(m:Bool):oR (bs s,m,())=some ((DN m s:Int),()):=by
 unfold oR DN
 cases s with
 | nil=>simp only[bZ,gN];rfl
 | cons c s=>
  have h0:=kJ (c::s) 0
  rw[show ((0:Nat):Int)=0 from rfl] at h0
  simp only[bZ,gN,List.length_cons,h0,List.getElem?_cons_zero,Option.map_some,bC,YV,hd,List.headD_cons,List.tail_cons]
  rw[decide_eq_false (by omega),cond_false]
  by_cases hc:vA c=true
  ·simp only[hc,Bool.not_true,cond_false,if_true]
   have:=El (F:=mS) (fun i=>(bs (c::s),m,(i:Int),())) (fun i=>.inl ((i:Int),())) (if m then PS else GJ) (c::s) ?_ ?_ 1 (by simp)
   ·rw[show (1:Int)=((1:Nat):Int) from rfl,this]
    simp only[bC,aM,List.drop_one,List.tail_cons]
    congr 2;omega
   ·intro i d hd
    have hlt:=M6 hd
    simp only[mS,aG,gN,UF,hlt,decide_true,cond_true,kJ,hd,Option.map_some,bC,YV,YW,aY,bZ,dN (Nat.lt_trans hlt hl)]
    rw[show (95:Int)=((95:Nat):Int) from rfl,show (45:Int)=((45:Nat):Int) from rfl]
    simp only[YX]
    cases m <;> simp only[if_true,if_false,Bool.false_eq_true,PS,GJ] <;> cases vA d <;> cases lJ d <;> by_cases h1:d.toNat=95 <;> by_cases h2:d.toNat=45 <;> simp[h1,h2]
   ·simp[mS]
  ·simp only[hc,Bool.not_false,cond_true,if_false,Bool.false_eq_true];rfl
theorem Es(s:Bs):oQ (bs s,())=some ((fE s:Int),()):=by
 unfold oQ fE
 cases s with
 | nil=>simp only[aG,gN];rfl
 | cons c s=>
  have h0:=kJ (c::s) 0
  rw[show ((0:Nat):Int)=0 from rfl] at h0
  simp only[aG,gN,List.length_cons,h0,List.getElem?_cons_zero,Option.map_some,bC,bZ,hd,List.headD_cons]
  rw[decide_eq_true (by omega),cond_true,show (43:Int)=((43:Nat):Int) from rfl,show (45:Int)=((45:Nat):Int) from rfl]
  simp only[YX]
  by_cases h1:c.toNat=43 <;> by_cases h2:c.toNat=45 <;> simp[h1,h2]
theorem Eu{l:Bs}{i:Nat}(h:i<l.length):l[i]?=some (hd (l.drop i)):=by
 rw[List.drop_eq_getElem_cons h,List.getElem?_eq_getElem h];rfl
theorem Ev{s:Bs}(hl:s.length<mx):oS (bs s,())=some ((CK s:Int),()):=by
 unfold oS CK
 have h1:=GM s
 have h2:=f9 lJ h1
 simp only[Es,bC,gN,FR h1,GN (s:=s.drop (fE s)) (by rw[List.length_drop];omega),bZ,aG,aY]
 generalize fE s=f at *
 generalize hr:cY lJ (s.drop f)=r at *
 rw[R6 (by omega)]
 by_cases c1:r=0
 ·subst c1;simp
 rw[decide_eq_false (by omega),if_neg (by omega),cond_false]
 by_cases c2:f+r=s.length
 ·have:¬(hd (s.drop (f+r))).toNat=46:=by rw[List.drop_eq_nil_of_le (by omega)];decide
  rw[decide_eq_true (by omega),cond_true,if_neg this]
 rw[decide_eq_false (by omega),cond_false,kJ,Eu (show f+r<s.length by omega)]
 simp only[Option.map_some,bC]
 rw[show (46:Int)=((46:Nat):Int) from rfl,YX]
 by_cases c3:(hd (s.drop (f+r))).toNat=46
 ·rw[decide_eq_true c3,if_pos c3,Bool.not_true,cond_false,dN (by omega)]
  have h3:=f9 lJ (l:=s) (i:=f+r+1) (by omega)
  simp only[FR (show f+r+1≤s.length by omega),bC,GN (s:=s.drop (f+r+1)) (by rw[List.length_drop];omega)]
  generalize hr2:cY lJ (s.drop (f+r+1))=r2 at *
  rw[R6 (by omega),UF]
  by_cases c4:f+r+1+r2<s.length
  ·rw[decide_eq_true c4,cond_true,kJ,Eu c4]
   simp only[Option.map_some,bC]
   rw[show (69:Int)=((69:Nat):Int) from rfl,YX]
   by_cases c5:(hd (s.drop (f+r+1+r2))).toNat=69
   ·rw[decide_eq_true c5,if_pos c5,cond_true,dN (by omega)]
    have h6:=tX (l:=s) (i:=f+r+1+r2+1) (by omega)
    simp only[FR (show f+r+1+r2+1≤s.length by omega),bC,Es]
    generalize hs:fE (s.drop (f+r+1+r2+1))=sg at *
    rw[R6 (by omega)]
    have h7:=f9 lJ h6
    simp only[FR h6,bC,GN (s:=s.drop (f+r+1+r2+1+sg)) (by rw[List.length_drop];omega)]
    generalize hr3:cY lJ (s.drop (f+r+1+r2+1+sg))=r3 at *
    by_cases c6:r3=0
    ·subst c6;simp
    ·rw[decide_eq_true (by omega),cond_true,R6 (by omega),if_pos (by omega)];rfl
   ·rw[decide_eq_false c5,if_neg c5,cond_false];rfl
  ·have:¬(hd (s.drop (f+r+1+r2))).toNat=69:=by rw[List.drop_eq_nil_of_le (by omega)];decide
   rw[decide_eq_false c4,if_neg this,cond_false];rfl
 ·rw[decide_eq_false c3,if_neg c3,Bool.not_false,cond_true]
def Ew(c:UInt8):Bool:=decide (32≤c.toNat)&&decide (c.toNat≤126)
def cG(k:Int)(s:Bs):Bool:=
 if k=1 then decide (s≠[])&&decide (DN true s=s.length)
 else if k=2 then decide (s≠[])&&decide (CK s=s.length)
 else if k=4 then decide (s≠[])&&decide (DN false s=s.length)
 else if k=5 then decide (s≠[])&&decide (cY lJ s=s.length)
 else if k=3 then s.all Ew
 else decide (6≤k)&&decide (k≤12)&&decide (s=[])
theorem WZ{s:Bs}(hl:s.length<mx):∀(d i:Nat),i+d=s.length →
 aF eN (bs s,(i:Int),())=some (bif (s.drop i).all Ew then .inr (.inl ()) else .inl (false,())):=by
 intro d
 induction d with
 | zero=>
  intro i hi
  have:i=s.length:=by omega
  subst this
  rw[aT (e:=.inr (.inl ())) (by simp[eN])]
  simp
 | succ d ih=>
  intro i hi
  have hlt:i<s.length:=by omega
  obtain⟨c,hc⟩:∃c,s[i]?=some c:=⟨_,List.getElem?_eq_getElem hlt⟩
  rw[w8 hc]
  simp only[List.all_cons,Ew]
  generalize hres:eN (bs s,(i:Int),())=res
  have hF:=hres
  unfold eN at hF
  simp only[aG,gN,UF,hlt,decide_true,cond_true,kJ,hc,Option.map_some,bC,aY,dN (Nat.lt_trans hlt hl)] at hF
  rw[show (32:Int)=((32:Nat):Int) from rfl,show (126:Int)=((126:Nat):Int) from rfl] at hF
  simp only[UF] at hF
  by_cases c1:c.toNat<32
  ·rw[decide_eq_true c1,cond_true] at hF
   rw[aT (hres.trans hF.symm),decide_eq_false (show ¬32≤c.toNat by omega)]
   rfl
  ·rw[decide_eq_false c1,cond_false] at hF
   rw[decide_eq_true (show 32≤c.toNat by omega)]
   by_cases c2:126<c.toNat
   ·rw[decide_eq_true c2,cond_true] at hF
    rw[aT (hres.trans hF.symm),decide_eq_false (show ¬c.toNat≤126 by omega)]
    rfl
   ·rw[decide_eq_false c2,cond_false] at hF
    rw[bX (hres.trans hF.symm),ih (i+1) (by omega),decide_eq_true (show c.toNat≤126 by omega)]
    rfl
theorem r_valid{s:Bs}(hl:s.length<mx)(k a:Int):dR (k,bs s,a,())=some (cG k s,()):=by
 unfold dR cG
 simp only[bZ,rP,R7,mY,Lz hl,Ev hl,GN hl,bC,gN,w9]
 have hv:=WZ hl s.length 0 (by omega)
 rw[show ((0:Nat):Int)=0 from rfl] at hv
 simp only[hv,List.drop_zero]
 have e0:∀(m:Nat),decide ((m:Int)=(s.length:Int))=decide (m=s.length):=fun m=>by simp only[ci]
 simp only[e0]
 by_cases h1:k=1
 ·rw[if_pos h1,if_pos h1];by_cases h:s=[] <;> simp[h]
 rw[if_neg h1,if_neg h1]
 by_cases h2:k=2
 ·rw[if_pos h2,if_pos h2];by_cases h:s=[] <;> simp[h]
 rw[if_neg h2,if_neg h2]
 by_cases h4:k=4
 ·rw[if_pos h4,if_pos h4];by_cases h:s=[] <;> simp[h]
 rw[if_neg h4,if_neg h4]
 by_cases h5:k=5
 ·rw[if_pos h5,if_pos h5];by_cases h:s=[] <;> simp[h]
 rw[if_neg h5,if_neg h5]
 by_cases h3:k=3
 ·rw[if_pos h3,if_pos h3];cases s.all Ew <;> rfl
 rw[if_neg h3,if_neg h3]
 by_cases h6:6≤k
 ·rw[if_pos h6]
  by_cases h7:k≤12
  ·rw[if_pos h7];simp[h6,h7]
  ·rw[if_neg h7];simp[h7]
 ·rw[if_neg h6];simp[h6]
def ER:Bs→Bs
 | []=>[]
 | c::l=>if c.toNat=39 then 39::c::ER l else c::ER l
theorem R8:∀s:Bs,(ER s).length≤2*s.length
 | []=>Nat.le_refl _
 | c::l=>by
  have:=R8 l
  unfold ER
  split <;> simp only[List.length_cons] <;> omega
theorem W0{s:Bs}(hl:s.length<mx):∀(d i:Nat) (out:Bs),i+d=s.length→out.length≤2*i+1 →
 aF i8 (bs s,bs out,(i:Int),())=some (.inl (bs (out++ER (s.drop i)),())):=by
 intro d
 unfold mx at hl
 induction d with
 | zero=>
  intro i out hi _
  have:i=s.length:=by omega
  subst this
  rw[aT (e:=.inl (bs out,())) (by simp[i8])]
  simp[ER]
 | succ d ih=>
  intro i out hi ho
  have hlt:i<s.length:=by omega
  obtain⟨c,hc⟩:∃c,s[i]?=some c:=⟨_,List.getElem?_eq_getElem hlt⟩
  have hd0:=w8 hc
  generalize hres:i8 (bs s,bs out,(i:Int),())=res
  have hF:=hres
  unfold i8 at hF
  have h1:subS (bs s) (i:Int) ((i+1:Nat):Int)=some (bs [c]):=by rw[xA (by omega),hd0];rfl
  simp only[aG,gN,UF,hlt,decide_true,cond_true,kJ,hc,Option.map_some,bC,aY,bZ,dN (show i<mx by unfold mx;omega),show ByteArray.mk #[39]=bs [39] from rfl,
   iP (a:=out) (b:=[39]) (by simp;omega)] at hF
  rw[show (39:Int)=((39:Nat):Int) from rfl] at hF
  simp only[YX] at hF
  rw[hd0,ER]
  by_cases c1:c.toNat=39
  ·rw[decide_eq_true c1,cond_true,if_pos c1] at *
   simp only[bC,aM,dN (show i<mx by unfold mx;omega),h1,iP (a:=out++[39]) (b:=[c]) (by simp;omega)] at hF
   rw[bX (hres.trans hF.symm),ih (i+1) _ (by omega) (by simp;omega)]
   simp
  ·rw[decide_eq_false c1,cond_false,if_neg c1] at *
   simp only[bC,aM,dN (show i<mx by unfold mx;omega),h1,iP (a:=out) (b:=[c]) (by simp;omega)] at hF
   rw[bX (hres.trans hF.symm),ih (i+1) _ (by omega) (by simp;omega)]
   simp
theorem YZ{s:Bs}(hl:s.length<mx):qO (bs s,())=some (bs (39::ER s++[39]),()):=by
 unfold qO
 have:=W0 hl s.length 0 [39] (by omega) (by simp)
 rw[show ((0:Nat):Int)=0 from rfl] at this
 have h2:=R8 s
 simp only[show ByteArray.mk #[39]=bs [39] from rfl,this,bC,aM,List.drop_zero]
 unfold mx at hl
 rw[iP (by simp;omega)]
 rfl
def BR(k:Int):Bs:=if k=6 then [40] else if k=7 then [41] else if k=8 then [44] else if k=9 then [59] else if k=10 then [61] else if k=11 then [36] else if k=12 then [42] else []
def fF(k:Int)(s:Bs):Bs:=
 if k=1∨k=2 then s else if k=3 then 39::ER s++[39] else if k=4 then 46::s++[46] else if k=5 then 35::s else BR k
def uH(k:Int)(s:Bs):Bs:=fF k s++(if k=9 then [10] else [])
theorem GO{s:Bs}(hl:s.length<mx)(k a:Int):qP (k,bs s,a,())=some (bs (uH k s),()):=by
 unfold qP uH fF
 unfold mx at hl
 simp only[bZ,rP,w9,R7,YZ (show s.length<mx by unfold mx;omega),show ByteArray.mk #[46]=bs [46] from rfl,show ByteArray.mk #[35]=bs [35] from rfl,show ByteArray.mk #[59,10]=bs [59,10] from rfl,
  show ByteArray.mk #[40,41,44,59,61,36,42]=bs [40,41,44,59,61,36,42] from rfl,iP (a:=[46]) (b:=s) (by simp;omega),bC,iP (a:=[46]++s) (b:=[46]) (by simp;omega),iP (a:=[35]) (b:=s) (by simp;omega)]
 by_cases h1:k=1
 ·subst h1;simp
 rw[if_neg h1]
 simp only[bC,aM,decide_eq_true_eq]
 by_cases h2:k=2
 ·subst h2;simp
 rw[w9,if_neg h2,if_neg (show ¬(k=1∨k=2) by omega)]
 by_cases h3:k=3
 ·subst h3
  simp[YZ (show s.length<mx by unfold mx;omega)]
 rw[if_neg h3,if_neg h3]
 by_cases h4:k=4
 ·subst h4
  simp[iP (a:=[46]) (b:=s) (by simp;omega),iP (a:=46::s) (b:=[46]) (by simp;omega)]
 rw[if_neg h4,if_neg h4]
 by_cases h5:k=5
 ·subst h5
  simp[iP (a:=[35]) (b:=s) (by simp;omega)]
 rw[if_neg h5,if_neg h5]
 by_cases h9:k=9
 ·subst h9;rfl
 rw[if_neg h9,if_neg h9,List.append_nil]
 by_cases h6:6≤k
 ·rw[if_pos h6]
  by_cases h12:k≤12
  ·rw[if_pos h12]
   obtain⟨j,rfl⟩:∃j:Nat,k=((j+6:Nat):Int):=⟨(k-6).toNat,by omega⟩
   have hj:j≤6:=by omega
   rw[lQ,aY,jQ (n:=((j+6:Nat):Int)-6) (by omega) (by omega),jQ (by omega) (by omega)]
   have e1:((j+6:Nat):Int)-6=(j:Int):=by omega
   have e2:((j+6:Nat):Int)-6+1=((j+1:Nat):Int):=by omega
   rw[e1,show (j:Int)+1=((j+1:Nat):Int) by omega,xA (by simp;omega)]
   have:j=0∨j=1∨j=2∨j=3∨j=4∨j=5∨j=6:=by omega
   rcases this with rfl | rfl | rfl | rfl | rfl | rfl | rfl <;> rfl
  ·rw[if_neg h12]
   have:BR k=[]:=by
    unfold BR
    rw[if_neg (by omega),if_neg (by omega),if_neg (by omega),if_neg (by omega),if_neg (by omega),if_neg (by omega),if_neg (by omega)]
   rw[this]
 ·rw[if_neg h6]
  have:BR k=[]:=by
   unfold BR
   rw[if_neg (by omega),if_neg (by omega),if_neg (by omega),if_neg (by omega),if_neg (by omega),if_neg (by omega),if_neg (by omega)]
  rw[this]
end Go.Eng.Lex
namespace Go.Eng.Lex
open Go.Eng
def Nn(r:Bs):Prop:=r=[]∨∃c l,r=c::l∧PS c=false∧c.toNat≠46∧c.toNat≠39∧c.toNat≠43
theorem UI{c:UInt8}(h:PS c=false):vA c=false∧lJ c=false∧c.toNat≠95∧c.toNat≠45:=by
 unfold PS at h
 simp only[Bool.or_eq_false_iff,decide_eq_false_iff_not] at h
 exact⟨h.1.1.1,h.1.1.2,h.1.2,h.2⟩
theorem KE{r:Bs}(h:Nn r):cY PS r=0∧cY GJ r=0∧cY lJ r=0:=by
 rcases h with rfl | ⟨c,l,rfl,h,_⟩
 ·exact⟨rfl,rfl,rfl⟩
 ·obtain⟨h1,h2,h3,h4⟩:=UI h
  simp[cY,h,GJ,h1,h2,h3]
theorem Ex{r:Bs}(h:Nn r):vA (hd r)=false∧lJ (hd r)=false∧(hd r).toNat≠46∧(hd r).toNat≠39∧(hd r).toNat≠43∧(hd r).toNat≠45∧(hd r).toNat≠69:=by
 rcases h with rfl | ⟨c,l,rfl,h,g1,g2,g3⟩
 ·decide
 ·obtain⟨h1,h2,h3,h4⟩:=UI h
  refine⟨h1,h2,g1,g2,g3,h4,fun e=>?_⟩
  simp only[hd,List.headD_cons] at e
  simp[vA,e] at h1
theorem tZ(p:UInt8→Bool){r:Bs}(h:cY p r=0):∀a,cY p (a++r)=cY p a
 | []=>by simp[cY,h]
 | c::a=>by simp only[List.cons_append,cY,tZ p h a]
theorem R9{a r:Bs}{k:Nat}(h:(hd r).toNat≠k)(hk:k≠0):((hd (a++r)).toNat=k)=((hd a).toNat=k):=by
 cases a with
 | nil=>exact propext ⟨fun e=>(h e).elim,fun e=>by simp[hd] at e;omega⟩
 | cons c a=>rfl
theorem PT{a r:Bs}(h1:(hd r).toNat≠43)(h2:(hd r).toNat≠45):fE (a++r)=fE a:=by
 unfold fE
 simp only[R9 h1 (by omega),R9 h2 (by omega)]
theorem UJ{r:Bs}(h:Nn r)(t:Bs):CK (t++r)=CK t:=by
 obtain⟨_,_,hr⟩:=KE h
 obtain⟨_,_,g46,_,g43,g45,g69⟩:=Ex h
 have dr:∀i,i≤t.length→(t++r).drop i=t.drop i++r:=fun i hi=>List.drop_append_of_le_length hi
 unfold CK
 simp only[PT g43 g45]
 have h1:=GM t
 rw[dr _ h1,tZ _ hr]
 have h2:=f9 lJ h1
 generalize he:fE t+cY lJ (t.drop (fE t))=e at *
 rw[dr _ h2]
 simp only[R9 g46 (by omega:(46:Nat)≠0)]
 by_cases c1:e=fE t
 ·rw[if_pos c1,if_pos c1]
 rw[if_neg c1,if_neg c1]
 by_cases c2:(hd (t.drop e)).toNat=46
 ·rw[if_pos c2,if_pos c2]
  have hlt:=IY c2 (by omega)
  rw[dr (e+1) (by omega),tZ _ hr]
  have h3:=f9 lJ (l:=t) (i:=e+1) (by omega)
  generalize e+1+cY lJ (t.drop (e+1))=e2 at *
  rw[dr _ h3]
  simp only[R9 g69 (by omega:(69:Nat)≠0)]
  by_cases c3:(hd (t.drop e2)).toNat=69
  ·rw[if_pos c3,if_pos c3]
   have hlt2:=IY c3 (by omega)
   rw[dr (e2+1) (by omega),PT g43 g45]
   have h4:=tX (l:=t) (i:=e2+1) (by omega)
   generalize e2+1+fE (t.drop (e2+1))=f2 at *
   rw[dr _ h4,tZ _ hr]
  ·rw[if_neg c3,if_neg c3]
 ·rw[if_neg c2,if_neg c2]
theorem Ey{s r:Bs}(hs:s.all Ew=true)(hr:(hd r).toNat≠39):l8 (ER s++39::r)=some (s,(ER s).length+1):=by
 induction s with
 | nil=>
  show l8 (39::r)=_
  rw[tY,if_neg (by decide),if_pos (by decide),if_neg hr];rfl
 | cons c s ih=>
  simp only[List.all_cons,Bool.and_eq_true,Ew,decide_eq_true_eq] at hs
  unfold ER
  by_cases h:c.toNat=39
  ·rw[if_pos h]
   show l8 (39::(c::(ER s++39::r)))=_
   have h':(hd (c::(ER s++39::r))).toNat=39:=h
   rw[tY,if_neg (by decide),if_pos (by decide),if_pos h']
   simp only[List.tail_cons]
   rw[ih (by simpa[Ew] using hs.2)]
   have:c=39:=by rw[←UInt8.toNat_inj];exact h
   subst this
   simp only[Option.map_some,List.length_cons]
  ·rw[if_neg h]
   show l8 (c::(ER s++39::r))=_
   rw[tY,if_neg (by omega),if_neg h,ih (by simpa[Ew] using hs.2)]
   simp only[Option.map_some,List.length_cons]
theorem No{c:UInt8}(h:vA c=true):lJ c=false:=by
 unfold vA at h;unfold lJ
 simp only[Bool.and_eq_true,decide_eq_true_eq] at h
 simp;omega
theorem GP{p:UInt8→Bool}:∀{s:Bs},cY p s=s.length→∀{r:Bs},cY p (s++r)=s.length+cY p r
 | [],_,r=>by simp
 | c::s,h,r=>by
  simp only[cY,List.length_cons,List.cons_append] at h ⊢
  by_cases hc:p c=true
  ·rw[if_pos hc] at h ⊢
   rw[GP (by omega)];omega
  ·rw[if_neg hc] at h;omega
theorem Ez{k:Int}(h1:6≤k)(h2:k≤12):∃c,BR k=[c]∧fV c=k∧vA c=false∧lJ c=false∧c.toNat≠43∧c.toNat≠45∧c.toNat≠39∧c.toNat≠46∧c.toNat≠35∧Jy c=false∧c.toNat≠47:=by
 have:k=6∨k=7∨k=8∨k=9∨k=10∨k=11∨k=12:=by omega
 rcases this with rfl | rfl | rfl | rfl | rfl | rfl | rfl
 ·exact⟨40,rfl,by decide⟩
 ·exact⟨41,rfl,by decide⟩
 ·exact⟨44,rfl,by decide⟩
 ·exact⟨59,rfl,by decide⟩
 ·exact⟨61,rfl,by decide⟩
 ·exact⟨36,rfl,by decide⟩
 ·exact⟨42,rfl,by decide⟩
theorem Fa{k:Int}{s r:Bs}(hv:cG k s=true)(hr:k≤5→Nn r):vT (fF k s++r)=(k.toNat,s,(fF k s).length)∧∃c l,fF k s=c::l∧Jy c=false∧c.toNat≠47:=by
 have wsu:∀{c:UInt8},vA c=true→Jy c=false∧c.toNat≠47:=fun {c} h=>by
  unfold vA at h;unfold Jy
  simp only[Bool.and_eq_true,decide_eq_true_eq] at h
  exact⟨by simp;omega,by omega⟩
 have wsd:∀{c:UInt8},lJ c=true→Jy c=false∧c.toNat≠47:=fun {c} h=>by
  unfold lJ at h;unfold Jy
  simp only[Bool.and_eq_true,decide_eq_true_eq] at h
  exact⟨by simp;omega,by omega⟩
 have wsn:∀{c:UInt8} (n:Nat),c.toNat=n→n≠9→n≠10→n≠13→n≠32→Jy c=false:=fun {c} n h h1 h2 h3 h4=>by
  unfold Jy;simp;omega
 unfold cG at hv
 by_cases h1:k=1
 ·subst h1
  rw[if_pos rfl] at hv
  simp only[Bool.and_eq_true,decide_eq_true_eq,DN,if_true] at hv
  obtain⟨hne,hn⟩:=hv
  obtain⟨c,l,rfl⟩:∃c l,s=c::l:=by cases s with | nil=>exact(hne rfl).elim | cons c l=>exact⟨c,l,rfl⟩
  have hcore:fF 1 (c::l)=c::l:=rfl
  rw[hcore]
  simp only[hd,List.headD_cons,List.tail_cons,List.length_cons] at hn
  by_cases hc:vA c=true
  ·simp only[hc,if_true] at hn
   have hw:PS c=true:=by simp[PS,hc]
   have hall:cY PS (c::l)=(c::l).length:=by simp only[cY,hw,if_true,List.length_cons];omega
   refine⟨?_,c,l,rfl,wsu hc⟩
   unfold vT
   have e1:hd ((c::l)++r)=c:=rfl
   simp only[e1,hc,if_true]
   rw[GP hall,(KE (hr (by decide))).1,Nat.add_zero,List.take_left];rfl
  ·simp only[hc,Bool.false_eq_true,if_false] at hn;omega
 rw[if_neg h1] at hv
 by_cases h2:k=2
 ·subst h2
  rw[if_pos rfl] at hv
  simp only[Bool.and_eq_true,decide_eq_true_eq] at hv
  obtain⟨hne,hn⟩:=hv
  obtain⟨c,l,rfl⟩:∃c l,s=c::l:=by cases s with | nil=>exact(hne rfl).elim | cons c l=>exact⟨c,l,rfl⟩
  have hcore:fF 2 (c::l)=c::l:=rfl
  rw[hcore]
  have e1:hd ((c::l)++r)=c:=rfl
  have hc:lJ c=true∨c.toNat=43∨c.toNat=45:=by
   apply Classical.byContradiction
   intro hno
   have hs:fE (c::l)=0:=by unfold fE;exact if_neg (fun h=>hno (.inr h))
   have:CK (c::l)=0:=by
    unfold CK
    have hd0:lJ c=false:=by
     cases h:lJ c with
     | false=>rfl
     | true=>exact(hno (.inl h)).elim
    simp only[hs,List.drop_zero,cY,hd0]
    rfl
   rw[this] at hn
   simp at hn
  have hnu:vA c=false:=by
   cases h:vA c with
   | false=>rfl
   | true=>
    have:=No h
    rcases hc with hc | hc | hc
    ·rw[this] at hc;cases hc
    ·simp[vA,hc] at h
    ·simp[vA,hc] at h
  refine⟨?_,c,l,rfl,?_⟩
  ·unfold vT
   simp only[e1,hnu,Bool.false_eq_true,if_false]
   rw[if_pos hc,UJ (hr (by decide)),hn,List.take_left];rfl
  ·rcases hc with hc | hc | hc
   ·exact wsd hc
   ·exact⟨wsn _ hc (by decide) (by decide) (by decide) (by decide),by omega⟩
   ·exact⟨wsn _ hc (by decide) (by decide) (by decide) (by decide),by omega⟩
 rw[if_neg h2] at hv
 by_cases h4:k=4
 ·subst h4
  rw[if_pos rfl] at hv
  simp only[Bool.and_eq_true,decide_eq_true_eq,DN,Bool.false_eq_true,if_false] at hv
  obtain⟨hne,hn⟩:=hv
  obtain⟨c,l,rfl⟩:∃c l,s=c::l:=by cases s with | nil=>exact(hne rfl).elim | cons c l=>exact⟨c,l,rfl⟩
  have hcore:fF 4 (c::l)=46::((c::l)++[46]):=rfl
  rw[hcore]
  simp only[hd,List.headD_cons,List.tail_cons,List.length_cons] at hn
  by_cases hc:vA c=true
  ·simp only[hc,if_true] at hn
   have hw:GJ c=true:=by simp[GJ,hc]
   have hall:cY GJ (c::l)=(c::l).length:=by simp only[cY,hw,if_true,List.length_cons];omega
   refine⟨?_,46,_,rfl,by decide,by decide⟩
   have e0:46::((c::l)++[46])++r=46::((c::l)++(46::r)):=by simp
   rw[e0]
   have hrun:cY GJ ((c::l)++46::r)=(c::l).length:=by rw[GP hall];rfl
   have e1:hd (46::((c::l)++(46::r)))=46:=rfl
   have e2:hd ((c::l)++(46::r))=c:=rfl
   have e3:(46::((c::l)++(46::r))).drop ((c::l).length+1)=46::r:=by rw[List.drop_succ_cons,List.drop_left]
   have u1:vA 46=false:=by decide
   have u2:¬(lJ 46=true∨(46:UInt8).toNat=43∨(46:UInt8).toNat=45):=by decide
   unfold vT
   simp only[e1,u1,Bool.false_eq_true,if_false]
   rw[if_neg u2,if_neg (by decide),if_pos (by decide)]
   simp only[List.tail_cons,e2,hc,if_true,hrun,e3]
   rw[if_pos (show (hd (46::r)).toNat=46 from rfl),List.take_left]
   simp
  ·simp only[hc,Bool.false_eq_true,if_false] at hn;omega
 rw[if_neg h4] at hv
 by_cases h5:k=5
 ·subst h5
  rw[if_pos rfl] at hv
  simp only[Bool.and_eq_true,decide_eq_true_eq] at hv
  obtain⟨hne,hn⟩:=hv
  have hcore:fF 5 s=35::s:=rfl
  rw[hcore]
  refine⟨?_,35,_,rfl,by decide,by decide⟩
  have hrun:cY lJ (s++r)=s.length:=by rw[GP hn,(KE (hr (by decide))).2.2];rfl
  have e1:hd (35::s++r)=35:=rfl
  have u1:vA 35=false:=by decide
  have u2:¬(lJ 35=true∨(35:UInt8).toNat=43∨(35:UInt8).toNat=45):=by decide
  have hl:s.length≠0:=fun h=>hne (List.eq_nil_of_length_eq_zero h)
  unfold vT
  simp only[e1,u1,Bool.false_eq_true,if_false]
  rw[if_neg u2,if_neg (by decide),if_neg (by decide),if_pos (by decide)]
  simp only[List.cons_append,List.tail_cons,hrun]
  rw[if_neg hl,List.take_left];rfl
 rw[if_neg h5] at hv
 by_cases h3:k=3
 ·subst h3
  rw[if_pos rfl] at hv
  have hcore:fF 3 s=39::(ER s++[39]):=rfl
  rw[hcore]
  refine⟨?_,39,_,rfl,by decide,by decide⟩
  have e0:39::(ER s++[39])++r=39::(ER s++39::r):=by simp
  rw[e0]
  have e1:hd (39::(ER s++39::r))=39:=rfl
  have u1:vA 39=false:=by decide
  have u2:¬(lJ 39=true∨(39:UInt8).toNat=43∨(39:UInt8).toNat=45):=by decide
  unfold vT
  simp only[e1,u1,Bool.false_eq_true,if_false]
  rw[if_neg u2,if_pos (by decide)]
  simp only[List.tail_cons,Ey hv (Ex (hr (by decide))).2.2.2.1]
  simp
 rw[if_neg h3] at hv
 simp only[Bool.and_eq_true,decide_eq_true_eq] at hv
 obtain⟨⟨h6,h12⟩,hs⟩:=hv
 subst hs
 obtain⟨c,hc,hk,g1,g2,g3,g4,g5,g6,g7,g8,g9⟩:=Ez h6 h12
 have hcore:fF k []=[c]:=by unfold fF;rw[if_neg (by omega),if_neg h3,if_neg h4,if_neg h5,hc]
 rw[hcore]
 refine⟨?_,c,[],rfl,g8,g9⟩
 have e1:hd ([c]++r)=c:=rfl
 unfold vT
 simp only[e1,g1,Bool.false_eq_true,if_false]
 rw[if_neg (by rw[g2];simp[g3,g4]),if_neg g5,if_neg g6,if_neg g7,if_neg (by omega)]
 rw[show fV c=k.toNat by omega];rfl
end Go.Eng.Lex
namespace Go.Eng.Lex
open Go.Eng
abbrev Tk:=Int×Bs×Int
def eE(x:Tk):T:=.agg [.v (.int .i64 x.1),.v (.string (bs x.2.1)),.v (.int .i64 x.2.2)]
theorem M8(x:Tk):T.int? .i64 (T.cell (eE x) 0)=some x.1∧T.str? (T.cell (eE x) 1)=some (bs x.2.1)∧T.int? .i64 (T.cell (eE x) 2)=some x.2.2∧T.anyInt? (T.cell (eE x) 2)=some x.2.2:=by
 refine⟨?_,?_,?_,?_⟩ <;> rfl
theorem ES{xs:List Tk}{i:Nat}{x:Tk}(h:xs[i]?=some x):idxL (xs.map eE) (i:Int)=some (eE x):=by rw[cC,List.getElem?_map,h];rfl
def gQ(k:Int):Bool:=decide (1≤k)&&decide (k≤5)
theorem Fb(k:Int)(s:ByteArray)(a:Int):oT (k,s,a,())=some (gQ k,()):=by
 unfold oT gQ
 simp only[rP]
 by_cases h:1≤k <;> simp[h]
def fP:Bool→List Tk→Bs
 | _,[]=>[]
 | p,x::r=>(if p&&gQ x.1 then [32] else [])++uH x.1 x.2.1++fP (gQ x.1) r
def rJ(xs:List Tk):Nat→Bool
 | 0=>false
 | i+1=>match xs[i]? with
  | some x=>gQ x.1
  | none=>false
theorem wrtK_le(k:Int)(s:Bs):(uH k s).length≤2*s.length+3:=by
 have h:=R8 s
 have h1:(BR k).length≤1:=by unfold BR;repeat' (first | split | decide)
 unfold uH fF
 by_cases h9:k=9
 ·subst h9
  have:(BR 9).length=1:=rfl
  simp[this]
 ·rw[if_neg h9,List.append_nil]
  split
  ·omega
  ·split
   ·simp;omega
   ·split
    ·simp;omega
    ·split
     ·simp;omega
     ·omega
theorem Be{xs:List Tk}(hx:∀x∈xs,x.2.1.length<mx)(hn:xs.length≤10000):∀(d i:Nat) (out:Bs),i+d=xs.length→out.length≤i*8000000003 →
 aF gW (xs.map eE,out.map mQ,(i:Int),())=some (.inl ((out++fP (rJ xs i) (xs.drop i)).map mQ,())):=by
 intro d
 induction d with
 | zero=>
  intro i out hi _
  have:i=xs.length:=by omega
  subst this
  rw[aT (e:=.inl (out.map mQ,())) (by simp[gW])]
  simp[fP]
 | succ d ih=>
  intro i out hi ho
  have hlt:i<xs.length:=by omega
  obtain⟨x,hxi⟩:∃x,xs[i]?=some x:=⟨_,List.getElem?_eq_getElem hlt⟩
  have hmem:x∈xs:=List.mem_of_getElem? hxi
  have hxl:=hx x hmem
  have W8:xs.drop i=x::xs.drop (i+1):=by
   obtain⟨h1,rfl⟩:=List.getElem?_eq_some_iff.1 hxi
   exact List.drop_eq_getElem_cons h1
  obtain⟨t1,t2,t3,_⟩:=M8 x
  have hpn:rJ xs (i+1)=gQ x.1:=by simp only[rJ,hxi]
  generalize hres:gW (xs.map eE,out.map mQ,(i:Int),())=res
  have hF:=hres
  unfold gW at hF
  have hwl:=wrtK_le x.1 x.2.1
  have hroom2:∀o:Bs,o.length≤out.length+1→room (o.map mQ) (fR (bs (uH x.1 x.2.1))) 1=some ((o++uH x.1 x.2.1).map mQ):=fun o h=>by
   rw[hM (by simp only[PP,List.length_map];unfold mx at hxl;omega) (by omega),PP,List.map_append];rfl
  have hnext:∀o:Bs,o.length≤out.length+1→res=some (.inl (xs.map eE,(o++uH x.1 x.2.1).map mQ,((i+1:Nat):Int),())) →
   (o++uH x.1 x.2.1)++fP (gQ x.1) (xs.drop (i+1))=out++fP (rJ xs i) (x::xs.drop (i+1)) →
   aF gW (xs.map eE,out.map mQ,(i:Int),())=some (.inl ((out++fP (rJ xs i) (xs.drop i)).map mQ,())):=fun o h e1 e2=>by
   rw[bX (hres.trans e1),ih (i+1) _ (by omega) (by rw[List.length_append];unfold mx at hxl;omega),hpn,e2,W8]
  simp only[aG,bD,List.length_map,UF,hlt,decide_true,cond_true,ES hxi,bC,t1,t2,t3,Fb,GO hxl,aY,lQ] at hF
  cases i with
  | zero=>
   rw[decide_eq_false (by omega),cond_false] at hF
   simp only[bC,aM,ES hxi,t1,t2,t3,GO hxl,hroom2 out (by omega)] at hF
   rw[dN (show 0<mx by unfold mx;omega)] at hF
   refine hnext out (by omega) hF.symm ?_
   simp[fP,rJ]
  | succ j=>
   obtain⟨y,hyj⟩:∃y,xs[j]?=some y:=⟨_,List.getElem?_eq_getElem (by omega)⟩
   obtain⟨y1,y2,y3,_⟩:=M8 y
   have hp:rJ xs (j+1)=gQ y.1:=by simp only[rJ,hyj]
   have e1:wr .i64 (((j+1:Nat):Int)-1)=(j:Int):=by rw[jQ (by omega) (by omega)];omega
   rw[decide_eq_true (by omega),cond_true,e1] at hF
   simp only[ES hyj,bC,y1,y2,y3,Fb] at hF
   rw[hp] at hnext ⊢
   have hroom1:room (out.map mQ) [T.v (.int .u8 (32:Int))] 1=some ((out++[32]).map mQ):=by
    rw[hM (by simp;omega) (by omega),List.map_append];rfl
   cases hxk:gQ x.1 with
   | false=>
    rw[hxk,cond_false] at hF
    simp only[bC,aM,ES hxi,t1,t2,t3,GO hxl,hroom2 out (by omega)] at hF
    rw[dN (show j+1<mx by unfold mx;omega)] at hF
    refine hnext out (by omega) hF.symm ?_
    simp[fP,hxk]
   | true=>
    rw[hxk,cond_true] at hF
    generalize hyk:gQ y.1=b at *
    cases b with
    | false=>
     rw[cond_false] at hF
     simp only[bC,aM,ES hxi,t1,t2,t3,GO hxl,hroom2 out (by omega)] at hF
     rw[dN (show j+1<mx by unfold mx;omega)] at hF
     refine hnext out (by omega) hF.symm ?_
     simp[fP]
    | true=>
     rw[cond_true,hroom1] at hF
     simp only[bC,aM,ES hxi,t1,t2,t3,GO hxl,hroom2 (out++[32]) (by simp)] at hF
     rw[dN (show j+1<mx by unfold mx;omega)] at hF
     refine hnext (out++[32]) (by simp) hF.symm ?_
     simp[fP,hxk]
theorem r_Text{xs:List Tk}(hx:∀x∈xs,x.2.1.length<mx)(hn:xs.length≤10000):oU (xs.map eE,())=some (bs (fP false xs),()):=by
 unfold oU
 have:=Be hx hn xs.length 0 [] (by omega) (by simp)
 rw[show ((0:Nat):Int)=0 from rfl,show ([]:Bs).map mQ=[] from rfl] at this
 simp only[this,bC,aM,IZ,List.drop_zero,List.nil_append]
 rfl
end Go.Eng.Lex
namespace Go.Eng.Lex
open Go.Eng
theorem Kc(c:UInt8)(l:Bs):List.isPrefixOf [39] (c::l)=decide (c.toNat=39):=by
 have h:((39:UInt8)==c)=decide (c.toNat=39):=by
  by_cases hc:c.toNat=39
  ·have:c=39:=by rw[←UInt8.toNat_inj];exact hc
   subst this;rfl
  ·rw[decide_eq_false hc]
   simp only[beq_eq_false_iff_ne,ne_eq]
   intro e;exact hc (by rw[←e];rfl)
 simp[List.isPrefixOf,h]
theorem UK:∀{s:Bs},Lib.index s [39]=-1→ER s=s
 | [],_=>rfl
 | c::l,h=>by
  unfold Lib.index at h
  rw[Kc] at h
  by_cases hc:c.toNat=39
  ·rw[decide_eq_true hc,if_pos rfl] at h;cases h
  ·rw[decide_eq_false hc] at h
   simp only[Bool.false_eq_true,if_false] at h
   have hge:=Lib.index_ge l [39]
   by_cases h1:Lib.index l [39]=-1
   ·rw[ER,if_neg hc,UK h1]
   ·rw[if_neg (by simpa using h1)] at h;omega
theorem UL:∀{s:Bs} {i:Nat},Lib.index s [39]=i→ER s=s.take i++[39,39]++ER (s.drop (i+1))
 | [],i,h=>by unfold Lib.index at h;simp at h
 | c::l,i,h=>by
  unfold Lib.index at h
  rw[Kc] at h
  by_cases hc:c.toNat=39
  ·rw[decide_eq_true hc,if_pos rfl] at h
   have:i=0:=by omega
   subst this
   have hc':c=39:=by rw[←UInt8.toNat_inj];exact hc
   rw[ER,if_pos hc,hc'];rfl
  ·rw[decide_eq_false hc] at h
   simp only[Bool.false_eq_true,if_false] at h
   have hge:=Lib.index_ge l [39]
   by_cases h1:Lib.index l [39]=-1
   ·rw[if_pos (by simpa using h1)] at h;omega
   ·rw[if_neg (by simpa using h1)] at h
    obtain⟨j,rfl⟩:∃j,i=j+1:=⟨i-1,by omega⟩
    rw[ER,if_neg hc,UL (i:=j) (by omega)]
    rfl
theorem Pf:∀(n:Nat) (s:Bs) (k:Nat),s.length≤n→Lib.count s [39]≤k→Lib.replaceK [39] [39,39] k s=ER s:=by
 intro n
 induction n with
 | zero=>
  intro s k hs _
  have:s=[]:=List.eq_nil_of_length_eq_zero (by omega)
  subst this
  cases k with
  | zero=>rfl
  | succ k=>rfl
 | succ n ih=>
  intro s k hs hk
  have hge:=Lib.index_ge s [39]
  by_cases h1:Lib.index s [39]=-1
  ·rw[UK h1]
   cases k with
   | zero=>rfl
   | succ k=>rw[Lib.replaceK,if_pos (by simpa using h1)]
  ·obtain⟨i,hi⟩:∃i:Nat,Lib.index s [39]=i:=⟨(Lib.index s [39]).toNat,by omega⟩
   have hc:=Lib.count_hit (s:=s) (sub:=[39]) (by simp) hi
   obtain⟨k',rfl⟩:∃k',k=k'+1:=⟨k-1,by omega⟩
   rw[Lib.replaceK_hit [39] [39,39] k' s i hi,UL hi]
   congr 1
   have hne:s≠[]:=by intro e;subst e;simp[Lib.index] at hi
   have hpos:0<s.length:=List.length_pos_iff.2 hne
   simp only[List.length_singleton] at hc ⊢
   exact ih _ k' (by rw[List.length_drop];omega) (by omega)
theorem Ir(s:Bs):Lib.replaceAll s [39] [39,39]=ER s:=by
 unfold Lib.replaceAll Lib.replace
 rw[if_neg (by decide)]
 refine Pf s.length s _ (Nat.le_refl _) ?_
 unfold Lib.replaceNum
 rw[if_pos (.inl (by omega))]
 exact Nat.le_refl _
theorem Nq{s:Bs}(hl:s.length<mx):eZ (bs s,bs [39],bs [39,39],())=some (bs (ER s),()):=by
 unfold eZ
 have h1:=Lib.count_le s [39]
 have h2:Lib.countB (bs s) (bs [39])=Lib.count s [39]:=rfl
 unfold mx at hl
 simp only[YN,h2,List.length_cons,List.length_nil]
 rw[if_pos ⟨by omega,by omega,by omega⟩]
 simp only[Hu,Ir]
 rfl
theorem UM(k:Int)(s:ByteArray)(a:Int):aF dU ((),(32:Int),k,s,a,())=some (if BR k=[] then .inr (.inl ()) else .inl (bs (BR k),())):=by
 have step:∀c:Nat,c<127→dU ((),(c:Int),k,s,a,())=if (fV (UInt8.ofNat c):Int)≠0∧(fV (UInt8.ofNat c):Int)=k then some (.inr (.inl (bs [UInt8.ofNat c],()))) else some (.inl ((),((c+1:Nat):Int),k,s,a,())):=fun c hc=>by
  unfold dU
  have hs:=UH (UInt8.ofNat c)
  have hn:(UInt8.ofNat c).toNat=c:=by rw[UInt8.toNat_ofNat'];omega
  rw[hn] at hs
  have hst:strOf [T.v (.int .u8 (c:Int))]=some (bs [UInt8.ofNat c]):=by
   have:=T0 [UInt8.ofNat c]
   rw[List.map_singleton,hn] at this
   exact this
  have hw:wr .u8 (addI (c:Int) 1)=((c+1:Nat):Int):=by
   rw[aY]
   have:wr .u8 ((c:Int)+1)=((c:Int)+1):=by
    rw[Oy (by omega) (by omega)]
   rw[this];omega
  simp only[aG,hs,bC,bZ,hst,hw]
  rw[decide_eq_true (show (c:Int)<127 by omega),cond_true]
  by_cases h0:(fV (UInt8.ofNat c):Int)=0
  ·rw[decide_eq_true h0,if_neg (fun h=>h.1 h0)];rfl
  ·rw[decide_eq_false h0,Bool.not_false,cond_true]
   by_cases h1:(fV (UInt8.ofNat c):Int)=k
   ·rw[decide_eq_true h1,if_pos ⟨h0,h1⟩];rfl
   ·rw[decide_eq_false h1,if_neg (fun h=>h1 h.2)];rfl
 have fin:dU ((),(127:Int),k,s,a,())=some (.inr (.inr (.inl ()))):=by
  unfold dU
  simp only[aG]
  rfl
 have run:∀(d c:Nat),c+d=127→(∀j,32≤j→j<c→¬((fV (UInt8.ofNat j):Int)≠0∧(fV (UInt8.ofNat j):Int)=k))→32≤c →
  aF dU ((),(c:Int),k,s,a,())=some (if BR k=[] then .inr (.inl ()) else .inl (bs (BR k),())):=by
  intro d
  induction d with
  | zero=>
   intro c hc hno h32
   have:c=127:=by omega
   subst this
   rw[show ((127:Nat):Int)=127 from rfl,aT fin]
   have hk:¬(6≤k∧k≤12):=fun⟨h1,h2⟩=>by
    have e:k=6∨k=7∨k=8∨k=9∨k=10∨k=11∨k=12:=by omega
    rcases e with rfl | rfl | rfl | rfl | rfl | rfl | rfl
    ·exact hno 40 (by omega) (by omega) ⟨by decide,rfl⟩
    ·exact hno 41 (by omega) (by omega) ⟨by decide,rfl⟩
    ·exact hno 44 (by omega) (by omega) ⟨by decide,rfl⟩
    ·exact hno 59 (by omega) (by omega) ⟨by decide,rfl⟩
    ·exact hno 61 (by omega) (by omega) ⟨by decide,rfl⟩
    ·exact hno 36 (by omega) (by omega) ⟨by decide,rfl⟩
    ·exact hno 42 (by omega) (by omega) ⟨by decide,rfl⟩
   have:BR k=[]:=by
    unfold BR
    rw[if_neg (by omega),if_neg (by omega),if_neg (by omega),if_neg (by omega),if_neg (by omega),if_neg (by omega),if_neg (by omega)]
   rw[if_pos this]
  | succ d ih=>
   intro c hc hno h32
   have hs:=step c (by omega)
   by_cases h:(fV (UInt8.ofNat c):Int)≠0∧(fV (UInt8.ofNat c):Int)=k
   ·rw[if_pos h] at hs
    rw[aT hs]
    have hone:BR k=[UInt8.ofNat c]:=by
     obtain⟨h0,rfl⟩:=h
     have hn:(UInt8.ofNat c).toNat=c:=by rw[UInt8.toNat_ofNat'];omega
     unfold fV at h0 ⊢
     rw[hn] at h0 ⊢
     by_cases c1:c=40;· subst c1;rfl
     by_cases c2:c=41;· subst c2;rfl
     by_cases c3:c=44;· subst c3;rfl
     by_cases c4:c=59;· subst c4;rfl
     by_cases c5:c=61;· subst c5;rfl
     by_cases c6:c=36;· subst c6;rfl
     by_cases c7:c=42;· subst c7;rfl
     simp[c1,c2,c3,c4,c5,c6,c7] at h0
    rw[hone,if_neg (by simp)]
   ·rw[if_neg h] at hs
    rw[bX hs,ih (c+1) (by omega) (fun j h1 h2=>by
     by_cases hj:j=c
     ·subst hj;exact h
     ·exact hno j h1 (by omega)) (by omega)]
 exact run 95 32 (by omega) (fun j h1 h2=>by omega) (by omega)
theorem s_written{s:Bs}(hl:s.length<mx)(k a:Int):eG (k,bs s,a,())=some (bs (fF k s),()):=by
 unfold eG fF
 have hd:=R8 s
 unfold mx at hl
 simp only[bZ,w9,show ByteArray.mk #[39]=bs [39] from rfl,show ByteArray.mk #[39,39]=bs [39,39] from rfl,show ByteArray.mk #[46]=bs [46] from rfl,show ByteArray.mk #[35]=bs [35] from rfl,UM]
 by_cases h1:k=1
 ·subst h1;simp
 rw[if_neg h1]
 simp only[bC,aM]
 by_cases h2:k=2
 ·subst h2;simp
 rw[decide_eq_false h2,cond_false,if_neg (show ¬(k=1∨k=2) by omega)]
 by_cases h3:k=3
 ·subst h3
  simp only[if_true,Nq (show s.length<mx by unfold mx;omega),bC,iP (a:=[39]) (b:=ER s) (by simp;omega),iP (a:=[39]++ER s) (b:=[39]) (by simp;omega)]
  rfl
 rw[if_neg h3,if_neg h3]
 by_cases h4:k=4
 ·subst h4
  simp only[if_true,bC,iP (a:=[46]) (b:=s) (by simp;omega),iP (a:=[46]++s) (b:=[46]) (by simp;omega)]
  rfl
 rw[if_neg h4,if_neg h4]
 by_cases h5:k=5
 ·subst h5
  simp only[if_true,bC,iP (a:=[35]) (b:=s) (by simp;omega)]
  rfl
 rw[if_neg h5,if_neg h5]
 by_cases h:BR k=[]
 ·rw[if_pos h,h];rfl
 ·rw[if_neg h];rfl
end Go.Eng.Lex
namespace Go.Eng.Lex
open Go.Eng
theorem s_wide(k:Int):lY (k,())=some (gQ k,()):=by
 unfold lY gQ
 simp only[rP]
 by_cases h:1≤k <;> simp[h]
theorem core_le(k:Int)(s:Bs):(fF k s).length≤2*s.length+3:=by
 have:=wrtK_le k s
 unfold uH at this
 rw[List.length_append] at this
 omega
end Go.Eng.Lex
namespace Go.Eng.Lex
open Go.Eng
theorem PU(c:UInt8):fV c=0∨6≤fV c:=by
 unfold fV
 repeat' (first | (split;right;omega))
 exact .inl rfl
theorem Is:∀(n:Nat) (l:Bs) (q:Bs×Nat),l.length≤n→l8 l=some q→q.1.all Ew=true:=by
 intro n
 induction n with
 | zero=>
  intro l q hl h
  have:l=[]:=List.eq_nil_of_length_eq_zero (by omega)
  subst this
  rw[l8] at h;cases h
 | succ n ih=>
  intro l q hl h
  cases l with
  | nil=>rw[l8] at h;cases h
  | cons c l=>
   rw[tY] at h
   simp only[List.length_cons] at hl
   split at h
   ·cases h
   ·rename_i hc
    have hp:Ew c=true:=by unfold Ew;simp;omega
    split at h
    ·split at h
     ·cases hq:l8 l.tail with
      | none=>rw[hq] at h;cases h
      | some q'=>
       rw[hq] at h
       cases h
       simp only[List.all_cons,hp,Bool.true_and]
       exact ih _ _ (by rw[List.length_tail];omega) hq
     ·cases h;rfl
    ·cases hq:l8 l with
     | none=>rw[hq] at h;cases h
     | some q'=>
      rw[hq] at h
      cases h
      simp only[List.all_cons,hp,Bool.true_and]
      exact ih _ _ (by omega) hq
theorem Fh:Nn [32]:=.inr ⟨32,[],rfl,by decide⟩
theorem Iu(X:Bs):vT (39::X)=match l8 X with | some q=>(3,q.1,q.2+1) | none=>(3,[],0):=by
 unfold vT
 have a1:vA (hd (39::X))=false:=(by decide:vA 39=false)
 have a2:lJ (hd (39::X))=false:=(by decide:lJ 39=false)
 have a3:(hd (39::X)).toNat=39:=rfl
 simp only[a1,a2,a3,Bool.false_eq_true,false_or,or_self,Nat.reduceEqDiff,if_false,if_true,List.tail_cons] <;> rfl
theorem Iv(X:Bs):vT (46::X)=if vA (hd X) then if (hd (X.drop (cY GJ X))).toNat=46 then (4,X.take (cY GJ X),cY GJ X+2) else (0,[],0) else (0,[],0):=by
 unfold vT
 have a1:vA (hd (46::X))=false:=(by decide:vA 46=false)
 have a2:lJ (hd (46::X))=false:=(by decide:lJ 46=false)
 have a3:(hd (46::X)).toNat=46:=rfl
 simp only[a1,a2,a3,Bool.false_eq_true,false_or,or_self,Nat.reduceEqDiff,if_false,if_true,List.tail_cons,List.drop_succ_cons,show (46:Nat)≠39 by decide]
theorem Iw(X:Bs):vT (35::X)=if cY lJ X=0 then (0,[],0) else (5,X.take (cY lJ X),cY lJ X+1):=by
 unfold vT
 have a1:vA (hd (35::X))=false:=(by decide:vA 35=false)
 have a2:lJ (hd (35::X))=false:=(by decide:lJ 35=false)
 have a3:(hd (35::X)).toNat=35:=rfl
 simp only[a1,a2,a3,Bool.false_eq_true,false_or,or_self,Nat.reduceEqDiff,if_false,if_true,List.tail_cons,show (35:Nat)≠39 by decide,show (35:Nat)≠46 by decide]
 rfl
theorem Fi{k:Int}{s:Bs}(h1:1≤k)(h2:k≤12)(hw:gQ k=false→s=[])(h:vT (fF k s++[32])=(k.toNat,s,(fF k s).length)):cG k s=true:=by
 obtain⟨r1,r2,r3⟩:=KE Fh
 by_cases e1:k=1
 ·subst e1
  have hk:fF 1 s=s:=rfl
  rw[hk] at h
  unfold vT at h
  simp only at h
  split at h
  ·rename_i hu
   simp only[Prod.mk.injEq] at h
   obtain⟨_,_,h3⟩:=h
   rw[tZ _ r1] at h3
   cases s with
   | nil=>exact absurd hu (by decide)
   | cons c t=>
    have hu':vA c=true:=hu
    have hwd:PS c=true:=by unfold PS;rw[hu'];rfl
    have h4:DN true (c::t)=(c::t).length:=by
     unfold DN
     rw[if_pos (show vA (hd (c::t))=true from hu')]
     simp only[cY,hwd,if_true] at h3
     exact h3
    unfold cG
    rw[if_pos rfl,h4]
    simp
  ·repeat' split at h
   all_goals (simp only[Prod.mk.injEq] at h;obtain⟨h3,_⟩:=h)
   all_goals first
    | (exact absurd h3 (by decide))
    | (have:=PU (hd (s++[32]));have h5:(1:Int).toNat=1:=rfl;omega)
 by_cases e2:k=2
 ·subst e2
  have hk:fF 2 s=s:=rfl
  rw[hk] at h
  unfold vT at h
  simp only at h
  split at h
  ·simp only[Prod.mk.injEq] at h;exact absurd h.1 (by decide)
  ·split at h
   ·rename_i hu
    simp only[Prod.mk.injEq] at h
    obtain⟨_,_,h3⟩:=h
    rw[UJ Fh] at h3
    have hne:s≠[]:=fun e=>by subst e;revert hu;decide
    unfold cG
    rw[if_neg (by decide),if_pos rfl]
    simp[hne,h3]
   ·repeat' split at h
    all_goals (simp only[Prod.mk.injEq] at h;obtain⟨h3,_⟩:=h)
    all_goals first
     | (exact absurd h3 (by decide))
     | (have:=PU (hd (s++[32]));have h5:(2:Int).toNat=2:=rfl;omega)
 by_cases e3:k=3
 ·subst e3
  have hk:fF 3 s=39::(ER s++[39]):=rfl
  rw[hk,List.cons_append,Iu] at h
  unfold cG
  rw[if_neg (by decide),if_neg (by decide),if_neg (by decide),if_neg (by decide),if_pos rfl]
  split at h
  ·rename_i q hq
   simp only[Prod.mk.injEq] at h
   rw[←h.2.1]
   exact Is _ _ q (Nat.le_refl _) hq
  ·simp only[Prod.mk.injEq,List.length_cons] at h
   omega
 by_cases e4:k=4
 ·subst e4
  have hk:fF 4 s=46::(s++[46]):=rfl
  rw[hk,List.cons_append,Iv] at h
  have hap:s++[46]++[32]=s++[46,32]:=by simp
  rw[hap,tZ GJ (show cY GJ [46,32]=0 from rfl)] at h
  split at h
  ·rename_i hu
   split at h
   ·simp only[Prod.mk.injEq,List.length_cons,List.length_append,List.length_nil] at h
    obtain⟨_,_,h3⟩:=h
    have h4:cY GJ s=s.length:=by omega
    cases s with
    | nil=>exact absurd hu (by decide)
    | cons c t=>
     have hu':vA c=true:=hu
     have hwd:GJ c=true:=by unfold GJ;rw[hu'];rfl
     have h5:DN false (c::t)=(c::t).length:=by
      unfold DN
      rw[if_pos (show vA (hd (c::t))=true from hu')]
      simp only[cY,hwd,if_true] at h4
      exact h4
     unfold cG
     rw[if_neg (by decide),if_neg (by decide),if_pos rfl,h5]
     simp
   ·simp only[Prod.mk.injEq] at h;exact absurd h.1 (by decide)
  ·simp only[Prod.mk.injEq] at h;exact absurd h.1 (by decide)
 by_cases e5:k=5
 ·subst e5
  have hk:fF 5 s=35::s:=rfl
  rw[hk,List.cons_append,Iw,tZ _ r3] at h
  split at h
  ·simp only[Prod.mk.injEq] at h;exact absurd h.1 (by decide)
  ·rename_i hn
   simp only[Prod.mk.injEq,List.length_cons] at h
   obtain⟨_,_,h3⟩:=h
   have h4:cY lJ s=s.length:=by omega
   have hne:s≠[]:=fun e=>by subst e;exact hn rfl
   unfold cG
   rw[if_neg (by decide),if_neg (by decide),if_neg (by decide),if_pos rfl]
   simp[hne,h4]
 have hs:s=[]:=hw (by unfold gQ;rw[decide_eq_false (show ¬k≤5 by omega)];simp)
 unfold cG
 rw[if_neg e1,if_neg e2,if_neg e4,if_neg e5,if_neg e3]
 simp[hs];omega
theorem Ix{s:Bs}(hl:s.length≤1000000000)(k a:Int):qQ (k,bs s,a,())=some (cG k s,()):=by
 have hm:s.length<mx:=by unfold mx;omega
 have hc:=core_le k s
 have hval:∀(h1:1≤k) (h2:k≤12) (hw:gQ k=false→s=[]),(ob (eG (k,bs s,a,())) fun x4=>(ob (catS x4.1 (ByteArray.mk #[32])) fun x5=>(ob (iK (x5,(0:Int),())) fun x6=>(bif (eqI x6.2.2.2.1 (lenS x4.1)) then (bif (eqI x6.1 k) then (some ((eqS x6.2.1 (bs s)),())) else (some (Bool.false,()))) else (some (Bool.false,()))))))=some (cG k s,()):=fun h1 h2 hw=>by
  have ht:=Ik (l:=fF k s++[32]) (i:=0) (by rw[List.length_append];unfold mx;simp;omega) (by simp)
  rw[show ((0:Nat):Int)=0 from rfl,List.drop_zero] at ht
  simp only[s_written hm,bC,show ByteArray.mk #[32]=bs [32] from rfl,iP (a:=fF k s) (b:=[32]) (by simp;omega),ht,bZ,gN,mY,Nat.zero_add]
  cases hv:cG k s with
  | true=>
   obtain⟨hb,_⟩:=Fa (r:=[32]) hv (fun _=>Fh)
   rw[hb]
   simp only[decide_true,cond_true]
   rw[decide_eq_true (show ((k.toNat:Nat):Int)=k by omega)]
   rfl
  | false=>
   generalize htk:vT (fF k s++[32])=tk
   obtain⟨kk,t,n⟩:=tk
   by_cases c1:n=(fF k s).length
   ·by_cases c2:(kk:Int)=k
    ·by_cases c3:t=s
     ·have:=Fi h1 h2 hw (by rw[htk,c1,c3];congr 1;omega)
      rw[hv] at this;cases this
     ·simp only[c1,c2,c3,decide_true,decide_false,cond_true]
    ·simp only[c1,c2,decide_true,decide_false,cond_true,cond_false]
   ·rw[decide_eq_false (show ¬((n:Int)=((fF k s).length:Int)) by omega),cond_false]
 unfold qQ
 simp only[aG,s_wide,bC,R7,mY,w9]
 by_cases h1:k<1
 ·rw[if_pos h1]
  have:cG k s=false:=by
   unfold cG
   rw[if_neg (by omega),if_neg (by omega),if_neg (by omega),if_neg (by omega),if_neg (by omega),decide_eq_false (show ¬6≤k by omega)]
   rfl
  rw[this]
 rw[if_neg h1]
 by_cases h2:12<k
 ·rw[if_pos h2]
  have:cG k s=false:=by
   unfold cG
   rw[if_neg (by omega),if_neg (by omega),if_neg (by omega),if_neg (by omega),if_neg (by omega),decide_eq_false (show ¬k≤12 by omega)]
   simp
  rw[this]
 rw[if_neg h2]
 have hv:=hval (by omega) (by omega)
 cases hw:gQ k with
 | true=>
  rw[Bool.not_true,cond_false]
  exact hv (fun h=>by rw[hw] at h;cases h)
 | false=>
  rw[Bool.not_false,cond_true]
  by_cases hs:s=[]
  ·rw[decide_eq_true hs,Bool.not_true,cond_false]
   exact hv (fun _=>hs)
  ·rw[decide_eq_false hs,Bool.not_false,cond_true]
   have:cG k s=false:=by
    have h6:6≤k:=by
     unfold gQ at hw
     rw[decide_eq_true (show 1≤k by omega),Bool.true_and] at hw
     have:=of_decide_eq_false hw
     omega
    unfold cG
    rw[if_neg (by omega),if_neg (by omega),if_neg (by omega),if_neg (by omega),if_neg (by omega),decide_eq_false hs]
    simp
   rw[this]
def HZ(xs:List Tk):Bool:=xs.all fun x=>cG x.1 x.2.1
theorem Iy{xs:List Tk}(hx:∀x∈xs,x.2.1.length≤1000000000)(hn:xs.length≤1000000):∀(d i:Nat),i+d=xs.length →
 aF i9 (xs.map eE,(xs.length:Int),(i:Int),())=some (bif HZ (xs.drop i) then .inr (.inl ()) else .inl (false,())):=by
 intro d
 induction d with
 | zero=>
  intro i hi
  have:i=xs.length:=by omega
  subst this
  rw[aT (e:=.inr (.inl ())) (by simp[i9])]
  simp[HZ]
 | succ d ih=>
  intro i hi
  have hlt:i<xs.length:=by omega
  obtain⟨x,hxi⟩:∃x,xs[i]?=some x:=⟨_,List.getElem?_eq_getElem hlt⟩
  have W8:xs.drop i=x::xs.drop (i+1):=by
   obtain⟨h1,rfl⟩:=List.getElem?_eq_some_iff.1 hxi
   exact List.drop_eq_getElem_cons h1
  obtain⟨t1,t2,t3,_⟩:=M8 x
  generalize hres:i9 (xs.map eE,(xs.length:Int),(i:Int),())=res
  have hF:=hres
  unfold i9 at hF
  simp only[aG,UF,hlt,decide_true,cond_true,ES hxi,bC,t1,t2,t3,Ix (hx x (List.mem_of_getElem? hxi)),aY] at hF
  rw[W8]
  unfold HZ
  rw[List.all_cons]
  cases hv:cG x.1 x.2.1 with
  | false=>
   rw[hv] at hF
   rw[aT (hres.trans hF.symm)];rfl
  | true=>
   rw[hv] at hF
   simp only[Bool.not_true,cond_false] at hF
   rw[dN (show i<mx by unfold mx;omega)] at hF
   rw[bX (hres.trans hF.symm),ih (i+1) (by omega)];rfl
theorem s_Valid{xs:List Tk}(hx:∀x∈xs,x.2.1.length≤1000000000)(hn:xs.length≤1000000):mN (xs.map eE,())=some (HZ xs,()):=by
 unfold mN
 have:=Iy hx hn xs.length 0 (by omega)
 rw[show ((0:Nat):Int)=0 from rfl,List.drop_zero] at this
 simp only[bD,List.length_map,this,bC]
 cases HZ xs <;> rfl
end Go.Eng.Lex
set_option linter.unusedVariables false
namespace Go.Proofs.Ld
open Go.Shelf Go.RowKit
theorem X72:Go.Proofs.Builder.X72 Tryz.prog ⟨id,fun | 72=>151 | 70=>148 | 9=>9 | 4=>4 | 164=>233 | n=>n,id⟩ where
 sizeBuilder:=by kernel_rfl
 liesBuilder:=by kernel_rfl
set_option maxHeartbeats 1000000 in
set_option maxRecDepth 100000 in
theorem M9(b:Nat)(w:World)(h0:w.cell? ⟨b,0,none⟩=some (.pointer (some ⟨b,0,none⟩))):
 Calls Tryz.prog 157 #[.pointer (some ⟨b,0,none⟩)] w fun e w'=>e=.returned (.tuple #[])∧w'=w:=by
 obtain⟨j,hj,_⟩:=Option.map_eq_some_iff.1 X72.sizeBuilder
 go_enter Tryz.func157,Tryz.ntmps157
 go_wp2
 rw[Lib.run_neq_ptr_same w _ Tryz.underlying148 hj]
 go_wp2
 go_end0
 exact⟨rfl,rfl⟩
theorem XB:Go.Proofs.Builder.Extra Tryz.prog ⟨id,fun | 72=>151 | 70=>148 | 9=>9 | 4=>4 | 164=>233 | n=>n,id⟩ where
 sizeBuilder:=by kernel_rfl
 liesBuilder:=by kernel_rfl
 t5:=Tryz.underlying5
 a5:=Tryz.isAgg5
 z5:=Tryz.sizeOf5
 v5:=Tryz.zeroValue5
 infoByte:=by kernel_rfl
 cellsByte:=by kernel_rfl
 sizeByte:=by kernel_rfl
 neB5:=by decide
set_option maxHeartbeats 1000000 in
set_option maxRecDepth 100000 in
theorem J2(b:Nat)(w:World)(h0:w.cell? ⟨b,0,none⟩=some (.pointer none))(hsh:w.shape? b=some (151,2))(hfz:w.frozen? ⟨b,0,none⟩=false):
 Calls Tryz.prog 157 #[.pointer (some ⟨b,0,none⟩)] w fun e w'=>e=.returned (.tuple #[])∧w'=w.setCell ⟨b,0,none⟩ (.pointer (some ⟨b,0,none⟩)):=by
 obtain⟨j,hj,hjs⟩:=Option.map_eq_some_iff.1 X72.sizeBuilder
 have hj':Tryz.prog.info? 151=some j:=hj
 go_enter Tryz.func157,Tryz.ntmps157
 go_wp2
 rw[Lib.run_to_unsafe w ⟨b,0,none⟩ Tryz.underlying148 Tryz.underlying233 hj' (by rw[hjs];decide) hsh (Nat.zero_lt_succ 1)]
 simp only[Result.andThen]
 rw[Oper.upon_value]
 go_wp2
 rw[run_callFunc_extern Tryz.func212 (by kernel_rfl) (by kernel_rfl) (by kernel_rfl) (e:=Extern.AbiNoEscape.same) (by kernel_rfl)]
 rw[Lib.run_noEscape]
 simp only[Result.andThen]
 rw[Oper.upon_value]
 go_wp2
 rw[Lib.run_from_unsafe w ⟨b,0,none⟩ Tryz.underlying233 Tryz.underlying148 hj' hsh X72.liesBuilder]
 simp only[Result.andThen]
 rw[Oper.upon_value]
 go_wp2
 go_end0
 exact⟨rfl,rfl⟩
theorem PV(B b:Nat)(bs:List Value)(w:World)(h:Lib.IsBuilder 151 5 B b bs w):
 Calls Tryz.prog 157 #[.pointer (some ⟨b,0,none⟩)] w fun e w'=>e=.returned (.tuple #[])∧(Lib.BuilderAt 151 5 B b (.pointer (some ⟨b,0,none⟩)) bs w'∧Below B w w')∧Lib.OthersKept 5 (some b) w w':=by
 rcases h with h | h
 ·refine(J2 b w h.cell0 h.shape h.frozen0).mono ?_
  rintro e w' ⟨rfl,rfl⟩
  exact⟨rfl,⟨h.used _,(Below.refl B w).setCell (p:=⟨b,0,none⟩) h.1 _⟩,(Lib.OthersKept.refl 5 (some b) w).setCell ⟨b,0,none⟩ rfl _⟩
 ·refine(M9 b w h.cell0).mono ?_
  rintro e w' ⟨rfl,rfl⟩
  exact⟨rfl,⟨h,Below.refl B _⟩,Lib.OthersKept.refl _ _ _⟩
theorem Y1{w:World}{B:Nat}{v:Value}{n:Nat}{xs:List Value}(h:w.ownsRow B 5 1 v n xs):∀g,v.ownBlock=some g→∃c fz,w.heap[g]?=some (.cells c 5 fz):=by
 intro g hg
 rcases h.2 with⟨rfl,_⟩ | ⟨g',cap,cur,rfl,_,h2,_⟩
 ·simp[Value.ownBlock] at hg
 ·simp[Value.ownBlock] at hg
  subst hg
  exact⟨cur,_,h2⟩
theorem Y2{w:World}{b:Nat}{o:Obj}(h:w.heap[b]?=some o):b<w.heap.size:=(Array.getElem?_eq_some_iff.1 h).1
theorem Fj(w1:World)(c:Int)(t:TypeId):∀(j:Nat) u,[Value.int .u8 c][j]?=some u→(w1.alloc (.cells #[.int .u8 c] t)).cell? ((⟨w1.heap.size,0,none⟩:Addr).add j)=some u:=by
 intro j u hj
 match j,hj with
 | 0,hj=>simp at hj;subst hj;simp[Addr.add]
theorem Ma(c:Int):∀u∈[Value.int .u8 c],u.oneCell'=true:=by intro u hu;simp at hu;subst hu;rfl
set_option maxHeartbeats 2000000 in
set_option maxRecDepth 100000 in
theorem writeByte(B b:Nat)(bs:List Value)(c:Int)(w:World)(h:Lib.IsBuilder 151 5 B b bs w)(hlen:bs.length+1≤140737488355328)(hBw:B≤w.heap.size):
 Calls Tryz.prog 96 #[.pointer (some ⟨b,0,none⟩),.int .u8 c] w fun e w'=>e=.returned .nilIface∧(Lib.BuilderAt 151 5 B b (.pointer (some ⟨b,0,none⟩)) (bs++[.int .u8 c]) w'∧Below B w w')∧Lib.OthersKept 5 (some b) w w':=by
 obtain⟨i0,hi,hz0,hz1,hz2⟩:=info_parts XB.infoByte
 have mixed:Tryz.prog.follows .mixedOrders=true:=by kernel_rfl
 go_enter Tryz.func96,Tryz.ntmps96
 go_wp2_with (first
  | (go_at_call 157;refine(PV B b bs _ h).mono ?_;rintro e w1 ⟨rfl,⟨⟨hB,v,hbk,hown,hne⟩,hb1⟩,hk1⟩;have c0:w1.cell? ⟨b,0,none⟩=some (.pointer (some ⟨b,0,none⟩)):=(by rw[Lib.cell_of_heap hbk];rfl);have c1:w1.cell? ⟨b,1,none⟩=some v:=(by rw[Lib.cell_of_heap hbk];rfl))
  | (at_builtin;refine wpList_append_own _ rfl _ _ 149 rfl B 5 i0 (.int .u8 0) 1 1 Tryz.underlying149 hi hz0 hz1 hz2 rfl (by decide) _ _ _ rfl (hown.alloc _) ⟨w1.heap.size,0,none⟩ 1 1 [.int .u8 c] rfl rfl (Fj _ _ _) (Ma c) (by unfold maxLen;simp;omega) (by simp;omega) (by have:=hb1.size;simp;omega) ?_
     intro v' w2 hown' hgrow _
     have hlt:b<w1.heap.size:=Y2 hbk
     have hb2:w2.heap[b]?=some (.cells #[.pointer (some ⟨b,0,none⟩),v] 151 (0,0)):=(by
      rw[hgrow.block b (by simp;omega) (fun e=>hne e.symm),Lib.alloc_old w1 _ b hlt]
      exact hbk)
     have d0:w2.cell? ⟨b,0,none⟩=some (.pointer (some ⟨b,0,none⟩)):=(by rw[Lib.cell_of_heap hb2];rfl)
     have d1:w2.cell? ⟨b,1,none⟩=some v:=(by rw[Lib.cell_of_heap hb2];rfl)
     have f1:w2.frozen? ⟨b,1,none⟩=false:=Lib.frozen_of_heap hb2 1
     have hf1:Lib.BuilderAt 151 5 B b (.pointer (some ⟨b,0,none⟩)) (bs++[.int .u8 c]) (w2.setCell ⟨b,1,none⟩ v'):=Lib.BuilderAt.put (T:=151) (e:=5) hB hb2 (bs':=bs++[.int .u8 c]) (by simpa using hown') XB.neB5
     have hf2:Below B w (w2.setCell ⟨b,1,none⟩ v'):=((hb1.alloc (by have:=hb1.size;omega) _).grown hgrow (by have:=hb1.size;simp;omega) (fun k hk=>(hown.lt k hk).1)).setCell (p:=⟨b,1,none⟩) hB _
     have hf3:Lib.OthersKept 5 (some b) w (w2.setCell ⟨b,1,none⟩ v'):=((hk1.alloc _).grown hgrow (Y1 (hown.alloc _))).setCell ⟨b,1,none⟩ rfl _
     obtain⟨g,cap,rfl⟩:∃g cap,v'=.slice (some ⟨g,0,none⟩) (bs.length+1) cap:=(by
      rcases hown'.2 with⟨_,h0⟩ | ⟨g,cap,cur,hv,_⟩
      ·simp at h0
      ·exact⟨g,cap,by simpa using hv⟩)))
 go_ret
 exact⟨rfl,⟨by assumption,by assumption⟩,by assumption⟩
set_option maxHeartbeats 2000000 in
set_option maxRecDepth 100000 in
theorem writeString(B b:Nat)(bs:List Value)(s:ByteArray)(w:World)(h:Lib.IsBuilder 151 5 B b bs w)(hlen:bs.length+s.size≤140737488355328)(hBw:B≤w.heap.size):
 Calls Tryz.prog 97 #[.pointer (some ⟨b,0,none⟩),.string s] w fun e w'=>e=.returned (.tuple #[.int .i64 s.size,.nilIface])∧(Lib.BuilderAt 151 5 B b (.pointer (some ⟨b,0,none⟩)) (bs++Lib.strCells s) w'∧Below B w w')∧Lib.OthersKept 5 (some b) w w':=by
 obtain⟨i0,hi,hz0,hz1,hz2⟩:=info_parts XB.infoByte
 have mixed:Tryz.prog.follows .mixedOrders=true:=by kernel_rfl
 go_enter Tryz.func97,Tryz.ntmps97
 go_wp2_with (first
  | (go_at_call 157;refine(PV B b bs _ h).mono ?_;rintro e w1 ⟨rfl,⟨⟨hB,v,hbk,hown,hne⟩,hb1⟩,hk1⟩;have c0:w1.cell? ⟨b,0,none⟩=some (.pointer (some ⟨b,0,none⟩)):=(by rw[Lib.cell_of_heap hbk];rfl);have c1:w1.cell? ⟨b,1,none⟩=some v:=(by rw[Lib.cell_of_heap hbk];rfl))
  | (at_builtin;refine Lib.wpList_append_own_string _ rfl _ _ 149 9 rfl B 5 i0 Tryz.underlying149 Tryz.underlying9 hi hz0 hz1 hz2 _ _ _ rfl hown s rfl (by unfold maxLen;omega) (by omega) (by have:=hb1.size;omega) ?_
     intro v' w2 hown' hgrow _
     have hlt:b<w1.heap.size:=Y2 hbk
     have hb2:w2.heap[b]?=some (.cells #[.pointer (some ⟨b,0,none⟩),v] 151 (0,0)):=(by
      rw[hgrow.block b hlt (fun e=>hne e.symm)]
      exact hbk)
     have d0:w2.cell? ⟨b,0,none⟩=some (.pointer (some ⟨b,0,none⟩)):=(by rw[Lib.cell_of_heap hb2];rfl)
     have d1:w2.cell? ⟨b,1,none⟩=some v:=(by rw[Lib.cell_of_heap hb2];rfl)
     have f1:w2.frozen? ⟨b,1,none⟩=false:=Lib.frozen_of_heap hb2 1
     have hf1:Lib.BuilderAt 151 5 B b (.pointer (some ⟨b,0,none⟩)) (bs++Lib.strCells s) (w2.setCell ⟨b,1,none⟩ v'):=Lib.BuilderAt.put (T:=151) (e:=5) hB hb2 (bs':=bs++Lib.strCells s) (by simpa[Lib.strCells_length] using hown') XB.neB5
     have hf2:Below B w (w2.setCell ⟨b,1,none⟩ v'):=(hb1.grown hgrow (by have:=hb1.size;omega) (fun k hk=>(hown.lt k hk).1)).setCell (p:=⟨b,1,none⟩) hB _
     have hf3:Lib.OthersKept 5 (some b) w (w2.setCell ⟨b,1,none⟩ v'):=(hk1.grown hgrow (Y1 hown)).setCell ⟨b,1,none⟩ rfl _
     obtain⟨ao,n',cap,rfl⟩:∃ao n' cap,v'=.slice ao n' cap:=(by
      rcases hown'.2 with⟨hv,_⟩ | ⟨g,cap,cur,hv,_⟩
      ·exact⟨_,_,_,hv⟩
      ·exact⟨_,_,_,hv⟩)))
 go_ret2
 exact⟨rfl,⟨by assumption,by assumption⟩,by assumption⟩
end Go.Proofs.Ld
namespace Go.Eng.Lt
open Go.Eng Go.RowKit Go.Proofs En
open Go.Eng.Lex (Tk eE fP rJ gQ fF uH mx)
section
variable {n d:Nat} {env:List (Nat×Value)} {a:Act} {w:World} {Q:Exit→Act→World→Prop} {o:Oper} {P:Program}
def Gi(P:Program)(ops:Array Oper)(Q:Exit→Act→World→Prop):List Oper→Act→World→Prop
 | [],a,w=>Q .normal a w
 | o::l,a,w=>(Region.wanted o (yielded ops a.tmps)=true∧o.wp P a w (fun a w=>Gi P ops Q l a w) Q)∨(Region.wanted o (yielded ops a.tmps)=false∧Gi P ops Q l (a.put o.dst undef) w)
theorem SB{ops:Array Oper}:∀(l:List Oper) (k:Nat),ops.toList.drop k=l→∀{a:Act} {w:World},Gi P ops Q l a w→wpOps P ops Q (List.range' k l.length) a w
 | [],k,_,a,w,h=>h
 | o::l,k,hk,a,w,h=>by
  have hlt:k<ops.size:=by
   rcases Nat.lt_or_ge k ops.size with h' | h'
   ·exact h'
   ·rw[List.drop_of_length_le (by rw[Array.length_toList];exact h')] at hk;cases hk
  have ho:ops[k]?=some o:=by
   have:=congrArg (fun z=>z[0]?) hk
   simp only[List.getElem?_drop,Nat.add_zero,List.getElem?_cons_zero,Array.getElem?_toList] at this
   exact this
  have hd:ops.toList.drop (k+1)=l:=by rw[←List.drop_drop,hk];rfl
  rw[List.length_cons,List.range'_succ]
  simp only[wpOps,ho]
  rcases h with⟨h1,h2⟩ | ⟨h1,h2⟩
  ·rw[if_pos h1]
   exact .inl (Oper.wp_mono (fun a' w' h'=>SB l (k+1) hd h') h2)
  ·rw[if_neg (by rw[h1];decide)]
   exact SB l (k+1) hd h2
theorem Iz{id:Nat}{ops:Array Oper}(h:Gi P ops Q ops.toList a w):(Code.region id ops false).wp P Q a w:=by
 refine wp_region ?_
 have:=SB (P:=P) (Q:=Q) ops.toList 0 (by simp) h
 rw[Array.length_toList] at this
 rw[List.range_eq_range']
 exact this
theorem OP{ops:Array Oper}{l:List Oper}(hg:o.guard=none)(h:o.wp P a w (fun a w=>Gi P ops Q l a w) Q):Gi P ops Q (o::l) a w:=.inl ⟨T3 hg,h⟩
theorem DO{ops:Array Oper}{l:List Oper}{j t:Nat}(hf:Fr n env a)(hg:o.guard=some (j,true))(ht:(ops[j]?).bind (·.dst)=some t)(hl:env.lookup t=some (.bool true))(h:o.wp P a w (fun a w=>Gi P ops Q l a w) Q):Gi P ops Q (o::l) a w:=
 .inl ⟨T4 hf hg ht hl,h⟩
theorem BS{ops:Array Oper}{l:List Oper}{j t:Nat}(hf:Fr n env a)(hg:o.guard=some (j,true))(ht:(ops[j]?).bind (·.dst)=some t)(hl:env.lookup t=some (.bool false))(hd:o.dst=some d)(hlt:d<n)
 (h:∀a',Fr n ((d,undef)::env) a'→Gi P ops Q l a' w):Gi P ops Q (o::l) a w:=by
 refine .inr ⟨?_,?_⟩
 ·have h:=hf.get t _ hl
  have h2:a.tmps[t]?=some (.bool false):=by
   rw[Array.getD_eq_getD_getElem?] at h
   cases hx:a.tmps[t]? with
   | none=>rw[hx] at h;cases h
   | some v=>rw[hx] at h;rw[←h];rfl
  simp[Region.wanted,hg,yielded,ht,h2]
 ·rw[hd];exact h _ (hf.put hlt undef)
end
def SJ(x:Tk):List Value:=[vI x.1,.string (bs x.2.1),vI x.2.2]
theorem iO{w:World}{X:Nat→Prop}{xs:List Tk}{v:Value}(h:Rd w X (.sl 3 (xs.map eE)) v):
 ∃(p:Option Addr) (cap:Nat),v=.slice p xs.length cap∧xs.length≤maxLen∧∀(i:Nat) x,xs[i]?=some x→∃A,p=some A∧A.block<w.heap.size∧∀(j:Nat) y,(SJ x)[j]?=some y→w.cell? ((A.add (i*3)).add j)=some y:=by
 have hr:=h
 generalize hl:xs.map eE=l at h
 have hlen:l.length=xs.length:=by rw[←hl,List.length_map]
 cases h with
 | mp n l g es clock hn=>omega
 | nil k hk=>
  have:xs=[]:=by simpa using hl
  subst this
  exact⟨none,0,rfl,by decide,fun i x hx=>by cases hx⟩
 | sl k l A c ys hk hc hm hu hy hcell hrr=>
  refine⟨some A,c,by rw[hlen],by omega,fun i x hx=>⟨A,rfl,?_⟩⟩
  have hx':(xs.map eE)[i]?=some (eE x):=by rw[List.getElem?_map,hx];rfl
  obtain⟨_,hl3,ys,h1,h2,h3⟩:=hr.elem hx'
  match ys,h1 with
  | [y0,y1,y2],_=>
  have r0:=h3 0 (.v (vI x.1)) y0 rfl rfl
  have r1:=h3 1 (.v (.string (bs x.2.1))) y1 rfl rfl
  have r2:=h3 2 (.v (vI x.2.2)) y2 rfl rfl
  have f0:=r0.inv_v
  have f1:=r1.inv_v
  have f2:=r2.inv_v
  subst f0;subst f1;subst f2
  have hb:=World.block_lt_of_cell? w _ (h2 0 _ rfl).1
  rw[dH,dH] at hb
  exact⟨hb,fun j y hj=>(h2 j y hj).1⟩
theorem zO{w w':World}{B n:Nat}{v:Value}{xs:List Value}(h:w.ownsRow B 5 1 v n xs)(hs:Stp (fun _=>False) w w'):w'.ownsRow B 5 1 v n xs:=by
 refine⟨h.1,?_⟩
 rcases h.2 with h | ⟨g,cap,cur,e,hb,hg,r⟩
 ·exact .inl h
 ·exact .inr ⟨g,cap,cur,e,hb,(hs.blk g (Array.getElem?_eq_some_iff.1 hg).1 id).trans hg,r⟩
theorem Y3{w w':World}{B b:Nat}{p:Value}{bs:List Value}(h:Lib.BuilderAt 151 5 B b p bs w)(hs:Stp (fun _=>False) w w'):Lib.BuilderAt 151 5 B b p bs w':=by
 obtain⟨hB,v,hb,ho,hn⟩:=h
 exact⟨hB,v,(hs.blk b (Array.getElem?_eq_some_iff.1 hb).1 id).trans hb,zO ho hs,hn⟩
structure Wk (w W:World) (out:Bs):Prop where
 isb:Lib.IsBuilder 151 5 w.heap.size w.heap.size (Lib.strCells (bs out)) W
 bel:Below w.heap.size w W
theorem Wk.lt{w W:World}{out:Bs}(h:Wk w W out):w.heap.size<W.heap.size:=by
 rcases h.isb with k | k
 ·exact k.lt
 ·exact k.lt
theorem Wk.stp{w W:World}{out:Bs}(h:Wk w W out):Stp (fun _=>False) w W:=⟨h.bel.os,h.bel.tape,h.bel.output,h.bel.size,fun b hb _=>h.bel.block b hb⟩
theorem Wk.step{w W W':World}{out:Bs}(h:Wk w W out)(hs:Stp (fun _=>False) W W'):Wk w W' out:=
 ⟨h.isb.elim (fun k=>.inl (Y3 k hs)) (fun k=>.inr (Y3 k hs)),⟨hs.os.trans h.bel.os,hs.tape.trans h.bel.tape,hs.output.trans h.bel.output,Nat.le_trans h.bel.size hs.size,
  fun k hk=>(hs.blk k (Nat.lt_trans hk h.lt) id).trans (h.bel.block k hk)⟩⟩
theorem Fk(a b:Bs):Lib.strCells (bs a)++Lib.strCells (bs b)=Lib.strCells (bs (a++b)):=by simp[Lib.strCells,bs]
theorem PW(a:Bs):(Lib.strCells (bs a)).length=a.length:=by simp[Lib.strCells,bs]
theorem Nr(c:UInt8):Lib.strCells (bs [c])=[.int .u8 c.toNat]:=by simp[Lib.strCells,bs]
theorem Y4{w W:World}{out:Bs}(h:Wk w W out)(c:UInt8)(hl:out.length+1≤140737488355328):Calls Tryz.prog 96 #[.pointer (some ⟨w.heap.size,0,none⟩),.int .u8 c.toNat] W fun e W'=>e=.returned .nilIface∧Wk w W' (out++[c])∧Lib.OthersKept 5 (some w.heap.size) W W':=by
 refine(Go.Proofs.Ld.writeByte w.heap.size w.heap.size _ c.toNat W h.isb (by rw[PW];exact hl) (Nat.le_of_lt h.lt)).mono ?_
 rintro e W' ⟨rfl,⟨h1,h2⟩,h3⟩
 refine⟨rfl,⟨.inr ?_,h.bel.trans h2⟩,h3⟩
 rw[←Fk,Nr]
 exact h1
theorem Mb{w W:World}{out:Bs}(h:Wk w W out)(s:Bs)(hl:out.length+s.length≤140737488355328):Calls Tryz.prog 97 #[.pointer (some ⟨w.heap.size,0,none⟩),.string (bs s)] W fun e W'=>(∃v,e=.returned v)∧Wk w W' (out++s)∧Lib.OthersKept 5 (some w.heap.size) W W':=by
 refine(Go.Proofs.Ld.writeString w.heap.size w.heap.size _ (bs s) W h.isb (by rw[PW];exact hl) (Nat.le_of_lt h.lt)).mono ?_
 rintro e W' ⟨rfl,⟨h1,h2⟩,h3⟩
 refine⟨⟨_,rfl⟩,⟨.inr ?_,h.bel.trans h2⟩,h3⟩
 rw[←Fk]
 exact h1
theorem Mc(k:Int):((aA DF lY).call [.c (.t (.v (vI k)))] [] fun rs po=>some (rs,po))=ob (lY (k,())) fun q=>some ([.c (.t (.v (.bool q.1)))],[]):=by kernel_rfl
theorem Bf(k a:Int)(s:ByteArray):((aA wV eG).call [.agg [.t (.v (vI k)),.t (.v (.string s)),.t (.v (vI a))]] [] fun rs po=>some (rs,po))=ob (eG (k,s,a,())) fun q=>some ([.c (.t (.v (.string q.1)))],[]):=by kernel_rfl
theorem Pg:fO Tryz.prog 95:=⟨_,Tryz.func95,by kernel_rfl,by kernel_rfl⟩
theorem Ns:fO Tryz.prog 96:=⟨_,Tryz.func96,by kernel_rfl,by kernel_rfl⟩
theorem Ph:fO Tryz.prog 97:=⟨_,Tryz.func97,by kernel_rfl,by kernel_rfl⟩
theorem Pi:fO Tryz.prog 98:=⟨_,Tryz.func98,by kernel_rfl,by kernel_rfl⟩
theorem Pj:fO Tryz.prog 99:=⟨_,Tryz.func99,by kernel_rfl,by kernel_rfl⟩
theorem Pl:Tryz.prog.underlying 78=some (.slice 90):=by kernel_rfl
theorem Nt:pA Tryz.prog 90=some 3:=by kernel_rfl
theorem Px:nU Tryz.prog 90=some true:=by kernel_rfl
theorem s3:pA Tryz.prog 3=some 1:=by kernel_rfl
theorem a3:nU Tryz.prog 3=some false:=by kernel_rfl
theorem Pm:∃fs,Tryz.prog.underlying 90=some (.struct fs)∧fs.toList.map (fun f=>(f.type,f.offset))=[(3,0),(9,1),(3,2)]:=by
 have h:(match Tryz.prog.underlying 90 with
  | some (.struct fs)=>decide (fs.toList.map (fun f=>(f.type,f.offset))=[(3,0),(9,1),(3,2)])
  | _=>false)=true:=by kernel_rfl
 split at h
 ·rename_i fs e;exact⟨fs,e,of_decide_eq_true h⟩
 ·cases h
theorem zB:∃i z,Tryz.prog.info? 151=some i∧i.zero=some z∧z.cells=#[.pointer none,.slice none 0 0]:=by
 have h:(match Tryz.prog.info? 151 with
  | some i=>i.zero.map (·.cells)
  | none=>none)=some #[.pointer none,.slice none 0 0]:=by kernel_rfl
 split at h
 ·rename_i i hi
  cases hz:i.zero with
  | none=>rw[hz] at h;cases h
  | some z=>rw[hz] at h;exact⟨i,z,hi,hz,Option.some.inj h⟩
 ·cases h
theorem Md(x y:Int):DP Tryz.prog .gtr 3 3 (dV (vI x)) (dV (vI y)) some=some (dV (.bool (ltI y x))):=by kernel_rfl
theorem Me(x y:Int):DP Tryz.prog .eql 3 3 (dV (vI x)) (dV (vI y)) some=some (dV (.bool (eqI x y))):=by kernel_rfl
theorem Nu{w:World}{b:Bool}{v:Value}(h:RdRes w (fun _=>False) (fun _=>none) [.c (.t (.v (.bool b)))] v):v=.bool b:=by
 rcases(h:RdC1 _ _ _ _ _) with h | ⟨h,_⟩
 ·cases h
 ·exact Rd.inv_v h
theorem Nv{w:World}{b:ByteArray}{v:Value}(h:RdRes w (fun _=>False) (fun _=>none) [.c (.t (.v (.string b)))] v):v=.string b:=by
 rcases(h:RdC1 _ _ _ _ _) with h | ⟨h,_⟩
 ·cases h
 ·exact Rd.inv_v h
theorem gd{w W:World}(hG:Good Tryz.prog w fun _=>False)(hs:Stp (fun _=>False) w W):Good Tryz.prog W fun _=>False:=hG.call hs fun b h=>h.elim
end Go.Eng.Lt
namespace Go.Eng.Lt
open Go.Eng Go.RowKit Go.Proofs En
open Go.Eng.Lex (Tk eE fP rJ gQ fF uH mx)
def Mv(xs:List Tk):Prop:=(∀x∈xs,x.2.1.length<mx)∧xs.length≤10000
structure Src3 (w:World) (v:Value) (p:Option Addr) (cap:Nat) (xs:List Tk):Prop where
 eq:v=.slice p xs.length cap
 get:∀(i:Nat) x,xs[i]?=some x→∃A,p=some A∧A.block<w.heap.size∧∀(j:Nat) y,(SJ x)[j]?=some y→w.cell? ((A.add (i*3)).add j)=some y
def J3(xs:List Tk)(i:Nat)(k:Int):Bool:=rJ xs i&&gQ k
section
variable {a:Act} {w W:World} {Q:Exit→Act→World→Prop} {xs:List Tk} {i:Nat} {x:Tk} {v:Value} {p:Option Addr} {cap g:Nat} {out:Bs}
abbrev UD(w:World)(v:Value)(n i:Nat):List (Nat×Value):=[(8,vI (i:Nat)),(7,vI (n:Nat)),(6,v),(3,.pointer (some ⟨w.heap.size,0,none⟩)),(0,v)]
abbrev Fl(w:World)(v:Value)(n i g:Nat):List (Nat×Value):=(4,vI (i:Nat))::(5,.pointer (some ⟨g,0,none⟩))::UD w v n i
noncomputable abbrev Pn(q:List Nat):Code:=EO ([1,1,0,1,0,0,1,1,0,0]++q) (JC Tryz.f38)
theorem Y5{n d:Nat}{env:List (Nat×Value)}{o:Oper}{c:Call}{k:Int}{next:Act→World→Prop}(hG:Good Tryz.prog w fun _=>False)(hs:Stp (fun _=>False) w W)(hf:Fr n env a)(hop:o.op=.call c)(hc:c.callee=.value (.func 95))(hd:o.dst=some d)(hlt:d<n)(hv:Lm env c.args.toList=some [vI k])
 (hn:∀a' W',Fr n ((d,.bool (gQ k))::env) a'→Stp (fun _=>False) W W'→next a' W'):o.wp Tryz.prog a W next Q:=by
 refine KD (args:=[.c (.t (.v (vI k)))]) hf hop hc hd hlt Pg hv F6 (by rw[Mc,Lex.s_wide];rfl) (gd hG hs) (MB (.inr ⟨.v _,rfl⟩)) (fun u a' W' hf' hs' hr=>?_) rfl
 rw[Nu hr] at hf'
 exact hn a' W' hf' hs'
set_option maxRecDepth 20000 in
set_option maxHeartbeats 8000000 in
theorem Po(hG:Good Tryz.prog w fun _=>False)(hS:Src3 w v p cap xs)(hx:xs[i]?=some x)(hn:xs.length≤10000)(hW:Wk w W out)(hb:W.heap[g]?=some (.cells (SJ x).toArray 90 (0,0)))
 (hf:Fr 39 (Fl w v xs.length i g) a) (hQ:∀a' W',Fr 39 ((28,.bool (J3 xs i x.1))::Fl w v xs.length i g) a'→Stp (fun _=>False) W W'→Q .normal a' W'):(Pn [1,0,0]).wp Tryz.prog Q a W:=by
 have hil:i<xs.length:=(List.getElem?_eq_some_iff.1 hx).1
 have hc0:∀W',Stp (fun _=>False) W W'→W'.cell? (Addr.add ⟨g,0,none⟩ 0)=some (vI x.1):=fun W' hs=>by
  have h:=(hs.blk g (Array.getElem?_eq_some_iff.1 hb).1 id).trans hb
  simp[World.cell?,Addr.add,h,SJ]
 refine Iz ?_
 refine OP rfl (fS hf rfl rfl (by decide) rfl fun a hf=>?_)
 refine OP rfl (oA (v:=.bool (ltI 0 (i:Nat))) hf rfl rfl (by decide) rfl rfl rfl rfl (Md _ _) fun a hf=>?_)
 refine OP rfl (fS hf rfl rfl (by decide) rfl fun a hf=>?_)
 match i,hx,hil with
 | 0,hx,hil=>
  rw[show ltI 0 ((0:Nat):Int)=false from by rw[aG];rfl] at hf
  refine BS hf rfl rfl rfl rfl (by decide) fun a hf=>?_
  refine BS hf rfl rfl rfl rfl (by decide) fun a hf=>?_
  refine BS hf rfl rfl rfl rfl (by decide) fun a hf=>?_
  refine OP rfl (dK (w':=W) (v:=.bool false) hf rfl (by decide) (FV (b:=false) (v:=undef) (u:=.bool false) hf rfl rfl rfl rfl) fun a hf=>?_)
  refine OP rfl (fS hf rfl rfl (by decide) rfl fun a hf=>?_)
  refine BS hf rfl rfl rfl rfl (by decide) fun a hf=>?_
  refine BS hf rfl rfl rfl rfl (by decide) fun a hf=>?_
  refine BS hf rfl rfl rfl rfl (by decide) fun a hf=>?_
  refine BS hf rfl rfl rfl rfl (by decide) fun a hf=>?_
  refine BS hf rfl rfl rfl rfl (by decide) fun a hf=>?_
  refine BS hf rfl rfl rfl rfl (by decide) fun a hf=>?_
  refine BS hf rfl rfl rfl rfl (by decide) fun a hf=>?_
  refine OP rfl (dK (w':=W) (v:=.bool false) hf rfl (by decide) (FV (b:=false) (v:=undef) (u:=.bool false) hf rfl rfl rfl rfl) fun a hf=>?_)
  exact hQ a W (hf.weak ⟨rfl,rfl,rfl,rfl,rfl,rfl,rfl,rfl,trivial⟩) (.refl _ _)
 | i+1,hx,hil=>
  rw[show ltI 0 ((i+1:Nat):Int)=true from by rw[aG];exact decide_eq_true (by omega)] at hf
  refine DO hf rfl rfl rfl ?_
  refine dK hf rfl (by decide) (vS hf rfl Pm rfl s3 (by decide) rfl) fun a hf=>?_
  refine DO hf rfl rfl rfl ?_
  refine uQ hf rfl rfl (by decide) s3 a3 rfl (hc0 W (.refl _ _)) fun a hf=>?_
  refine DO hf rfl rfl rfl ?_
  refine Y5 hG hW.stp hf rfl rfl rfl (by decide) rfl fun a W1 hf t1=>?_
  refine OP rfl (dK (w':=W1) (v:=.bool (gQ x.1)) hf rfl (by decide) (FV (b:=true) (v:=.bool (gQ x.1)) (u:=.bool false) hf rfl rfl rfl rfl) fun a hf=>?_)
  refine OP rfl (fS hf rfl rfl (by decide) rfl fun a hf=>?_)
  cases hl:gQ x.1 with
  | false=>
   rw[hl] at hf
   refine BS hf rfl rfl rfl rfl (by decide) fun a hf=>?_
   refine BS hf rfl rfl rfl rfl (by decide) fun a hf=>?_
   refine BS hf rfl rfl rfl rfl (by decide) fun a hf=>?_
   refine BS hf rfl rfl rfl rfl (by decide) fun a hf=>?_
   refine BS hf rfl rfl rfl rfl (by decide) fun a hf=>?_
   refine BS hf rfl rfl rfl rfl (by decide) fun a hf=>?_
   refine BS hf rfl rfl rfl rfl (by decide) fun a hf=>?_
   refine OP rfl (dK (w':=W1) (v:=.bool false) hf rfl (by decide) (FV (b:=false) (v:=undef) (u:=.bool false) hf rfl rfl rfl rfl) fun a hf=>?_)
   have e:J3 xs (i+1) x.1=false:=by unfold J3;rw[hl,Bool.and_false]
   exact hQ a W1 (e▸hf.weak ⟨rfl,rfl,rfl,rfl,rfl,rfl,rfl,rfl,trivial⟩) t1
  | true=>
   rw[hl] at hf
   obtain⟨y,hy⟩:∃y,xs[i]?=some y:=⟨_,List.getElem?_eq_getElem (by omega)⟩
   obtain⟨A,hpA,hA1,hA2⟩:=hS.get i y hy
   have hvA:v=.slice (some A) xs.length cap:=by rw[hS.eq,hpA]
   refine DO hf rfl rfl rfl ?_
   refine fS hf rfl rfl (by decide) rfl fun a hf=>?_
   refine DO hf rfl rfl rfl ?_
   refine fS hf rfl rfl (by decide) rfl fun a hf=>?_
   refine DO hf rfl rfl rfl ?_
   refine oA (v:=vI (i:Nat)) hf rfl rfl (by decide) rfl rfl rfl rfl ?_ fun a hf=>?_
   ·rw[WW,jQ (by omega) (by omega)]
    congr 3
    omega
   refine DO hf rfl rfl rfl ?_
   refine ME (m:=3) (A:=A) (l:=xs.length) (c:=cap) (i:=(i:Nat)) hf rfl rfl (by decide) Pl Nt (by rw[←hvA];rfl) rfl (by omega) (by omega) fun a hf=>?_
   refine DO hf rfl rfl rfl ?_
   refine dK hf rfl (by decide) (vS hf rfl Pm rfl s3 (by decide) rfl) fun a hf=>?_
   refine DO hf rfl rfl rfl ?_
   refine uQ (y:=vI y.1) hf rfl rfl (by decide) s3 a3 rfl ((hW.stp.trans t1).cell (by rw[Int.toNat_natCast];exact hA2 0 _ rfl) id) fun a hf=>?_
   refine DO hf rfl rfl rfl ?_
   refine Y5 hG (hW.stp.trans t1) hf rfl rfl rfl (by decide) rfl fun a W2 hf t2=>?_
   refine OP rfl (dK (w':=W2) (v:=.bool (gQ y.1)) hf rfl (by decide) (FV (b:=true) (v:=.bool (gQ y.1)) (u:=.bool false) hf rfl rfl rfl rfl) fun a hf=>?_)
   have e:J3 xs (i+1) x.1=gQ y.1:=by unfold J3;rw[hl,Bool.and_true];simp only[rJ,hy]
   exact hQ a W2 (e▸hf.weak ⟨rfl,rfl,rfl,rfl,rfl,rfl,rfl,rfl,trivial⟩) (t1.trans t2)
theorem UN{x:Tk}(hb:W.heap[g]?=some (.cells (SJ x).toArray 90 (0,0))){W':World}(hs:Stp (fun _=>False) W W'):W'.heap[g]?=some (.cells (SJ x).toArray 90 (0,0)):=(hs.blk g (Array.getElem?_eq_some_iff.1 hb).1 id).trans hb
theorem UO{x:Tk}(hb:W.heap[g]?=some (.cells (SJ x).toArray 90 (0,0)))(hg:g≠w.heap.size){W':World}(hs:Lib.OthersKept 5 (some w.heap.size) W W'):W'.heap[g]?=some (.cells (SJ x).toArray 90 (0,0)):=
 hs g _ hb (fun e=>hg (Option.some.inj e)) (fun c fz e=>by cases e)
theorem UP{x:Tk}(hb:W.heap[g]?=some (.cells (SJ x).toArray 90 (0,0)))(j:Nat){y:Value}(hy:(SJ x)[j]?=some y):W.cell? ⟨g,j,none⟩=some y:=by
 simp only[World.cell?,hb]
 simpa using hy
theorem Ja{x:Tk}(h:x.2.1.length<mx):(fF x.1 x.2.1).length≤8000000001:=by
 have:=Lex.core_le x.1 x.2.1
 unfold mx at h
 omega
set_option maxRecDepth 20000 in
set_option maxHeartbeats 8000000 in
theorem body(hG:Good Tryz.prog w fun _=>False)(hS:Src3 w v p cap xs)(hT:Mv xs)(hx:xs[i]?=some x)(hW:Wk w W out)(ho:out.length≤i*8000000004)(hb:W.heap[g]?=some (.cells (SJ x).toArray 90 (0,0)))(hg:g≠w.heap.size)
 (hf:Fr 39 (Fl w v xs.length i g) a) (hQ:∀a' W',Fr 39 (Fl w v xs.length i g) a'→Wk w W' ((out++if J3 xs i x.1 then [32] else [])++uH x.1 x.2.1)→Q .normal a' W'):(Pn [1]).wp Tryz.prog Q a W:=by
 have hil:i<xs.length:=(List.getElem?_eq_some_iff.1 hx).1
 have hxl:=Ja (hT.1 x (List.mem_of_getElem? hx))
 have hn:=hT.2
 refine wp_seq (wp_seq ?_)
 refine Po hG hS hx hT.2 hW hb hf fun a W1 hf t1=>?_
 have hW1:=hW.step t1
 have hb1:=UN hb t1
 have tail:∀(a:Act) (W:World) (o:Bs),o.length≤out.length+1→Fr 39 (Fl w v xs.length i g) a→Wk w W o→W.heap[g]?=some (.cells (SJ x).toArray 90 (0,0))→(o++uH x.1 x.2.1=(out++if J3 xs i x.1 then [32] else [])++uH x.1 x.2.1) →
  (Pn [1,1]).wp Tryz.prog Q a W:=by
  intro a W o hol hf hW hb he
  refine wp_seq (dQ (by kernel_rfl) ?_)
  refine dK hf rfl (by decide) (AQ (ys:=SJ x) hf rfl Nt Px rfl fun j y hj=>by rw[show ((⟨g,0,none⟩:Addr).add j)=⟨g,j,none⟩ from by unfold Addr.add;split <;> simp_all];exact UP hb j hj) fun a hf=>?_
  refine KD (args:=[.agg [.t (.v (vI x.1)),.t (.v (.string (bs x.2.1))),.t (.v (vI x.2.2))]]) hf rfl rfl rfl (by decide) Pi rfl y8 (by rw[Bf,Lex.s_written (hT.1 x (List.mem_of_getElem? hx))];rfl) (gd hG hW.stp) (MB ⟨_,rfl,rfl,fun j c y h1 h2=>?_⟩) (fun u a W2 hf t2 hr=>?_) rfl
  ·match j,h1,h2 with
   | 0,h1,h2=>cases h1;cases h2;exact .inr ⟨.v _,rfl⟩
   | 1,h1,h2=>cases h1;cases h2;exact .inr ⟨.v _,rfl⟩
   | 2,h1,h2=>cases h1;cases h2;exact .inr ⟨.v _,rfl⟩
  rw[Nv hr] at hf
  refine CC hf rfl rfl rfl (by decide) Ph rfl (Mb (hW.step t2) (fF x.1 x.2.1) (by omega)) fun e W3 he=>?_
  obtain⟨⟨u3,rfl⟩,hW3,k3⟩:=he
  refine⟨_,rfl,fun a hf=>?_⟩
  have hb3:=UO (UN hb t2) hg k3
  refine wp_seq (dQ (by kernel_rfl) ?_)
  refine dK hf rfl (by decide) (vS hf rfl Pm rfl s3 (by decide) rfl) fun a hf=>?_
  refine uQ (y:=vI x.1) hf rfl rfl (by decide) s3 a3 rfl (by rw[show ((⟨g,0,none⟩:Addr).add 0)=⟨g,0,none⟩ from by simp[Addr.add]];exact UP hb3 0 rfl) fun a hf=>?_
  refine oA hf rfl rfl (by decide) rfl rfl rfl rfl (Me _ _) fun a hf=>?_
  rw[bZ] at hf
  by_cases h9:x.1=9
  ·rw[decide_eq_true h9] at hf
   refine wp_cond_true (hf.ev rfl) (dQ (by kernel_rfl) ?_)
   refine CC hf rfl rfl rfl (by decide) Ns rfl (Y4 hW3 10 (by rw[List.length_append];omega)) fun e W4 he=>?_
   obtain⟨rfl,hW4,k4⟩:=he
   refine⟨_,rfl,fun a hf=>?_⟩
   refine hQ a W4 (hf.weak ⟨rfl,rfl,rfl,rfl,rfl,rfl,rfl,trivial⟩) ?_
   rw[←he,uH,if_pos h9,←List.append_assoc]
   exact hW4
  ·rw[decide_eq_false h9] at hf
   refine wp_cond_false (hf.ev rfl) (wp_skip ?_)
   refine hQ a W3 (hf.weak ⟨rfl,rfl,rfl,rfl,rfl,rfl,rfl,trivial⟩) ?_
   rw[←he,uH,if_neg h9,List.append_nil]
   exact hW3
 cases hs:J3 xs i x.1 with
 | true=>
  rw[hs] at hf
  refine wp_cond_true (hf.ev rfl) (dQ (by kernel_rfl) ?_)
  refine CC hf rfl rfl rfl (by decide) Ns rfl (Y4 hW1 32 (by omega)) fun e W2 he=>?_
  obtain⟨rfl,hW2,k2⟩:=he
  refine⟨_,rfl,fun a hf=>?_⟩
  exact tail a W2 (out++[32]) (by simp) (hf.weak ⟨rfl,rfl,rfl,rfl,rfl,rfl,rfl,trivial⟩) hW2 (UO hb1 hg k2) (by rw[hs];rfl)
 | false=>
  rw[hs] at hf
  refine wp_cond_false (hf.ev rfl) (wp_skip ?_)
  exact tail a W1 out (by omega) (hf.weak ⟨rfl,rfl,rfl,rfl,rfl,rfl,rfl,trivial⟩) hW1 hb1 (by rw[hs];simp)
theorem Nw:∃i z,Tryz.prog.info? 90=some i∧i.zero=some z∧z.cells.size=3:=GI (t:=90) (n:=3) (by kernel_rfl)
set_option maxRecDepth 20000 in
set_option maxHeartbeats 8000000 in
theorem round(hG:Good Tryz.prog w fun _=>False)(hS:Src3 w v p cap xs)(hT:Mv xs)(hx:xs[i]?=some x)(hW:Wk w W out)(ho:out.length≤i*8000000004)
 (hf:Fr 39 (UD w v xs.length i) a) (hQ:∀a' W',Fr 39 (UD w v xs.length (i+1)) a'→Wk w W' ((out++if J3 xs i x.1 then [32] else [])++uH x.1 x.2.1)→Q .normal a' W'):(EO [1,1,0,1,0,0,1,1] (JC Tryz.f38)).wp Tryz.prog Q a W:=by
 have hil:i<xs.length:=(List.getElem?_eq_some_iff.1 hx).1
 have hn:=hT.2
 obtain⟨A,hpA,hA1,hA2⟩:=hS.get i x hx
 have hvA:v=.slice (some A) xs.length cap:=by rw[hS.eq,hpA]
 obtain⟨i90,z90,hi90,hz90,hs90⟩:=Nw
 refine wp_seq (wp_block (wp_seq (dQ (by kernel_rfl) ?_)))
 refine fS hf rfl rfl (by decide) rfl fun a hf=>?_
 refine ME (m:=3) (A:=A) (l:=xs.length) (c:=cap) (i:=(i:Nat)) hf rfl rfl (by decide) Pl Nt (by rw[←hvA];rfl) rfl (by omega) (by omega) fun a hf=>?_
 refine dK hf rfl (by decide) (AQ (ys:=SJ x) hf rfl Nt Px rfl fun j y hj=>hW.stp.cell (by rw[Int.toNat_natCast];exact hA2 j y hj) id) fun a hf=>?_
 refine dK hf rfl (by decide) (AP rfl hi90 hz90) fun a hf=>?_
 refine gU hf rfl rfl (by decide) rfl fun a hf=>?_
 refine RH hf rfl (CD hf rfl (cs:=(SJ x).toArray) Nt rfl rfl rfl (fun u hu=>?_) (World.alloc_heap_new _ _) (by rw[hs90];rfl)) fun a hf=>?_
 ·simp only[SJ,List.mem_cons,List.not_mem_nil,or_false] at hu
  rcases hu with rfl | rfl | rfl <;> rfl
 rw[World.setRow_alloc_new]
 have hW1:=hW.step (Stp.alloc (fun _=>False) W (.cells (SJ x).toArray 90))
 have hb:=World.alloc_heap_new W (.cells (SJ x).toArray 90)
 have hg:W.heap.size≠w.heap.size:=by have:=hW.lt;omega
 refine body hG hS hT hx hW1 ho hb hg (hf.weak ⟨rfl,rfl,rfl,rfl,rfl,rfl,rfl,trivial⟩) fun a W2 hf hW2=>?_
 refine dQ (by kernel_rfl) ?_
 refine oA (v:=vI ((i+1:Nat):Int)) hf rfl rfl (by decide) rfl rfl rfl rfl ?_ fun a hf=>?_
 ·rw[Eh,jQ (by omega) (by omega)]
  rfl
 refine fS hf rfl rfl (by decide) rfl fun a hf=>?_
 exact hQ a W2 (hf.weak ⟨rfl,rfl,rfl,rfl,rfl,trivial⟩) hW2
theorem Bg(hx:xs[i]?=some x)(h:out++fP (rJ xs i) (xs.drop i)=fP false xs):((out++if J3 xs i x.1 then [32] else [])++uH x.1 x.2.1)++fP (rJ xs (i+1)) (xs.drop (i+1))=fP false xs:=by
 have W8:xs.drop i=x::xs.drop (i+1):=by
  obtain⟨h1,rfl⟩:=List.getElem?_eq_some_iff.1 hx
  exact List.drop_eq_getElem_cons h1
 rw[←h,W8,fP,show rJ xs (i+1)=gQ x.1 from by simp only[rJ,hx]]
 unfold J3
 simp only[List.append_assoc]
set_option maxRecDepth 20000 in
set_option maxHeartbeats 8000000 in
theorem Nx(hT:Mv xs)(hG:Good Tryz.prog w fun _=>False)(hS:Src3 w v p cap xs){R:Ending→World→Prop}(hR:∀w',Stp (fun _=>False) w w'→R (.returned (.string (bs (fP false xs)))) w'):Calls Tryz.prog 38 #[v] w R:=by
 obtain⟨i151,z151,hi151,hz151,hs151⟩:=zB
 have hn:=hT.2
 refine BQ [v] 38 39 Tryz.func38 rfl rfl rfl fun a hf=>?_
 refine wp_seq (dQ (by kernel_rfl) ?_)
 refine gU hf rfl rfl (by decide) rfl fun a hf=>?_
 refine wp_seq (dQ (by kernel_rfl) ?_)
 refine dK hf rfl (by decide) (AP rfl hi151 hz151) fun a hf=>?_
 rw[hs151]
 have hW0:Wk w (w.alloc (.cells #[.pointer none,.slice none 0 0] 151)) []:=⟨Lib.fresh_isBuilder 151 5 w,(Below.refl w.heap.size w).alloc (Nat.le_refl _) _⟩
 refine wp_seq (wp_seq (dQ (by kernel_rfl) ?_))
 refine fS hf rfl rfl (by decide) rfl fun a hf=>?_
 refine WO hf rfl rfl (by decide) Pl (by rw[hS.eq];rfl) fun a hf=>?_
 refine fS hf rfl rfl (by decide) rfl fun a hf=>?_
 refine wp_block ?_
 refine MF (m:=xs.length) (fun k a W=>∃(i:Nat) (out:Bs),i+k=xs.length∧Fr 39 (UD w v xs.length i) a∧Wk w W out∧out.length≤i*8000000004∧out++fP (rJ xs i) (xs.drop i)=fP false xs) ?_ ?_
  ⟨0,[],Nat.zero_add _,hf.weak ⟨rfl,rfl,rfl,rfl,rfl,trivial⟩,hW0,Nat.zero_le _,rfl⟩
 ·rintro K a W ⟨i,out,hi,hf,hW,ho,he⟩
  have hil:i=xs.length:=by omega
  subst hil
  rw[List.drop_length,fP,List.append_nil] at he
  subst he
  refine wp_seq (dQ (by kernel_rfl) ?_)
  refine oA (v:=.bool false) hf rfl rfl (by decide) rfl rfl rfl rfl ?_ fun a hf=>?_
  ·rw[R4,aG,decide_eq_false (by omega)]
  refine wp_seq (wp_cond_false (hf.ev rfl) (wp_exit ?_))
  show Code.wp Tryz.prog (EO [1,1,1] (JC Tryz.f38)) _ a W
  refine wp_seq (dQ (by kernel_rfl) ?_)
  refine CC hf rfl rfl rfl (by decide) Pj rfl (Tryz.Builder_String_any w.heap.size w.heap.size (fP false xs) W hW.isb (Nat.le_of_lt hW.lt)) fun e W2 he=>?_
  obtain⟨rfl,hb⟩:=he
  refine⟨_,rfl,fun a hf=>?_⟩
  refine gU hf rfl rfl (by decide) rfl fun a hf=>?_
  refine wp_ret ?_
  have hbel:=hW.bel.trans hb
  exact YS rfl hf rfl (hR W2 ⟨hbel.os,hbel.tape,hbel.output,hbel.size,fun b hb _=>hbel.block b hb⟩)
 ·rintro k K hK a W ⟨i,out,hi,hf,hW,ho,he⟩
  have hil:i<xs.length:=by omega
  obtain⟨x,hx⟩:∃x,xs[i]?=some x:=⟨_,List.getElem?_eq_getElem hil⟩
  refine wp_seq (dQ (by kernel_rfl) ?_)
  refine oA (v:=.bool true) hf rfl rfl (by decide) rfl rfl rfl rfl ?_ fun a hf=>?_
  ·rw[R4,aG,decide_eq_true (by omega)]
  refine wp_seq (wp_cond_true (hf.ev rfl) (wp_skip ?_))
  refine round hG hS hT hx hW ho (hf.weak ⟨rfl,rfl,rfl,rfl,rfl,trivial⟩) fun a' W' hf' hw'=>hK a' W' ⟨i+1,_,by omega,hf',hw',?_,Bg hx he⟩
  have h1:=Lex.wrtK_le x.1 x.2.1
  have h2:=hT.1 x (List.mem_of_getElem? hx)
  unfold mx at h2
  rw[List.length_append,List.length_append]
  have h3:(if J3 xs i x.1=true then ([32]:Bs) else []).length≤1:=by split <;> simp
  omega
end
theorem Jb{x y:Tk}(h:eE x=eE y):x=y:=by
 obtain⟨a,b,c⟩:=x
 obtain⟨a',b',c'⟩:=y
 simp only[eE,T.agg.injEq,List.cons.injEq,T.v.injEq,Value.int.injEq,Value.string.injEq,true_and,and_true,bs,ByteArray.mk.injEq] at h
 obtain⟨rfl,h2,rfl⟩:=h
 have:b=b':=by simpa using h2
 rw[this]
theorem Y6:∀{xs ys:List Tk},xs.map eE=ys.map eE→xs=ys
 | [],[],_=>rfl
 | [],_::_,h=>by cases h
 | _::_,[],h=>by cases h
 | x::xs,y::ys,h=>by
  simp only[List.map_cons,List.cons.injEq] at h
  rw[Jb h.1,Y6 h.2]
end Go.Eng.Lt
namespace Go.Eng
open Go.Proofs Go.RowKit Lt
open Go.Eng.Lex (Tk eE fP)
def OQ:Sig:={ na:=1,np:=0,hin:={ items:=[.slot 0],shapes:=[.sl 3] },nres:=1,kept:=[],nnew:=0,hout:={ items:=[.slot 0],shapes:=[.str] },nob:=0 }
noncomputable def l5(t:List T×Unit):Option (ByteArray×Unit):=@dite _ (∃xs:List Tk,t.1=xs.map eE∧Mv xs) (Classical.propDecidable _) (fun h=>some (bs (fP false h.choose),())) (fun _=>none)
theorem SC:(aA OQ l5).OK Tryz.prog 38:=by
 refine CA rfl rfl fun t q hq w X F ρ vals hG hX hvl hv rs hrs=>?_
 unfold l5 at hq
 split at hq
 case isFalse=>cases hq
 rename_i hex
 cases hq
 obtain⟨he,hT⟩:=hex.choose_spec
 generalize hex.choose=xs at he hT hrs
 obtain⟨l,u⟩:=t
 have he':l=xs.map eE:=he
 subst he'
 have hrs':(some [.c (.t (.v (.string (bs (fP false xs)))))]:Option (List S1))=some rs:=hrs
 cases hrs'
 match vals,hvl with
 | [v],_=>
 have hr:RdC1 w X ρ (.t (.sl 3 (xs.map eE))) v:=hv 0 _ v rfl rfl
 rcases hr with hr | ⟨hr,_⟩
 ·cases hr
 obtain⟨p,cap,e,_,hget⟩:=iO hr
 refine Nx hT (fun g k hg=>⟨id,(hG g k hg).2⟩) ⟨e,hget⟩ fun w' hs=>?_
 exact⟨_,rfl,hs,.inr ⟨.v _,rfl⟩⟩
theorem s_lexText{xs:List Tk}(hT:Mv xs):l5 (xs.map eE,())=some (bs (fP false xs),()):=by
 have hex:∃ys:List Tk,xs.map eE=ys.map eE∧Mv ys:=⟨xs,rfl,hT⟩
 unfold l5
 rw[dif_pos hex,←Y6 hex.choose_spec.1]
open Go.Proofs
def BH:Sig:=⟨1,0,⟨[.aggs 0 2],[.sl 2,.sl 3]⟩,2,[],0,⟨[.slot 0,.slot 1],[.str,I6]⟩,164⟩
noncomputable def c9(s1:Unit×Unit×List T×Int×Int×List T×List T×List T×Int×Unit):Option (Unit×Unit×List T×Int×Int×List T×List T×List T×Int×Unit⊕Unit×Unit×List T×List T×List T×Int×Unit⊕Empty):=bif ltI s1.2.2.2.2.1 s1.2.2.2.1 then ob (idxL s1.2.2.1 s1.2.2.2.2.1) fun x2=>ob (T.str? (T.cell x2 0)) fun x3=>ob (T.sl? 7 (T.cell x2 1)) fun x4=>ob (aQ ((),x3,x4,s1.2.2.2.2.2.2.2.1,s1.2.2.2.2.2.2.2.2.1,())) fun x5=>some (.inl ((),(),s1.2.2.1,s1.2.2.2.1,wr .i64 (addI s1.2.2.2.2.1 (1:Int)),s1.2.2.2.2.2.1,s1.2.2.2.2.2.2.1,x5.1,x5.2.1,())) else some (.inr (.inl ((),(),s1.2.2.2.2.2.1,s1.2.2.2.2.2.2.1,s1.2.2.2.2.2.2.2.1,s1.2.2.2.2.2.2.2.2.1,())))
noncomputable def cP(s9:Unit×List T×Int×Int×List T×Int×Unit):Option (Unit×List T×Int×Int×List T×Int×Unit⊕Unit×List T×Int×Unit⊕Empty):=bif ltI s9.2.2.2.1 s9.2.2.1 then ob (idxL s9.2.1 s9.2.2.2.1) fun x10=>ob (T.int? .i64 (T.cell x10 0)) fun x11=>ob (aO ((),x11,s9.2.2.2.2.1,s9.2.2.2.2.2.1,())) fun x12=>ob (u___entity_writer__put ((),(10:Int),ByteArray.mk #[],x12.1,x12.2.1,())) fun x13=>ob (T.str? (T.cell x10 1)) fun x14=>ob (T.sl? 7 (T.cell x10 2)) fun x15=>ob (aQ ((),x14,x15,x13.1,x13.2.1,())) fun x16=>some (.inl ((),s9.2.1,s9.2.2.1,wr .i64 (addI s9.2.2.2.1 (1:Int)),x16.1,x16.2.1,())) else some (.inr (.inl ((),s9.2.2.2.2.1,s9.2.2.2.2.2.1,())))
noncomputable def kC(t:List T×List T×Unit):Option (ByteArray×Int×Unit):=bif ltI (2048:Int) (lenL t.2.1) then some (ByteArray.mk #[],(2:Int),()) else ob (bA ((),[T.v (.string (ByteArray.mk #[73,83,79,45,49,48,51,48,51,45,50,49])),T.v (.string (ByteArray.mk #[72,69,65,68,69,82]))],[],(0:Int),())) fun x0=>ob (aF c9 ((),(),t.1,lenL t.1,(0:Int),t.1,t.2.1,x0.1,x0.2.1,())) fun q6=>bB q6 (fun t7=>ob (bA ((),[T.v (.string (ByteArray.mk #[69,78,68,83,69,67])),T.v (.string (ByteArray.mk #[68,65,84,65]))],t7.2.2.2.2.1,t7.2.2.2.2.2.1,())) fun x8=>ob (aF cP ((),t7.2.2.2.1,lenL t7.2.2.2.1,(0:Int),x8.1,x8.2.1,())) fun q17=>bB q17 (fun t18=>ob (bA ((),[T.v (.string (ByteArray.mk #[69,78,68,83,69,67])),T.v (.string (ByteArray.mk #[69,78,68,45,73,83,79,45,49,48,51,48,51,45,50,49]))],t18.2.1,t18.2.2.1,())) fun x19=>bif Bool.not (eqI x19.2.1 (0:Int)) then some (ByteArray.mk #[],x19.2.1,()) else ob (α:=ByteArray×Unit⊕Empty) (bif leI (lenL x19.1) (16384:Int) then ob (l5 (x19.1,())) fun x20=>some (.inl (x20.1,())) else some (.inl (ByteArray.mk #[],()))) fun q21=>bB q21 (fun t22=>bif eqS t22.1 (ByteArray.mk #[]) then some (ByteArray.mk #[],(2:Int),()) else bif ltI (65536:Int) (lenS t22.1) then some (ByteArray.mk #[],(2:Int),()) else some (t22.1,(0:Int),())) fun q23=>b0 q23) fun q24=>b0 q24) fun q25=>b0 q25
theorem OI:(aA BH kC).OK Tryz.prog 13:=d4 mixed [38] (.l (.l (.l (.l (.seq (.l (.one (.loop ⟨[.slot 1,.slot 4,.slot 20,.slot 21,.slot 22,.box 1 2,.box 15 2],[.lit (.box 1 0),.lit (.box 15 0),.sl 2,I6,I6,.sl 2,.sl 3,.row 90 3 18,I6]⟩ [((.exit 0),⟨[.slot 1,.slot 4,.box 1 2,.box 15 2],[.lit (.box 1 0),.lit (.box 15 0),.sl 2,.sl 3,.row 90 3 18,I6]⟩)] .leaf))) (.l (.seq (.l (.one (.loop ⟨[.slot 4,.slot 34,.slot 35,.slot 36,.box 15 2],[.lit (.box 15 0),.sl 3,I6,I6,.row 90 3 32,I6]⟩ [((.exit 2),⟨[.slot 4,.box 15 2],[.lit (.box 15 0),.row 90 3 32,I6]⟩)] .leaf))) (.l (.l (.l (.seq (.join [(.normal,⟨[.slot 9],[.str]⟩)] .leaf) .leaf))))))))))) (.cs Tryz.func34 wZ <| .cs Tryz.func35 uG <| .cs Tryz.func36 j0 <| .cs Tryz.func37 cK <| .cs Tryz.func38 SC <| .nil) Tryz.func13 fun _=>by kernel_rfl
def dA:Sig:=⟨2,0,⟨[.slot 0,.slot 1],[.sl 1,.int .u8]⟩,1,[],0,⟨[.slot 0],[.bool]⟩,136⟩
noncomputable def jH:List (FuncId×Callee):=[(8,(aA nJ d8)),(9,(aA nN cL)),(10,(aA oB gO)),(11,(aA eR bV)),(12,(aA eK bO)),(13,(aA BH kC)),(14,(aA DI lZ)),(2000000,jU [8,6,10] [8,6,10,43,46,47,60000038,60000032,8999999])]
noncomputable def cT(s3:Int×Unit×Unit×Int×List T×Int×Int×Bool×T×T×ByteArray×Int×List T×Unit):Option (Int×Unit×Unit×Int×List T×Int×Int×Bool×T×T×ByteArray×Int×List T×Unit⊕Unit×Unit×List T×Int×Int×Bool×T×T×ByteArray×Int×List T×Unit⊕Empty):=bif ltI s3.2.2.2.1 (wr .i64 (modI s3.1 (11:Int))) then ob (T.sl? 1 s3.2.2.2.2.2.2.2.2.1) fun x4=>ob (T.sl? 1 s3.2.2.2.2.2.2.2.2.2.1) fun x5=>some (.inl (s3.1,(),(),wr .i64 (addI s3.2.2.2.1 (1:Int)),s3.2.2.2.2.1,s3.2.2.2.2.2.1,(6:Int),false,T.v (.slice none 0 0),T.v (.slice none 0 0),ByteArray.mk #[],(0:Int),[T.agg [T.v (.int .i64 s3.2.2.2.2.2.2.1),T.v (.bool s3.2.2.2.2.2.2.2.1),T.sl 1 x4,T.sl 1 x5,T.v (.string s3.2.2.2.2.2.2.2.2.2.2.1),T.v (.int .i64 s3.2.2.2.2.2.2.2.2.2.2.2.1),T.sl 7 s3.2.2.2.2.2.2.2.2.2.2.2.2.1]],())) else some (.inr (.inl ((),(),s3.2.2.2.2.1,s3.2.2.2.2.2.1,s3.2.2.2.2.2.2.1,s3.2.2.2.2.2.2.2.1,s3.2.2.2.2.2.2.2.2.1,s3.2.2.2.2.2.2.2.2.2.1,s3.2.2.2.2.2.2.2.2.2.2.1,s3.2.2.2.2.2.2.2.2.2.2.2.1,s3.2.2.2.2.2.2.2.2.2.2.2.2.1,())))
noncomputable def b6(s12:List T×Int×Int×Unit):Option (List T×Int×Int×Unit⊕Bool×Unit⊕Unit⊕Empty):=bif ltI s12.2.2.1 s12.2.1 then ob (chkI (lenL s12.1) s12.2.2.1) fun x13=>ob (idxN s12.1 x13) fun x14=>ob (T.sl? 2 (T.cell x14 0)) fun x15=>ob (T.sl? 3 (T.cell x14 1)) fun x16=>ob (kC (x15,x16,())) fun x17=>ob (T.sl? 2 (T.cell x14 0)) fun x18=>ob (T.sl? 3 (T.cell x14 1)) fun x19=>ob (lZ (x18,x19,())) fun x20=>bif Bool.not (eqS x17.1 x20.1) then some (.inr (.inl (false,()))) else bif Bool.not (eqI x17.2.1 x20.2.1) then some (.inr (.inl (false,()))) else some (.inl (s12.1,s12.2.1,wr .i64 (addI s12.2.2.1 (1:Int)),())) else some (.inr (.inr (.inl ())))
noncomputable def bH(t:List T×Int×Unit):Option (Bool×Unit):=ob (d8 (t.1,())) fun x0=>bif Bool.not x0.1 then ob (cL ()) fun x1=>some (x1.1,()) else ob (gO (t.1,())) fun x2=>ob (aF cT (t.2.1,(),(),(0:Int),x2.1,x2.2.1,(7:Int),false,T.v (.slice none 0 0),T.v (.slice none 0 0),ByteArray.mk #[],(0:Int),[],())) fun q6=>bB q6 (fun t7=>ob (T.sl? 1 t7.2.2.2.2.2.2.1) fun x8=>ob (T.sl? 1 t7.2.2.2.2.2.2.2.1) fun x9=>ob (bV ((),(5:Int),t7.2.2.1,t7.2.2.2.1,())) fun x10=>ob (bO ((),x10.2.2.1,x10.2.2.2.1,())) fun x11=>ob (aF b6 ([T.agg [T.sl 2 x10.1,T.sl 3 x10.2.1],T.agg [T.sl 2 x11.1,T.sl 3 x11.2.1],T.agg [T.sl 2 [T.agg [T.v (.string (ByteArray.mk #[65])),T.sl 7 [T.agg [T.v (.int .i64 t7.2.2.2.2.1),T.v (.bool t7.2.2.2.2.2.1),T.sl 1 x8,T.sl 1 x9,T.v (.string t7.2.2.2.2.2.2.2.2.1),T.v (.int .i64 t7.2.2.2.2.2.2.2.2.2.1),T.sl 7 t7.2.2.2.2.2.2.2.2.2.2.1]]]],T.sl 3 []]],lenL [T.agg [T.sl 2 x10.1,T.sl 3 x10.2.1],T.agg [T.sl 2 x11.1,T.sl 3 x11.2.1],T.agg [T.sl 2 [T.agg [T.v (.string (ByteArray.mk #[65])),T.sl 7 [T.agg [T.v (.int .i64 t7.2.2.2.2.1),T.v (.bool t7.2.2.2.2.2.1),T.sl 1 x8,T.sl 1 x9,T.v (.string t7.2.2.2.2.2.2.2.2.1),T.v (.int .i64 t7.2.2.2.2.2.2.2.2.2.1),T.sl 7 t7.2.2.2.2.2.2.2.2.2.2.1]]]],T.sl 3 []]],(0:Int),())) fun q21=>bB q21 (fun t22=>some (t22.1,())) fun q23=>bB q23 (fun t24=>ob (cL ()) fun x25=>some (x25.1,())) fun q26=>b0 q26) fun q27=>b0 q27
def jI:HT:=(.l (.l (.l (.l (.seq (.l (.one (.loop ⟨[.slot 1,.slot 5,.slot 6,.slot 7,.box 20 2,.box 6 7],[.int .u8,.lit (.box 20 0),.lit (.box 6 0),I6,.sl 1,I6,I6,.bool,.tree,.tree,.str,I6,.row 32 7 30]⟩ [((.exit 0),⟨[.slot 5,.slot 6,.box 20 2,.box 6 7],[.lit (.box 20 0),.lit (.box 6 0),.sl 1,I6,I6,.bool,.tree,.tree,.str,I6,.row 32 7 30]⟩)] .leaf))) (.l (.seq (.l (.one (.loop ⟨[.slot 42,.slot 43,.slot 44],[.row 38 2 42,I6,I6]⟩ [(.ret,⟨[.slot 4],[.bool]⟩),((.exit 2),⟨[],[]⟩)] .leaf))) .leaf)))))))
theorem qC:TabOK Tryz.prog [8,9,13,14,9000000,4000008,4000009,4000010,4000011,4000012,4000013,4000014,20000008,20000006,20000010,20000043,20000046,20000047,80000038,80000032,28999999] jH:=(.cs Tryz.func8 xT (.cs Tryz.func9 xY (.cs Tryz.func10 zE (.cs Tryz.func11 rE (.cs Tryz.func12 p9 (.cs Tryz.func13 OI (.cs Tryz.func14 R0 (TabOK.flag (by kernel_rfl) (by kernel_rfl) (by kernel_rfl) (by kernel_rfl) (by kernel_rfl)))))))))
theorem rG:∀t,pH Tryz.prog jH [8,9,13,14,9000000,4000008,4000009,4000010,4000011,4000012,4000013,4000014,20000008,20000006,20000010,20000043,20000046,20000047,80000038,80000032,28999999] jI Tryz.f3 dA t=bH t:=fun _=>by kernel_rfl
theorem rH:(aA dA bH).OK Tryz.prog 3:=d4 mixed [8,9,13,14,9000000,4000008,4000009,4000010,4000011,4000012,4000013,4000014,20000008,20000006,20000010,20000043,20000046,20000047,80000038,80000032,28999999] jI qC Tryz.func3 rG
theorem YQ(a:Int){b:Int}(h:0<b):-b<a.tmod b:=by
 rcases Int.lt_or_le a 0 with ha | ha
 ·have h1:(-(-a)).tmod b=-((-a).tmod b):=Int.neg_tmod (-a) b
  rw[Int.neg_neg] at h1
  have h2:(-a).tmod b<b:=by rw[Int.tmod_eq_emod_of_nonneg (by omega)];exact Int.emod_lt_of_pos _ h
  omega
 ·have:0≤a.tmod b:=by rw[Int.tmod_eq_emod_of_nonneg ha];exact Int.emod_nonneg _ (by omega)
  omega
theorem YR(a:Int){b:Int}(h:0<b):a.tmod b<b:=by
 rcases Int.lt_or_le a 0 with ha | ha
 ·have h1:(-(-a)).tmod b=-((-a).tmod b):=Int.neg_tmod (-a) b
  rw[Int.neg_neg] at h1
  have h2:0≤(-a).tmod b:=by rw[Int.tmod_eq_emod_of_nonneg (by omega)];exact Int.emod_nonneg _ (by omega)
  omega
 ·rw[Int.tmod_eq_emod_of_nonneg ha];exact Int.emod_lt_of_pos _ h
def Ay(a n:Int):Int:=if a.tmod n<0 then a.tmod n+n else a.tmod n
theorem Hz(a:Int){n:Int}(h:0<n):0≤Ay a n:=by
 unfold Ay
 have:=YQ a h
 split <;> omega
theorem Ia(a:Int){n:Int}(h:0<n):Ay a n<n:=by
 unfold Ay
 have:=YR a h
 split <;> omega
theorem Ni(a:Int){n:Int}(h1:0<n)(h2:n≤4611686018427387904):hZ (a,n,())=some (Ay a n,()):=by
 unfold hZ Ay
 have:=YQ a h1
 have:=YR a h1
 rw[Ng (show n≠0 by omega)]
 simp only[bC,RD,aG,aY]
 by_cases h:a.tmod n<0
 ·rw[decide_eq_true h,if_pos h,jQ (by omega) (by omega)];rfl
 ·rw[decide_eq_false h,if_neg h];rfl
def WT(z:Int):T:=.v (.int .i64 z)
def cF(L:List T)(a:Int):Prop:=∃zs:List Int,L=zs.map WT∧zs.length≤1000000∧0≤a∧a≤zs.length
theorem lG{L:List T}{a:Int}(h:cF L a){n:Int}(h1:0<n)(h2:n≤4611686018427387904):
 ∃v a',u___brepkernelmade_Dice__Next ((),n,L,a,())=some (v,L,a',())∧0≤v∧v<n∧cF L a':=by
 obtain⟨zs,rfl,hz,ha0,ha1⟩:=h
 unfold u___brepkernelmade_Dice__Next
 simp only[rP,bD,List.length_map,aY,lQ]
 by_cases hc:(zs.length:Int)≤a
 ·rw[decide_eq_true hc]
  exact⟨0,a,rfl,Int.le_refl _,h1,zs,rfl,hz,ha0,ha1⟩
 ·rw[decide_eq_false hc]
  obtain⟨i,rfl⟩:=Int.eq_ofNat_of_zero_le ha0
  have hi:i<zs.length:=by omega
  rw[jQ (n:=(i:Int)+1) (by omega) (by omega),jQ (n:=(i:Int)+1-1) (by omega) (by omega),Int.add_sub_cancel,cC,List.getElem?_map,List.getElem?_eq_getElem hi]
  simp only[cond_false,Option.map_some,bC,WT,wG,wF,Ni _ h1 h2]
  exact⟨_,_,rfl,Hz _ h1,Ia _ h1,zs,rfl,hz,by omega,by omega⟩
theorem BI{L:List T}{a:Int}(h:cF L a){n:Int}(h1:0<n)(h2:n≤4611686018427387904):
 ∃b a',aR ((),n,L,a,())=some (b,L,a',())∧cF L a':=by
 obtain⟨v,a',e,_,_,hd⟩:=lG h h1 h2
 unfold aR
 rw[e]
 exact⟨_,a',rfl,hd⟩
theorem Ib(L:List T):d8 (L,())=some (decide (L.length≤500),()):=by
 unfold d8
 simp only[rP,bD]
 congr 2
 rw[Bool.eq_iff_iff];simp;omega
theorem Lo(L:List T):gO (L,())=some (L,0,()):=rfl
theorem fM{S E:Type}{F:S→Option (S⊕E)}(n:Nat)(s:S):Le (dC F n s) (aF F s):=hO (fun _=>aN) n s
noncomputable def v_ref01_Trim(n:Nat)(t:((List T)×Unit)):Option ((List T)×Unit):=
 (ob (dC yI n (t.1,(Go.Eng.lenL t.1),())) fun q3=>bB q3 (fun t4=>(ob (Go.Eng.cutL t4.1 (0:Int) t4.2.1) fun x5=>(ob (Go.Eng.room [] x5 4) fun x6=>(some (x6,()))))) fun q7=>b0 q7)
theorem eU(n:Nat)(t:((List T)×Unit)):Le (v_ref01_Trim n t) (cJ t):=by
 unfold v_ref01_Trim cJ
 repeat' with_reducible first | exact aN | refine aH ?_ ?_ | refine aS (fun _=>?_) fun _=>?_ | refine bE ?_ fun _=>?_ | refine aJ ?_ ?_ | exact fM _ _
noncomputable def v_ref01_Of(n:Nat)(t:(Int×Unit)):Option ((List T)×Unit):=
 (ob (Go.Eng.nn (32:Int)) fun x0=>(ob (Go.Eng.v_ref01_Trim n ([(Go.Eng.T.v (Go.Value.int Go.IntKind.u32 (Go.Eng.wr Go.IntKind.u32 t.1))),(Go.Eng.T.v (Go.Value.int Go.IntKind.u32 (Go.Eng.wr Go.IntKind.u32 (Go.Eng.shrI Go.IntKind.u64 t.1 x0))))],())) fun x1=>(some (x1.1,()))))
theorem u7(n:Nat)(t:(Int×Unit)):Le (v_ref01_Of n t) (iI t):=by
 unfold v_ref01_Of iI
 repeat' with_reducible first | exact aN | refine aH ?_ ?_ | refine aS (fun _=>?_) fun _=>?_ | refine bE ?_ fun _=>?_ | refine aJ ?_ ?_ | exact eU n _
noncomputable def v_ref01_Cmp(n:Nat)(t:((List T)×(List T)×Unit)):Option (Int×Unit):=
 (bif (Bool.not (Go.Eng.eqI (Go.Eng.lenL t.1) (Go.Eng.lenL t.2.1))) then (bif (Go.Eng.ltI (Go.Eng.lenL t.1) (Go.Eng.lenL t.2.1)) then (some ((-1:Int),())) else (some ((1:Int),()))) else (ob (dC AT n (t.1,t.2.1,(Go.Eng.wr Go.IntKind.i64 (Go.Eng.subI (Go.Eng.lenL t.1) (1:Int))),())) fun q9=>bB q9 (fun t10=>(some (t10.1,()))) fun q11=>bB q11 (fun t12=>(some ((0:Int),()))) fun q13=>b0 q13))
theorem GB(n:Nat)(t:((List T)×(List T)×Unit)):Le (v_ref01_Cmp n t) (qX t):=by
 unfold v_ref01_Cmp qX
 repeat' with_reducible first | exact aN | refine aH ?_ ?_ | refine aS (fun _=>?_) fun _=>?_ | refine bE ?_ fun _=>?_ | refine aJ ?_ ?_ | exact fM _ _
noncomputable def tR(n:Nat)(s1:(List T×List T×List T×Int×Unit)):Option ((List T×List T×List T×Int×Unit)⊕((List T×Unit)⊕Empty)):=
 (bif (Go.Eng.ltI s1.2.2.2.1 (Go.Eng.lenL s1.1)) then (ob (dC AU n (s1.1,s1.2.1,s1.2.2.1,s1.2.2.2.1,(0:Int),(0:Int),())) fun q13=>bB q13 (fun t14=>(ob (Go.Eng.chkI (Go.Eng.lenL t14.2.2.1) (Go.Eng.wr Go.IntKind.i64 (Go.Eng.addI t14.2.2.2.1 (Go.Eng.lenL t14.2.1)))) fun x15=>(ob (Go.Eng.idxN t14.2.2.1 x15) fun x16=>(some (Sum.inl (t14.1,t14.2.1,(List.set t14.2.2.1 x15 (Go.Eng.T.upd 1 x16 0 [(Go.Eng.T.v (Go.Value.int Go.IntKind.u32 (Go.Eng.wr Go.IntKind.u32 t14.2.2.2.2.1)))])),(Go.Eng.wr Go.IntKind.i64 (Go.Eng.addI t14.2.2.2.1 (1:Int))),())))))) fun q17=>b0 q17) else (some (Sum.inr (Sum.inl (s1.2.2.1,())))))
theorem JR(n:Nat)(s1:(List T×List T×List T×Int×Unit)):Le (tR n s1) (tA s1):=by
 unfold tR tA
 repeat' with_reducible first | exact aN | refine aH ?_ ?_ | refine aS (fun _=>?_) fun _=>?_ | refine bE ?_ fun _=>?_ | refine aJ ?_ ?_ | exact fM _ _
noncomputable def v_ref01_Mul(n:Nat)(t:((List T)×(List T)×Unit)):Option ((List T)×Unit):=
 (ob (Go.Eng.mkLen (Go.Eng.wr Go.IntKind.i64 (Go.Eng.addI (Go.Eng.lenL t.1) (Go.Eng.lenL t.2.1))) (Go.Eng.wr Go.IntKind.i64 (Go.Eng.addI (Go.Eng.lenL t.1) (Go.Eng.lenL t.2.1))) 4) fun x0=>(ob (dC (tR n) n (t.1,t.2.1,(Go.Eng.repL x0.1 (Go.Eng.T.v (Go.Value.int Go.IntKind.u32 (0:Int)))),(0:Int),())) fun q18=>bB q18 (fun t19=>(ob (Go.Eng.v_ref01_Trim n (t19.1,())) fun x20=>(some (x20.1,())))) fun q21=>b0 q21))
theorem GC(n:Nat)(t:((List T)×(List T)×Unit)):Le (v_ref01_Mul n t) (lA t):=by
 unfold v_ref01_Mul lA
 repeat' with_reducible first | exact aN | refine aH ?_ ?_ | refine aS (fun _=>?_) fun _=>?_ | refine bE ?_ fun _=>?_ | refine aJ ?_ ?_ | exact eU n _ | exact hO (JR n) _ _
noncomputable def v_ref01_minus(n:Nat)(t:((List T)×(List T)×Unit)):Option ((List T)×Unit):=
 (ob (Go.Eng.mkLen (Go.Eng.lenL t.1) (Go.Eng.lenL t.1) 4) fun x0=>(ob (dC wI n (t.1,t.2.1,(Go.Eng.repL x0.1 (Go.Eng.T.v (Go.Value.int Go.IntKind.u32 (0:Int)))),(0:Int),(0:Int),())) fun q14=>bB q14 (fun t15=>(ob (Go.Eng.v_ref01_Trim n (t15.1,())) fun x16=>(some (x16.1,())))) fun q17=>b0 q17))
theorem BK(n:Nat)(t:((List T)×(List T)×Unit)):Le (v_ref01_minus n t) (mH t):=by
 unfold v_ref01_minus mH
 repeat' with_reducible first | exact aN | refine aH ?_ ?_ | refine aS (fun _=>?_) fun _=>?_ | refine bE ?_ fun _=>?_ | refine aJ ?_ ?_ | exact eU n _ | exact fM _ _
noncomputable def v_ref01_Bits(n:Nat)(t:((List T)×Unit)):Option (Int×Unit):=
 (bif (Go.Eng.eqI (Go.Eng.lenL t.1) (0:Int)) then (some ((0:Int),())) else (ob (Go.Eng.idxL t.1 (Go.Eng.wr Go.IntKind.i64 (Go.Eng.subI (Go.Eng.lenL t.1) (1:Int)))) fun x0=>(ob (Go.Eng.T.int? Go.IntKind.u32 (Go.Eng.T.cell x0 0)) fun x3=>(ob (dC yJ n ((Go.Eng.wr Go.IntKind.i64 (Go.Eng.mulI (32:Int) (Go.Eng.wr Go.IntKind.i64 (Go.Eng.subI (Go.Eng.lenL t.1) (1:Int))))),x3,())) fun q4=>bB q4 (fun t5=>(some (t5.1,()))) fun q6=>b0 q6))))
theorem DJ(n:Nat)(t:((List T)×Unit)):Le (v_ref01_Bits n t) (lR t):=by
 unfold v_ref01_Bits lR
 repeat' with_reducible first | exact aN | refine aH ?_ ?_ | refine aS (fun _=>?_) fun _=>?_ | refine bE ?_ fun _=>?_ | refine aJ ?_ ?_ | exact fM _ _
noncomputable def v_ref01_up(n:Nat)(t:((List T)×Int×Unit)):Option ((List T)×Unit):=
 (ob (Go.Eng.mkLen (Go.Eng.wr Go.IntKind.i64 (Go.Eng.divI t.2.1 (32:Int))) (Go.Eng.wr Go.IntKind.i64 (Go.Eng.divI t.2.1 (32:Int))) 4) fun x0=>(ob (dC C2 n (t.1,t.2.1,(Go.Eng.repL x0.1 (Go.Eng.T.v (Go.Value.int Go.IntKind.u32 (0:Int)))),(0:Int),(0:Int),())) fun q7=>bB q7 (fun t8=>(ob (Go.Eng.room t8.1 [(Go.Eng.T.v (Go.Value.int Go.IntKind.u32 (Go.Eng.wr Go.IntKind.u32 t8.2.1)))] 4) fun x9=>(ob (Go.Eng.v_ref01_Trim n (x9,())) fun x10=>(some (x10.1,()))))) fun q11=>b0 q11))
theorem UB(n:Nat)(t:((List T)×Int×Unit)):Le (v_ref01_up n t) (tC t):=by
 unfold v_ref01_up tC
 repeat' with_reducible first | exact aN | refine aH ?_ ?_ | refine aS (fun _=>?_) fun _=>?_ | refine bE ?_ fun _=>?_ | refine aJ ?_ ?_ | exact eU n _ | exact fM _ _
noncomputable def v_ref01_times(n:Nat)(t:((List T)×Int×Unit)):Option ((List T)×Unit):=
 (ob (Go.Eng.v_ref01_Of n ((Go.Eng.wr Go.IntKind.u64 t.2.1),())) fun x0=>(ob (Go.Eng.v_ref01_Mul n (t.1,x0.1,())) fun x1=>(some (x1.1,()))))
theorem M3(n:Nat)(t:((List T)×Int×Unit)):Le (v_ref01_times n t) (qL t):=by
 unfold v_ref01_times qL
 repeat' with_reducible first | exact aN | refine aH ?_ ?_ | refine aS (fun _=>?_) fun _=>?_ | refine bE ?_ fun _=>?_ | refine aJ ?_ ?_ | exact u7 n _ | exact GC n _
noncomputable def v_ref01_byLimb(n:Nat)(t:((List T)×Int×Unit)):Option ((List T)×Int×Unit):=
 (ob (Go.Eng.mkLen (Go.Eng.lenL t.1) (Go.Eng.lenL t.1) 4) fun x0=>(ob (dC uR n (t.1,t.2.1,(Go.Eng.repL x0.1 (Go.Eng.T.v (Go.Value.int Go.IntKind.u32 (0:Int)))),(0:Int),(Go.Eng.wr Go.IntKind.i64 (Go.Eng.subI (Go.Eng.lenL t.1) (1:Int))),())) fun q9=>bB q9 (fun t10=>(ob (Go.Eng.v_ref01_Trim n (t10.1,())) fun x11=>(some (x11.1,(Go.Eng.wr Go.IntKind.u32 t10.2.1),())))) fun q12=>b0 q12))
theorem y9(n:Nat)(t:((List T)×Int×Unit)):Le (v_ref01_byLimb n t) (lB t):=by
 unfold v_ref01_byLimb lB
 repeat' with_reducible first | exact aN | refine aH ?_ ?_ | refine aS (fun _=>?_) fun _=>?_ | refine bE ?_ fun _=>?_ | refine aJ ?_ ?_ | exact eU n _ | exact fM _ _
noncomputable def v_ref01_down(n:Nat)(t:((List T)×Int×Unit)):Option ((List T)×Unit):=
 (bif (Go.Eng.leI (Go.Eng.lenL t.1) (Go.Eng.wr Go.IntKind.i64 (Go.Eng.divI t.2.1 (32:Int)))) then (some ([],())) else (ob (Go.Eng.cutL t.1 (Go.Eng.wr Go.IntKind.i64 (Go.Eng.divI t.2.1 (32:Int))) (Go.Eng.lenL t.1)) fun x0=>(ob (Go.Eng.mkLen (Go.Eng.lenL x0) (Go.Eng.lenL x0) 4) fun x1=>(ob (dC yK n (x0,t.2.1,(Go.Eng.repL x1.1 (Go.Eng.T.v (Go.Value.int Go.IntKind.u32 (0:Int)))),(0:Int),())) fun q14=>bB q14 (fun t15=>(ob (Go.Eng.v_ref01_Trim n (t15.1,())) fun x16=>(some (x16.1,())))) fun q17=>b0 q17))))
theorem OJ(n:Nat)(t:((List T)×Int×Unit)):Le (v_ref01_down n t) (sF t):=by
 unfold v_ref01_down sF
 repeat' with_reducible first | exact aN | refine aH ?_ ?_ | refine aS (fun _=>?_) fun _=>?_ | refine bE ?_ fun _=>?_ | refine aJ ?_ ?_ | exact eU n _ | exact fM _ _
noncomputable def tS(n:Nat)(s33:(List T×List T×List T×Int×Int×Int×Int×List T×Unit)):Option ((List T×List T×List T×Int×Int×Int×Int×List T×Unit)⊕((List T×List T×List T×Int×Int×Int×Int×List T×Unit)⊕Empty)):=
 (ob (Go.Eng.v_ref01_Cmp n (s33.2.2.2.2.2.2.2.1,s33.2.2.1,())) fun x34=>(bif (Go.Eng.ltI (0:Int) x34.1) then (ob (Go.Eng.u_ref01_shifted (s33.1,s33.2.2.2.2.2.1,())) fun x35=>(ob (Go.Eng.v_ref01_minus n (s33.2.2.2.2.2.2.2.1,x35.1,())) fun x36=>(some (Sum.inl (s33.1,s33.2.1,s33.2.2.1,s33.2.2.2.1,s33.2.2.2.2.1,s33.2.2.2.2.2.1,(Go.Eng.wr Go.IntKind.u64 (Go.Eng.subI s33.2.2.2.2.2.2.1 (1:Int))),x36.1,()))))) else (some (Sum.inr (Sum.inl (s33.1,s33.2.1,s33.2.2.1,s33.2.2.2.1,s33.2.2.2.2.1,s33.2.2.2.2.2.1,s33.2.2.2.2.2.2.1,s33.2.2.2.2.2.2.2.1,()))))))
theorem JS(n:Nat)(s33:(List T×List T×List T×Int×Int×Int×Int×List T×Unit)):Le (tS n s33) (tD s33):=by
 unfold tS tD
 repeat' with_reducible first | exact aN | refine aH ?_ ?_ | refine aS (fun _=>?_) fun _=>?_ | refine bE ?_ fun _=>?_ | refine aJ ?_ ?_ | exact GB n _ | exact BK n _
noncomputable def tT(n:Nat)(s17:(List T×List T×List T×Int×Int×Int×Unit)):Option ((List T×List T×List T×Int×Int×Int×Unit)⊕((List T×List T×Int×Unit)⊕Empty)):=
 (bif (Go.Eng.leI (0:Int) s17.2.2.2.2.2.1) then (ob (α:=((List T×List T×List T×Int×Int×Int×Int×Unit)⊕Empty)) (bif (Go.Eng.ltI (Go.Eng.wr Go.IntKind.i64 (Go.Eng.addI s17.2.2.2.2.2.1 s17.2.2.2.2.1)) (Go.Eng.lenL s17.2.2.1)) then (ob (Go.Eng.idxL s17.2.2.1 (Go.Eng.wr Go.IntKind.i64 (Go.Eng.addI s17.2.2.2.2.2.1 s17.2.2.2.2.1))) fun x18=>(ob (Go.Eng.T.anyInt? (Go.Eng.T.cell x18 0)) fun x19=>(some (Sum.inl (s17.1,s17.2.1,s17.2.2.1,s17.2.2.2.1,s17.2.2.2.2.1,s17.2.2.2.2.2.1,(Go.Eng.wr Go.IntKind.u64 x19),()))))) else (some (Sum.inl (s17.1,s17.2.1,s17.2.2.1,s17.2.2.2.1,s17.2.2.2.2.1,s17.2.2.2.2.2.1,(0:Int),())))) fun q20=>bB q20 (fun t21=>(ob (α:=((List T×List T×List T×Int×Int×Int×Int×Unit)⊕Empty)) (bif (Go.Eng.ltI (Go.Eng.wr Go.IntKind.i64 (Go.Eng.subI (Go.Eng.wr Go.IntKind.i64 (Go.Eng.addI t21.2.2.2.2.2.1 t21.2.2.2.2.1)) (1:Int))) (Go.Eng.lenL t21.2.2.1)) then (ob (Go.Eng.nn (32:Int)) fun x22=>(ob (Go.Eng.idxL t21.2.2.1 (Go.Eng.wr Go.IntKind.i64 (Go.Eng.subI (Go.Eng.wr Go.IntKind.i64 (Go.Eng.addI t21.2.2.2.2.2.1 t21.2.2.2.2.1)) (1:Int)))) fun x23=>(ob (Go.Eng.T.anyInt? (Go.Eng.T.cell x23 0)) fun x24=>(some (Sum.inl (t21.1,t21.2.1,t21.2.2.1,t21.2.2.2.1,t21.2.2.2.2.1,t21.2.2.2.2.2.1,(Go.Eng.bitI Go.BinOp.or Go.IntKind.u64 (Go.Eng.wr Go.IntKind.u64 (Go.Eng.shlI Go.IntKind.u64 t21.2.2.2.2.2.2.1 x22)) (Go.Eng.wr Go.IntKind.u64 x24)),())))))) else (ob (Go.Eng.nn (32:Int)) fun x25=>(some (Sum.inl (t21.1,t21.2.1,t21.2.2.1,t21.2.2.2.1,t21.2.2.2.2.1,t21.2.2.2.2.2.1,(Go.Eng.wr Go.IntKind.u64 (Go.Eng.shlI Go.IntKind.u64 t21.2.2.2.2.2.2.1 x25)),()))))) fun q26=>bB q26 (fun t27=>(ob (Go.Eng.idxL t27.1 (Go.Eng.wr Go.IntKind.i64 (Go.Eng.subI t27.2.2.2.2.1 (1:Int)))) fun x28=>(ob (Go.Eng.T.anyInt? (Go.Eng.T.cell x28 0)) fun x29=>(ob (Go.Eng.nz (Go.Eng.wr Go.IntKind.u64 x29)) fun x30=>(ob (Go.Eng.v_ref01_times n (t27.1,(Go.Eng.wr Go.IntKind.u32 (Go.Eng.mmI Bool.false (Go.Eng.wr Go.IntKind.u64 (Go.Eng.divI t27.2.2.2.2.2.2.1 x30)) (4294967295:Int))),())) fun x31=>(ob (Go.Eng.u_ref01_shifted (x31.1,t27.2.2.2.2.2.1,())) fun x32=>(ob (dC (tS n) n (t27.1,t27.2.1,t27.2.2.1,t27.2.2.2.1,t27.2.2.2.2.1,t27.2.2.2.2.2.1,(Go.Eng.mmI Bool.false (Go.Eng.wr Go.IntKind.u64 (Go.Eng.divI t27.2.2.2.2.2.2.1 x30)) (4294967295:Int)),x32.1,())) fun q37=>bB q37 (fun t38=>(ob (Go.Eng.chkI (Go.Eng.lenL t38.2.1) t38.2.2.2.2.2.1) fun x39=>(ob (Go.Eng.idxN t38.2.1 x39) fun x40=>(ob (Go.Eng.v_ref01_minus n (t38.2.2.1,t38.2.2.2.2.2.2.2.1,())) fun x41=>(some (Sum.inl (t38.1,(List.set t38.2.1 x39 (Go.Eng.T.upd 1 x40 0 [(Go.Eng.T.v (Go.Value.int Go.IntKind.u32 (Go.Eng.wr Go.IntKind.u32 t38.2.2.2.2.2.2.1)))])),x41.1,t38.2.2.2.1,t38.2.2.2.2.1,(Go.Eng.wr Go.IntKind.i64 (Go.Eng.subI t38.2.2.2.2.2.1 (1:Int))),()))))))) fun q42=>b0 q42))))))) fun q43=>b0 q43)) fun q44=>b0 q44) else (some (Sum.inr (Sum.inl (s17.2.1,s17.2.2.1,s17.2.2.2.1,())))))
theorem JT(n:Nat)(s17:(List T×List T×List T×Int×Int×Int×Unit)):Le (tT n s17) (tE s17):=by
 unfold tT tE
 repeat' with_reducible first | exact aN | refine aH ?_ ?_ | refine aS (fun _=>?_) fun _=>?_ | refine bE ?_ fun _=>?_ | refine aJ ?_ ?_ | exact M3 n _ | exact BK n _ | exact hO (JS n) _ _
noncomputable def v_ref01_Div(n:Nat)(t:((List T)×(List T)×Unit)):Option ((List T)×(List T)×Int×Unit):=
 (bif (Go.Eng.eqI (Go.Eng.lenL t.2.1) (0:Int)) then (some ([],[],(3:Int),())) else (ob (Go.Eng.v_ref01_Cmp n (t.1,t.2.1,())) fun x0=>(bif (Go.Eng.ltI x0.1 (0:Int)) then (ob (Go.Eng.v_ref01_Trim n (t.1,())) fun x1=>(some ([],x1.1,(0:Int),()))) else (ob (Go.Eng.u_ref01_small (t.1,())) fun x2=>(bif x2.2.1 then (ob (Go.Eng.u_ref01_small (t.2.1,())) fun x3=>(ob (Go.Eng.nz x3.1) fun x4=>(ob (Go.Eng.v_ref01_Of n ((Go.Eng.wr Go.IntKind.u64 (Go.Eng.divI x2.1 x4)),())) fun x5=>(ob (Go.Eng.nz x3.1) fun x6=>(ob (Go.Eng.v_ref01_Of n ((Go.Eng.modI x2.1 x6),())) fun x7=>(some (x5.1,x7.1,(0:Int),()))))))) else (bif (Go.Eng.eqI (Go.Eng.lenL t.2.1) (1:Int)) then (ob (Go.Eng.idxL t.2.1 (0:Int)) fun x8=>(ob (Go.Eng.T.int? Go.IntKind.u32 (Go.Eng.T.cell x8 0)) fun x9=>(ob (Go.Eng.v_ref01_byLimb n (t.1,x9,())) fun x10=>(ob (Go.Eng.v_ref01_Of n ((Go.Eng.wr Go.IntKind.u64 x10.2.1),())) fun x11=>(some (x10.1,x11.1,(0:Int),())))))) else (ob (Go.Eng.cutL t.2.1 (Go.Eng.wr Go.IntKind.i64 (Go.Eng.subI (Go.Eng.lenL t.2.1) (1:Int))) (Go.Eng.lenL t.2.1)) fun x12=>(ob (Go.Eng.v_ref01_Bits n (x12,())) fun x13=>(ob (Go.Eng.v_ref01_up n (t.2.1,(Go.Eng.wr Go.IntKind.i64 (Go.Eng.subI (32:Int) x13.1)),())) fun x14=>(ob (Go.Eng.v_ref01_up n (t.1,(Go.Eng.wr Go.IntKind.i64 (Go.Eng.subI (32:Int) x13.1)),())) fun x15=>(ob (Go.Eng.mkLen (Go.Eng.wr Go.IntKind.i64 (Go.Eng.addI (Go.Eng.wr Go.IntKind.i64 (Go.Eng.subI (Go.Eng.lenL x15.1) (Go.Eng.lenL x14.1))) (1:Int))) (Go.Eng.wr Go.IntKind.i64 (Go.Eng.addI (Go.Eng.wr Go.IntKind.i64 (Go.Eng.subI (Go.Eng.lenL x15.1) (Go.Eng.lenL x14.1))) (1:Int))) 4) fun x16=>(ob (dC (tT n) n (x14.1,(Go.Eng.repL x16.1 (Go.Eng.T.v (Go.Value.int Go.IntKind.u32 (0:Int)))),x15.1,(Go.Eng.wr Go.IntKind.i64 (Go.Eng.subI (32:Int) x13.1)),(Go.Eng.lenL x14.1),(Go.Eng.wr Go.IntKind.i64 (Go.Eng.subI (Go.Eng.lenL x15.1) (Go.Eng.lenL x14.1))),())) fun q45=>bB q45 (fun t46=>(ob (Go.Eng.v_ref01_Trim n (t46.1,())) fun x47=>(ob (Go.Eng.v_ref01_down n (t46.2.1,t46.2.2.1,())) fun x48=>(some (x47.1,x48.1,(0:Int),()))))) fun q49=>b0 q49))))))))))))
theorem GD(n:Nat)(t:((List T)×(List T)×Unit)):Le (v_ref01_Div n t) (iA t):=by
 unfold v_ref01_Div iA
 repeat' with_reducible first | exact aN | refine aH ?_ ?_ | refine aS (fun _=>?_) fun _=>?_ | refine bE ?_ fun _=>?_ | refine aJ ?_ ?_ | exact GB n _ | exact eU n _ | exact u7 n _ | exact y9 n _ | exact DJ n _ | exact UB n _ | exact OJ n _ | exact hO (JT n) _ _
noncomputable def tU(n:Nat)(s2:(List T×List T×Unit)):Option ((List T×List T×Unit)⊕((List T×Unit)⊕((List T×Unit)⊕Empty))):=
 (bif (Go.Eng.ltI (0:Int) (Go.Eng.lenL s2.2.1)) then (ob (Go.Eng.u_ref01_small (s2.1,())) fun x3=>(ob (Go.Eng.u_ref01_small (s2.2.1,())) fun x4=>(bif x3.2.1 then (bif x4.2.1 then (ob (dC AW n (x3.1,x4.1,())) fun q7=>bB q7 (fun t8=>(ob (Go.Eng.v_ref01_Of n (t8.1,())) fun x9=>(some (Sum.inr (Sum.inl (x9.1,())))))) fun q10=>b0 q10) else (ob (Go.Eng.v_ref01_Div n (s2.1,s2.2.1,())) fun x11=>(some (Sum.inl (s2.2.1,x11.2.1,()))))) else (ob (Go.Eng.v_ref01_Div n (s2.1,s2.2.1,())) fun x12=>(some (Sum.inl (s2.2.1,x12.2.1,()))))))) else (some (Sum.inr (Sum.inr (Sum.inl (s2.1,()))))))
theorem JU(n:Nat)(s2:(List T×List T×Unit)):Le (tU n s2) (tF s2):=by
 unfold tU tF
 repeat' with_reducible first | exact aN | refine aH ?_ ?_ | refine aS (fun _=>?_) fun _=>?_ | refine bE ?_ fun _=>?_ | refine aJ ?_ ?_ | exact u7 n _ | exact GD n _ | exact fM _ _
noncomputable def v_ref01_Gcd(n:Nat)(t:((List T)×(List T)×Unit)):Option ((List T)×Unit):=
 (ob (Go.Eng.v_ref01_Trim n (t.1,())) fun x0=>(ob (Go.Eng.v_ref01_Trim n (t.2.1,())) fun x1=>(ob (dC (tU n) n (x0.1,x1.1,())) fun q13=>bB q13 (fun t14=>(some (t14.1,()))) fun q15=>bB q15 (fun t16=>(some (t16.1,()))) fun q17=>b0 q17)))
theorem R1(n:Nat)(t:((List T)×(List T)×Unit)):Le (v_ref01_Gcd n t) (uS t):=by
 unfold v_ref01_Gcd uS
 repeat' with_reducible first | exact aN | refine aH ?_ ?_ | refine aS (fun _=>?_) fun _=>?_ | refine bE ?_ fun _=>?_ | refine aJ ?_ ?_ | exact eU n _ | exact hO (JU n) _ _
noncomputable def v_ref02_size(n:Nat)(t:(Int×Unit)):Option ((List T)×Bool×Unit):=
 (bif (Go.Eng.ltI t.1 (0:Int)) then (ob (Go.Eng.v_ref01_Of n ((Go.Eng.wr Go.IntKind.u64 (Go.Eng.addI (Go.Eng.wr Go.IntKind.u64 (Go.Eng.wr Go.IntKind.i64 (Go.Eng.subI (0:Int) (Go.Eng.wr Go.IntKind.i64 (Go.Eng.addI t.1 (1:Int)))))) (1:Int))),())) fun x0=>(some (x0.1,Bool.true,()))) else (ob (Go.Eng.v_ref01_Of n ((Go.Eng.wr Go.IntKind.u64 t.1),())) fun x1=>(some (x1.1,Bool.false,()))))
theorem DK(n:Nat)(t:(Int×Unit)):Le (v_ref02_size n t) (lS t):=by
 unfold v_ref02_size lS
 repeat' with_reducible first | exact aN | refine aH ?_ ?_ | refine aS (fun _=>?_) fun _=>?_ | refine bE ?_ fun _=>?_ | refine aJ ?_ ?_ | exact u7 n _
noncomputable def v_ref02_reduce(n:Nat)(t:(Bool×(List T)×(List T)×Unit)):Option (Bool×(List T)×(List T)×Unit):=
 (ob (Go.Eng.v_ref01_Trim n (t.2.1,())) fun x0=>(ob (Go.Eng.v_ref01_Trim n (t.2.2.1,())) fun x1=>(bif (Go.Eng.eqI (Go.Eng.lenL x0.1) (0:Int)) then (some (Bool.false,[],[],())) else (ob (Go.Eng.v_ref01_Gcd n (x0.1,x1.1,())) fun x2=>(ob (α:=((Bool×List T×List T×Unit×Bool×T×T×Unit)⊕Empty)) (bif (Bool.not (Go.Eng.eqI (Go.Eng.lenL x2.1) (1:Int))) then (ob (Go.Eng.v_ref01_Div n (x0.1,x2.1,())) fun x3=>(ob (Go.Eng.v_ref01_Div n (x1.1,x2.1,())) fun x4=>(some (Sum.inl (t.1,x3.1,x4.1,(),Bool.false,(Go.Eng.T.v (Go.Value.slice (Option.none) 0 0)),(Go.Eng.T.v (Go.Value.slice (Option.none) 0 0)),()))))) else (ob (Go.Eng.idxL x2.1 (0:Int)) fun x5=>(ob (Go.Eng.T.int? Go.IntKind.u32 (Go.Eng.T.cell x5 0)) fun x6=>(bif (Bool.not (Go.Eng.eqI x6 (1:Int))) then (ob (Go.Eng.v_ref01_Div n (x0.1,x2.1,())) fun x7=>(ob (Go.Eng.v_ref01_Div n (x1.1,x2.1,())) fun x8=>(some (Sum.inl (t.1,x7.1,x8.1,(),Bool.false,(Go.Eng.T.v (Go.Value.slice (Option.none) 0 0)),(Go.Eng.T.v (Go.Value.slice (Option.none) 0 0)),()))))) else (some (Sum.inl (t.1,x0.1,x1.1,(),Bool.false,(Go.Eng.T.v (Go.Value.slice (Option.none) 0 0)),(Go.Eng.T.v (Go.Value.slice (Option.none) 0 0)),()))))))) fun q9=>bB q9 (fun t10=>(ob (α:=((Bool×List T×List T×Unit×Bool×T×T×Unit)⊕Empty)) (bif (Go.Eng.eqI (Go.Eng.lenL t10.2.2.1) (1:Int)) then (ob (Go.Eng.idxL t10.2.2.1 (0:Int)) fun x11=>(ob (Go.Eng.T.int? Go.IntKind.u32 (Go.Eng.T.cell x11 0)) fun x12=>(bif (Go.Eng.eqI x12 (1:Int)) then (some (Sum.inl (t10.1,t10.2.1,[],(),t10.2.2.2.2.1,t10.2.2.2.2.2.1,t10.2.2.2.2.2.2.1,()))) else (some (Sum.inl (t10.1,t10.2.1,t10.2.2.1,(),t10.2.2.2.2.1,t10.2.2.2.2.2.1,t10.2.2.2.2.2.2.1,())))))) else (some (Sum.inl (t10.1,t10.2.1,t10.2.2.1,(),t10.2.2.2.2.1,t10.2.2.2.2.2.1,t10.2.2.2.2.2.2.1,())))) fun q13=>bB q13 (fun t14=>(some (t14.1,t14.2.1,t14.2.2.1,()))) fun q15=>b0 q15)) fun q16=>b0 q16)))))
theorem zA(n:Nat)(t:(Bool×(List T)×(List T)×Unit)):Le (v_ref02_reduce n t) (iU t):=by
 unfold v_ref02_reduce iU
 repeat' with_reducible first | exact aN | refine aH ?_ ?_ | refine aS (fun _=>?_) fun _=>?_ | refine bE ?_ fun _=>?_ | refine aJ ?_ ?_ | exact eU n _ | exact R1 n _ | exact GD n _
noncomputable def v_ref02_Make(n:Nat)(t:(Int×Int×Unit)):Option (Bool×(List T)×(List T)×Int×Unit):=
 (bif (Go.Eng.eqI t.2.1 (0:Int)) then (some (Bool.false,[],[],(3:Int),())) else (ob (Go.Eng.v_ref02_size n (t.1,())) fun x0=>(ob (Go.Eng.v_ref02_size n (t.2.1,())) fun x1=>(ob (Go.Eng.v_ref02_reduce n ((Bool.not (Go.Eng.eqB x0.2.1 x1.2.1)),x0.1,x1.1,())) fun x2=>(some (x2.1,x2.2.1,x2.2.2.1,(0:Int),()))))))
theorem OL(n:Nat)(t:(Int×Int×Unit)):Le (v_ref02_Make n t) (sG t):=by
 unfold v_ref02_Make sG
 repeat' with_reducible first | exact aN | refine aH ?_ ?_ | refine aS (fun _=>?_) fun _=>?_ | refine bE ?_ fun _=>?_ | refine aJ ?_ ?_ | exact DK n _ | exact zA n _
noncomputable def v_ref02_Frac(n:Nat)(t:(Int×Int×Unit)):Option (Bool×(List T)×(List T)×Unit):=
 (ob (Go.Eng.v_ref02_Make n (t.1,t.2.1,())) fun x0=>(some (x0.1,x0.2.1,x0.2.2.1,())))
theorem DL(n:Nat)(t:(Int×Int×Unit)):Le (v_ref02_Frac n t) (u_ref02_Frac t):=by
 unfold v_ref02_Frac u_ref02_Frac
 repeat' with_reducible first | exact aN | refine aH ?_ ?_ | refine aS (fun _=>?_) fun _=>?_ | refine bE ?_ fun _=>?_ | refine aJ ?_ ?_ | exact OL n _
noncomputable def v_ref02_Int(n:Nat)(t:(Int×Unit)):Option (Bool×(List T)×(List T)×Unit):=
 (ob (Go.Eng.v_ref02_size n (t.1,())) fun x0=>(some (x0.2.1,x0.1,[],())))
theorem sM(n:Nat)(t:(Int×Unit)):Le (v_ref02_Int n t) (u_ref02_Int t):=by
 unfold v_ref02_Int u_ref02_Int
 repeat' with_reducible first | exact aN | refine aH ?_ ?_ | refine aS (fun _=>?_) fun _=>?_ | refine bE ?_ fun _=>?_ | refine aJ ?_ ?_ | exact DK n _
noncomputable def v_natural_trim(n:Nat)(t:((List T)×Unit)):Option ((List T)×Unit):=
 (ob (dC uU n (t.1,(Go.Eng.lenL t.1),())) fun q3=>bB q3 (fun t4=>(ob (Go.Eng.cutL t4.1 (0:Int) t4.2.1) fun x5=>(some (x5,())))) fun q6=>b0 q6)
theorem eH(n:Nat)(t:((List T)×Unit)):Le (v_natural_trim n t) (aU t):=by
 unfold v_natural_trim aU
 repeat' with_reducible first | exact aN | refine aH ?_ ?_ | refine aS (fun _=>?_) fun _=>?_ | refine bE ?_ fun _=>?_ | refine aJ ?_ ?_ | exact fM _ _
noncomputable def v_natural_Cmp(n:Nat)(t:((List T)×(List T)×Unit)):Option (Int×Unit):=
 (ob (Go.Eng.v_natural_trim n (t.1,())) fun x0=>(ob (Go.Eng.v_natural_trim n (t.2.1,())) fun x1=>(bif (Bool.not (Go.Eng.eqI (Go.Eng.lenL x0.1) (Go.Eng.lenL x1.1))) then (bif (Go.Eng.ltI (Go.Eng.lenL x0.1) (Go.Eng.lenL x1.1)) then (some ((-1:Int),())) else (some ((1:Int),()))) else (ob (dC wJ n (x0.1,x1.1,(Go.Eng.wr Go.IntKind.i64 (Go.Eng.subI (Go.Eng.lenL x0.1) (1:Int))),())) fun q11=>bB q11 (fun t12=>(some (t12.1,()))) fun q13=>bB q13 (fun t14=>(some ((0:Int),()))) fun q15=>b0 q15))))
theorem BL(n:Nat)(t:((List T)×(List T)×Unit)):Le (v_natural_Cmp n t) (kA t):=by
 unfold v_natural_Cmp kA
 repeat' with_reducible first | exact aN | refine aH ?_ ?_ | refine aS (fun _=>?_) fun _=>?_ | refine bE ?_ fun _=>?_ | refine aJ ?_ ?_ | exact eH n _ | exact fM _ _
noncomputable def v_natural_Of(n:Nat)(t:(Int×Unit)):Option ((List T)×Unit):=
 (ob (Go.Eng.nn (32:Int)) fun x0=>(ob (Go.Eng.v_natural_trim n ([(Go.Eng.T.v (Go.Value.int Go.IntKind.u32 (Go.Eng.wr Go.IntKind.u32 t.1))),(Go.Eng.T.v (Go.Value.int Go.IntKind.u32 (Go.Eng.wr Go.IntKind.u32 (Go.Eng.shrI Go.IntKind.u64 t.1 x0))))],())) fun x1=>(some (x1.1,()))))
theorem vR(n:Nat)(t:(Int×Unit)):Le (v_natural_Of n t) (iB t):=by
 unfold v_natural_Of iB
 repeat' with_reducible first | exact aN | refine aH ?_ ?_ | refine aS (fun _=>?_) fun _=>?_ | refine bE ?_ fun _=>?_ | refine aJ ?_ ?_ | exact eH n _
noncomputable def v_natural_raise(n:Nat)(t:((List T)×Int×Unit)):Option ((List T)×Unit):=
 (ob (Go.Eng.mkLen (Go.Eng.wr Go.IntKind.i64 (Go.Eng.addI (Go.Eng.lenL t.1) (1:Int))) (Go.Eng.wr Go.IntKind.i64 (Go.Eng.addI (Go.Eng.lenL t.1) (1:Int))) 4) fun x0=>(ob (dC tH n (t.1,t.2.1,(Go.Eng.repL x0.1 (Go.Eng.T.v (Go.Value.int Go.IntKind.u32 (0:Int)))),(0:Int),t.1,(Go.Eng.lenL t.1),(0:Int),())) fun q8=>bB q8 (fun t9=>(ob (Go.Eng.chkI (Go.Eng.lenL t9.2.1) (Go.Eng.lenL t9.1)) fun x10=>(ob (Go.Eng.idxN t9.2.1 x10) fun x11=>(some ((List.set t9.2.1 x10 (Go.Eng.T.upd 1 x11 0 [(Go.Eng.T.v (Go.Value.int Go.IntKind.u32 (Go.Eng.wr Go.IntKind.u32 t9.2.2.1)))])),()))))) fun q12=>b0 q12))
theorem w4(n:Nat)(t:((List T)×Int×Unit)):Le (v_natural_raise n t) (fG t):=by
 unfold v_natural_raise fG
 repeat' with_reducible first | exact aN | refine aH ?_ ?_ | refine aS (fun _=>?_) fun _=>?_ | refine bE ?_ fun _=>?_ | refine aJ ?_ ?_ | exact fM _ _
noncomputable def v_slices_Clone___uint32_uint32_(n:Nat)(t:((List T)×Unit)):Option ((List T)×Unit):=
 (bif (Go.Eng.nilL t.1) then (T1 (some ([],())) (ob (Go.Eng.room [] t.1 4) fun x0=>(some (x0,())))) else (ob (Go.Eng.room [] t.1 4) fun x1=>(some (x1,()))))
theorem oZ(n:Nat)(t:((List T)×Unit)):Le (v_slices_Clone___uint32_uint32_ n t) (cV t):=by
 unfold v_slices_Clone___uint32_uint32_ cV
 repeat' with_reducible first | exact aN | refine aH ?_ ?_ | refine aS (fun _=>?_) fun _=>?_ | refine bE ?_ fun _=>?_ | refine aJ ?_ ?_
noncomputable def v_slices_Clone___uint32_uint32__r(n:Nat)(t:((List T)×Unit)):Option ((List T)×Unit):=
 (bif (Go.Eng.nilL t.1) then (T1 (some ([],())) (ob (Go.Eng.room [] t.1 4) fun x0=>(some (x0,())))) else (ob (Go.Eng.room [] t.1 4) fun x1=>(some (x1,()))))
theorem nA(n:Nat)(t:((List T)×Unit)):Le (v_slices_Clone___uint32_uint32__r n t) (bY t):=by
 unfold v_slices_Clone___uint32_uint32__r bY
 repeat' with_reducible first | exact aN | refine aH ?_ ?_ | refine aS (fun _=>?_) fun _=>?_ | refine bE ?_ fun _=>?_ | refine aJ ?_ ?_
noncomputable def v_natural_small(n:Nat)(t:((List T)×Int×Unit)):Option ((List T)×Int×Unit):=
 (ob (Go.Eng.mkLen (Go.Eng.lenL t.1) (Go.Eng.lenL t.1) 4) fun x0=>(ob (dC tJ n (t.1,t.2.1,(Go.Eng.repL x0.1 (Go.Eng.T.v (Go.Value.int Go.IntKind.u32 (0:Int)))),(0:Int),(Go.Eng.wr Go.IntKind.i64 (Go.Eng.subI (Go.Eng.lenL t.1) (1:Int))),())) fun q9=>bB q9 (fun t10=>(ob (Go.Eng.v_natural_trim n (t10.1,())) fun x11=>(some (x11.1,(Go.Eng.wr Go.IntKind.u32 t10.2.1),())))) fun q12=>b0 q12))
theorem w5(n:Nat)(t:((List T)×Int×Unit)):Le (v_natural_small n t) (jV t):=by
 unfold v_natural_small jV
 repeat' with_reducible first | exact aN | refine aH ?_ ?_ | refine aS (fun _=>?_) fun _=>?_ | refine bE ?_ fun _=>?_ | refine aJ ?_ ?_ | exact eH n _ | exact fM _ _
noncomputable def qD(n:Nat)(s1:(List T×List T×List T×Int×Int×Unit)):Option ((List T×List T×List T×Int×Int×Unit)⊕((List T×Unit)⊕Empty)):=
 (bif (Go.Eng.ltI s1.2.2.2.2.1 s1.2.2.2.1) then (ob (α:=((List T×List T×List T×Int×Int×Unit)⊕Empty)) (ob (Go.Eng.idxL s1.2.2.1 s1.2.2.2.2.1) fun x2=>(ob (Go.Eng.T.int? Go.IntKind.u32 (Go.Eng.T.cell x2 0)) fun x3=>(bif (Go.Eng.eqI x3 (0:Int)) then (some (Sum.inl (s1.1,s1.2.1,s1.2.2.1,s1.2.2.2.1,s1.2.2.2.2.1,()))) else (ob (dC wL n (s1.1,s1.2.1,s1.2.2.2.2.1,(Go.Eng.T.cell x2 0),(0:Int),s1.2.2.1,s1.2.2.2.1,s1.2.2.2.2.1,s1.1,(Go.Eng.lenL s1.1),(0:Int),())) fun q14=>bB q14 (fun t15=>(ob (Go.Eng.chkI (Go.Eng.lenL t15.2.1) (Go.Eng.wr Go.IntKind.i64 (Go.Eng.addI t15.2.2.1 (Go.Eng.lenL t15.1)))) fun x16=>(ob (Go.Eng.idxN t15.2.1 x16) fun x17=>(some (Sum.inl (t15.1,(List.set t15.2.1 x16 (Go.Eng.T.upd 1 x17 0 [(Go.Eng.T.v (Go.Value.int Go.IntKind.u32 (Go.Eng.wr Go.IntKind.u32 t15.2.2.2.1)))])),t15.2.2.2.2.1,t15.2.2.2.2.2.1,t15.2.2.2.2.2.2.1,())))))) fun q18=>b0 q18)))) fun q19=>bB q19 (fun t20=>(some (Sum.inl (t20.1,t20.2.1,t20.2.2.1,t20.2.2.2.1,(Go.Eng.wr Go.IntKind.i64 (Go.Eng.addI t20.2.2.2.2.1 (1:Int))),())))) fun q21=>b0 q21) else (some (Sum.inr (Sum.inl (s1.2.1,())))))
theorem GE(n:Nat)(s1:(List T×List T×List T×Int×Int×Unit)):Le (qD n s1) (pW s1):=by
 unfold qD pW
 repeat' with_reducible first | exact aN | refine aH ?_ ?_ | refine aS (fun _=>?_) fun _=>?_ | refine bE ?_ fun _=>?_ | refine aJ ?_ ?_ | exact fM _ _
noncomputable def v_natural_Mul(n:Nat)(t:((List T)×(List T)×Unit)):Option ((List T)×Unit):=
 (ob (Go.Eng.mkLen (Go.Eng.wr Go.IntKind.i64 (Go.Eng.addI (Go.Eng.lenL t.1) (Go.Eng.lenL t.2.1))) (Go.Eng.wr Go.IntKind.i64 (Go.Eng.addI (Go.Eng.lenL t.1) (Go.Eng.lenL t.2.1))) 4) fun x0=>(ob (dC (qD n) n (t.2.1,(Go.Eng.repL x0.1 (Go.Eng.T.v (Go.Value.int Go.IntKind.u32 (0:Int)))),t.1,(Go.Eng.lenL t.1),(0:Int),())) fun q22=>bB q22 (fun t23=>(ob (Go.Eng.v_natural_trim n (t23.1,())) fun x24=>(some (x24.1,())))) fun q25=>b0 q25))
theorem BM(n:Nat)(t:((List T)×(List T)×Unit)):Le (v_natural_Mul n t) (iJ t):=by
 unfold v_natural_Mul iJ
 repeat' with_reducible first | exact aN | refine aH ?_ ?_ | refine aS (fun _=>?_) fun _=>?_ | refine bE ?_ fun _=>?_ | refine aJ ?_ ?_ | exact eH n _ | exact hO (GE n) _ _
noncomputable def qE(n:Nat)(s15:(List T×Int×List T×List T×Int×Int×Unit)):Option ((List T×Int×List T×List T×Int×Int×Unit)⊕((List T×Int×List T×Unit)⊕Empty)):=
 (bif (Go.Eng.leI (0:Int) s15.2.2.2.2.2.1) then (ob (Go.Eng.idxL s15.2.2.1 (Go.Eng.wr Go.IntKind.i64 (Go.Eng.addI s15.2.2.2.2.2.1 s15.2.2.2.2.1))) fun x16=>(ob (Go.Eng.T.anyInt? (Go.Eng.T.cell x16 0)) fun x17=>(ob (Go.Eng.nn (32:Int)) fun x18=>(ob (Go.Eng.idxL s15.2.2.1 (Go.Eng.wr Go.IntKind.i64 (Go.Eng.subI (Go.Eng.wr Go.IntKind.i64 (Go.Eng.addI s15.2.2.2.2.2.1 s15.2.2.2.2.1)) (1:Int)))) fun x19=>(ob (Go.Eng.T.anyInt? (Go.Eng.T.cell x19 0)) fun x20=>(ob (Go.Eng.idxL s15.2.2.2.1 (Go.Eng.wr Go.IntKind.i64 (Go.Eng.subI s15.2.2.2.2.1 (1:Int)))) fun x21=>(ob (Go.Eng.T.anyInt? (Go.Eng.T.cell x21 0)) fun x22=>(ob (Go.Eng.nz (Go.Eng.wr Go.IntKind.u64 x22)) fun x23=>(ob (Go.Eng.idxL s15.2.2.2.1 (Go.Eng.wr Go.IntKind.i64 (Go.Eng.subI s15.2.2.2.2.1 (1:Int)))) fun x24=>(ob (Go.Eng.T.anyInt? (Go.Eng.T.cell x24 0)) fun x25=>(ob (Go.Eng.nz (Go.Eng.wr Go.IntKind.u64 x25)) fun x26=>(ob (dC wM n (s15.1,s15.2.1,s15.2.2.1,s15.2.2.2.1,s15.2.2.2.2.1,s15.2.2.2.2.2.1,(Go.Eng.wr Go.IntKind.u64 (Go.Eng.divI (Go.Eng.bitI Go.BinOp.or Go.IntKind.u64 (Go.Eng.wr Go.IntKind.u64 (Go.Eng.shlI Go.IntKind.u64 (Go.Eng.wr Go.IntKind.u64 x17) x18)) (Go.Eng.wr Go.IntKind.u64 x20)) x23)),(Go.Eng.modI (Go.Eng.bitI Go.BinOp.or Go.IntKind.u64 (Go.Eng.wr Go.IntKind.u64 (Go.Eng.shlI Go.IntKind.u64 (Go.Eng.wr Go.IntKind.u64 x17) x18)) (Go.Eng.wr Go.IntKind.u64 x20)) x26),())) fun q37=>bB q37 (fun t38=>(ob (dC wN n (t38.1,t38.2.1,t38.2.2.1,t38.2.2.2.1,t38.2.2.2.2.1,t38.2.2.2.2.2.1,t38.2.2.2.2.2.2.1,(0:Int),(0:Int),t38.2.2.2.1,(Go.Eng.lenL t38.2.2.2.1),(0:Int),())) fun q45=>bB q45 (fun t46=>(ob (Go.Eng.idxL t46.2.2.1 (Go.Eng.wr Go.IntKind.i64 (Go.Eng.addI t46.2.2.2.2.2.1 t46.2.2.2.2.1))) fun x47=>(ob (Go.Eng.T.anyInt? (Go.Eng.T.cell x47 0)) fun x48=>(ob (Go.Eng.idxL t46.2.2.1 (Go.Eng.wr Go.IntKind.i64 (Go.Eng.addI t46.2.2.2.2.2.1 t46.2.2.2.2.1))) fun x49=>none)))) fun q50=>b0 q50)) fun q51=>b0 q51)))))))))))) else (some (Sum.inr (Sum.inl (s15.1,s15.2.1,s15.2.2.1,())))))
theorem GF(n:Nat)(s15:(List T×Int×List T×List T×Int×Int×Unit)):Le (qE n s15) (pX s15):=by
 unfold qE pX
 repeat' with_reducible first | exact aN | refine aH ?_ ?_ | refine aS (fun _=>?_) fun _=>?_ | refine bE ?_ fun _=>?_ | refine aJ ?_ ?_ | exact fM _ _ | exact fM _ _
noncomputable def v_natural_Div(n:Nat)(t:((List T)×(List T)×Unit)):Option ((List T)×(List T)×Int×Unit):=
 (ob (Go.Eng.v_natural_trim n (t.1,())) fun x0=>(ob (Go.Eng.v_natural_trim n (t.2.1,())) fun x1=>(bif (Go.Eng.eqI (Go.Eng.lenL x1.1) (0:Int)) then (some ([],[],(3:Int),())) else (ob (Go.Eng.v_natural_Cmp n (x0.1,x1.1,())) fun x2=>(bif (Go.Eng.ltI x2.1 (0:Int)) then (ob (Go.Eng.v_slices_Clone___uint32_uint32_ n (x0.1,())) fun x3=>(some ([],x3.1,(0:Int),()))) else (bif (Go.Eng.eqI (Go.Eng.lenL x1.1) (1:Int)) then (ob (Go.Eng.idxL x1.1 (0:Int)) fun x4=>(ob (Go.Eng.T.int? Go.IntKind.u32 (Go.Eng.T.cell x4 0)) fun x5=>(ob (Go.Eng.v_natural_small n (x0.1,x5,())) fun x6=>(ob (Go.Eng.v_natural_trim n ([(Go.Eng.T.v (Go.Value.int Go.IntKind.u32 x6.2.1))],())) fun x7=>(some (x6.1,x7.1,(0:Int),())))))) else (ob (Go.Eng.idxL x1.1 (Go.Eng.wr Go.IntKind.i64 (Go.Eng.subI (Go.Eng.lenL x1.1) (1:Int)))) fun x8=>(ob (Go.Eng.T.int? Go.IntKind.u32 (Go.Eng.T.cell x8 0)) fun x9=>(ob (Go.Eng.u_math_bits_LeadingZeros32 (x9,())) fun x10=>(ob (Go.Eng.v_natural_raise n (x0.1,x10.1,())) fun x11=>(ob (Go.Eng.v_natural_raise n (x1.1,x10.1,())) fun x12=>(ob (Go.Eng.v_natural_trim n (x12.1,())) fun x13=>(ob (Go.Eng.mkLen (Go.Eng.wr Go.IntKind.i64 (Go.Eng.subI (Go.Eng.lenL x11.1) (Go.Eng.lenL x13.1))) (Go.Eng.wr Go.IntKind.i64 (Go.Eng.subI (Go.Eng.lenL x11.1) (Go.Eng.lenL x13.1))) 4) fun x14=>(ob (dC (qE n) n ((Go.Eng.repL x14.1 (Go.Eng.T.v (Go.Value.int Go.IntKind.u32 (0:Int)))),x10.1,x11.1,x13.1,(Go.Eng.lenL x13.1),(Go.Eng.wr Go.IntKind.i64 (Go.Eng.subI (Go.Eng.lenL (Go.Eng.repL x14.1 (Go.Eng.T.v (Go.Value.int Go.IntKind.u32 (0:Int))))) (1:Int))),())) fun q52=>bB q52 (fun t53=>(ob (Go.Eng.v_natural_trim n (t53.2.2.1,())) fun x54=>(ob (dC wO n (t53.1,x54.1,t53.2.1,(Go.Eng.lenL x54.1),(0:Int),())) fun q61=>bB q61 (fun t62=>(ob (Go.Eng.v_natural_trim n (t62.1,())) fun x63=>(ob (Go.Eng.v_natural_trim n (t62.2.1,())) fun x64=>(some (x63.1,x64.1,(0:Int),()))))) fun q65=>b0 q65))) fun q66=>b0 q66))))))))))))))
theorem BN(n:Nat)(t:((List T)×(List T)×Unit)):Le (v_natural_Div n t) (kB t):=by
 unfold v_natural_Div kB
 repeat' with_reducible first | exact aN | refine aH ?_ ?_ | refine aS (fun _=>?_) fun _=>?_ | refine bE ?_ fun _=>?_ | refine aJ ?_ ?_ | exact eH n _ | exact BL n _ | exact oZ n _ | exact w5 n _ | exact w4 n _ | exact hO (GF n) _ _ | exact fM _ _
noncomputable def v_natural_Shift(n:Nat)(t:((List T)×Int×Unit)):Option ((List T)×Int×Unit):=
 (ob (Go.Eng.v_natural_trim n (t.1,())) fun x0=>(bif (Go.Eng.ltI (16384:Int) t.2.1) then (some ([],(2:Int),())) else (bif (Go.Eng.leI (0:Int) t.2.1) then (ob (Go.Eng.mkLen (Go.Eng.wr Go.IntKind.i64 (Go.Eng.divI t.2.1 (32:Int))) (Go.Eng.wr Go.IntKind.i64 (Go.Eng.divI t.2.1 (32:Int))) 4) fun x1=>(ob (Go.Eng.v_natural_raise n (x0.1,(Go.Eng.modI t.2.1 (32:Int)),())) fun x2=>(ob (Go.Eng.room (Go.Eng.repL x1.1 (Go.Eng.T.v (Go.Value.int Go.IntKind.u32 (0:Int)))) x2.1 4) fun x3=>(ob (Go.Eng.v_natural_trim n (x3,())) fun x4=>(some (x4.1,(0:Int),())))))) else (bif (Go.Eng.leI t.2.1 (Go.Eng.wr Go.IntKind.i64 (Go.Eng.mulI (-32:Int) (Go.Eng.lenL x0.1)))) then (some ([],(0:Int),())) else (ob (Go.Eng.cutL x0.1 (Go.Eng.wr Go.IntKind.i64 (Go.Eng.divI (Go.Eng.wr Go.IntKind.i64 (Go.Eng.subI (0:Int) t.2.1)) (32:Int))) (Go.Eng.lenL x0.1)) fun x5=>(ob (Go.Eng.v_slices_Clone___uint32_uint32__r n (x5,())) fun x6=>(ob (dC tK n (x6.1,(Go.Eng.modI (Go.Eng.wr Go.IntKind.i64 (Go.Eng.subI (0:Int) t.2.1)) (32:Int)),(Go.Eng.lenL x6.1),(0:Int),())) fun q26=>bB q26 (fun t27=>(ob (Go.Eng.v_natural_trim n (t27.1,())) fun x28=>(some (x28.1,(0:Int),())))) fun q29=>b0 q29)))))))
theorem w6(n:Nat)(t:((List T)×Int×Unit)):Le (v_natural_Shift n t) (fH t):=by
 unfold v_natural_Shift fH
 repeat' with_reducible first | exact aN | refine aH ?_ ?_ | refine aS (fun _=>?_) fun _=>?_ | refine bE ?_ fun _=>?_ | refine aJ ?_ ?_ | exact eH n _ | exact w4 n _ | exact nA n _ | exact fM _ _
noncomputable def v_slices_Reverse___byte_byte_(n:Nat)(t:((List T)×Unit)):Option ((List T)×Unit):=
 (ob (dC iC n (t.1,(0:Int),(Go.Eng.wr Go.IntKind.i64 (Go.Eng.subI (Go.Eng.lenL t.1) (1:Int))),())) fun q11=>bB q11 (fun t12=>(some (t12.1,()))) fun q13=>b0 q13)
theorem qF(n:Nat)(t:((List T)×Unit)):Le (v_slices_Reverse___byte_byte_ n t) (dG t):=by
 unfold v_slices_Reverse___byte_byte_ dG
 repeat' with_reducible first | exact aN | refine aH ?_ ?_ | refine aS (fun _=>?_) fun _=>?_ | refine bE ?_ fun _=>?_ | refine aJ ?_ ?_ | exact fM _ _
noncomputable def o4(n:Nat)(s1:(List T×List T×Unit)):Option ((List T×List T×Unit)⊕((List T×Unit)⊕Empty)):=
 (bif (Go.Eng.ltI (0:Int) (Go.Eng.lenL s1.1)) then (ob (Go.Eng.v_natural_small n (s1.1,(1000000000:Int),())) fun x2=>(ob (dC uV n (x2.1,s1.2.1,x2.2.1,(0:Int),())) fun q6=>bB q6 (fun t7=>(some (Sum.inl (t7.1,t7.2.1,())))) fun q8=>b0 q8)) else (some (Sum.inr (Sum.inl (s1.2.1,())))))
theorem EI(n:Nat)(s1:(List T×List T×Unit)):Le (o4 n s1) (oD s1):=by
 unfold o4 oD
 repeat' with_reducible first | exact aN | refine aH ?_ ?_ | refine aS (fun _=>?_) fun _=>?_ | refine bE ?_ fun _=>?_ | refine aJ ?_ ?_ | exact w5 n _ | exact fM _ _
noncomputable def v_natural_Text(n:Nat)(t:((List T)×Unit)):Option (ByteArray×Unit):=
 (ob (Go.Eng.v_natural_trim n (t.1,())) fun x0=>(bif (Go.Eng.eqI (Go.Eng.lenL x0.1) (0:Int)) then (some ((ByteArray.mk #[48]),())) else (ob (dC (o4 n) n (x0.1,[],())) fun q9=>bB q9 (fun t10=>(ob (Go.Eng.v_slices_Reverse___byte_byte_ n (t10.1,())) fun x11=>(ob (Go.Eng.strOf x11.1) fun x12=>(some (x12,()))))) fun q13=>b0 q13)))
theorem JV(n:Nat)(t:((List T)×Unit)):Le (v_natural_Text n t) (lC t):=by
 unfold v_natural_Text lC
 repeat' with_reducible first | exact aN | refine aH ?_ ?_ | refine aS (fun _=>?_) fun _=>?_ | refine bE ?_ fun _=>?_ | refine aJ ?_ ?_ | exact eH n _ | exact qF n _ | exact hO (EI n) _ _
noncomputable def o5(n:Nat)(s2:(Int×List T×List T×Unit)):Option ((Int×List T×List T×Unit)⊕((List T×Unit)⊕Empty)):=
 (bif (Go.Eng.ltI (0:Int) s2.1) then (ob (α:=((Int×List T×List T×Unit)⊕Empty)) (ob (α:=((Int×List T×List T×Unit)⊕Empty)) (bif (Go.Eng.eqI (Go.Eng.modI s2.1 (2:Int)) (1:Int)) then (ob (Go.Eng.v_natural_Mul n (s2.2.1,s2.2.2.1,())) fun x3=>(some (Sum.inl (s2.1,x3.1,s2.2.2.1,())))) else (some (Sum.inl (s2.1,s2.2.1,s2.2.2.1,())))) fun q4=>bB q4 (fun t5=>(bif (Go.Eng.ltI (1:Int) t5.1) then (ob (Go.Eng.v_natural_Mul n (t5.2.2.1,t5.2.2.1,())) fun x6=>(some (Sum.inl (t5.1,t5.2.1,x6.1,())))) else (some (Sum.inl (t5.1,t5.2.1,t5.2.2.1,()))))) fun q7=>b0 q7) fun q8=>bB q8 (fun t9=>(some (Sum.inl ((Go.Eng.wr Go.IntKind.i64 (Go.Eng.divI t9.1 (2:Int))),t9.2.1,t9.2.2.1,())))) fun q10=>b0 q10) else (some (Sum.inr (Sum.inl (s2.2.1,())))))
theorem EJ(n:Nat)(s2:(Int×List T×List T×Unit)):Le (o5 n s2) (oE s2):=by
 unfold o5 oE
 repeat' with_reducible first | exact aN | refine aH ?_ ?_ | refine aS (fun _=>?_) fun _=>?_ | refine bE ?_ fun _=>?_ | refine aJ ?_ ?_ | exact BM n _
noncomputable def v_entity_power(n:Nat)(t:(Int×Unit)):Option ((List T)×Unit):=
 (ob (Go.Eng.v_natural_Of n ((1:Int),())) fun x0=>(ob (Go.Eng.v_natural_Of n ((10:Int),())) fun x1=>(ob (dC (o5 n) n (t.1,x0.1,x1.1,())) fun q11=>bB q11 (fun t12=>(some (t12.1,()))) fun q13=>b0 q13)))
theorem JW(n:Nat)(t:(Int×Unit)):Le (v_entity_power n t) (lD t):=by
 unfold v_entity_power lD
 repeat' with_reducible first | exact aN | refine aH ?_ ?_ | refine aS (fun _=>?_) fun _=>?_ | refine bE ?_ fun _=>?_ | refine aJ ?_ ?_ | exact vR n _ | exact hO (EJ n) _ _
noncomputable def mC(n:Nat)(s0:(List T×Int×Unit)):Option ((List T×Int×Unit)⊕((Int×List T×Unit)⊕Empty)):=
 (ob (Go.Eng.v_natural_Of n ((5:Int),())) fun x1=>(ob (Go.Eng.v_natural_Div n (s0.1,x1.1,())) fun x2=>(bif (Bool.not (Go.Eng.eqI x2.2.2.1 (0:Int))) then (some (Sum.inr (Sum.inl (s0.2.1,s0.1,())))) else (bif (Go.Eng.ltI (0:Int) (Go.Eng.lenL x2.2.1)) then (some (Sum.inr (Sum.inl (s0.2.1,s0.1,())))) else (bif (Go.Eng.eqI (Go.Eng.lenL s0.1) (0:Int)) then (some (Sum.inr (Sum.inl (s0.2.1,s0.1,())))) else (some (Sum.inl (x2.1,(Go.Eng.wr Go.IntKind.i64 (Go.Eng.addI s0.2.1 (1:Int))),()))))))))
theorem BO(n:Nat)(s0:(List T×Int×Unit)):Le (mC n s0) (mA s0):=by
 unfold mC mA
 repeat' with_reducible first | exact aN | refine aH ?_ ?_ | refine aS (fun _=>?_) fun _=>?_ | refine bE ?_ fun _=>?_ | refine aJ ?_ ?_ | exact vR n _ | exact BN n _
noncomputable def v_entity_factors(n:Nat)(t:((List T)×Unit)):Option (Int×(List T)×Unit):=
 (ob (dC (mC n) n (t.1,(0:Int),())) fun q3=>bB q3 (fun t4=>(some (t4.1,t4.2.1,()))) fun q5=>b0 q5)
theorem GG(n:Nat)(t:((List T)×Unit)):Le (v_entity_factors n t) (iV t):=by
 unfold v_entity_factors iV
 repeat' with_reducible first | exact aN | refine aH ?_ ?_ | refine aS (fun _=>?_) fun _=>?_ | refine bE ?_ fun _=>?_ | refine aJ ?_ ?_ | exact hO (BO n) _ _
noncomputable def mD(n:Nat)(s0:(Unit×List T×Int×List T×Bool×List T×List T×Unit)):Option ((Unit×List T×Int×List T×Bool×List T×List T×Unit)⊕((Unit×List T×Int×Bool×List T×List T×Unit)⊕Empty)):=
 (bif (Go.Eng.ltI (0:Int) (Go.Eng.lenL s0.2.2.2.1)) then (ob (Go.Eng.idxL s0.2.2.2.1 (0:Int)) fun x1=>(ob (Go.Eng.T.int? Go.IntKind.u32 (Go.Eng.T.cell x1 0)) fun x2=>(bif (Go.Eng.eqI (Go.Eng.bitI Go.BinOp.and Go.IntKind.u32 x2 (1:Int)) (0:Int)) then (ob (Go.Eng.v_natural_Shift n (s0.2.2.2.1,(-1:Int),())) fun x3=>(some (Sum.inl ((),s0.2.1,(Go.Eng.wr Go.IntKind.i64 (Go.Eng.addI s0.2.2.1 (1:Int))),x3.1,s0.2.2.2.2.1,s0.2.2.2.2.2.1,s0.2.2.2.2.2.2.1,())))) else (some (Sum.inr (Sum.inl ((),s0.2.1,s0.2.2.1,s0.2.2.2.2.1,s0.2.2.2.2.2.1,s0.2.2.2.2.2.2.1,()))))))) else (some (Sum.inr (Sum.inl ((),s0.2.1,s0.2.2.1,s0.2.2.2.2.1,s0.2.2.2.2.2.1,s0.2.2.2.2.2.2.1,())))))
theorem BP(n:Nat)(s0:(Unit×List T×Int×List T×Bool×List T×List T×Unit)):Le (mD n s0) (mB s0):=by
 unfold mD mB
 repeat' with_reducible first | exact aN | refine aH ?_ ?_ | refine aS (fun _=>?_) fun _=>?_ | refine bE ?_ fun _=>?_ | refine aJ ?_ ?_ | exact w6 n _
noncomputable def v_entity_Decimal(n:Nat)(t:(Bool×(List T)×(List T)×Unit)):Option (ByteArray×Bool×Unit):=
 (ob (α:=((ByteArray×Bool×Unit)⊕((Unit×Int×List T×Bool×List T×List T×Unit)⊕Empty))) (bif (Go.Eng.ltI (0:Int) (Go.Eng.lenL t.2.2.1)) then (ob (dC (mD n) n ((),t.2.1,(0:Int),t.2.2.1,t.1,t.2.1,t.2.2.1,())) fun q4=>bB q4 (fun t5=>(ob (Go.Eng.v_natural_Shift n (t5.2.2.2.2.2.1,(Go.Eng.wr Go.IntKind.i64 (Go.Eng.subI (0:Int) t5.2.2.1)),())) fun x6=>(ob (Go.Eng.v_entity_factors n (x6.1,())) fun x7=>(ob (Go.Eng.v_natural_Of n ((1:Int),())) fun x8=>(ob (Go.Eng.v_natural_Cmp n (x7.2.1,x8.1,())) fun x9=>(bif (Bool.not (Go.Eng.eqI x9.1 (0:Int))) then (some (Sum.inl ((ByteArray.mk #[]),Bool.false,()))) else (ob (Go.Eng.v_entity_power n ((Go.Eng.mmI Bool.true t5.2.2.1 x7.1),())) fun x10=>(ob (Go.Eng.v_natural_Mul n (t5.2.1,x10.1,())) fun x11=>(ob (Go.Eng.v_natural_Div n (x11.1,t5.2.2.2.2.2.1,())) fun x12=>(some (Sum.inr (Sum.inl ((),(Go.Eng.mmI Bool.true t5.2.2.1 x7.1),x12.1,t5.2.2.2.1,t5.2.2.2.2.1,t5.2.2.2.2.2.1,()))))))))))))) fun q13=>b0 q13) else (some (Sum.inr (Sum.inl ((),(0:Int),t.2.1,t.1,t.2.1,t.2.2.1,()))))) fun q14=>bB q14 (fun t15=>(some (t15.1,t15.2.1,()))) fun q16=>bB q16 (fun t17=>(ob (Go.Eng.v_natural_Text n (t17.2.2.1,())) fun x18=>(ob (α:=((Unit×Int×ByteArray×Bool×List T×List T×Unit)⊕Empty)) (bif (Go.Eng.leI (Go.Eng.lenS x18.1) t17.2.1) then (ob (Go.Eng.u_strings_Repeat ((ByteArray.mk #[48]),(Go.Eng.wr Go.IntKind.i64 (Go.Eng.subI (Go.Eng.wr Go.IntKind.i64 (Go.Eng.addI t17.2.1 (1:Int))) (Go.Eng.lenS x18.1))),())) fun x19=>(ob (Go.Eng.catS x19.1 x18.1) fun x20=>(some (Sum.inl ((),t17.2.1,x20,t17.2.2.2.1,t17.2.2.2.2.1,t17.2.2.2.2.2.1,()))))) else (some (Sum.inl ((),t17.2.1,x18.1,t17.2.2.2.1,t17.2.2.2.2.1,t17.2.2.2.2.2.1,())))) fun q21=>bB q21 (fun t22=>(ob (Go.Eng.subS t22.2.2.1 (0:Int) (Go.Eng.wr Go.IntKind.i64 (Go.Eng.subI (Go.Eng.lenS t22.2.2.1) t22.2.1))) fun x23=>(ob (Go.Eng.catS x23 (ByteArray.mk #[46])) fun x24=>(ob (Go.Eng.subS t22.2.2.1 (Go.Eng.wr Go.IntKind.i64 (Go.Eng.subI (Go.Eng.lenS t22.2.2.1) t22.2.1)) (Go.Eng.lenS t22.2.2.1)) fun x25=>(ob (Go.Eng.catS x24 x25) fun x26=>(ob (α:=((ByteArray×Unit)⊕Empty)) (bif t22.2.2.2.1 then (ob (Go.Eng.catS (ByteArray.mk #[45]) x26) fun x27=>(some (Sum.inl (x27,())))) else (some (Sum.inl (x26,())))) fun q28=>bB q28 (fun t29=>(some (t29.1,Bool.true,()))) fun q30=>b0 q30)))))) fun q31=>b0 q31))) fun q32=>b0 q32)
theorem u9(n:Nat)(t:(Bool×(List T)×(List T)×Unit)):Le (v_entity_Decimal n t) (cE t):=by
 unfold v_entity_Decimal cE
 repeat' with_reducible first | exact aN | refine aH ?_ ?_ | refine aS (fun _=>?_) fun _=>?_ | refine bE ?_ fun _=>?_ | refine aJ ?_ ?_ | exact w6 n _ | exact GG n _ | exact vR n _ | exact BL n _ | exact JW n _ | exact BM n _ | exact BN n _ | exact JV n _ | exact hO (BP n) _ _
noncomputable def v_slices_Index___string_string_(n:Nat)(t:((List T)×ByteArray×Unit)):Option (Int×Unit):=
 (ob (dC gH n (t.1,t.2.1,(Go.Eng.lenL t.1),(0:Int),())) fun q3=>bB q3 (fun t4=>(some (t4.1,()))) fun q5=>bB q5 (fun t6=>(some ((-1:Int),()))) fun q7=>b0 q7)
theorem o6(n:Nat)(t:((List T)×ByteArray×Unit)):Le (v_slices_Index___string_string_ n t) (cW t):=by
 unfold v_slices_Index___string_string_ cW
 repeat' with_reducible first | exact aN | refine aH ?_ ?_ | refine aS (fun _=>?_) fun _=>?_ | refine bE ?_ fun _=>?_ | refine aJ ?_ ?_ | exact fM _ _
noncomputable def v_slices_Contains___string_string_(n:Nat)(t:((List T)×ByteArray×Unit)):Option (Bool×Unit):=
 (ob (Go.Eng.v_slices_Index___string_string_ n (t.1,t.2.1,())) fun x0=>(some ((Go.Eng.leI (0:Int) x0.1),())))
theorem fY(n:Nat)(t:((List T)×ByteArray×Unit)):Le (v_slices_Contains___string_string_ n t) (bR t):=by
 unfold v_slices_Contains___string_string_ bR
 repeat' with_reducible first | exact aN | refine aH ?_ ?_ | refine aS (fun _=>?_) fun _=>?_ | refine bE ?_ fun _=>?_ | refine aJ ?_ ?_ | exact o6 n _
noncomputable def v_slices_Index___int_int_(n:Nat)(t:((List T)×Int×Unit)):Option (Int×Unit):=
 (ob (dC jY n (t.1,t.2.1,(Go.Eng.lenL t.1),(0:Int),())) fun q3=>bB q3 (fun t4=>(some (t4.1,()))) fun q5=>bB q5 (fun t6=>(some ((-1:Int),()))) fun q7=>b0 q7)
theorem tV(n:Nat)(t:((List T)×Int×Unit)):Le (v_slices_Index___int_int_ n t) (eL t):=by
 unfold v_slices_Index___int_int_ eL
 repeat' with_reducible first | exact aN | refine aH ?_ ?_ | refine aS (fun _=>?_) fun _=>?_ | refine bE ?_ fun _=>?_ | refine aJ ?_ ?_ | exact fM _ _
noncomputable def v_slices_Contains___int_int_(n:Nat)(t:((List T)×Int×Unit)):Option (Bool×Unit):=
 (ob (Go.Eng.v_slices_Index___int_int_ n (t.1,t.2.1,())) fun x0=>(some ((Go.Eng.leI (0:Int) x0.1),())))
theorem rI(n:Nat)(t:((List T)×Int×Unit)):Le (v_slices_Contains___int_int_ n t) (dM t):=by
 unfold v_slices_Contains___int_int_ dM
 repeat' with_reducible first | exact aN | refine aH ?_ ?_ | refine aS (fun _=>?_) fun _=>?_ | refine bE ?_ fun _=>?_ | refine aJ ?_ ?_ | exact tV n _
noncomputable def v__entity_rule__fits(n:Nat)(t:((List T)×Int×Int×(List T)×Int×Bool×(List T)×(List T)×ByteArray×Int×(List T)×Unit)):Option (Bool×Unit):=
 (ob (Go.Eng.v_slices_Contains___int_int_ n (t.1,t.2.2.2.2.1,())) fun x0=>(bif x0.1 then (bif (Bool.not (Go.Eng.eqI t.2.2.2.2.1 (4:Int))) then (some (Bool.true,())) else (ob (Go.Eng.v_slices_Contains___string_string_ n (t.2.2.2.1,t.2.2.2.2.2.2.2.2.1,())) fun x1=>(some (x1.1,())))) else (some (Bool.false,()))))
theorem zH(n:Nat)(t:((List T)×Int×Int×(List T)×Int×Bool×(List T)×(List T)×ByteArray×Int×(List T)×Unit)):Le (v__entity_rule__fits n t) (iD t):=by
 unfold v__entity_rule__fits iD
 repeat' with_reducible first | exact aN | refine aH ?_ ?_ | refine aS (fun _=>?_) fun _=>?_ | refine bE ?_ fun _=>?_ | refine aJ ?_ ?_ | exact rI n _ | exact fY n _
noncomputable def v_entity_typed_1(n:Nat)(t:(Int×Bool×(List T)×(List T)×ByteArray×Int×(List T)×Unit×(List T)×Int×Int×(List T)×Unit)):Option (Bool×(List T)×Int×Int×(List T)×Unit):=
 (ob (Go.Eng.v__entity_rule__fits n (t.2.2.2.2.2.2.2.2.1,t.2.2.2.2.2.2.2.2.2.1,t.2.2.2.2.2.2.2.2.2.2.1,t.2.2.2.2.2.2.2.2.2.2.2.1,t.1,t.2.1,t.2.2.1,t.2.2.2.1,t.2.2.2.2.1,t.2.2.2.2.2.1,t.2.2.2.2.2.2.1,())) fun x0=>(some ((Bool.not x0.1),t.2.2.2.2.2.2.2.2.1,t.2.2.2.2.2.2.2.2.2.1,t.2.2.2.2.2.2.2.2.2.2.1,t.2.2.2.2.2.2.2.2.2.2.2.1,())))
theorem GH(n:Nat)(t:(Int×Bool×(List T)×(List T)×ByteArray×Int×(List T)×Unit×(List T)×Int×Int×(List T)×Unit)):Le (v_entity_typed_1 n t) (lU t):=by
 unfold v_entity_typed_1 lU
 repeat' with_reducible first | exact aN | refine aH ?_ ?_ | refine aS (fun _=>?_) fun _=>?_ | refine bE ?_ fun _=>?_ | refine aJ ?_ ?_ | exact zH n _
noncomputable def cR(n:Nat)(s0:(List T×Unit×Int×Int×List T×Int×Int×List T×Unit)):Option ((List T×Unit×Int×Int×List T×Int×Int×List T×Unit)⊕((Int×List T×Int×Int×List T×Unit)⊕((List T×Int×Int×List T×Unit)⊕Empty))):=
 (bif (Go.Eng.ltI s0.2.2.2.1 s0.2.2.1) then (ob (Go.Eng.idxL s0.1 s0.2.2.2.1) fun x1=>(ob (Go.Eng.T.int? Go.IntKind.i64 (Go.Eng.T.cell x1 0)) fun x2=>(ob (Go.Eng.T.bool? (Go.Eng.T.cell x1 1)) fun x3=>(ob (Go.Eng.T.sl? 1 (Go.Eng.T.cell x1 2)) fun x4=>(ob (Go.Eng.T.sl? 1 (Go.Eng.T.cell x1 3)) fun x5=>(ob (Go.Eng.T.str? (Go.Eng.T.cell x1 4)) fun x6=>(ob (Go.Eng.T.int? Go.IntKind.i64 (Go.Eng.T.cell x1 5)) fun x7=>(ob (Go.Eng.T.sl? 7 (Go.Eng.T.cell x1 6)) fun x8=>(ob (Go.Eng.v_entity_typed_1 n (x2,x3,x4,x5,x6,x7,x8,(),s0.2.2.2.2.1,s0.2.2.2.2.2.1,s0.2.2.2.2.2.2.1,s0.2.2.2.2.2.2.2.1,())) fun x9=>(bif x9.1 then (some (Sum.inr (Sum.inl (s0.2.2.2.1,x9.2.1,x9.2.2.1,x9.2.2.2.1,x9.2.2.2.2.1,())))) else (some (Sum.inl (s0.1,(),s0.2.2.1,(Go.Eng.wr Go.IntKind.i64 (Go.Eng.addI s0.2.2.2.1 (1:Int))),x9.2.1,x9.2.2.1,x9.2.2.2.1,x9.2.2.2.2.1,()))))))))))))) else (some (Sum.inr (Sum.inr (Sum.inl (s0.2.2.2.2.1,s0.2.2.2.2.2.1,s0.2.2.2.2.2.2.1,s0.2.2.2.2.2.2.2.1,()))))))
theorem j8(n:Nat)(s0:(List T×Unit×Int×Int×List T×Int×Int×List T×Unit)):Le (cR n s0) (cQ s0):=by
 unfold cR cQ
 repeat' with_reducible first | exact aN | refine aH ?_ ?_ | refine aS (fun _=>?_) fun _=>?_ | refine bE ?_ fun _=>?_ | refine aJ ?_ ?_ | exact GH n _
noncomputable def v_slices_IndexFunc___api_Arg_api_Arg_(n:Nat)(t:((List T)×Unit×(List T)×Int×Int×(List T)×Unit)):Option (Int×(List T)×Int×Int×(List T)×Unit):=
 (ob (dC (cR n) n (t.1,(),(Go.Eng.lenL t.1),(0:Int),t.2.2.1,t.2.2.2.1,t.2.2.2.2.1,t.2.2.2.2.2.1,())) fun q10=>bB q10 (fun t11=>(some (t11.1,t11.2.1,t11.2.2.1,t11.2.2.2.1,t11.2.2.2.2.1,()))) fun q12=>bB q12 (fun t13=>(some ((-1:Int),t13.1,t13.2.1,t13.2.2.1,t13.2.2.2.1,()))) fun q14=>b0 q14)
theorem lI(n:Nat)(t:((List T)×Unit×(List T)×Int×Int×(List T)×Unit)):Le (v_slices_IndexFunc___api_Arg_api_Arg_ n t) (cA t):=by
 unfold v_slices_IndexFunc___api_Arg_api_Arg_ cA
 repeat' with_reducible first | exact aN | refine aH ?_ ?_ | refine aS (fun _=>?_) fun _=>?_ | refine bE ?_ fun _=>?_ | refine aJ ?_ ?_ | exact hO (j8 n) _ _
noncomputable def v_slices_ContainsFunc___api_Arg_api_Arg_(n:Nat)(t:((List T)×Unit×(List T)×Int×Int×(List T)×Unit)):Option (Bool×(List T)×Int×Int×(List T)×Unit):=
 (ob (Go.Eng.v_slices_IndexFunc___api_Arg_api_Arg_ n (t.1,(),t.2.2.1,t.2.2.2.1,t.2.2.2.2.1,t.2.2.2.2.2.1,())) fun x0=>(some ((Go.Eng.leI (0:Int) x0.1),x0.2.1,x0.2.2.1,x0.2.2.2.1,x0.2.2.2.2.1,())))
theorem j9(n:Nat)(t:((List T)×Unit×(List T)×Int×Int×(List T)×Unit)):Le (v_slices_ContainsFunc___api_Arg_api_Arg_ n t) (bT t):=by
 unfold v_slices_ContainsFunc___api_Arg_api_Arg_ bT
 repeat' with_reducible first | exact aN | refine aH ?_ ?_ | refine aS (fun _=>?_) fun _=>?_ | refine bE ?_ fun _=>?_ | refine aJ ?_ ?_ | exact lI n _
noncomputable def kP(n:Nat)(s1:(List T×Unit×List T×List T×Int×Int×ByteArray×List T×Unit)):Option ((List T×Unit×List T×List T×Int×Int×ByteArray×List T×Unit)⊕((Int×Unit)⊕((List T×Unit×List T×ByteArray×List T×Unit)⊕Empty))):=
 (bif (Go.Eng.ltI s1.2.2.2.2.2.1 s1.2.2.2.2.1) then (ob (Go.Eng.idxL s1.2.2.2.1 s1.2.2.2.2.2.1) fun x2=>(ob (Go.Eng.idxL s1.2.2.2.2.2.2.2.1 s1.2.2.2.2.2.1) fun x3=>(ob (Go.Eng.T.sl? 1 (Go.Eng.T.cell x2 0)) fun x4=>(ob (Go.Eng.T.int? Go.IntKind.i64 (Go.Eng.T.cell x2 1)) fun x5=>(ob (Go.Eng.T.int? Go.IntKind.i64 (Go.Eng.T.cell x2 2)) fun x6=>(ob (Go.Eng.T.sl? 1 (Go.Eng.T.cell x2 3)) fun x7=>(ob (Go.Eng.T.int? Go.IntKind.i64 (Go.Eng.T.cell x3 0)) fun x8=>(ob (Go.Eng.T.bool? (Go.Eng.T.cell x3 1)) fun x9=>(ob (Go.Eng.T.sl? 1 (Go.Eng.T.cell x3 2)) fun x10=>(ob (Go.Eng.T.sl? 1 (Go.Eng.T.cell x3 3)) fun x11=>(ob (Go.Eng.T.str? (Go.Eng.T.cell x3 4)) fun x12=>(ob (Go.Eng.T.int? Go.IntKind.i64 (Go.Eng.T.cell x3 5)) fun x13=>(ob (Go.Eng.T.sl? 7 (Go.Eng.T.cell x3 6)) fun x14=>(ob (Go.Eng.u__entity_rule__elements (x4,x5,x6,x7,x8,x9,x10,x11,x12,x13,x14,())) fun x15=>(bif (Bool.not x15.2.1) then (some (Sum.inr (Sum.inl ((36:Int),())))) else (ob (Go.Eng.T.sl? 1 (Go.Eng.T.cell x2 0)) fun x16=>(ob (Go.Eng.T.int? Go.IntKind.i64 (Go.Eng.T.cell x2 1)) fun x17=>(ob (Go.Eng.T.int? Go.IntKind.i64 (Go.Eng.T.cell x2 2)) fun x18=>(ob (Go.Eng.T.sl? 1 (Go.Eng.T.cell x2 3)) fun x19=>(ob (Go.Eng.v_slices_ContainsFunc___api_Arg_api_Arg_ n (x15.1,(),x16,x17,x18,x19,())) fun x20=>(bif x20.1 then (some (Sum.inr (Sum.inl ((36:Int),())))) else (some (Sum.inl (s1.1,(),s1.2.2.1,s1.2.2.2.1,s1.2.2.2.2.1,(Go.Eng.wr Go.IntKind.i64 (Go.Eng.addI s1.2.2.2.2.2.1 (1:Int))),s1.2.2.2.2.2.2.1,s1.2.2.2.2.2.2.2.1,())))))))))))))))))))))))) else (some (Sum.inr (Sum.inr (Sum.inl (s1.1,(),s1.2.2.1,s1.2.2.2.2.2.2.1,s1.2.2.2.2.2.2.2.1,()))))))
theorem EK(n:Nat)(s1:(List T×Unit×List T×List T×Int×Int×ByteArray×List T×Unit)):Le (kP n s1) (kK s1):=by
 unfold kP kK
 repeat' with_reducible first | exact aN | refine aH ?_ ?_ | refine aS (fun _=>?_) fun _=>?_ | refine bE ?_ fun _=>?_ | refine aJ ?_ ?_ | exact j9 n _
noncomputable def o7(n:Nat)(s40:(List T×Unit×Unit×List T×Int×Int×List T×Int×Int×ByteArray×List T×T×T×T×T×Unit)):Option ((List T×Unit×Unit×List T×Int×Int×List T×Int×Int×ByteArray×List T×T×T×T×T×Unit)⊕((Int×Unit)⊕((List T×Unit×List T×Int×Int×ByteArray×List T×Unit)⊕Empty))):=
 (bif (Go.Eng.ltI s40.2.2.2.2.2.2.2.2.1 s40.2.2.2.2.2.2.2.1) then (ob (Go.Eng.idxL s40.2.2.2.2.2.2.1 s40.2.2.2.2.2.2.2.2.1) fun x41=>(ob (Go.Eng.T.int? Go.IntKind.i64 (Go.Eng.T.cell x41 5)) fun x42=>(ob (Go.Eng.T.one? (Go.Eng.mapGetD (Go.Eng.T.v (Go.Value.int Go.IntKind.i64 x42)) s40.1 (Go.Eng.T.v (Go.Value.string (ByteArray.mk #[]))))) fun x43=>(ob (Go.Eng.T.int? Go.IntKind.i64 (Go.Eng.T.cell x41 0)) fun x44=>(bif (Go.Eng.eqI x44 (5:Int)) then (bif (Bool.not (Go.Eng.mapHas (Go.Eng.T.v (Go.Value.int Go.IntKind.i64 x42)) s40.1)) then (some (Sum.inr (Sum.inl ((35:Int),())))) else (ob (Go.Eng.T.sl? 1 s40.2.2.2.2.2.2.2.2.2.2.2.2.2.2.1) fun x45=>(ob (Go.Eng.T.str? x43) fun x46=>(ob (Go.Eng.v_slices_Contains___string_string_ n (x45,x46,())) fun x47=>(bif (Bool.not x47.1) then (some (Sum.inr (Sum.inl ((35:Int),())))) else (some (Sum.inl (s40.1,(),(),s40.2.2.2.1,s40.2.2.2.2.1,s40.2.2.2.2.2.1,s40.2.2.2.2.2.2.1,s40.2.2.2.2.2.2.2.1,(Go.Eng.wr Go.IntKind.i64 (Go.Eng.addI s40.2.2.2.2.2.2.2.2.1 (1:Int))),s40.2.2.2.2.2.2.2.2.2.1,s40.2.2.2.2.2.2.2.2.2.2.1,s40.2.2.2.2.2.2.2.2.2.2.2.1,s40.2.2.2.2.2.2.2.2.2.2.2.2.1,s40.2.2.2.2.2.2.2.2.2.2.2.2.2.1,s40.2.2.2.2.2.2.2.2.2.2.2.2.2.2.1,())))))))) else (some (Sum.inl (s40.1,(),(),s40.2.2.2.1,s40.2.2.2.2.1,s40.2.2.2.2.2.1,s40.2.2.2.2.2.2.1,s40.2.2.2.2.2.2.2.1,(Go.Eng.wr Go.IntKind.i64 (Go.Eng.addI s40.2.2.2.2.2.2.2.2.1 (1:Int))),s40.2.2.2.2.2.2.2.2.2.1,s40.2.2.2.2.2.2.2.2.2.2.1,s40.2.2.2.2.2.2.2.2.2.2.2.1,s40.2.2.2.2.2.2.2.2.2.2.2.2.1,s40.2.2.2.2.2.2.2.2.2.2.2.2.2.1,s40.2.2.2.2.2.2.2.2.2.2.2.2.2.2.1,())))))))) else (some (Sum.inr (Sum.inr (Sum.inl (s40.1,(),s40.2.2.2.1,s40.2.2.2.2.1,s40.2.2.2.2.2.1,s40.2.2.2.2.2.2.2.2.2.1,s40.2.2.2.2.2.2.2.2.2.2.1,()))))))
theorem EL(n:Nat)(s40:(List T×Unit×Unit×List T×Int×Int×List T×Int×Int×ByteArray×List T×T×T×T×T×Unit)):Le (o7 n s40) (oI s40):=by
 unfold o7 oI
 repeat' with_reducible first | exact aN | refine aH ?_ ?_ | refine aS (fun _=>?_) fun _=>?_ | refine bE ?_ fun _=>?_ | refine aJ ?_ ?_ | exact fY n _
noncomputable def kQ(n:Nat)(s25:(List T×Unit×List T×Int×Int×ByteArray×List T×Unit)):Option ((List T×Unit×List T×Int×Int×ByteArray×List T×Unit)⊕((Int×Unit)⊕((Unit)⊕Empty))):=
 (bif (Go.Eng.ltI s25.2.2.2.2.1 s25.2.2.2.1) then (ob (Go.Eng.idxL s25.2.2.1 s25.2.2.2.2.1) fun x26=>(ob (Go.Eng.idxL s25.2.2.2.2.2.2.1 s25.2.2.2.2.1) fun x27=>(ob (Go.Eng.T.sl? 1 (Go.Eng.T.cell x26 0)) fun x28=>(ob (Go.Eng.T.int? Go.IntKind.i64 (Go.Eng.T.cell x26 1)) fun x29=>(ob (Go.Eng.T.int? Go.IntKind.i64 (Go.Eng.T.cell x26 2)) fun x30=>(ob (Go.Eng.T.sl? 1 (Go.Eng.T.cell x26 3)) fun x31=>(ob (Go.Eng.T.int? Go.IntKind.i64 (Go.Eng.T.cell x27 0)) fun x32=>(ob (Go.Eng.T.bool? (Go.Eng.T.cell x27 1)) fun x33=>(ob (Go.Eng.T.sl? 1 (Go.Eng.T.cell x27 2)) fun x34=>(ob (Go.Eng.T.sl? 1 (Go.Eng.T.cell x27 3)) fun x35=>(ob (Go.Eng.T.str? (Go.Eng.T.cell x27 4)) fun x36=>(ob (Go.Eng.T.int? Go.IntKind.i64 (Go.Eng.T.cell x27 5)) fun x37=>(ob (Go.Eng.T.sl? 7 (Go.Eng.T.cell x27 6)) fun x38=>(ob (Go.Eng.u__entity_rule__elements (x28,x29,x30,x31,x32,x33,x34,x35,x36,x37,x38,())) fun x39=>(ob (dC (o7 n) n (s25.1,(),(),s25.2.2.1,s25.2.2.2.1,s25.2.2.2.2.1,x39.1,(Go.Eng.lenL x39.1),(0:Int),s25.2.2.2.2.2.1,s25.2.2.2.2.2.2.1,(Go.Eng.T.cell x26 0),(Go.Eng.T.cell x26 1),(Go.Eng.T.cell x26 2),(Go.Eng.T.cell x26 3),())) fun q48=>bB q48 (fun t49=>(some (Sum.inr (Sum.inl (t49.1,()))))) fun q50=>bB q50 (fun t51=>(some (Sum.inl (t51.1,(),t51.2.2.1,t51.2.2.2.1,(Go.Eng.wr Go.IntKind.i64 (Go.Eng.addI t51.2.2.2.2.1 (1:Int))),t51.2.2.2.2.2.1,t51.2.2.2.2.2.2.1,())))) fun q52=>b0 q52))))))))))))))) else (some (Sum.inr (Sum.inr (Sum.inl ())))))
theorem EM(n:Nat)(s25:(List T×Unit×List T×Int×Int×ByteArray×List T×Unit)):Le (kQ n s25) (kL s25):=by
 unfold kQ kL
 repeat' with_reducible first | exact aN | refine aH ?_ ?_ | refine aS (fun _=>?_) fun _=>?_ | refine bE ?_ fun _=>?_ | refine aJ ?_ ?_ | exact hO (EL n) _ _
noncomputable def tW(n:Nat)(t:((List T)×ByteArray×(List T)×Unit)):Option (Int×Unit):=
 (ob (Go.Eng.u_entity_rules (t.2.1,())) fun x0=>(bif (Go.Eng.nilL x0.1) then (T1 (some ((38:Int),())) (bif (Bool.not (Go.Eng.eqI (Go.Eng.lenL t.2.2.1) (Go.Eng.lenL x0.1))) then (some ((36:Int),())) else (ob (dC (kP n) n (t.1,(),x0.1,x0.1,(Go.Eng.lenL x0.1),(0:Int),t.2.1,t.2.2.1,())) fun q21=>bB q21 (fun t22=>(some (t22.1,()))) fun q23=>bB q23 (fun t24=>(ob (dC (kQ n) n (t24.1,(),t24.2.2.1,(Go.Eng.lenL t24.2.2.1),(0:Int),t24.2.2.2.1,t24.2.2.2.2.1,())) fun q53=>bB q53 (fun t54=>(some (t54.1,()))) fun q55=>bB q55 (fun t56=>(some ((0:Int),()))) fun q57=>b0 q57)) fun q58=>b0 q58))) else (bif (Bool.not (Go.Eng.eqI (Go.Eng.lenL t.2.2.1) (Go.Eng.lenL x0.1))) then (some ((36:Int),())) else (ob (dC (kP n) n (t.1,(),x0.1,x0.1,(Go.Eng.lenL x0.1),(0:Int),t.2.1,t.2.2.1,())) fun q79=>bB q79 (fun t80=>(some (t80.1,()))) fun q81=>bB q81 (fun t82=>(ob (dC (kQ n) n (t82.1,(),t82.2.2.1,(Go.Eng.lenL t82.2.2.1),(0:Int),t82.2.2.2.1,t82.2.2.2.2.1,())) fun q111=>bB q111 (fun t112=>(some (t112.1,()))) fun q113=>bB q113 (fun t114=>(some ((0:Int),()))) fun q115=>b0 q115)) fun q116=>b0 q116))))
theorem JX(n:Nat)(t:((List T)×ByteArray×(List T)×Unit)):Le (tW n t) (iX t):=by
 unfold tW iX
 repeat' with_reducible first | exact aN | refine aH ?_ ?_ | refine aS (fun _=>?_) fun _=>?_ | refine bE ?_ fun _=>?_ | refine aJ ?_ ?_ | exact hO (EK n) _ _ | exact hO (EM n) _ _
noncomputable def rW(n:Nat)(s0:(List T×List T×Unit)):Option ((List T×List T×Unit)⊕((List T×Unit)⊕Empty)):=
 (bif (Go.Eng.ltI (0:Int) (Go.Eng.lenL s0.1)) then (ob (Go.Eng.v_ref01_byLimb n (s0.1,(1000000000:Int),())) fun x1=>(ob (dC yW n (s0.2.1,x1.1,x1.2.1,(0:Int),())) fun q5=>bB q5 (fun t6=>(some (Sum.inl (t6.2.1,t6.1,())))) fun q7=>b0 q7)) else (some (Sum.inr (Sum.inl (s0.2.1,())))))
theorem HV(n:Nat)(s0:(List T×List T×Unit)):Le (rW n s0) (rT s0):=by
 unfold rW rT
 repeat' with_reducible first | exact aN | refine aH ?_ ?_ | refine aS (fun _=>?_) fun _=>?_ | refine bE ?_ fun _=>?_ | refine aJ ?_ ?_ | exact y9 n _ | exact fM _ _
noncomputable def v_ref01_Text(n:Nat)(t:((List T)×Unit)):Option (ByteArray×Unit):=
 (bif (Go.Eng.eqI (Go.Eng.lenL t.1) (0:Int)) then (some ((ByteArray.mk #[48]),())) else (ob (dC (rW n) n (t.1,[],())) fun q8=>bB q8 (fun t9=>(ob (Go.Eng.mkLen (Go.Eng.lenL t9.1) (Go.Eng.lenL t9.1) 1) fun x10=>(ob (dC yX n (t9.1,(Go.Eng.repL x10.1 (Go.Eng.T.v (Go.Value.int Go.IntKind.u8 (0:Int)))),(0:Int),())) fun q17=>bB q17 (fun t18=>(ob (Go.Eng.strOf t18.1) fun x19=>(some (x19,())))) fun q20=>b0 q20))) fun q21=>b0 q21))
theorem OM(n:Nat)(t:((List T)×Unit)):Le (v_ref01_Text n t) (oK t):=by
 unfold v_ref01_Text oK
 repeat' with_reducible first | exact aN | refine aH ?_ ?_ | refine aS (fun _=>?_) fun _=>?_ | refine bE ?_ fun _=>?_ | refine aJ ?_ ?_ | exact hO (HV n) _ _ | exact fM _ _
noncomputable def v_ref02_Mul(n:Nat)(t:(Bool×(List T)×(List T)×Bool×(List T)×(List T)×Unit)):Option (Bool×(List T)×(List T)×Unit):=
 (ob (Go.Eng.v_ref01_Mul n (t.2.1,t.2.2.2.2.1,())) fun x0=>(ob (Go.Eng.u_ref02_Den (t.1,t.2.1,t.2.2.1,())) fun x1=>(ob (Go.Eng.u_ref02_Den (t.2.2.2.1,t.2.2.2.2.1,t.2.2.2.2.2.1,())) fun x2=>(ob (Go.Eng.v_ref01_Mul n (x1.1,x2.1,())) fun x3=>(ob (Go.Eng.v_ref02_reduce n ((Bool.not (Go.Eng.eqB t.1 t.2.2.2.1)),x0.1,x3.1,())) fun x4=>(some (x4.1,x4.2.1,x4.2.2.1,())))))))
theorem R2(n:Nat)(t:(Bool×(List T)×(List T)×Bool×(List T)×(List T)×Unit)):Le (v_ref02_Mul n t) (nK t):=by
 unfold v_ref02_Mul nK
 repeat' with_reducible first | exact aN | refine aH ?_ ?_ | refine aS (fun _=>?_) fun _=>?_ | refine bE ?_ fun _=>?_ | refine aJ ?_ ?_ | exact GC n _ | exact zA n _
noncomputable def v_ref02_Bits(n:Nat)(t:(Bool×(List T)×(List T)×Unit)):Option (Int×Unit):=
 (ob (Go.Eng.v_ref01_Bits n (t.2.1,())) fun x0=>(ob (Go.Eng.u_ref02_Den (t.1,t.2.1,t.2.2.1,())) fun x1=>(ob (Go.Eng.v_ref01_Bits n (x1.1,())) fun x2=>(some ((Go.Eng.mmI Bool.true x0.1 x2.1),())))))
theorem ON(n:Nat)(t:(Bool×(List T)×(List T)×Unit)):Le (v_ref02_Bits n t) (oL t):=by
 unfold v_ref02_Bits oL
 repeat' with_reducible first | exact aN | refine aH ?_ ?_ | refine aS (fun _=>?_) fun _=>?_ | refine bE ?_ fun _=>?_ | refine aJ ?_ ?_ | exact DJ n _
noncomputable def v_ref02_Text(n:Nat)(t:(Bool×(List T)×(List T)×Unit)):Option (ByteArray×Unit):=
 (ob (Go.Eng.v_ref01_Text n (t.2.1,())) fun x0=>(ob (α:=((Unit×ByteArray×Bool×List T×List T×Unit)⊕Empty)) (bif t.1 then (ob (Go.Eng.catS (ByteArray.mk #[45]) x0.1) fun x1=>(some (Sum.inl ((),x1,t.1,t.2.1,t.2.2.1,())))) else (some (Sum.inl ((),x0.1,t.1,t.2.1,t.2.2.1,())))) fun q2=>bB q2 (fun t3=>(ob (α:=((ByteArray×Unit)⊕Empty)) (bif (Go.Eng.ltI (0:Int) (Go.Eng.lenL t3.2.2.2.2.1)) then (ob (Go.Eng.v_ref01_Text n (t3.2.2.2.2.1,())) fun x4=>(ob (Go.Eng.catS (ByteArray.mk #[47]) x4.1) fun x5=>(ob (Go.Eng.catS t3.2.1 x5) fun x6=>(some (Sum.inl (x6,())))))) else (some (Sum.inl (t3.2.1,())))) fun q7=>bB q7 (fun t8=>(some (t8.1,()))) fun q9=>b0 q9)) fun q10=>b0 q10))
theorem DM(n:Nat)(t:(Bool×(List T)×(List T)×Unit)):Le (v_ref02_Text n t) (lW t):=by
 unfold v_ref02_Text lW
 repeat' with_reducible first | exact aN | refine aH ?_ ?_ | refine aS (fun _=>?_) fun _=>?_ | refine bE ?_ fun _=>?_ | refine aJ ?_ ?_ | exact OM n _
noncomputable def nB(n:Nat)(s0:(Unit×Unit×Int×Bool×List T×List T×Bool×List T×List T×Unit)):Option ((Unit×Unit×Int×Bool×List T×List T×Bool×List T×List T×Unit)⊕((ByteArray×Bool×Unit)⊕((Unit×Unit×Int×Bool×List T×List T×Bool×List T×List T×Unit)⊕Empty))):=
 (ob (Go.Eng.u_ref24_Integer (s0.2.2.2.2.2.2.1,s0.2.2.2.2.2.2.2.1,s0.2.2.2.2.2.2.2.2.1,())) fun x1=>(bif (Bool.not x1.1) then (ob (Go.Eng.v_ref02_Bits n (s0.2.2.2.1,s0.2.2.2.2.1,s0.2.2.2.2.2.1,())) fun x2=>(bif (Go.Eng.ltI x2.1 s0.2.2.1) then (some (Sum.inr (Sum.inl ((ByteArray.mk #[]),Bool.false,())))) else (ob (Go.Eng.v_ref02_Int n ((10:Int),())) fun x3=>(ob (Go.Eng.v_ref02_Mul n (s0.2.2.2.2.2.2.1,s0.2.2.2.2.2.2.2.1,s0.2.2.2.2.2.2.2.2.1,x3.1,x3.2.1,x3.2.2.1,())) fun x4=>(some (Sum.inl ((),(),(Go.Eng.wr Go.IntKind.i64 (Go.Eng.addI s0.2.2.1 (1:Int))),s0.2.2.2.1,s0.2.2.2.2.1,s0.2.2.2.2.2.1,x4.1,x4.2.1,x4.2.2.1,()))))))) else (some (Sum.inr (Sum.inr (Sum.inl ((),(),s0.2.2.1,s0.2.2.2.1,s0.2.2.2.2.1,s0.2.2.2.2.2.1,s0.2.2.2.2.2.2.1,s0.2.2.2.2.2.2.2.1,s0.2.2.2.2.2.2.2.2.1,())))))))
theorem CJ(n:Nat)(s0:(Unit×Unit×Int×Bool×List T×List T×Bool×List T×List T×Unit)):Le (nB n s0) (m6 s0):=by
 unfold nB m6
 repeat' with_reducible first | exact aN | refine aH ?_ ?_ | refine aS (fun _=>?_) fun _=>?_ | refine bE ?_ fun _=>?_ | refine aJ ?_ ?_ | exact ON n _ | exact sM n _ | exact R2 n _
noncomputable def rX(n:Nat)(t:(Bool×(List T)×(List T)×Unit)):Option (ByteArray×Bool×Unit):=
 (ob (dC (nB n) n ((),(),(0:Int),t.1,t.2.1,t.2.2.1,Bool.false,t.2.1,t.2.2.1,())) fun q5=>bB q5 (fun t6=>(some (t6.1,t6.2.1,()))) fun q7=>bB q7 (fun t8=>(ob (Go.Eng.v_ref02_Text n (t8.2.2.2.2.2.2.1,t8.2.2.2.2.2.2.2.1,t8.2.2.2.2.2.2.2.2.1,())) fun x9=>(ob (dC tM n ((),t8.2.2.1,x9.1,t8.2.2.2.1,t8.2.2.2.2.1,t8.2.2.2.2.2.1,())) fun q12=>bB q12 (fun t13=>(ob (Go.Eng.subS t13.2.2.1 (0:Int) (Go.Eng.wr Go.IntKind.i64 (Go.Eng.subI (Go.Eng.lenS t13.2.2.1) t13.2.1))) fun x14=>(ob (Go.Eng.catS x14 (ByteArray.mk #[46])) fun x15=>(ob (Go.Eng.subS t13.2.2.1 (Go.Eng.wr Go.IntKind.i64 (Go.Eng.subI (Go.Eng.lenS t13.2.2.1) t13.2.1)) (Go.Eng.lenS t13.2.2.1)) fun x16=>(ob (Go.Eng.catS x15 x16) fun x17=>(ob (α:=((ByteArray×Unit)⊕Empty)) (bif t13.2.2.2.1 then (ob (Go.Eng.catS (ByteArray.mk #[45]) x17) fun x18=>(some (Sum.inl (x18,())))) else (some (Sum.inl (x17,())))) fun q19=>bB q19 (fun t20=>(some (t20.1,Bool.true,()))) fun q21=>b0 q21)))))) fun q22=>b0 q22))) fun q23=>b0 q23)
theorem HW(n:Nat)(t:(Bool×(List T)×(List T)×Unit)):Le (rX n t) (fI t):=by
 unfold rX fI
 repeat' with_reducible first | exact aN | refine aH ?_ ?_ | refine aS (fun _=>?_) fun _=>?_ | refine bE ?_ fun _=>?_ | refine aJ ?_ ?_ | exact DM n _ | exact hO (CJ n) _ _ | exact fM _ _
noncomputable def rY(n:Nat)(t:(Int×Unit)):Option (ByteArray×Unit):=
 (ob (Go.Eng.v_ref02_Int n (t.1,())) fun x0=>(ob (Go.Eng.v_ref02_Text n (x0.1,x0.2.1,x0.2.2.1,())) fun x1=>(some (x1.1,()))))
theorem HX(n:Nat)(t:(Int×Unit)):Le (rY n t) (fJ t):=by
 unfold rY fJ
 repeat' with_reducible first | exact aN | refine aH ?_ ?_ | refine aS (fun _=>?_) fun _=>?_ | refine bE ?_ fun _=>?_ | refine aJ ?_ ?_ | exact sM n _ | exact DM n _
end Go.Eng
namespace Go.Eng.En
open Go.Eng
noncomputable def typV(n:Nat)(words:List T):List T→List T→Option (List T)
 | [],out=>some out
 | x::l,out=>ob (T.int? .i64 (T.cell x 0)) fun id=>ob (T.str? (T.cell x 1)) fun nm=>ob (T.sl? 7 (T.cell x 2)) fun args=>ob (tW n (words,nm,args,())) fun e=>
  bif eqI e.1 0 then typV n words l out else ob (room out [dT (e.1,id)] 40) fun out=>typV n words l out
theorem le_typV(n:Nat)(words:List T):∀l out,Le (typV n words l out) (EQ words l out)
 | [],out=>aN
 | x::l,out=>by
  simp only[typV,EQ]
  exact bE aN fun _=>bE aN fun _=>bE aN fun _=>bE (JX n _) fun _=>aH (le_typV n words l _) (bE aN fun _=>le_typV n words l _)
end Go.Eng.En
namespace Go.Eng
noncomputable def v_entity_Typed(n:Nat)(t:((List T)×(List T)×Unit)):Option ((List T)×Unit):=ob (En.wordsL t.2.1) fun m=>ob (En.typV n m t.2.1 []) fun out=>some (out,())
theorem JZ(n:Nat)(t:((List T)×(List T)×Unit)):Le (v_entity_Typed n t) (o8 t):=bE aN fun _=>bE (En.le_typV n _ _ _) fun _=>aN
noncomputable def jR(n:Nat)(t:Unit):Option (Bool×Unit):=
 (ob (Go.Eng.v_ref02_Frac n ((-3:Int),(8:Int),())) fun x0=>(ob (Go.Eng.v_entity_Decimal n (x0.1,x0.2.1,x0.2.2.1,())) fun x1=>(ob (Go.Eng.v_ref02_Int n ((5:Int),())) fun x2=>(ob (Go.Eng.v_entity_Decimal n (x2.1,x2.2.1,x2.2.2.1,())) fun x3=>(ob (Go.Eng.v_ref02_Frac n ((1:Int),(3:Int),())) fun x4=>(ob (Go.Eng.v_entity_Decimal n (x4.1,x4.2.1,x4.2.2.1,())) fun x5=>(ob (Go.Eng.v_entity_Typed n ([],[(Go.Eng.T.agg [(Go.Eng.T.v (Go.Value.int Go.IntKind.i64 (1:Int))),(Go.Eng.T.v (Go.Value.string (ByteArray.mk #[80,76,65,78,69]))),(Go.Eng.T.sl 7 [(Go.Eng.T.agg [(Go.Eng.T.v (Go.Value.int Go.IntKind.i64 (3:Int))),(Go.Eng.T.v (Go.Value.bool Bool.false)),(Go.Eng.T.sl 1 []),(Go.Eng.T.sl 1 []),(Go.Eng.T.v (Go.Value.string (ByteArray.mk #[]))),(Go.Eng.T.v (Go.Value.int Go.IntKind.i64 (0:Int))),(Go.Eng.T.sl 7 [])]),(Go.Eng.T.agg [(Go.Eng.T.v (Go.Value.int Go.IntKind.i64 (5:Int))),(Go.Eng.T.v (Go.Value.bool Bool.false)),(Go.Eng.T.sl 1 []),(Go.Eng.T.sl 1 []),(Go.Eng.T.v (Go.Value.string (ByteArray.mk #[]))),(Go.Eng.T.v (Go.Value.int Go.IntKind.i64 (2:Int))),(Go.Eng.T.sl 7 [])]),(Go.Eng.T.agg [(Go.Eng.T.v (Go.Value.int Go.IntKind.i64 (5:Int))),(Go.Eng.T.v (Go.Value.bool Bool.false)),(Go.Eng.T.sl 1 []),(Go.Eng.T.sl 1 []),(Go.Eng.T.v (Go.Value.string (ByteArray.mk #[]))),(Go.Eng.T.v (Go.Value.int Go.IntKind.i64 (2:Int))),(Go.Eng.T.sl 7 [])])])]),(Go.Eng.T.agg [(Go.Eng.T.v (Go.Value.int Go.IntKind.i64 (2:Int))),(Go.Eng.T.v (Go.Value.string (ByteArray.mk #[67,65,82,84,69,83,73,65,78,95,80,79,73,78,84]))),(Go.Eng.T.sl 7 [(Go.Eng.T.agg [(Go.Eng.T.v (Go.Value.int Go.IntKind.i64 (3:Int))),(Go.Eng.T.v (Go.Value.bool Bool.false)),(Go.Eng.T.sl 1 []),(Go.Eng.T.sl 1 []),(Go.Eng.T.v (Go.Value.string (ByteArray.mk #[]))),(Go.Eng.T.v (Go.Value.int Go.IntKind.i64 (0:Int))),(Go.Eng.T.sl 7 [])]),(Go.Eng.T.agg [(Go.Eng.T.v (Go.Value.int Go.IntKind.i64 (6:Int))),(Go.Eng.T.v (Go.Value.bool Bool.false)),(Go.Eng.T.sl 1 []),(Go.Eng.T.sl 1 []),(Go.Eng.T.v (Go.Value.string (ByteArray.mk #[]))),(Go.Eng.T.v (Go.Value.int Go.IntKind.i64 (0:Int))),(Go.Eng.T.sl 7 [(Go.Eng.T.agg [(Go.Eng.T.v (Go.Value.int Go.IntKind.i64 (1:Int))),(Go.Eng.T.v (Go.Value.bool Bool.false)),(Go.Eng.T.sl 1 []),(Go.Eng.T.sl 1 []),(Go.Eng.T.v (Go.Value.string (ByteArray.mk #[]))),(Go.Eng.T.v (Go.Value.int Go.IntKind.i64 (0:Int))),(Go.Eng.T.sl 7 [])]),(Go.Eng.T.agg [(Go.Eng.T.v (Go.Value.int Go.IntKind.i64 (1:Int))),(Go.Eng.T.v (Go.Value.bool Bool.false)),(Go.Eng.T.sl 1 []),(Go.Eng.T.sl 1 []),(Go.Eng.T.v (Go.Value.string (ByteArray.mk #[]))),(Go.Eng.T.v (Go.Value.int Go.IntKind.i64 (0:Int))),(Go.Eng.T.sl 7 [])]),(Go.Eng.T.agg [(Go.Eng.T.v (Go.Value.int Go.IntKind.i64 (1:Int))),(Go.Eng.T.v (Go.Value.bool Bool.false)),(Go.Eng.T.sl 1 []),(Go.Eng.T.sl 1 []),(Go.Eng.T.v (Go.Value.string (ByteArray.mk #[]))),(Go.Eng.T.v (Go.Value.int Go.IntKind.i64 (0:Int))),(Go.Eng.T.sl 7 [])])])])])])],())) fun x6=>(bif x1.2.1 then (bif (Go.Eng.eqS x1.1 (ByteArray.mk #[45,48,46,51,55,53])) then (bif x3.2.1 then (bif (Go.Eng.eqS x3.1 (ByteArray.mk #[53,46])) then (bif (Bool.not x5.2.1) then (bif (Go.Eng.eqI (Go.Eng.lenL x6.1) (1:Int)) then (ob (Go.Eng.idxL x6.1 (0:Int)) fun x7=>(ob (Go.Eng.T.int? Go.IntKind.i64 (Go.Eng.T.cell x7 0)) fun x8=>(bif (Go.Eng.eqI x8 (35:Int)) then (ob (Go.Eng.idxL x6.1 (0:Int)) fun x9=>(ob (Go.Eng.T.int? Go.IntKind.i64 (Go.Eng.T.cell x9 1)) fun x10=>(some ((Go.Eng.eqI x10 (1:Int)),())))) else (some (Bool.false,()))))) else (some (Bool.false,()))) else (some (Bool.false,()))) else (some (Bool.false,()))) else (some (Bool.false,()))) else (some (Bool.false,()))) else (some (Bool.false,()))))))))))
theorem w7(n:Nat)(t:Unit):Le (jR n t) (cL t):=by
 unfold jR cL
 repeat' with_reducible first | exact aN | refine aH ?_ ?_ | refine aS (fun _=>?_) fun _=>?_ | refine bE ?_ fun _=>?_ | refine aJ ?_ ?_ | exact DL n _ | exact u9 n _ | exact sM n _ | exact JZ n _
end Go.Eng
namespace Go.Eng.Et
open Go.Eng
abbrev tI(z:Int):T:=.v (.int .i64 z)
abbrev tB(b:Bool):T:=.v (.bool b)
def gB(k:Int)(neg:Bool)(num den:List T)(text:ByteArray)(ref:Int)(l:List T):T:=.agg [tI k,tB neg,.sl 1 num,.sl 1 den,.v (.string text),tI ref,.sl 7 l]
def vU(id:Int)(name:ByteArray)(args:List T):T:=.agg [tI id,.v (.string name),.sl 7 args]
def J0(name:ByteArray)(args:List T):T:=.agg [.v (.string name),.sl 7 args]
def Fc(neg:Bool)(num den:List T):Prop:=∃(l:Bs) (ok:Bool),cE (neg,num,den,())=some (bs l,ok,())∧fI (neg,num,den,())=some (bs l,ok,())∧l.length≤100∧(den=[]→ok=true∧∃l',l=l'++[46])
def jS(t:ByteArray):Prop:=∃s:Bs,t=bs s∧s.length≤100
def V(k:Int)(neg:Bool)(num den:List T)(text:ByteArray)(ref:Int):Prop:=Fc neg num den∧(k=1∨k=2∨(neg=false∧num=[]∧den=[]))∧jS text∧0≤ref∧ref≤20
def OkA:Nat→T→Prop
 | 0,_=>False
 | n+1,t=>∃k neg num den text ref l,t=gB k neg num den text ref l∧l.length≤4∧(∀x∈l,OkA n x)∧V k neg num den text ref
def OkE(t:T):Prop:=∃id name args,t=vU id name args∧args.length≤4∧(∀x∈args,OkA 3 x)∧jS name∧0≤id∧id≤20
def Ka(D:List T):Prop:=D.length≤16∧∀x∈D,OkE x
def OkRec(t:T):Prop:=∃name args,t=J0 name args∧args.length≤4∧(∀x∈args,OkA 3 x)∧jS name
def Ou(D:List T):Prop:=D.length≤4∧∀x∈D,OkRec x
def Kb(s:ByteArray):Bool:=s.data.toList.getLast?==some 46
noncomputable def OO:Option (Bool×List T×List T×Unit)→Bool
 | some (neg,num,den,_)=>match v_entity_Decimal 80 (neg,num,den,()),rX 80 (neg,num,den,()) with
  | some (s,ok,_),some (s',ok',_)=>decide (s.data.toList=s'.data.toList)&&(ok==ok')&&decide (s.data.toList.length≤100)&&(match den with
   | []=>ok&&Kb s
   | _=>true)
  | _,_=>false
 | none=>false
theorem SA{r:Option (Bool×List T×List T×Unit)}(h:OO r=true):∃neg num den,r=some (neg,num,den,())∧Fc neg num den:=by
 unfold OO at h
 split at h
 case h_2=>cases h
 rename_i neg num den u
 refine⟨neg,num,den,rfl,?_⟩
 split at h
 case h_2=>cases h
 rename_i s ok u1 s' ok' u2 e1 e2
 simp only[Bool.and_eq_true,decide_eq_true_eq,beq_iff_eq] at h
 obtain⟨⟨⟨h1,h2⟩,h3⟩,h4⟩:=h
 have hs:s'=s:=by
  have:s'.data=s.data:=by rw[←Array.toArray_toList (xs:=s'.data),←h1,Array.toArray_toList]
  cases s;cases s';simpa using this
 subst hs;subst h2
 have hb:s'=bs s'.data.toList:=by unfold bs;rw[Array.toArray_toList]
 refine⟨s'.data.toList,ok,?_,?_,h3,?_⟩
 ·rw[←hb];exact u9 80 _ _ e1
 ·rw[←hb];exact HW 80 _ _ e2
 ·rintro rfl
  simp only[Bool.and_eq_true] at h4
  obtain⟨g1,g2⟩:=h4
  unfold Kb at g2
  rw[beq_iff_eq] at g2
  obtain⟨ys,hys⟩:=List.getLast?_eq_some_iff.1 g2
  exact⟨g1,ys,hys⟩
theorem Fe:Fc false [] []:=by
 obtain⟨neg,num,den,e,h⟩:=SA (r:=some (false,[],[],())) (by kernel_rfl)
 cases e
 exact h
theorem Il:((List.range 50).all fun i=>OO (v_ref02_Int 80 ((i:Int)-20,())))=true:=by kernel_rfl
theorem Ff{u:Int}(h0:0≤u)(h1:u<50):∃neg num den,u_ref02_Int (u-20,())=some (neg,num,den,())∧Fc neg num den:=by
 have:=List.all_eq_true.1 Il u.toNat (List.mem_range.2 (by omega))
 rw[Int.toNat_of_nonneg h0] at this
 obtain⟨neg,num,den,e,h⟩:=SA this
 exact⟨neg,num,den,sM 80 _ _ e,h⟩
theorem Y0:((List.range 99).all fun i=>OO (v_ref02_Frac 80 ((i:Int)-40,1,())))=true:=by kernel_rfl
theorem Im:((List.range 99).all fun i=>OO (v_ref02_Frac 80 ((i:Int)-40,2,())))=true:=by kernel_rfl
theorem In:((List.range 99).all fun i=>OO (v_ref02_Frac 80 ((i:Int)-40,8,())))=true:=by kernel_rfl
theorem Io:((List.range 99).all fun i=>OO (v_ref02_Frac 80 ((i:Int)-40,5,())))=true:=by kernel_rfl
theorem Fg:((List.range 99).all fun i=>OO (v_ref02_Frac 80 ((i:Int)-40,10,())))=true:=by kernel_rfl
theorem Ip:((List.range 99).all fun i=>OO (v_ref02_Frac 80 ((i:Int)-40,3,())))=true:=by kernel_rfl
theorem ET{u z:Int}(h:((List.range 99).all fun i=>OO (v_ref02_Frac 80 ((i:Int)-40,z,())))=true)(h0:0≤u)(h1:u<99):∃neg num den,u_ref02_Frac (u-40,z,())=some (neg,num,den,())∧Fc neg num den:=by
 have:=List.all_eq_true.1 h u.toNat (List.mem_range.2 (by omega))
 rw[Int.toNat_of_nonneg h0] at this
 obtain⟨neg,num,den,e,h⟩:=SA this
 exact⟨neg,num,den,DL 80 _ _ e,h⟩
theorem Iq{u z:Int}(h0:0≤u)(h1:u<99)(hz:z∈([1,2,8,5,1,10,3]:List Int)):∃neg num den,u_ref02_Frac (u-40,z,())=some (neg,num,den,())∧Fc neg num den:=by
 simp only[List.mem_cons,List.not_mem_nil,or_false] at hz
 rcases hz with rfl | rfl | rfl | rfl | rfl | rfl | rfl
 ·exact ET Y0 h0 h1
 ·exact ET Im h0 h1
 ·exact ET In h0 h1
 ·exact ET Io h0 h1
 ·exact ET Y0 h0 h1
 ·exact ET Fg h0 h1
 ·exact ET Ip h0 h1
theorem Np:∃neg num den,u_ref02_Int (1,())=some (neg,num,den,())∧Fc neg num den:=Ff (u:=21) (by decide) (by decide)
theorem V0{k:Int}{text:ByteArray}{ref:Int}(ht:jS text)(h0:0≤ref)(h1:ref≤20):V k false [] [] text ref:=⟨Fe,.inr (.inr ⟨rfl,rfl,rfl⟩),ht,h0,h1⟩
theorem tx{s:Bs}(h:s.length≤100):jS (bs s):=⟨s,rfl,h⟩
theorem Bj:jS (ByteArray.mk #[]):=⟨[],rfl,by decide⟩
end Go.Eng.Et
namespace Go.Eng
noncomputable def v_natural_Bits(n:Nat)(t:((List T)×Unit)):Option (Int×Unit):=
 (ob (Go.Eng.v_natural_trim n (t.1,())) fun x0=>(bif (Go.Eng.eqI (Go.Eng.lenL x0.1) (0:Int)) then (some ((0:Int),())) else (ob (Go.Eng.idxL x0.1 (Go.Eng.wr Go.IntKind.i64 (Go.Eng.subI (Go.Eng.lenL x0.1) (1:Int)))) fun x1=>(ob (Go.Eng.T.int? Go.IntKind.u32 (Go.Eng.T.cell x1 0)) fun x2=>(ob (Go.Eng.u_math_bits_Len32 (x2,())) fun x3=>(some ((Go.Eng.wr Go.IntKind.i64 (Go.Eng.addI (Go.Eng.wr Go.IntKind.i64 (Go.Eng.mulI (32:Int) (Go.Eng.wr Go.IntKind.i64 (Go.Eng.subI (Go.Eng.lenL x0.1) (1:Int))))) x3.1)),())))))))
theorem J1(n:Nat)(t:((List T)×Unit)):Le (v_natural_Bits n t) (oN t):=by
 unfold v_natural_Bits oN
 repeat' with_reducible first | exact aN | refine aH ?_ ?_ | refine aS (fun _=>?_) fun _=>?_ | refine bE ?_ fun _=>?_ | refine aJ ?_ ?_ | exact eH n _
noncomputable def zC(n:Nat)(t:(Bool×(List T)×(List T)×Unit)):Option (Int×Unit):=
 (ob (Go.Eng.v_natural_Bits n (t.2.1,())) fun x0=>(bif (Go.Eng.eqI x0.1 (0:Int)) then (some ((0:Int),())) else (bif t.1 then (some ((-1:Int),())) else (some ((1:Int),())))))
theorem HY(n:Nat)(t:(Bool×(List T)×(List T)×Unit)):Le (zC n t) (gV t):=by
 unfold zC gV
 repeat' with_reducible first | exact aN | refine aH ?_ ?_ | refine aS (fun _=>?_) fun _=>?_ | refine bE ?_ fun _=>?_ | refine aJ ?_ ?_ | exact J1 n _
end Go.Eng
namespace Go.Eng.Et
open Go.Eng
open Go.Eng.Lex (Tk eE cG HZ)
def Sh(l:List Tk):Prop:=∀x∈l,x.2.1.length≤100
theorem Sh.app{a b:List Tk}(ha:Sh a)(hb:Sh b):Sh (a++b):=fun x hx=>by
 rcases List.mem_append.1 hx with h | h
 ·exact ha x h
 ·exact hb x h
theorem Sh.one{x:Tk}(h:x.2.1.length≤100):Sh [x]:=fun y hy=>by rw[List.mem_singleton] at hy;exact hy▸h
theorem Sh.nil:Sh []:=fun x hx=>by cases hx
theorem kR(o n:List Tk)(h:o.length+n.length≤1000000):room (o.map eE) (n.map eE) 32=some ((o++n).map eE):=by
 rw[hM (by simp only[List.length_map];omega) (by decide),List.map_append]
theorem uA{o:List Tk}{k:Int}{s:Bs}(h:o.length≤16384):u___entity_writer__put ((),k,bs s,o.map eE,(0:Int),())=some ((o++[(k,s,0)]).map eE,0,()):=by
 unfold u___entity_writer__put
 simp only[bZ,rP,bD,List.length_map,decide_true,cond_true]
 rw[decide_eq_true (by omega),show ([T.agg [T.v (.int .i64 k),T.v (.string (bs s)),T.v (.int .i64 0)]]:List T)=[(k,s,(0:Int))].map eE from rfl,kR o _ (by simp;omega)]
 rfl
theorem cI{out:List T}{e k:Int}{s:ByteArray}(h:e≠0):u___entity_writer__put ((),k,s,out,e,())=some (out,e,()):=by
 unfold u___entity_writer__put
 simp only[bZ]
 rw[decide_eq_false h]
 rfl
theorem BT{out:List T}{c:Int}:aI ((),c,out,(0:Int),())=some (out,c,()):=by
 unfold aI
 simp only[bZ,decide_true,cond_true]
theorem nC{out:List T}{e c:Int}(h:e≠0):aI ((),c,out,e,())=some (out,e,()):=by
 unfold aI
 simp only[bZ]
 rw[decide_eq_false h]
 rfl
theorem NA{k:Int}{s:Bs}(hs:s.length≤1000):mN ([T.agg [T.v (.int .i64 k),T.v (.string (bs s)),T.v (.int .i64 0)]],())=some (cG k s,()):=by
 have:=Lex.s_Valid (xs:=[(k,s,(0:Int))]) (fun x hx=>by rw[List.mem_singleton] at hx;subst hx;show s.length≤1000000000;omega) (by simp)
 rw[show HZ [(k,s,(0:Int))]=cG k s from by simp[HZ]] at this
 exact this
theorem SD{o:List Tk}{k:Int}{s:Bs}(hs:s.length≤1000)(hv:cG k s=true)(h:o.length≤16384):aX ((),k,bs s,o.map eE,(0:Int),())=some ((o++[(k,s,0)]).map eE,0,()):=by
 unfold aX
 simp only[NA hs,hv,bC,Bool.not_true,cond_false,aM,uA h]
theorem EU{out:List T}{k:Int}{s:Bs}(hs:s.length≤1000)(hv:cG k s=false):aX ((),k,bs s,out,(0:Int),())=some (out,41,()):=by
 unfold aX
 simp only[NA hs,hv,bC,Bool.not_false,cond_true,BT,aM,cI (show (41:Int)≠0 by decide)]
theorem uB{out:List T}{k e:Int}{s:Bs}(hs:s.length≤1000)(he:e≠0):aX ((),k,bs s,out,e,())=some (out,e,()):=by
 unfold aX
 cases hv:cG k s <;> simp only[NA hs,hv,bC,Bool.not_false,Bool.not_true,cond_true,cond_false,nC he,aM,cI he]
def dg(n:Int):Bs:=Lib.decDigits n.toNat
theorem SE{n:Int}(h0:0≤n)(h1:n≤20):lH (n,())=some (bs (dg n),()):=by
 unfold lH
 rw[if_pos ⟨h0,by omega⟩]
 rfl
theorem Jc:((List.range 21).all fun i=>match rY 80 ((i:Int),()) with
 | some (s,_)=>decide (s.data.toList=Lib.decDigits i)&&decide (s.data.toList.length≤100)
 | none=>false)=true:=by kernel_rfl
theorem CE{n:Int}(h0:0≤n)(h1:n≤20):fJ (n,())=some (bs (dg n),())∧(dg n).length≤100:=by
 have:=List.all_eq_true.1 Jc n.toNat (List.mem_range.2 (by omega))
 rw[Int.toNat_of_nonneg h0] at this
 split at this
 case h_2=>cases this
 rename_i s u e
 rw[Bool.and_eq_true,decide_eq_true_eq,decide_eq_true_eq] at this
 refine⟨?_,by unfold dg;rw[←this.1];exact this.2⟩
 have hb:s=bs (dg n):=by unfold bs dg;rw[←this.1,Array.toArray_toList]
 rw[←hb]
 exact HX 80 _ _ e
theorem Kd{o:List Tk}{n:Int}(h1:1≤n)(h2:n≤20)(h:o.length≤16384):aO ((),n,o.map eE,(0:Int),())=some ((o++[(5,dg n,0)]).map eE,0,()):=by
 unfold aO
 simp only[aG]
 rw[decide_eq_false (by omega),decide_eq_false (by omega)]
 simp only[cond_false,bC,aM,SE (n:=n) (by omega) h2,uA h]
theorem PX{out:List T}:aO ((),(0:Int),out,(0:Int),())=some (out,2,()):=by
 unfold aO
 simp only[aG]
 rw[decide_eq_true (by decide)]
 simp only[cond_true,bC,BT,aM,SE (n:=0) (by decide) (by decide),cI (show (2:Int)≠0 by decide)]
theorem PY{out:List T}{n e:Int}(h1:0≤n)(h2:n≤20)(he:e≠0):aO ((),n,out,e,())=some (out,e,()):=by
 unfold aO
 simp only[aG]
 rw[decide_eq_false (show ¬(2147483647:Int)<n by omega)]
 by_cases h:n<1
 ·rw[decide_eq_true h]
  simp only[cond_true,bC,nC he,aM,SE h1 h2,cI he]
 ·rw[decide_eq_false h]
  simp only[cond_false,bC,aM,SE h1 h2,cI he]
theorem Pp(x:T)(l:List T):idxL (x::l) (0:Int)=some x:=cC (x::l) 0
theorem GQ{m:Nat}{l:List T}{d e:Int}{out:List T}(he:e≠0):aK (m+1) ((),l,d,out,e,())=some (out,e,()):=by
 show cU (aK m) _=_
 unfold cU
 simp only[cI he,bC,bD]
 cases l with
 | nil=>
  rw[aT (e:=.inr (.inl ((),out,e,()))) (by unfold aL;simp only[aG];rfl)]
  simp only[bC,aM,uP,cI he]
 | cons x l=>
  rw[aT (e:=.inl (out,e,())) (by
   unfold aL
   simp only[aG,bZ]
   rw[decide_eq_true (by simp),decide_eq_false he]
   simp only[cond_true,Pp,bC,Bool.not_false])]
  simp only[bC,aM]
theorem Ny:gV (false,[],[],())=some (0,()):=HY 10 _ _ (by kernel_rfl)
theorem Nz:oM (false,[],[],())=some (0,()):=by
 unfold oM
 simp only[bD,bZ]
 rfl
def NB(k:Int)(s:Bs)(ref:Int)(l:List T):Bool:=(decide (k=3)||decide (k=4)||decide (s=[]))&&(decide (k=5)||decide (ref=0))&&(decide (k=6)||decide (l.length=0))
theorem Mf(l:List T):decide ((l.length:Int)=0)=decide (l.length=0):=by simp
set_option maxHeartbeats 4000000 in
theorem Fm{k:Int}{neg:Bool}{num den:List T}{s:Bs}{ref:Int}{l:List T}(hz:k=1∨k=2∨(neg=false∧num=[]∧den=[])):mL (k,neg,num,den,bs s,ref,l,())=some (NB k s ref l,()):=by
 unfold mL NB
 simp only[bZ,bD,Mf,show ByteArray.mk #[]=bs [] from rfl,mY]
 by_cases h1:k=1
 ·subst h1;by_cases hs:s=[] <;> by_cases hr:ref=0 <;> simp[hs,hr]
 by_cases h2:k=2
 ·subst h2;by_cases hs:s=[] <;> by_cases hr:ref=0 <;> simp[hs,hr]
 rcases hz with h | h | ⟨rfl,rfl,rfl⟩
 ·exact absurd h h1
 ·exact absurd h h2
 simp only[Ny,bC]
 by_cases h3:k=3
 ·subst h3;by_cases hs:s=[] <;> by_cases hr:ref=0 <;> simp[hs,hr]
 by_cases h4:k=4
 ·subst h4;by_cases hs:s=[] <;> by_cases hr:ref=0 <;> simp[hs,hr]
 by_cases h5:k=5
 ·subst h5;by_cases hs:s=[] <;> by_cases hr:ref=0 <;> simp[hs,hr]
 by_cases h6:k=6
 ·subst h6;by_cases hs:s=[] <;> by_cases hr:ref=0 <;> simp[hs,hr]
 by_cases hs:s=[] <;> by_cases hr:ref=0 <;> simp[hs,hr,h1,h2,h3,h4,h5,h6]
set_option maxHeartbeats 4000000 in
theorem Fo{k:Int}{neg:Bool}{num den:List T}{s:Bs}{ref:Int}{l:List T}(hz:k=1∨k=2∨(neg=false∧num=[]∧den=[])):oW (k,neg,num,den,bs s,ref,l,())=some (NB k s ref l,()):=by
 unfold oW NB
 simp only[bZ,bD,Mf,show ByteArray.mk #[]=bs [] from rfl,mY]
 by_cases h1:k=1
 ·subst h1;by_cases hs:s=[] <;> by_cases hr:ref=0 <;> simp[hs,hr]
 by_cases h2:k=2
 ·subst h2;by_cases hs:s=[] <;> by_cases hr:ref=0 <;> simp[hs,hr]
 rcases hz with h | h | ⟨rfl,rfl,rfl⟩
 ·exact absurd h h1
 ·exact absurd h h2
 simp only[Nz,bC]
 by_cases h3:k=3
 ·subst h3;by_cases hs:s=[] <;> by_cases hr:ref=0 <;> simp[hs,hr]
 by_cases h4:k=4
 ·subst h4;by_cases hs:s=[] <;> by_cases hr:ref=0 <;> simp[hs,hr]
 by_cases h5:k=5
 ·subst h5;by_cases hs:s=[] <;> by_cases hr:ref=0 <;> simp[hs,hr]
 by_cases h6:k=6
 ·subst h6;by_cases hs:s=[] <;> by_cases hr:ref=0 <;> simp[hs,hr]
 by_cases hs:s=[] <;> by_cases hr:ref=0 <;> simp[hs,hr,h1,h2,h3,h4,h5,h6]
end Go.Eng.Et
namespace Go.Eng.Et
open Go.Eng
open Go.Eng.Lex (Tk eE cG HZ)
theorem Ke(l:Bs):lenS (bs (l++[46]))=((l.length+1:Nat):Int):=by simp
theorem Fp{l:Bs}:subS (bs (l++[46])) (0:Int) (l.length:Int)=some (bs l):=by
 have:=KB (l:=l++[46]) (lo:=0) (hi:=l.length) (Nat.zero_le _) (by simp)
 rw[show ((0:Nat):Int)=0 from rfl] at this
 rw[this]
 simp
theorem UQ{l:Bs}(hl:l.length≤1000):eX (bs (l++[46]),bs [46],())=some (bs l,()):=by
 have h1:subS (bs (l++[46])) (l.length:Int) ((l.length+1:Nat):Int)=some (bs [46]):=by
  rw[KB (by omega) (by simp)]
  simp
 have hw:wr .i64 (((l.length+1:Nat):Int)-1)=(l.length:Int):=by rw[jQ (by omega) (by omega)];omega
 unfold eX dZ eC
 simp only[Ke,show lenS (bs [46])=1 from by simp,rP,lQ,hw,h1,bC,mY,decide_true,Fp]
 rw[decide_eq_true (by omega)]
 simp only[cond_true,bC]
def AB(mv mr C d:Nat)(t:T):Prop:=∀k neg num den text ref l,t=gB k neg num den text ref l→∃(iO:List Tk) (e:Int),
 cZ (b5 mr) (k,neg,num,den,text,ref,l,(d:Int),())=some (iO.map eE,e,())∧Sh iO∧iO.length≤C ∧
 ∀o:List Tk,o.length+C≤16384→∃o':List Tk,aZ (aK mv) ((),k,neg,num,den,text,ref,l,(d:Int),o.map eE,(0:Int),())=some (o'.map eE,e,())∧(e=0→o'=o++iO)∧o'.length≤o.length+C
def LB(mv mr C d:Nat)(l:List T):Prop:=∃(iO:List Tk) (e:Int),
 b5 mr (l,(d:Int),())=some (iO.map eE,e,())∧Sh iO∧iO.length≤C ∧
 ∀o:List Tk,o.length+C≤16384→∃o':List Tk,aK mv ((),l,(d:Int),o.map eE,(0:Int),())=some (o'.map eE,e,())∧(e=0→o'=o++iO)∧o'.length≤o.length+C
theorem I0:(41:Int)≠0:=by decide
theorem e4:(4:Int)≠0:=by decide
theorem Bl:ByteArray.mk #[]=bs []:=rfl
theorem Py:ByteArray.mk #[46]=bs [46]:=rfl
theorem BU(k:Int)(s:Bs):([T.agg [T.v (.int .i64 k),T.v (.string (bs s)),T.v (.int .i64 0)]]:List T)=[(k,s,(0:Int))].map eE:=rfl
theorem xB(k:Int)(s:ByteArray):u_ref24_token (k,s,())=some (k,s,0,()):=rfl
theorem Kf(neg:Bool)(num den:List T):u_ref24_Integer (neg,num,den,())=some (decide (den.length=0),()):=by
 unfold u_ref24_Integer
 simp only[bD,bZ,Mf]
theorem UR{s:Bs}(hs:s.length≤1000)(k:Int):dR (k,bs s,(0:Int),())=some (cG k s,()):=Lex.r_valid (by unfold Lex.mx;omega) k 0
section
variable {mv mr C C' d:Nat} {k:Int} {neg:Bool} {num den:List T} {s:Bs} {ref:Int} {l:List T}
set_option maxHeartbeats 8000000 in
theorem Y7(hD:Fc neg num den)(hz:k=1∨k=2∨(neg=false∧num=[]∧den=[]))(hs:s.length≤100)(h0:0≤ref)(h1:ref≤20)(hd:d≤8)(hp:NB k s ref l=false)(o:List T):
 cZ (b5 mr) (k,neg,num,den,bs s,ref,l,(d:Int),())=some ([],41,()) ∧
 aZ (aK (mv+1)) ((),k,neg,num,den,bs s,ref,l,(d:Int),o,(0:Int),())=some (o,41,()):=by
 obtain⟨ds,ok,q1,q2,q3,q4⟩:=hD
 constructor
 ·unfold cZ
  simp only[Fo hz,hp,bC,Bool.not_false,cond_true]
 ·unfold aZ
  simp only[Fm hz,hp,bC,Bool.not_false,cond_true,bZ,decide_true,Bool.not_true,cond_false,BT,aM,bD,aG]
  by_cases k1:k=1
  ·subst k1
   simp only[decide_true,cond_true]
   cases den with
   | nil=>
    obtain⟨rfl,l',rfl⟩:=q4 rfl
    rw[decide_eq_false (by simp)]
    simp only[cond_false,q1,bC,Py,UQ (l:=l') (by simp at q3;omega),cI I0]
   | cons x den=>
    rw[decide_eq_true (by simp)]
    simp only[cond_true,nC I0,bC]
  by_cases k2:k=2
  ·subst k2
   simp only[Int.reduceEq,decide_false,decide_true,cond_true,cond_false,q1,bC]
   cases ok <;> simp only[Bool.not_false,Bool.not_true,cond_true,cond_false,nC I0,bC,aM,cI I0]
  by_cases k3:k=3
  ·subst k3
   simp only[Int.reduceEq,decide_false,decide_true,cond_true,cond_false,uB (show s.length≤1000 by omega) I0,bC]
  by_cases k4:k=4
  ·subst k4
   simp only[Int.reduceEq,decide_false,decide_true,cond_true,cond_false,uB (show s.length≤1000 by omega) I0,bC]
  by_cases k5:k=5
  ·subst k5
   simp only[Int.reduceEq,decide_false,decide_true,cond_true,cond_false,PY h0 h1 I0,bC]
  by_cases k7:k=7
  ·subst k7
   simp only[Int.reduceEq,decide_false,decide_true,cond_true,cond_false,cI I0,bC]
  by_cases k8:k=8
  ·subst k8
   simp only[Int.reduceEq,decide_false,decide_true,cond_true,cond_false,cI I0,bC]
  by_cases k6:k=6
  ·subst k6
   simp only[Int.reduceEq,decide_false,decide_true,cond_true,cond_false]
   by_cases h8:(d:Int)=8
   ·rw[decide_eq_true h8]
    simp only[cond_true,nC I0,bC,aM,GQ I0]
   ·rw[decide_eq_false h8]
    simp only[cond_false,bC,aM,GQ I0]
  simp only[k1,k2,k3,k4,k5,k6,k7,k8,decide_false,cond_false,nC I0,bC]
set_option maxHeartbeats 8000000 in
theorem Fq(hD:Fc neg num den)(hz:k=1∨k=2∨(neg=false∧num=[]∧den=[]))(hs:s.length≤100)(h0:0≤ref)(h1:ref≤20)(hd:d≤8)(hp:NB k s ref l=true)(hC:1≤C)
 (hl:k=6→d<8→LB (mv+1) mr C (d+1) l):AB (mv+1) mr C d (gB k neg num den (bs s) ref l):=by
 intro k' neg' num' den' text' ref' l' he
 simp only[gB,T.agg.injEq,List.cons.injEq,T.v.injEq,Value.int.injEq,Value.bool.injEq,Value.string.injEq,T.sl.injEq,true_and,and_true] at he
 obtain⟨rfl,rfl,rfl,rfl,rfl,rfl,rfl⟩:=he
 obtain⟨ds,ok,q1,q2,q3,q4⟩:=hD
 unfold cZ aZ
 simp only[Fo hz,Fm hz,hp,bC,Bool.not_true,cond_false,bZ,decide_true,aM,bD,aG]
 by_cases k1:k=1
 ·subst k1
  simp only[decide_true,cond_true,bC,aM,q1,q2,Kf]
  cases den with
  | nil=>
   obtain⟨rfl,l',rfl⟩:=q4 rfl
   have hl':l'.length≤1000:=by simp at q3;omega
   have hw:wr .i64 (((l'.length+1:Nat):Int)-1)=(l'.length:Int):=by rw[jQ (by omega) (by omega)];omega
   refine⟨[(2,l',0)],0,?_,Sh.one (by simp at q3;show l'.length≤100;omega),hC,fun o ho=>⟨o++[(2,l',0)],?_,fun _=>rfl,by simp;omega⟩⟩
   ·simp only[List.length_nil,decide_true,Bool.not_true,cond_false,lQ,Ke,hw,Fp,bC,aM,uP,xB,BU]
   ·simp only[List.length_nil,Int.lt_irrefl,Int.natCast_zero,decide_false,cond_false,Py,UQ hl',bC,uA (show o.length≤16384 by omega)]
  | cons x den=>
   refine⟨[],41,?_,Sh.nil,Nat.zero_le _,fun o ho=>⟨o,?_,fun h=>absurd h I0,by omega⟩⟩
   ·simp[aM]
   ·rw[decide_eq_true (by simp)]
    simp only[cond_true,BT,bC]
 by_cases k2:k=2
 ·subst k2
  simp only[Int.reduceEq,decide_false,decide_true,cond_true,cond_false,bC,aM,q1,q2,Kf]
  cases ok with
  | true=>
   refine⟨[(2,ds,0)],0,?_,Sh.one (by show ds.length≤100;omega),hC,fun o ho=>⟨o++[(2,ds,0)],?_,fun _=>rfl,by simp;omega⟩⟩
   ·simp only[Bool.not_true,cond_false,bC,aM,uP,xB,BU]
   ·simp only[Bool.not_true,cond_false,bC,aM,uA (show o.length≤16384 by omega)]
  | false=>
   refine⟨[],4,?_,Sh.nil,Nat.zero_le _,fun o ho=>⟨o,?_,fun h=>absurd h e4,by omega⟩⟩
   ·simp[aM]
   ·simp only[Bool.not_false,cond_true,BT,bC,aM,cI e4]
 by_cases k3:k=3
 ·subst k3
  simp only[Int.reduceEq,decide_false,decide_true,cond_true,cond_false,bC,aM,xB,UR (show s.length≤1000 by omega)]
  cases hv:cG 3 s with
  | true=>
   refine⟨[(3,s,0)],0,?_,Sh.one hs,hC,fun o ho=>⟨o++[(3,s,0)],?_,fun _=>rfl,by simp;omega⟩⟩
   ·simp only[Bool.not_true,cond_false,BU]
   ·simp only[SD (show s.length≤1000 by omega) hv (show o.length≤16384 by omega),bC]
  | false=>
   refine⟨[],41,?_,Sh.nil,Nat.zero_le _,fun o ho=>⟨o,?_,fun h=>absurd h I0,by omega⟩⟩
   ·simp only[Bool.not_false,cond_true,List.map_nil]
   ·simp only[EU (show s.length≤1000 by omega) hv,bC]
 by_cases k4:k=4
 ·subst k4
  simp only[Int.reduceEq,decide_false,decide_true,cond_true,cond_false,bC,aM,xB,UR (show s.length≤1000 by omega)]
  cases hv:cG 4 s with
  | true=>
   refine⟨[(4,s,0)],0,?_,Sh.one hs,hC,fun o ho=>⟨o++[(4,s,0)],?_,fun _=>rfl,by simp;omega⟩⟩
   ·simp only[Bool.not_true,cond_false,BU]
   ·simp only[SD (show s.length≤1000 by omega) hv (show o.length≤16384 by omega),bC]
  | false=>
   refine⟨[],41,?_,Sh.nil,Nat.zero_le _,fun o ho=>⟨o,?_,fun h=>absurd h I0,by omega⟩⟩
   ·simp only[Bool.not_false,cond_true,List.map_nil]
   ·simp only[EU (show s.length≤1000 by omega) hv,bC]
 by_cases k5:k=5
 ·subst k5
  simp only[Int.reduceEq,decide_false,decide_true,cond_true,cond_false,bC,aM]
  by_cases hr:ref<1
  ·have:ref=0:=by omega
   subst this
   refine⟨[],2,?_,Sh.nil,Nat.zero_le _,fun o ho=>⟨o,?_,fun h=>absurd h (by decide),by omega⟩⟩
   ·rw[decide_eq_true hr]
    simp only[cond_true,List.map_nil]
   ·simp only[PX,bC]
  ·refine⟨[(5,dg ref,0)],0,?_,Sh.one (CE h0 h1).2,hC,fun o ho=>⟨o++[(5,dg ref,0)],?_,fun _=>rfl,by simp;omega⟩⟩
   ·rw[decide_eq_false hr,decide_eq_false (by omega)]
    simp only[cond_false,(CE h0 h1).1,bC,xB,BU]
   ·simp only[Kd (show 1≤ref by omega) h1 (show o.length≤16384 by omega),bC]
 by_cases k7:k=7
 ·subst k7
  simp only[Int.reduceEq,decide_false,decide_true,cond_true,cond_false,bC,aM,xB]
  exact⟨[(11,[],0)],0,rfl,Sh.one (Nat.zero_le _),hC,fun o ho=>⟨o++[(11,[],0)],by simp only[Bl,uA (show o.length≤16384 by omega),bC],fun _=>rfl,by simp;omega⟩⟩
 by_cases k8:k=8
 ·subst k8
  simp only[Int.reduceEq,decide_false,decide_true,cond_true,cond_false,bC,aM,xB]
  exact⟨[(12,[],0)],0,rfl,Sh.one (Nat.zero_le _),hC,fun o ho=>⟨o++[(12,[],0)],by simp only[Bl,uA (show o.length≤16384 by omega),bC],fun _=>rfl,by simp;omega⟩⟩
 by_cases k6:k=6
 ·subst k6
  simp only[Int.reduceEq,decide_false,decide_true,cond_true,cond_false,bC,aM]
  by_cases h8:d=8
  ·subst h8
   refine⟨[],41,?_,Sh.nil,Nat.zero_le _,fun o ho=>⟨o,?_,fun h=>absurd h I0,by omega⟩⟩
   ·rw[decide_eq_true (by decide)]
    simp only[cond_true,List.map_nil]
   ·rw[decide_eq_true (by decide)]
    simp only[cond_true,BT,bC,aM,GQ I0]
  ·obtain⟨iO,e,g1,g2,g3,g4⟩:=hl rfl (by omega)
   have hw:wr .i64 (addI (d:Int) 1)=((d+1:Nat):Int):=by rw[aY,jQ (by omega) (by omega)];rfl
   refine⟨iO,e,?_,g2,g3,fun o ho=>?_⟩
   ·rw[decide_eq_false (by omega)]
    simp only[cond_false,hw,g1,bC]
   ·obtain⟨o',f1,f2,f3⟩:=g4 o ho
    refine⟨o',?_,f2,f3⟩
    rw[decide_eq_false (by omega)]
    simp only[cond_false,bC,aM,hw,f1]
 refine⟨[],41,?_,Sh.nil,Nat.zero_le _,fun o ho=>⟨o,?_,fun h=>absurd h I0,by omega⟩⟩
 ·simp only[k1,k2,k3,k4,k5,k6,k7,k8,decide_false,cond_false,bC,aM,List.map_nil]
 ·simp only[k1,k2,k3,k4,k5,k6,k7,k8,decide_false,cond_false,BT,bC]
theorem Mg(hD:Fc neg num den)(hz:k=1∨k=2∨(neg=false∧num=[]∧den=[]))(hs:s.length≤100)(h0:0≤ref)(h1:ref≤20)(hd:d≤8)(hC:1≤C)
 (hl:k=6→d<8→LB (mv+1) mr C (d+1) l):AB (mv+1) mr C d (gB k neg num den (bs s) ref l):=by
 cases hp:NB k s ref l with
 | true=>exact Fq hD hz hs h0 h1 hd hp hC hl
 | false=>
  intro k' neg' num' den' text' ref' l' he
  simp only[gB,T.agg.injEq,List.cons.injEq,T.v.injEq,Value.int.injEq,Value.bool.injEq,Value.string.injEq,T.sl.injEq,true_and,and_true] at he
  obtain⟨rfl,rfl,rfl,rfl,rfl,rfl,rfl⟩:=he
  exact⟨[],41,(Y7 (mv:=mv) hD hz hs h0 h1 hd hp []).1,Sh.nil,Nat.zero_le _,fun o ho=>⟨o,(Y7 (mr:=mr) hD hz hs h0 h1 hd hp (o.map eE)).2,fun h=>absurd h I0,by omega⟩⟩
end
end Go.Eng.Et
namespace Go.Eng.Et
open Go.Eng
open Go.Eng.Lex (Tk eE cG HZ)
noncomputable def Fs(r:Option ((T×Int×Unit)⊕((List T×Unit)⊕Empty))):Option (List T×Int×Unit):=
 ob r fun q17=>bB q17 (fun t18=>(ob (T.sl? 3 t18.1) fun x19=>(some (x19,t18.2.1,())))) fun q20=>bB q20 (fun t21=>(ob (u_ref24_token ((7:Int),(ByteArray.mk #[]),())) fun x22=>(ob (room t21.1 [(T.agg [(T.v (.int .i64 x22.1)),(T.v (.string x22.2.1)),(T.v (.int .i64 x22.2.2.1))])] 32) fun x23=>(some (x23,(0:Int),()))))) fun q24=>b0 q24
noncomputable def W6(r:Option ((List T×Int×Unit)⊕((Unit×List T×Int×Unit)⊕Empty))):Option (List T×Int×Unit):=
 ob r fun q15=>bB q15 (fun t16=>(some (t16.1,t16.2.1,()))) fun q17=>bB q17 (fun t18=>(ob (u___entity_writer__put ((),(7:Int),(ByteArray.mk #[]),t18.2.1,t18.2.2.1,())) fun x19=>(some (x19.1,x19.2.1,())))) fun q20=>b0 q20
theorem Qo(self)(l:List T)(d:Int):kO self (l,d,())=Fs (aF (cX self) (l,d,[((6:Int),([]:Bs),(0:Int))].map eE,(0:Int),())):=rfl
theorem Qp(self)(l:List T)(d e:Int)(out:List T):cU self ((),l,d,out,e,())=ob (u___entity_writer__put ((),(6:Int),bs [],out,e,())) fun x0=>W6 (aF (aL self) ((),d,l,lenL l,(0:Int),x0.1,x0.2.1,())):=rfl
def sm(Cf:T→Nat)(l:List T):Nat:=(l.map fun x=>Cf x+1).sum
theorem cm(i:Nat):(if 0<i then [((8:Int),([]:Bs),(0:Int))] else []).length≤1:=by split <;> simp
theorem Sh.cm(i:Nat):Sh (if 0<i then [((8:Int),([]:Bs),(0:Int))] else []):=by
 split
 ·exact Sh.one (Nat.zero_le _)
 ·exact Sh.nil
def Pq(t:T):Prop:=∃k neg num den text ref l,t=gB k neg num den text ref l
section
variable {mv mr d:Nat} {l:List T} {Cf:T→Nat}
theorem Mh{acc:List Tk}{i:Nat}(hi:i=l.length)(ha:acc.length≤500000):
 Fs (aF (cX (b5 mr)) (l,(d:Int),acc.map eE,(i:Int),()))=some ((acc++[(7,[],0)]).map eE,0,()):=by
 rw[aT (e:=.inr (.inl (acc.map eE,()))) (by
  unfold cX
  simp only[aG,bD]
  rw[decide_eq_false (by omega)]
  rfl)]
 unfold Fs
 simp only[bC,aM,uP,xB,Bl,BU]
 rw[kR _ _ (by simp;omega)]
 rfl
theorem Mi{o:List Tk}{i:Nat}(hi:i=l.length)(ho:o.length≤16384):
 W6 (aF (aL (aK mv)) ((),(d:Int),l,(l.length:Int),(i:Int),o.map eE,(0:Int),()))=some ((o++[(7,[],0)]).map eE,0,()):=by
 rw[aT (e:=.inr (.inl ((),o.map eE,(0:Int),()))) (by
  unfold aL
  simp only[aG]
  rw[decide_eq_false (by omega)]
  rfl)]
 unfold W6
 simp only[bC,aM,uP,Bl,uA ho]
theorem Oa{out:List T}{i:Nat}{e:Int}(he:e≠0)(hi:i≤l.length):
 W6 (aF (aL (aK mv)) ((),(d:Int),l,(l.length:Int),(i:Int),out,e,()))=some (out,e,()):=by
 by_cases h:i<l.length
 ·obtain⟨x,hx⟩:∃x,l[i]?=some x:=⟨_,List.getElem?_eq_getElem h⟩
  rw[aT (e:=.inl (out,e,())) (by
   unfold aL
   simp only[aG,bZ,cC,hx,bC]
   rw[decide_eq_true (by omega),decide_eq_false he]
   rfl)]
  unfold W6
  simp only[bC,aM]
 ·rw[aT (e:=.inr (.inl ((),out,e,()))) (by
   unfold aL
   simp only[aG]
   rw[decide_eq_false (by omega)]
   rfl)]
  unfold W6
  simp only[bC,aM,uP,cI he]
set_option maxHeartbeats 4000000 in
theorem Ft{acc:List Tk}{i:Nat}{k:Int}{neg:Bool}{num den:List T}{text:ByteArray}{ref:Int}{q:List T}{iO:List Tk}{e:Int}(hx:l[i]?=some (gB k neg num den text ref q))(ha:acc.length≤500000)(hil:l.length≤100000)(ht:iO.length≤100000)
 (hr:cZ (b5 mr) (k,neg,num,den,text,ref,q,(d:Int),())=some (iO.map eE,e,())):
 cX (b5 mr) (l,(d:Int),acc.map eE,(i:Int),())=if e=0 then some (.inl (l,(d:Int),(acc++(if 0<i then [(8,[],0)] else [])++iO).map eE,((i+1:Nat):Int),())) else some (.inr (.inl (T.v (.slice none 0 0),e,()))):=by
 have hi:i<l.length:=(List.getElem?_eq_some_iff.1 hx).1
 have c0:T.cell (gB k neg num den text ref q) 0=tI k:=rfl
 have c1:T.cell (gB k neg num den text ref q) 1=tB neg:=rfl
 have c2:T.cell (gB k neg num den text ref q) 2=.sl 1 num:=rfl
 have c3:T.cell (gB k neg num den text ref q) 3=.sl 1 den:=rfl
 have c4:T.cell (gB k neg num den text ref q) 4=.v (.string text):=rfl
 have c5:T.cell (gB k neg num den text ref q) 5=tI ref:=rfl
 have c6:T.cell (gB k neg num den text ref q) 6=.sl 7 q:=rfl
 have hw:wr .i64 ((i:Int)+1)=((i+1:Nat):Int):=by rw[jQ (by omega) (by omega)];rfl
 have main:∀acc':List Tk,acc'.length≤500001→(ob (room (acc'.map eE) (iO.map eE) 32) fun x15=>(some (Sum.inl (l,(d:Int),x15,(wr .i64 (addI (i:Int) (1:Int))),()))):Option ((List T×Int×List T×Int×Unit)⊕((T×Int×Unit)⊕((List T×Unit)⊕Empty))))=some (.inl (l,(d:Int),(acc'++iO).map eE,((i+1:Nat):Int),())):=fun acc' h=>by
  rw[kR _ _ (by omega),aY,hw]
  rfl
 unfold cX
 simp only[aG,bD]
 rw[decide_eq_true (by omega)]
 by_cases h0:0<i
 ·rw[decide_eq_true (by omega),if_pos h0]
  simp only[cond_true,xB,bC,Bl,BU]
  rw[kR _ _ (by simp;omega)]
  simp only[bC,aM,cC,hx,c0,c1,c2,c3,c4,c5,c6,wF,RE,CH,iL,hr,bZ]
  by_cases he:e=0
  ·subst he
   simp only[decide_true,Bool.not_true,cond_false,if_true]
   exact main (acc++[(8,[],0)]) (by simp;omega)
  ·rw[decide_eq_false he,if_neg he]
   simp only[Bool.not_false,cond_true]
 ·rw[decide_eq_false (by omega),if_neg h0]
  simp only[cond_true,cond_false,bC,aM,cC,hx,c0,c1,c2,c3,c4,c5,c6,wF,RE,CH,iL,hr,bZ]
  by_cases he:e=0
  ·subst he
   simp only[decide_true,Bool.not_true,cond_false,if_true,List.append_nil]
   exact main acc (by omega)
  ·rw[decide_eq_false he,if_neg he]
   simp only[Bool.not_false,cond_true]
set_option maxHeartbeats 4000000 in
theorem Fu{o:List Tk}{i:Nat}{k:Int}{neg:Bool}{num den:List T}{text:ByteArray}{ref:Int}{q:List T}{o':List Tk}{e:Int}(hx:l[i]?=some (gB k neg num den text ref q))(ho:o.length≤16384)(hil:l.length≤100000)
 (hr:aZ (aK mv) ((),k,neg,num,den,text,ref,q,(d:Int),(o++(if 0<i then [(8,[],0)] else [])).map eE,(0:Int),())=some (o'.map eE,e,())):
 aL (aK mv) ((),(d:Int),l,(l.length:Int),(i:Int),o.map eE,(0:Int),())=some (.inl ((),(d:Int),l,(l.length:Int),((i+1:Nat):Int),o'.map eE,e,())):=by
 have hi:i<l.length:=(List.getElem?_eq_some_iff.1 hx).1
 have c0:T.cell (gB k neg num den text ref q) 0=tI k:=rfl
 have c1:T.cell (gB k neg num den text ref q) 1=tB neg:=rfl
 have c2:T.cell (gB k neg num den text ref q) 2=.sl 1 num:=rfl
 have c3:T.cell (gB k neg num den text ref q) 3=.sl 1 den:=rfl
 have c4:T.cell (gB k neg num den text ref q) 4=.v (.string text):=rfl
 have c5:T.cell (gB k neg num den text ref q) 5=tI ref:=rfl
 have c6:T.cell (gB k neg num den text ref q) 6=.sl 7 q:=rfl
 have hw:wr .i64 ((i:Int)+1)=((i+1:Nat):Int):=by rw[jQ (by omega) (by omega)];rfl
 unfold aL
 simp only[aG,cC,hx,bC,bZ,aY,hw]
 rw[decide_eq_true (by omega)]
 by_cases h0:0<i
 ·rw[decide_eq_true (show (0:Int)<(i:Int) by omega)]
  rw[if_pos h0] at hr
  simp only[cond_true,decide_true,Bool.not_true,cond_false,Bl,uA ho,bC,aM,c0,c1,c2,c3,c4,c5,c6,wF,RE,CH,iL,hr,aY,hw]
 ·rw[decide_eq_false (show ¬(0:Int)<(i:Int) by omega)]
  rw[if_neg h0,List.append_nil] at hr
  simp only[cond_true,decide_true,Bool.not_true,cond_false,bC,aM,c0,c1,c2,c3,c4,c5,c6,wF,RE,CH,iL,hr,aY,hw]
theorem w8{i:Nat}{x:T}(h:l[i]?=some x):l.drop i=x::l.drop (i+1):=by
 obtain⟨h1,rfl⟩:=List.getElem?_eq_some_iff.1 h
 exact List.drop_eq_getElem_cons h1
theorem CF(x:T)(l:List T):sm Cf (x::l)=Cf x+1+sm Cf l:=by unfold sm;simp
theorem jB(hil:l.length≤100000)(hA:∀x∈l,Pq x∧AB mv mr (Cf x) d x):∀j i,i+j=l.length→sm Cf (l.drop i)≤100000→∃(iO:List Tk) (e:Int),Sh iO∧iO.length≤1+sm Cf (l.drop i) ∧
 (∀acc:List Tk,acc.length+sm Cf (l.drop i)≤400000→Fs (aF (cX (b5 mr)) (l,(d:Int),acc.map eE,(i:Int),()))=if e=0 then some ((acc++iO).map eE,0,()) else some ([],e,())) ∧
 (∀o:List Tk,o.length+(1+sm Cf (l.drop i))≤16384→∃o':List Tk,W6 (aF (aL (aK mv)) ((),(d:Int),l,(l.length:Int),(i:Int),o.map eE,(0:Int),()))=some (o'.map eE,e,())∧(e=0→o'=o++iO)∧o'.length≤o.length+(1+sm Cf (l.drop i)))
 | 0,i,hi,hS=>by
  have hd:l.drop i=[]:=List.drop_of_length_le (by omega)
  rw[hd]
  refine⟨[(7,[],0)],0,Sh.one (Nat.zero_le _),by simp,fun acc ha=>?_,fun o ho=>⟨o++[(7,[],0)],Mi (by omega) (by omega),fun _=>rfl,by simp <;> omega⟩⟩
  rw[if_pos rfl]
  exact Mh (by omega) (by omega)
 | j+1,i,hi,hS=>by
  obtain⟨x,hx⟩:∃x,l[i]?=some x:=⟨_,List.getElem?_eq_getElem (by omega)⟩
  have W8:=w8 hx
  rw[W8,CF] at hS
  obtain⟨t2,e2,g1,g2,g3,g4⟩:=jB hil hA j (i+1) (by omega) (by omega)
  obtain⟨⟨k,neg,num,den,text,ref,q,rfl⟩,hab⟩:=hA x (List.mem_of_getElem? hx)
  obtain⟨t1,e1,f1,f2,f3,f4⟩:=hab _ _ _ _ _ _ _ rfl
  rw[W8,CF]
  have hcm:=cm i
  by_cases he:e1=0
  ·subst he
   refine⟨(if 0<i then [(8,[],0)] else [])++t1++t2,e2,((Sh.cm i).app f2).app g1,by rw[List.length_append,List.length_append];omega,fun acc ha=>?_,fun o ho=>?_⟩
   ·have st:=Ft (mr:=mr) (acc:=acc) hx (by omega) hil (by omega) f1
    rw[if_pos rfl] at st
    rw[bX st,g3 _ (by rw[List.length_append,List.length_append];omega)]
    simp only[List.append_assoc]
   ·obtain⟨o1,h1,h2,h3⟩:=f4 (o++(if 0<i then [(8,[],0)] else [])) (by rw[List.length_append];omega)
    have st:=Fu (mv:=mv) hx (by omega) hil h1
    rw[h2 rfl] at st h3
    obtain⟨o2,k1,k2,k3⟩:=g4 ((o++(if 0<i then [(8,[],0)] else []))++t1) (by rw[List.length_append,List.length_append];omega)
    refine⟨o2,by rw[bX st];exact k1,fun h=>by rw[k2 h];simp only[List.append_assoc],?_⟩
    rw[List.length_append,List.length_append] at k3
    omega
  ·refine⟨[],e1,Sh.nil,Nat.zero_le _,fun acc ha=>?_,fun o ho=>?_⟩
   ·have st:=Ft (mr:=mr) (acc:=acc) hx (by omega) hil (by omega) f1
    rw[if_neg he] at st
    rw[aT st,if_neg he]
    unfold Fs
    simp only[bC,aM]
    rw[AM 3 (by decide)]
    rfl
   ·obtain⟨o1,h1,h2,h3⟩:=f4 (o++(if 0<i then [(8,[],0)] else [])) (by rw[List.length_append];omega)
    have st:=Fu (mv:=mv) hx (by omega) hil h1
    refine⟨o1,by rw[bX st];exact Oa he (by omega),fun h=>absurd h he,?_⟩
    rw[List.length_append] at h3
    omega
theorem SF(hil:l.length≤100000)(hA:∀x∈l,Pq x∧AB mv mr (Cf x) d x)(hS:sm Cf l≤100000):LB (mv+1) (mr+1) (2+sm Cf l) d l:=by
 obtain⟨t,e,g1,g2,g3,g4⟩:=jB hil hA l.length 0 (by omega) (by rw[List.drop_zero];exact hS)
 rw[List.drop_zero] at g2 g3 g4
 rw[show ((0:Nat):Int)=0 from rfl] at g3 g4
 refine⟨if e=0 then [(6,[],0)]++t else [],e,?_,?_,?_,fun o ho=>?_⟩
 ·show kO (b5 mr) _=_
  rw[Qo,g3 [(6,[],0)] (by simp;omega)]
  split
  ·rename_i he;subst he;rfl
  ·rfl
 ·split
  ·exact(Sh.one (Nat.zero_le _)).app g1
  ·exact Sh.nil
 ·split
  ·rw[List.length_append];simp;omega
  ·exact Nat.zero_le _
 ·obtain⟨o',h1,h2,h3⟩:=g4 (o++[(6,[],0)]) (by simp;omega)
  refine⟨o',?_,fun he=>?_,by simp at h3;omega⟩
  ·show cU (aK mv) _=_
   rw[Qp,uA (by omega)]
   simp only[bC,bD]
   exact h1
  ·rw[h2 he,if_pos he,List.append_assoc]
end
end Go.Eng.Et
namespace Go.Eng.Et
open Go.Eng
open Go.Eng.Lex (Tk eE cG HZ)
def sb(t:T):List T:=(T.sl? 7 (T.cell t 6)).getD []
theorem NC{k:Int}{neg:Bool}{num den:List T}{text:ByteArray}{ref:Int}{l:List T}:sb (gB k neg num den text ref l)=l:=by
 unfold sb;rw[show T.cell (gB k neg num den text ref l) 6=.sl 7 l from rfl,CH];rfl
def sz:Nat→T→Nat
 | 0,_=>0
 | n+1,t=>2+sm (sz n) (sb t)
theorem Fv{Cf:T→Nat}{x:T}:∀{l:List T},x∈l→Cf x+1≤sm Cf l
 | y::l,h=>by
  rw[CF]
  rcases List.mem_cons.1 h with rfl | h
  ·omega
  ·have:=Fv (Cf:=Cf) h;omega
theorem Fw{Cf:T→Nat}{c:Nat}:∀{l:List T},(∀x∈l,Cf x≤c)→sm Cf l≤l.length*(c+1)
 | [],_=>by simp[sm]
 | y::l,h=>by
  rw[CF,List.length_cons,Nat.add_mul]
  have h1:=h y (List.mem_cons_self ..)
  have h2:=Fw (Cf:=Cf) (c:=c) (l:=l) fun x hx=>h x (List.mem_cons_of_mem _ hx)
  omega
theorem OkA.isA{n:Nat}{t:T}(h:OkA n t):Pq t:=by
 cases n with
 | zero=>exact h.elim
 | succ n=>obtain⟨k,neg,num,den,text,ref,l,e,_⟩:=h;exact⟨_,_,_,_,_,_,_,e⟩
theorem Mj{t:T}(h:OkA 1 t):sz 1 t≤2:=by
 obtain⟨k,neg,num,den,text,ref,l,rfl,h1,h2,_⟩:=h
 rw[sz,NC]
 cases l with
 | nil=>simp[sm]
 | cons x l=>exact(h2 x (List.mem_cons_self ..)).elim
theorem Y8{n c:Nat}(ih:∀t,OkA n t→sz n t≤c){t:T}(h:OkA (n+1) t):sz (n+1) t≤2+4*(c+1):=by
 obtain⟨k,neg,num,den,text,ref,l,rfl,h1,h2,_⟩:=h
 rw[sz,NC]
 have:=Fw (Cf:=sz n) (c:=c) (l:=l) fun x hx=>ih x (h2 x hx)
 have h3:l.length*(c+1)≤4*(c+1):=Nat.mul_le_mul_right _ h1
 omega
theorem US{t:T}(h:OkA 3 t):sz 3 t≤62:=Y8 (n:=2) (c:=14) (fun t h=>Y8 (n:=1) (c:=2) (fun t h=>Mj h) h) h
theorem SG:∀(n d mv mr:Nat) (t:T),OkA n t→d≤8→n≤mv→n≤mr→sz n t≤100000→AB mv mr (sz n t) d t
 | 0,_,_,_,_,h,_,_,_,_=>h.elim
 | n+1,d,mv,mr,t,h,hd,hmv,hmr,hs=>by
  obtain⟨k,neg,num,den,text,ref,l,rfl,h1,h2,hD,hz,⟨s,rfl,hsl⟩,r0,r1⟩:=h
  rw[sz,NC] at hs ⊢
  obtain⟨mv,rfl⟩:∃m,mv=m+1:=⟨mv-1,by omega⟩
  obtain⟨mr,rfl⟩:∃m,mr=m+1:=⟨mr-1,by omega⟩
  refine Mg hD hz hsl r0 r1 hd (by omega) fun _ h8=>SF (by omega) (fun x hx=>⟨(h2 x hx).isA,?_⟩) (by omega)
  have:=Fv (Cf:=sz n) hx
  exact SG n (d+1) mv mr x (h2 x hx) (by omega) (by omega) (by omega) (by omega)
def RB(name:ByteArray)(args:List T):Prop:=(∃(iO:List Tk) (e:Int),dE (name,args,())=some (iO.map eE,e,())∧Sh iO∧iO.length≤300 ∧
 ∀o:List Tk,o.length+300≤16384→∃o':List Tk,aQ ((),name,args,o.map eE,(0:Int),())=some (o'.map eE,e,())∧(e=0→o'=o++iO)∧o'.length≤o.length+300) ∧
 ∀(out:List T) (e:Int),e≠0→aQ ((),name,args,out,e,())=some (out,e,())
def eD:Bs:=[69,78,68,83,69,67]
theorem Jd:ByteArray.mk #[69,78,68,83,69,67]=bs eD:=rfl
theorem xZ{l:List T}{d e:Int}{out:List T}(he:e≠0):dY ((),l,d,out,e,())=some (out,e,()):=GQ (m:=19) he
theorem Fx{name:ByteArray}{args:List T}(hn:jS name)(hlb:LB 20 20 296 0 args):RB name args:=by
 obtain⟨s,rfl,hs⟩:=hn
 have hs':s.length≤1000:=by omega
 constructor
 ·obtain⟨iO,e,g1,g2,g3,g4⟩:=hlb
  have g1':oY (args,(0:Int),())=some (iO.map eE,e,()):=g1
  by_cases hbad:cG 1 s=true∧s≠eD
  ·obtain⟨hv,hne⟩:=hbad
   by_cases he:e=0
   ·subst he
    refine⟨[(1,s,0)]++iO++[(9,[],0)],0,?_,((Sh.one hs).app g2).app (Sh.one (Nat.zero_le _)),by simp <;> omega,fun o ho=>?_⟩
    ·unfold dE
     simp only[xB,bC,UR hs',hv,Bool.not_true,cond_false,Jd,mY,decide_eq_false hne,g1',bZ,decide_true,Bl,BU]
     rw[kR _ _ (by simp <;> omega)]
     simp only[bC]
     rw[kR _ _ (by simp <;> omega)]
     rfl
    ·obtain⟨o',h1,h2,h3⟩:=g4 (o++[(1,s,0)]) (by simp <;> omega)
     have h1':dY ((),args,(0:Int),(o++[(1,s,0)]).map eE,(0:Int),())=some (o'.map eE,(0:Int),()):=h1
     have h3':o'.length≤o.length+299:=by simp at h3;omega
     refine⟨o'++[(9,[],0)],?_,fun _=>by rw[h2 rfl];simp,by simp <;> omega⟩
     unfold aQ
     simp only[Jd,mY,decide_eq_false hne,cond_false,bC,aM,SD hs' hv (show o.length≤16384 by omega),h1',Bl,uA (show o'.length≤16384 by omega)]
   ·refine⟨[],e,?_,Sh.nil,Nat.zero_le _,fun o ho=>?_⟩
    ·unfold dE
     simp only[xB,bC,UR hs',hv,Bool.not_true,cond_false,Jd,mY,decide_eq_false hne,g1',bZ,decide_eq_false he,Bool.not_false,cond_true,List.map_nil]
    ·obtain⟨o',h1,h2,h3⟩:=g4 (o++[(1,s,0)]) (by simp <;> omega)
     have h1':dY ((),args,(0:Int),(o++[(1,s,0)]).map eE,(0:Int),())=some (o'.map eE,e,()):=h1
     refine⟨o',?_,fun h=>absurd h he,by simp at h3;omega⟩
     unfold aQ
     simp only[Jd,mY,decide_eq_false hne,cond_false,bC,aM,SD hs' hv (show o.length≤16384 by omega),h1',cI he]
  ·refine⟨[],41,?_,Sh.nil,Nat.zero_le _,fun o ho=>⟨o,?_,fun h=>absurd h I0,by omega⟩⟩
   ·unfold dE
    simp only[xB,bC,UR hs',Jd,mY]
    cases hv:cG 1 s with
    | false=>simp only[Bool.not_false,cond_true,List.map_nil]
    | true=>
     have:s=eD:=by
      by_cases h:s=eD
      ·exact h
      ·exact absurd ⟨hv,h⟩ hbad
     rw[decide_eq_true this]
     simp only[Bool.not_true,cond_false,cond_true,List.map_nil]
   ·unfold aQ
    simp only[Jd,mY]
    by_cases h:s=eD
    ·rw[decide_eq_true h]
     simp only[cond_true,BT,bC,aM,uB hs' I0,xZ I0,cI I0]
    ·have hv:cG 1 s=false:=by
      cases hv:cG 1 s with
      | false=>rfl
      | true=>exact absurd ⟨hv,h⟩ hbad
     rw[decide_eq_false h]
     simp only[cond_false,bC,aM,EU hs' hv,xZ I0,cI I0]
 ·intro out e he
  unfold aQ
  simp only[Jd,mY]
  by_cases h:s=eD
  ·rw[decide_eq_true h]
   simp only[cond_true,nC he,bC,aM,uB hs' he,xZ he,cI he]
  ·rw[decide_eq_false h]
   simp only[cond_false,bC,aM,uB hs' he,xZ he,cI he]
theorem LB.mono{mv mr C C' d:Nat}{l:List T}(h:LB mv mr C d l)(hC:C≤C'):LB mv mr C' d l:=by
 obtain⟨t,e,g1,g2,g3,g4⟩:=h
 refine⟨t,e,g1,g2,by omega,fun o ho=>?_⟩
 obtain⟨o',h1,h2,h3⟩:=g4 o (by omega)
 exact⟨o',h1,h2,by omega⟩
theorem UT{name:ByteArray}{args:List T}(hn:jS name)(h4:args.length≤4)(h:∀x∈args,OkA 3 x):RB name args:=by
 have hs:=Fw (Cf:=sz 3) (c:=62) (l:=args) fun x hx=>US (h x hx)
 have h3:args.length*(62+1)≤4*63:=Nat.mul_le_mul_right _ h4
 refine Fx hn ((SF (mv:=19) (mr:=19) (Cf:=sz 3) (by omega) (fun x hx=>⟨(h x hx).isA,?_⟩) (by omega)).mono (by omega))
 exact SG 3 0 19 19 x (h x hx) (by omega) (by omega) (by omega) (by have:=US (h x hx);omega)
end Go.Eng.Et
namespace Go.Eng.Et
open Go.Eng
open Go.Eng.Lex (Tk eE cG HZ fP uH fF gQ mx)
def bJ(w:Bs):List Tk:=[(1,w,0),(9,[],0)]
theorem Mk(w:Bs):eY (bs w,())=some ((bJ w).map eE,()):=rfl
theorem Fy(a b:ByteArray)(l:List T)(h:l=[T.v (.string a),T.v (.string b)]):idxL l (0:Int)=some (T.v (.string a))∧idxL l (1:Int)=some (T.v (.string b)):=by
 subst h
 exact⟨cC _ 0,cC _ 1⟩
theorem Pz:wr .i64 ((0:Int)+1)=1:=by rw[jQ (by decide) (by decide)];rfl
theorem Qa:wr .i64 ((1:Int)+1)=2:=by rw[jQ (by decide) (by decide)];rfl
theorem W7{o:List Tk}(a b:Bs)(h:o.length+4≤16384):bA ((),[T.v (.string (bs a)),T.v (.string (bs b))],o.map eE,(0:Int),())=some ((o++(bJ a++bJ b)).map eE,0,()):=by
 obtain⟨g0,g1⟩:=Fy (bs a) (bs b) _ rfl
 unfold bA
 simp only[bD,List.length_cons,List.length_nil]
 rw[bX (s':=((),[T.v (.string (bs a)),T.v (.string (bs b))],2,1,(o++[(1,a,0)]++[(9,[],0)]).map eE,0,())) (by
  unfold bS
  simp only[aG,g0,bC,wG,iL,uA (show o.length≤16384 by omega),Bl,uA (show (o++[((1:Int),a,(0:Int))]).length≤16384 by simp <;> omega),aY,Pz]
  rfl)]
 rw[bX (s':=((),[T.v (.string (bs a)),T.v (.string (bs b))],2,2,(o++[(1,a,0)]++[(9,[],0)]++[(1,b,0)]++[(9,[],0)]).map eE,0,())) (by
  unfold bS
  simp only[aG,g1,bC,wG,iL,uA (show (o++[((1:Int),a,(0:Int))]++[((9:Int),([]:Bs),(0:Int))]).length≤16384 by simp <;> omega),Bl,uA (show (o++[((1:Int),a,(0:Int))]++[((9:Int),([]:Bs),(0:Int))]++[((1:Int),b,(0:Int))]).length≤16384 by simp <;> omega),aY,Qa]
  rfl)]
 rw[aT (e:=.inl ((o++[(1,a,0)]++[(9,[],0)]++[(1,b,0)]++[(9,[],0)]).map eE,0,())) (by
  unfold bS
  simp only[aG]
  rfl)]
 simp only[bC,aM,bJ,List.append_assoc,List.cons_append,List.nil_append]
theorem EV{out:List T}{e:Int}(a b:ByteArray)(he:e≠0):bA ((),[T.v (.string a),T.v (.string b)],out,e,())=some (out,e,()):=by
 obtain⟨g0,g1⟩:=Fy a b _ rfl
 unfold bA
 simp only[bD,List.length_cons,List.length_nil]
 rw[bX (s':=((),[T.v (.string a),T.v (.string b)],2,1,out,e,())) (by
  unfold bS
  simp only[aG,g0,bC,wG,iL,cI he,aY,Pz]
  rfl)]
 rw[bX (s':=((),[T.v (.string a),T.v (.string b)],2,2,out,e,())) (by
  unfold bS
  simp only[aG,g1,bC,wG,iL,cI he,aY,Qa]
  rfl)]
 rw[aT (e:=.inl (out,e,())) (by
  unfold bS
  simp only[aG]
  rfl)]
 simp only[bC,aM]
def HB(x:T):Prop:=∃name args,x=J0 name args∧RB name args
def EB(x:T):Prop:=∃id name args,x=vU id name args∧RB name args∧0≤id∧id≤20
theorem OkRec.hb{x:T}(h:OkRec x):HB x:=by
 obtain⟨name,args,e,h1,h2,h3⟩:=h
 exact⟨name,args,e,UT h3 h1 h2⟩
theorem OkE.eb{x:T}(h:OkE x):EB x:=by
 obtain⟨id,name,args,e,h1,h2,h3,h4,h5⟩:=h
 exact⟨id,name,args,e,UT h3 h1 h2,h4,h5⟩
section
variable {H D:List T}
theorem Y9(hl:H.length≤1000)(hH:∀x∈H,HB x){out H':List T}{e:Int}(he:e≠0):∀j i,i+j=H.length →
 aF c9 ((),(),H,(H.length:Int),(i:Int),H',D,out,e,())=some (.inl ((),(),H',D,out,e,()))
 | 0,i,hi=>by
  rw[aT (e:=.inl ((),(),H',D,out,e,())) (by
   unfold c9
   simp only[aG]
   rw[decide_eq_false (by omega)]
   rfl)]
 | j+1,i,hi=>by
  obtain⟨x,hx⟩:∃x,H[i]?=some x:=⟨_,List.getElem?_eq_getElem (by omega)⟩
  obtain⟨name,args,rfl,hrb⟩:=hH x (List.mem_of_getElem? hx)
  rw[bX (s':=((),(),H,(H.length:Int),((i+1:Nat):Int),H',D,out,e,()) ) (by
   unfold c9
   simp only[aG,cC,hx,bC,show T.cell (J0 name args) 0=.v (.string name) from rfl,show T.cell (J0 name args) 1=.sl 7 args from rfl,iL,CH,hrb.2 out e he,aY]
   rw[decide_eq_true (by omega),jQ (by omega) (by omega)]
   rfl)]
  exact Y9 hl hH he j (i+1) (by omega)
theorem W8(hl:H.length≤1000)(hH:∀x∈H,HB x){H':List T}:∀j i,i+j=H.length→∃(iO:List Tk) (e:Int),Sh iO∧iO.length≤j*300 ∧
 (∀acc:List Tk,acc.length+j*300≤400000→aF gX ((),acc.map eE,(i:Int),H,D,())=some (if e=0 then .inr (.inl ((),(acc++iO).map eE,H,D,())) else .inl (bs [],e,()))) ∧
 (∀o:List Tk,o.length+j*300≤16384→∃o':List Tk,aF c9 ((),(),H,(H.length:Int),(i:Int),H',D,o.map eE,(0:Int),())=some (.inl ((),(),H',D,o'.map eE,e,()))∧(e=0→o'=o++iO)∧o'.length≤o.length+j*300)
 | 0,i,hi=>by
  refine⟨[],0,Sh.nil,Nat.zero_le _,fun acc ha=>?_,fun o ho=>⟨o,?_,fun _=>(List.append_nil o).symm,by omega⟩⟩
  ·rw[if_pos rfl,List.append_nil]
   exact aT (by
    unfold gX
    simp only[aG,bD]
    rw[decide_eq_false (by omega)]
    rfl)
  ·exact aT (by
    unfold c9
    simp only[aG]
    rw[decide_eq_false (by omega)]
    rfl)
 | j+1,i,hi=>by
  obtain⟨x,hx⟩:∃x,H[i]?=some x:=⟨_,List.getElem?_eq_getElem (by omega)⟩
  obtain⟨name,args,rfl,⟨t1,e1,f1,f2,f3,f4⟩,hrb⟩:=hH x (List.mem_of_getElem? hx)
  obtain⟨t2,e2,g1,g2,g3,g4⟩:=W8 hl hH (H':=H') j (i+1) (by omega)
  have c0:T.cell (J0 name args) 0=.v (.string name):=rfl
  have c1:T.cell (J0 name args) 1=.sl 7 args:=rfl
  have hw:wr .i64 ((i:Int)+1)=((i+1:Nat):Int):=by rw[jQ (by omega) (by omega)];rfl
  have hi1:(i:Int)<(H.length:Int):=by omega
  have st:∀(o:List Tk) (o':List Tk),aQ ((),name,args,o.map eE,(0:Int),())=some (o'.map eE,e1,()) →
   c9 ((),(),H,(H.length:Int),(i:Int),H',D,o.map eE,(0:Int),())=some (.inl ((),(),H,(H.length:Int),((i+1:Nat):Int),H',D,o'.map eE,e1,())):=fun o o' h=>by
   unfold c9
   simp only[aG,cC,hx,bC,c0,c1,iL,CH,h,aY,hw]
   rw[decide_eq_true hi1]
   rfl
  by_cases he:e1=0
  ·subst he
   refine⟨t1++t2,e2,f2.app g1,by rw[List.length_append];omega,fun acc ha=>?_,fun o ho=>?_⟩
   ·rw[bX (s':=((),(acc++t1).map eE,((i+1:Nat):Int),H,D,())) (by
     unfold gX
     simp only[aG,bD,cC,hx,bC,c0,c1,iL,CH,f1,bZ,decide_true,Bool.not_true,cond_false,aY,hw]
     rw[decide_eq_true hi1,kR _ _ (by omega)]
     rfl),g3 _ (by rw[List.length_append];omega)]
    simp only[List.append_assoc]
   ·obtain⟨o1,h1,h2,h3⟩:=f4 o (by omega)
    have s1:=st o o1 h1
    rw[h2 rfl] at s1 h3
    obtain⟨o2,k1,k2,k3⟩:=g4 (o++t1) (by rw[List.length_append];omega)
    refine⟨o2,by rw[bX s1];exact k1,fun h=>by rw[k2 h];simp only[List.append_assoc],?_⟩
    rw[List.length_append] at k3
    omega
  ·refine⟨[],e1,Sh.nil,Nat.zero_le _,fun acc ha=>?_,fun o ho=>?_⟩
   ·rw[if_neg he]
    exact aT (by
     unfold gX
     simp only[aG,bD,cC,hx,bC,c0,c1,iL,CH,f1,bZ,decide_eq_false he,Bool.not_false,cond_true]
     rw[decide_eq_true hi1]
     rfl)
   ·obtain⟨o1,h1,h2,h3⟩:=f4 o (by omega)
    refine⟨o1,by rw[bX (st o o1 h1)];exact Y9 hl hH he j (i+1) (by omega),fun h=>absurd h he,by omega⟩
theorem KF(hl:D.length≤1000)(hD:∀x∈D,EB x){out:List T}{e:Int}(he:e≠0):∀j i,i+j=D.length →
 aF cP ((),D,(D.length:Int),(i:Int),out,e,())=some (.inl ((),out,e,()))
 | 0,i,hi=>by
  rw[aT (e:=.inl ((),out,e,())) (by
   unfold cP
   simp only[aG]
   rw[decide_eq_false (by omega)]
   rfl)]
 | j+1,i,hi=>by
  obtain⟨x,hx⟩:∃x,D[i]?=some x:=⟨_,List.getElem?_eq_getElem (by omega)⟩
  obtain⟨id,name,args,rfl,hrb,i0,i1⟩:=hD x (List.mem_of_getElem? hx)
  rw[bX (s':=((),D,(D.length:Int),((i+1:Nat):Int),out,e,())) (by
   unfold cP
   simp only[aG,cC,hx,bC,show T.cell (vU id name args) 0=tI id from rfl,show T.cell (vU id name args) 1=.v (.string name) from rfl,show T.cell (vU id name args) 2=.sl 7 args from rfl,wF,iL,CH,PY i0 i1 he,cI he,hrb.2 out e he,aY]
   rw[decide_eq_true (by omega),jQ (by omega) (by omega)]
   rfl)]
  exact KF hl hD he j (i+1) (by omega)
theorem Qb(hl:D.length≤1000)(hD:∀x∈D,EB x):∀j i,i+j=D.length→∃(iO:List Tk) (e:Int),Sh iO∧iO.length≤j*302 ∧
 (∀acc:List Tk,acc.length+j*302≤400000→aF fL ((),acc.map eE,(i:Int),H,D,())=some (if e=0 then .inr (.inl ((acc++iO).map eE,())) else .inl (bs [],e,()))) ∧
 (∀o:List Tk,o.length+j*302≤16384→∃o':List Tk,aF cP ((),D,(D.length:Int),(i:Int),o.map eE,(0:Int),())=some (.inl ((),o'.map eE,e,()))∧(e=0→o'=o++iO)∧o'.length≤o.length+j*302)
 | 0,i,hi=>by
  refine⟨[],0,Sh.nil,Nat.zero_le _,fun acc ha=>?_,fun o ho=>⟨o,?_,fun _=>(List.append_nil o).symm,by omega⟩⟩
  ·rw[if_pos rfl,List.append_nil]
   exact aT (by
    unfold fL
    simp only[aG,bD]
    rw[decide_eq_false (by omega)]
    rfl)
  ·exact aT (by
    unfold cP
    simp only[aG]
    rw[decide_eq_false (by omega)]
    rfl)
 | j+1,i,hi=>by
  obtain⟨x,hx⟩:∃x,D[i]?=some x:=⟨_,List.getElem?_eq_getElem (by omega)⟩
  obtain⟨id,name,args,rfl,⟨⟨t1,e1,f1,f2,f3,f4⟩,hrb⟩,i0,i1⟩:=hD x (List.mem_of_getElem? hx)
  obtain⟨t2,e2,g1,g2,g3,g4⟩:=Qb hl hD j (i+1) (by omega)
  have c0:T.cell (vU id name args) 0=tI id:=rfl
  have c1:T.cell (vU id name args) 1=.v (.string name):=rfl
  have c2:T.cell (vU id name args) 2=.sl 7 args:=rfl
  have hw:wr .i64 ((i:Int)+1)=((i+1:Nat):Int):=by rw[jQ (by omega) (by omega)];rfl
  have hi1:(i:Int)<(D.length:Int):=by omega
  by_cases hid:id<1
  ·have:id=0:=by omega
   subst this
   have e2':(2:Int)≠0:=by decide
   refine⟨[],2,Sh.nil,Nat.zero_le _,fun acc ha=>?_,fun o ho=>⟨o,?_,fun h=>absurd h e2',by omega⟩⟩
   ·rw[if_neg e2']
    exact aT (by
     unfold fL
     simp only[aG,bD,cC,hx,bC,c0,wF]
     rw[decide_eq_true hi1]
     rfl)
   ·rw[bX (s':=((),D,(D.length:Int),((i+1:Nat):Int),o.map eE,2,())) (by
     unfold cP
     simp only[aG,cC,hx,bC,c0,c1,c2,wF,iL,CH,PX,cI e2',hrb _ _ e2',aY,hw]
     rw[decide_eq_true hi1]
     rfl)]
    exact KF hl hD e2' j (i+1) (by omega)
  have hnl:¬(2147483647:Int)<id:=by omega
  have st:∀(o o':List Tk),o.length+2≤16384→aQ ((),name,args,(o++[(5,dg id,0)]++[(10,[],0)]).map eE,(0:Int),())=some (o'.map eE,e1,()) →
   cP ((),D,(D.length:Int),(i:Int),o.map eE,(0:Int),())=some (.inl ((),D,(D.length:Int),((i+1:Nat):Int),o'.map eE,e1,())):=fun o o' ho h=>by
   unfold cP
   simp only[aG,cC,hx,bC,c0,c1,c2,wF,iL,CH,Kd (show 1≤id by omega) i1 (show o.length≤16384 by omega),Bl,uA (show (o++[((5:Int),dg id,(0:Int))]).length≤16384 by simp <;> omega),h,aY,hw]
   rw[decide_eq_true hi1]
   rfl
  by_cases he:e1=0
  ·subst he
   refine⟨[(5,dg id,0),(10,[],0)]++t1++t2,e2,?_,by simp <;> omega,fun acc ha=>?_,fun o ho=>?_⟩
   ·refine Sh.app (Sh.app (fun x hx=>?_) f2) g1
    rcases List.mem_cons.1 hx with rfl | hx
    ·exact(CE i0 i1).2
    ·exact Sh.one (x:=((10:Int),([]:Bs),(0:Int))) (Nat.zero_le _) x hx
   ·rw[bX (s':=((),(acc++[(5,dg id,0),(10,[],0)]++t1).map eE,((i+1:Nat):Int),H,D,())) (by
     unfold fL
     simp only[aG,bD,cC,hx,bC,c0,c1,c2,wF,iL,CH,f1,bZ,decide_true,Bool.not_true,cond_false,(CE i0 i1).1,xB,Bl,aY,hw]
     rw[decide_eq_true hi1,decide_eq_false hid,decide_eq_false hnl]
     rw[show ([T.agg [T.v (.int .i64 5),T.v (.string (bs (dg id))),T.v (.int .i64 0)],T.agg [T.v (.int .i64 10),T.v (.string (bs [])),T.v (.int .i64 0)]]:List T)=[((5:Int),dg id,(0:Int)),(10,[],0)].map eE from rfl,kR _ _ (by simp <;> omega)]
     simp only[bC,cond_true,cond_false]
     rw[kR _ _ (by simp <;> omega)]
     rfl),g3 _ (by simp <;> omega)]
    simp only[List.append_assoc]
   ·obtain⟨o1,h1,h2,h3⟩:=f4 (o++[(5,dg id,0)]++[(10,[],0)]) (by simp <;> omega)
    have s1:=st o o1 (by omega) h1
    rw[h2 rfl] at s1 h3
    obtain⟨o2,k1,k2,k3⟩:=g4 (o++[(5,dg id,0)]++[(10,[],0)]++t1) (by simp <;> omega)
    refine⟨o2,by rw[bX s1];exact k1,fun h=>by rw[k2 h];simp only[List.append_assoc,List.cons_append,List.nil_append],?_⟩
    simp at k3
    omega
  ·refine⟨[],e1,Sh.nil,Nat.zero_le _,fun acc ha=>?_,fun o ho=>?_⟩
   ·rw[if_neg he]
    exact aT (by
     unfold fL
     simp only[aG,bD,cC,hx,bC,c0,c1,c2,wF,iL,CH,f1,bZ,decide_eq_false he,Bool.not_false,cond_true]
     rw[decide_eq_true hi1,decide_eq_false hid,decide_eq_false hnl]
     rfl)
   ·obtain⟨o1,h1,h2,h3⟩:=f4 (o++[(5,dg id,0)]++[(10,[],0)]) (by simp <;> omega)
    refine⟨o1,by rw[bX (st o o1 (by omega) h1)];exact KF hl hD he j (i+1) (by omega),fun h=>absurd h he,?_⟩
    simp at h3
    omega
end
end Go.Eng.Et
namespace Go.Eng.Et
open Go.Eng
open Go.Eng.Lex (Tk eE cG HZ fP uH fF gQ mx)
def BV:Bs:=[73,83,79,45,49,48,51,48,51,45,50,49]
def GR:Bs:=[72,69,65,68,69,82]
def H0:Bs:=[68,65,84,65]
def J4:Bs:=[69,78,68,45,73,83,79,45,49,48,51,48,51,45,50,49]
theorem Qc:ByteArray.mk #[73,83,79,45,49,48,51,48,51,45,50,49]=bs BV:=rfl
theorem Qd:ByteArray.mk #[72,69,65,68,69,82]=bs GR:=rfl
theorem Qe:ByteArray.mk #[68,65,84,65]=bs H0:=rfl
theorem Qf:ByteArray.mk #[69,78,68,45,73,83,79,45,49,48,51,48,51,45,50,49]=bs J4:=rfl
theorem o9(w:Bs):(bJ w).length=2:=rfl
theorem Sh.line{w:Bs}(h:w.length≤100):Sh (bJ w):=fun x hx=>by
 rcases List.mem_cons.1 hx with rfl | hx
 ·exact h
 ·exact Sh.one (x:=((9:Int),([]:Bs),(0:Int))) (Nat.zero_le _) x hx
theorem Je(r:List Tk):fP false (bJ BV++r)≠[]:=by
 rw[show bJ BV++r=(1,BV,0)::((9,[],0)::r) from rfl,fP]
 have:uH 1 BV≠[]:=by decide
 intro h
 simp only[List.append_eq_nil_iff] at h
 exact this h.1.2
set_option maxHeartbeats 8000000 in
set_option maxRecDepth 100000 in
theorem Bh{H D:List T}(hl:H.length≤4)(hd:D.length≤16)(hH:∀x∈H,HB x)(hD:∀x∈D,EB x):∃(s:Bs) (e:Int),kC (H,D,())=some (bs s,e,())∧lZ (H,D,())=some (bs s,e,()):=by
 obtain⟨t1,e1,f1,f2,f3,f4⟩:=W8 (D:=D) (H':=H) (by omega) hH H.length 0 (by omega)
 obtain⟨t2,e2,g1,g2,g3,g4⟩:=Qb (H:=H) (by omega) hD D.length 0 (by omega)
 rw[show ((0:Nat):Int)=0 from rfl] at f3 f4 g3 g4
 have hb:¬(2048:Int)<(D.length:Int):=by omega
 have m1:H.length*300≤4*300:=Nat.mul_le_mul_right _ hl
 have m2:D.length*302≤16*302:=Nat.mul_le_mul_right _ hd
 obtain⟨o1,k1,k2,k3⟩:=f4 (bJ BV++bJ GR) (by simp only[List.length_append,o9];omega)
 have r0:lZ (H,D,())=ob (aF gX ((),(bJ BV++bJ GR).map eE,(0:Int),H,D,())) fun q9=>bB q9 (fun t10=>(some (t10.1,t10.2.1,()))) fun q11=>bB q11 (fun t12=>(ob (room t12.2.1 ((bJ eD).map eE) 32) fun x14=>(ob (room x14 ((bJ H0).map eE) 32) fun x16=>(ob (aF fL ((),x16,(0:Int),t12.2.2.1,t12.2.2.2.1,())) fun q30=>bB q30 (fun t31=>(some (t31.1,t31.2.1,()))) fun q32=>bB q32 (fun t33=>(ob (room t33.1 ((bJ eD).map eE) 32) fun x35=>(ob (room x35 ((bJ J4).map eE) 32) fun x37=>(ob (oU (x37,())) fun x38=>(bif (ltI (65536:Int) (lenS x38.1)) then (some (bs [],(2:Int),())) else (bif (ltI (16384:Int) (lenL x37)) then (some (bs [],(2:Int),())) else (some (x38.1,(0:Int),())))))))) fun q39=>b0 q39)))) fun q40=>b0 q40:=by
  unfold lZ
  simp only[aG,bD]
  rw[decide_eq_false hb]
  simp only[cond_false,Qc,Qd,Jd,Qe,Qf,Mk,bC]
  rw[kR _ _ (by simp only[o9];omega)]
  rfl
 have p0:kC (H,D,())=ob (aF c9 ((),(),H,(H.length:Int),(0:Int),H,D,(bJ BV++bJ GR).map eE,(0:Int),()))  fun q6=>bB q6 (fun t7=>(ob (bA ((),[(T.v (.string (bs eD))),(T.v (.string (bs H0)))],t7.2.2.2.2.1,t7.2.2.2.2.2.1,())) fun x8=>(ob (aF cP ((),t7.2.2.2.1,(lenL t7.2.2.2.1),(0:Int),x8.1,x8.2.1,())) fun q17=>bB q17 (fun t18=>(ob (bA ((),[(T.v (.string (bs eD))),(T.v (.string (bs J4)))],t18.2.1,t18.2.2.1,())) fun x19=>(bif (Bool.not (eqI x19.2.1 (0:Int))) then (some (bs [],x19.2.1,())) else (ob (α:=((ByteArray×Unit)⊕Empty)) (bif (leI (lenL x19.1) (16384:Int)) then (ob (l5 (x19.1,())) fun x20=>(some (Sum.inl (x20.1,())))) else (some (Sum.inl (bs [],())))) fun q21=>bB q21 (fun t22=>(bif (eqS t22.1 (bs [])) then (some (bs [],(2:Int),())) else (bif (ltI (65536:Int) (lenS t22.1)) then (some (bs [],(2:Int),())) else (some (t22.1,(0:Int),()))))) fun q23=>b0 q23)))) fun q24=>b0 q24))) fun q25=>b0 q25:=by
  unfold kC
  simp only[aG,bD]
  rw[decide_eq_false hb]
  simp only[cond_false,Qc,Qd,Jd,Qe,Qf]
  have wl:=W7 (o:=[]) BV GR (by simp)
  rw[List.map_nil,List.nil_append] at wl
  rw[wl]
  rfl
 rw[r0,p0,k1,f3 _ (by simp only[List.length_append,o9];omega)]
 simp only[bC,aM]
 by_cases h1:e1=0
 ·subst h1
  rw[k2 rfl] at k3 ⊢
  simp only[List.length_append,o9] at k3
  rw[if_pos rfl]
  simp only[bC,aM,uP]
  rw[W7 eD H0 (by simp only[List.length_append,o9];omega),kR _ _ (by simp only[List.length_append,o9];omega)]
  simp only[bC]
  rw[kR _ _ (by simp only[List.length_append,o9];omega)]
  simp only[bC,bD]
  obtain⟨o2,j1,j2,j3⟩:=g4 (bJ BV++bJ GR++t1++(bJ eD++bJ H0)) (by simp only[List.length_append,o9];omega)
  rw[j1,g3 _ (by simp only[List.length_append,o9];omega)]
  simp only[bC,aM]
  by_cases h2:e2=0
  ·subst h2
   rw[j2 rfl] at j3 ⊢
   simp only[List.length_append,o9] at j3
   rw[if_pos rfl]
   simp only[bC,aM,uP]
   rw[W7 eD J4 (by simp only[List.length_append,o9];omega),kR _ _ (by simp only[List.length_append,o9];omega)]
   simp only[bC]
   rw[kR _ _ (by simp only[List.length_append,o9];omega)]
   simp only[bC,bZ,decide_true,Bool.not_true,cond_false,bD,rP,aG]
   have eT:bJ BV++bJ GR++t1++bJ eD++bJ H0++t2++bJ eD++bJ J4=bJ BV++bJ GR++t1++(bJ eD++bJ H0)++t2++(bJ eD++bJ J4):=by simp only[List.append_assoc]
   rw[eT]
   have hne:=Je (bJ GR++t1++(bJ eD++bJ H0)++t2++(bJ eD++bJ J4))
   rw[show bJ BV++(bJ GR++t1++(bJ eD++bJ H0)++t2++(bJ eD++bJ J4))=bJ BV++bJ GR++t1++(bJ eD++bJ H0)++t2++(bJ eD++bJ J4) from by simp only[List.append_assoc]] at hne
   have hlen:(bJ BV++bJ GR++t1++(bJ eD++bJ H0)++t2++(bJ eD++bJ J4)).length≤10000:=by simp only[List.length_append,o9];omega
   have hsh:Sh (bJ BV++bJ GR++t1++(bJ eD++bJ H0)++t2++(bJ eD++bJ J4)):=
    ((((Sh.line (by decide)).app (Sh.line (by decide))).app f1).app ((Sh.line (by decide)).app (Sh.line (by decide)))).app g1 |>.app ((Sh.line (by decide)).app (Sh.line (by decide)))
   generalize bJ BV++bJ GR++t1++(bJ eD++bJ H0)++t2++(bJ eD++bJ J4)=X at hne hlen hsh
   have hmx:∀x∈X,x.2.1.length<mx:=fun x hx=>by have:=hsh x hx;unfold mx;omega
   rw[Go.Eng.s_lexText ⟨hmx,hlen⟩,Lex.r_Text hmx hlen]
   have q1:(X.length:Int)≤16384:=by omega
   have q2:¬(16384:Int)<(X.length:Int):=by omega
   rw[List.length_map,decide_eq_true q1,decide_eq_false q2]
   simp only[cond_true,cond_false,bC,aM,mY,decide_eq_false hne,gN]
   by_cases h:(65536:Int)<((fP false X).length:Int)
   ·rw[decide_eq_true h]
    exact⟨[],2,rfl,rfl⟩
   ·rw[decide_eq_false h]
    exact⟨fP false X,0,rfl,rfl⟩
  ·rw[if_neg h2,EV _ _ h2]
   simp only[bC,aM,bZ,decide_eq_false h2,Bool.not_false,cond_true]
   exact⟨[],e2,rfl,rfl⟩
 ·rw[if_neg h1,EV _ _ h1]
  simp only[bC,aM,bD]
  rw[show (0:Int)=((0:Nat):Int) from rfl,KF (by omega) hD h1 D.length 0 (by omega)]
  simp only[bC,aM]
  rw[EV _ _ h1]
  simp only[bC,bZ]
  rw[show ((0:Nat):Int)=0 from rfl,decide_eq_false h1]
  exact⟨[],e1,rfl,rfl⟩
end Go.Eng.Et
namespace Go.Eng.Et
open Go.Eng
theorem OkA.up:∀{n:Nat} {t:T},OkA n t→OkA (n+1) t
 | 0,_,h=>h.elim
 | n+1,t,⟨k,neg,num,den,text,ref,l,e,hl,hs,hq⟩=>⟨k,neg,num,den,text,ref,l,e,hl,fun x hx=>(hs x hx).up,hq⟩
theorem OkA.le{n m:Nat}{t:T}(h:OkA n t)(hm:n≤m):OkA m t:=by
 induction hm with
 | refl=>exact h
 | step _ ih=>exact ih.up
def Jf(n:Nat)(L:List T)(r:Option (Int×Bool×(List T)×(List T)×ByteArray×Int×(List T)×(List T)×Int×Unit)):Prop:=
 ∃k neg num den text ref l a',r=some (k,neg,num,den,text,ref,l,L,a',())∧OkA n (gB k neg num den text ref l)∧cF L a'
abbrev sO:T:=.v (.slice none 0 0)
abbrev xC:ByteArray:=ByteArray.mk #[]
theorem Fz{d:Nat}{L:List T}{self:(Unit×Int×(List T)×Int×Unit)→Option (Int×Bool×(List T)×(List T)×ByteArray×Int×(List T)×(List T)×Int×Unit)}(hd:d≤100)
 (hself:∀a,cF L a→Jf d L (self ((),(d:Int)-1,L,a,()))) {c a:Int} (hc0:0≤c) (hc:c≤3) (ha:cF L a):
 ∃l a',aF (cB self) ((),(d:Int),(),(),c,L,a,(0:Int),Bool.false,sO,sO,xC,(0:Int),sO,(6:Int),Bool.false,sO,sO,xC,(0:Int),[],()) =
  some (.inl ((),(),L,a',(0:Int),Bool.false,sO,sO,xC,(0:Int),sO,(6:Int),Bool.false,sO,sO,xC,(0:Int),l,()))∧l.length≤3∧(∀x∈l,OkA d x)∧cF L a':=by
 obtain⟨e,h1,l,a',h2,h3,h4,h5⟩:=wH (F:=cB self)
  (fun s=>∃c a l,s=((),(d:Int),(),(),c,L,a,(0:Int),Bool.false,sO,sO,xC,(0:Int),sO,(6:Int),Bool.false,sO,sO,xC,(0:Int),l,())∧0≤c∧(l.length:Int)+c≤3∧(∀x∈l,OkA d x)∧cF L a)
  (fun s=>s.2.2.2.2.1.toNat)
  (fun e=>∃l a',e=.inl ((),(),L,a',(0:Int),Bool.false,sO,sO,xC,(0:Int),sO,(6:Int),Bool.false,sO,sO,xC,(0:Int),l,())∧l.length≤3∧(∀x∈l,OkA d x)∧cF L a')
  (fun s hs=>by
   obtain⟨c,a,l,rfl,hc0,hcl,hl,ha⟩:=hs
   by_cases h:0<c
   ·left
    obtain⟨k,neg,num,den,text,ref,q,a2,hr,hok,ha2⟩:=hself a ha
    refine⟨_,?_,⟨c-1,a2,l++[gB k neg num den text ref q],rfl,by omega,by simp;omega,fun x hx=>?_,ha2⟩,?_⟩
    ·unfold cB
     simp only[aG,lQ]
     rw[decide_eq_true h,jQ (n:=(d:Int)-1) (by omega) (by omega),jQ (n:=c-1) (by omega) (by omega),hr]
     simp only[cond_true,bC]
     rw[hM (by simp;omega) (by decide)]
     rfl
    ·rcases List.mem_append.1 hx with hx | hx
     ·exact hl x hx
     ·rw[List.mem_singleton] at hx;exact hx▸hok
    ·show (c-1).toNat<c.toNat
     omega
   ·right
    refine⟨_,?_,l,a,rfl,by omega,hl,ha⟩
    unfold cB
    simp only[aG]
    rw[decide_eq_false h]
    rfl) _ ⟨c,a,[],rfl,hc0,by simp;omega,fun x hx=>by simp at hx,ha⟩
 exact⟨l,a',h2▸h1,h3,h4,h5⟩
theorem UU{R:Type}{l:List T}{i:Int}{k:ByteArray→Option R}(h0:0≤i)(h1:i<l.length)(hs:∀x∈l,∃s,x=.v (.string s)∧jS s):∃s,jS s∧(ob (chkI (lenL l) i) fun x1=>ob (idxN l x1) fun x2=>ob (T.str? (T.cell x2 0)) k)=k s:=by
 rw[bD,AN h0 h1]
 obtain⟨x,hx⟩:∃x,l[i.toNat]?=some x:=⟨_,List.getElem?_eq_getElem (by omega)⟩
 obtain⟨s,rfl,ht⟩:=hs x (List.mem_of_getElem? hx)
 exact⟨s,ht,by simp[hx]⟩
theorem UV{R:Type}{l:List T}{i:Int}{k:Int→Option R}{P:Int→Prop}(h0:0≤i)(h1:i<l.length)(hs:∀x∈l,∃z,x=tI z∧P z):∃z,P z∧(ob (chkI (lenL l) i) fun x1=>ob (idxN l x1) fun x2=>ob (T.int? .i64 (T.cell x2 0)) k)=k z:=by
 rw[bD,AN h0 h1]
 obtain⟨x,hx⟩:∃x,l[i.toNat]?=some x:=⟨_,List.getElem?_eq_getElem (by omega)⟩
 obtain⟨z,rfl,hz⟩:=hs x (List.mem_of_getElem? hx)
 exact⟨z,hz,by simp[hx]⟩
theorem Ml{L:List T}{a:Int}(h:cF L a):∃s a',u___brepkernelmade_Dice__Word ((),L,a,())=some (s,L,a',())∧jS s∧cF L a':=by
 obtain⟨v,a',e,h0,h1,hd⟩:=lG h (n:=12) (by decide) (by decide)
 unfold u___brepkernelmade_Dice__Word
 rw[e]
 simp only[bC]
 obtain⟨s,ht,hs⟩:=UU (k:=fun x3=>some (x3,L,a',())) h0 (l:=[(T.v (.string (ByteArray.mk #[97]))),(T.v (.string (ByteArray.mk #[98]))),(T.v (.string (ByteArray.mk #[120,48]))),(T.v (.string (ByteArray.mk #[115,48,46,49]))),(T.v (.string (ByteArray.mk #[]))),(T.v (.string (ByteArray.mk #[102,46,120,48]))),(T.v (.string (ByteArray.mk #[103,46,122,49]))),(T.v (.string (ByteArray.mk #[102,46,120,48,43,103,46,122,49]))),(T.v (.string (ByteArray.mk #[65,43]))),(T.v (.string (ByteArray.mk #[97,39,98]))),(T.v (.string (ByteArray.mk #[99,32,100]))),(T.v (.string (ByteArray.mk #[195,169])))]) (by simpa using h1) (fun x hx=>by
  simp only[List.mem_cons,List.not_mem_nil,or_false] at hx
  rcases hx with rfl | rfl | rfl | rfl | rfl | rfl | rfl | rfl | rfl | rfl | rfl | rfl <;> exact⟨_,rfl,_,rfl,by decide⟩)
 exact⟨s,a',hs,ht,hd⟩
theorem kD{n:Nat}{k:Int}{text:ByteArray}{ref:Int}(ht:jS text)(h0:0≤ref)(h1:ref≤20):OkA (n+1) (gB k false [] [] text ref []):=⟨k,false,[],[],text,ref,[],rfl,by simp,fun x hx=>by simp at hx,V0 ht h0 h1⟩
set_option maxHeartbeats 4000000 in
theorem Ga{d:Nat}{L:List T}{a:Int}{self:(Unit×Int×(List T)×Int×Unit)→Option (Int×Bool×(List T)×(List T)×ByteArray×Int×(List T)×(List T)×Int×Unit)}(hd:d≤100)
 (hself:0<d→∀a,cF L a→Jf d L (self ((),(d:Int)-1,L,a,()))) (ha:cF L a):Jf (d+1) L (dL self ((),(d:Int),L,a,())):=by
 unfold dL
 obtain⟨v,a1,e,h0,h1,ha1⟩:=lG ha (n:=9) (by decide) (by decide)
 rw[e]
 simp only[bC,bZ]
 by_cases v0:v=0
 ·rw[decide_eq_true v0]
  obtain⟨u,a2,e,g0,g1,ha2⟩:=lG ha1 (n:=50) (by decide) (by decide)
  simp only[cond_true,e,bC,lQ]
  obtain⟨neg,num,den,eI,hD⟩:=Ff g0 g1
  rw[jQ (by omega) (by omega),eI]
  exact⟨_,_,_,_,_,_,_,a2,rfl,⟨_,_,_,_,_,_,_,rfl,by simp,fun x hx=>by simp at hx,hD,.inl rfl,Bj,by decide,by decide⟩,ha2⟩
 rw[decide_eq_false v0]
 by_cases v1:v=1
 ·rw[decide_eq_true v1]
  obtain⟨u,a2,e,g0,g1,ha2⟩:=lG ha1 (n:=99) (by decide) (by decide)
  obtain⟨u3,a3,e3,p0,p1,ha3⟩:=lG ha2 (n:=7) (by decide) (by decide)
  simp only[cond_true,cond_false,e,e3,bC,lQ]
  obtain⟨z,hz,hk⟩:=UV (P:=fun z=>z∈([1,2,8,5,1,10,3]:List Int)) (k:=fun x7=>ob (u_ref02_Frac ((wr .i64 (u-40)),x7,())) fun x8=>some ((2:Int),x8.1,x8.2.1,x8.2.2.1,(ByteArray.mk #[]),(0:Int),([]:List T),L,a3,()))
   p0 (l:=[(T.v (.int .i64 (1:Int))),(T.v (.int .i64 (2:Int))),(T.v (.int .i64 (8:Int))),(T.v (.int .i64 (5:Int))),(T.v (.int .i64 (1:Int))),(T.v (.int .i64 (10:Int))),(T.v (.int .i64 (3:Int)))]) (by simpa using p1) (fun x hx=>by
    simp only[List.mem_cons,List.not_mem_nil,or_false] at hx
    rcases hx with rfl | rfl | rfl | rfl | rfl | rfl | rfl <;> exact⟨_,rfl,by simp⟩)
  rw[hk]
  obtain⟨neg,num,den,eF,hD⟩:=Iq g0 g1 hz
  rw[jQ (by omega) (by omega),eF]
  exact⟨_,_,_,_,_,_,_,a3,rfl,⟨_,_,_,_,_,_,_,rfl,by simp,fun x hx=>by simp at hx,hD,.inr (.inl rfl),Bj,by decide,by decide⟩,ha3⟩
 rw[decide_eq_false v1]
 by_cases v2:v=2
 ·rw[decide_eq_true v2]
  obtain⟨s,a2,e,ht,ha2⟩:=Ml ha1
  simp only[cond_true,cond_false,e,bC]
  exact⟨_,_,_,_,_,_,_,a2,rfl,kD ht (by decide) (by decide),ha2⟩
 rw[decide_eq_false v2]
 by_cases v3:v=3
 ·rw[decide_eq_true v3]
  obtain⟨u,a2,e,g0,g1,ha2⟩:=lG ha1 (n:=4) (by decide) (by decide)
  simp only[cond_true,cond_false,e,bC]
  obtain⟨s,ht,hs⟩:=UU (k:=fun x13=>some ((4:Int),Bool.false,([]:List T),([]:List T),x13,(0:Int),([]:List T),L,a2,())) g0 (l:=[(T.v (.string (ByteArray.mk #[84]))),(T.v (.string (ByteArray.mk #[70]))),(T.v (.string (ByteArray.mk #[65,66,95,49]))),(T.v (.string (ByteArray.mk #[116])))]) (by simpa using g1) (fun x hx=>by
   simp only[List.mem_cons,List.not_mem_nil,or_false] at hx
   rcases hx with rfl | rfl | rfl | rfl <;> exact⟨_,rfl,_,rfl,by decide⟩)
  rw[hs]
  exact⟨_,_,_,_,_,_,_,a2,rfl,kD ht (by decide) (by decide),ha2⟩
 rw[decide_eq_false v3]
 by_cases v4:v=4
 ·rw[decide_eq_true v4]
  obtain⟨u,a2,e,g0,g1,ha2⟩:=lG ha1 (n:=6) (by decide) (by decide)
  simp only[cond_true,cond_false,e,bC,aY]
  rw[jQ (by omega) (by omega)]
  exact⟨_,_,_,_,_,_,_,a2,rfl,kD Bj (by omega) (by omega),ha2⟩
 rw[decide_eq_false v4]
 by_cases v5:v=5
 ·rw[decide_eq_true v5]
  obtain⟨u,a2,e,g0,g1,ha2⟩:=lG ha1 (n:=4) (by decide) (by decide)
  simp only[cond_true,cond_false,e,bC]
  obtain⟨z,_,hs⟩:=UV (P:=fun _=>True) (k:=fun x18=>some (x18,Bool.false,([]:List T),([]:List T),(ByteArray.mk #[]),(0:Int),([]:List T),L,a2,())) g0 (l:=[(T.v (.int .i64 (7:Int))),(T.v (.int .i64 (8:Int))),(T.v (.int .i64 (0:Int))),(T.v (.int .i64 (9:Int)))]) (by simpa using g1) (fun x hx=>by
   simp only[List.mem_cons,List.not_mem_nil,or_false] at hx
   rcases hx with rfl | rfl | rfl | rfl <;> exact⟨_,rfl,trivial⟩)
  rw[hs]
  exact⟨_,_,_,_,_,_,_,a2,rfl,kD Bj (by decide) (by decide),ha2⟩
 rw[decide_eq_false v5]
 by_cases v6:v=6
 ·rw[decide_eq_true v6]
  obtain⟨u,a2,e,g0,g1,ha2⟩:=lG ha1 (n:=2) (by decide) (by decide)
  simp only[cond_true,cond_false,e,bC]
  exact⟨_,_,_,_,_,_,_,a2,rfl,kD Bj (by omega) (by omega),ha2⟩
 rw[decide_eq_false v6]
 simp only[cond_false,aG]
 by_cases hd0:0<d
 ·rw[decide_eq_true (by omega)]
  obtain⟨u,a2,e,g0,g1,ha2⟩:=lG ha1 (n:=4) (by decide) (by decide)
  obtain⟨l,a3,hl,hl3,hls,ha3⟩:=Fz hd (hself hd0) g0 (by omega) ha2
  simp only[cond_true,e,bC]
  rw[hl]
  simp only[bC,aM,AM 1 (by decide)]
  exact⟨_,_,_,_,_,_,_,a3,rfl,⟨_,_,_,_,_,_,_,rfl,by omega,hls,V0 Bj (by decide) (by decide)⟩,ha3⟩
 ·rw[decide_eq_false (by omega)]
  simp only[cond_false,bC,aM,AM 1 (by decide)]
  exact⟨_,_,_,_,_,_,_,a1,rfl,kD Bj (by decide) (by decide),ha1⟩
theorem Kg:∀(d m:Nat),d≤7→∀{L:List T} {a:Int},cF L a→Jf (d+1) L (cN (d+1+m) ((),(d:Int),L,a,())):=by
 intro d
 induction d with
 | zero=>
  intro m _ L a ha
  rw[show 0+1+m=m+1 from by omega]
  exact Ga (d:=0) (by omega) (fun h=>by omega) ha
 | succ d ih=>
  intro m hd L a ha
  rw[show d+1+1+m=(d+1+m)+1 from by omega]
  exact Ga (d:=d+1) (by omega) (fun _ a ha=>by rw[show ((d+1:Nat):Int)-1=(d:Int) from by omega];exact ih m (by omega) ha) ha
def OkR(args:List T):Prop:=args.length≤3∧∀x∈args,OkA 3 x
theorem Gb{L:List T}{c a:Int}{n1:ByteArray}{t1 t2:T}(hc0:0≤c)(hc:c≤3)(ha:cF L a):
 ∃l a',aF bQ ((),(),(),c,L,a,n1,t1,t2,[],())=some (.inl ((),(),L,a',n1,t1,t2,l,()))∧OkR l∧cF L a':=by
 obtain⟨e,h1,l,a',h2,h3,h4⟩:=wH (F:=bQ)
  (fun s=>∃c a l,s=((),(),(),c,L,a,n1,t1,t2,l,())∧0≤c∧(l.length:Int)+c≤3∧(∀x∈l,OkA 3 x)∧cF L a)
  (fun s=>s.2.2.2.1.toNat)
  (fun e=>∃l a',e=.inl ((),(),L,a',n1,t1,t2,l,())∧OkR l∧cF L a')
  (fun s hs=>by
   obtain⟨c,a,l,rfl,hc0,hcl,hl,ha⟩:=hs
   by_cases h:0<c
   ·left
    obtain⟨k,neg,num,den,text,ref,q,a2,hr,hok,ha2⟩:=Kg 2 17 (by decide) ha
    have hr':bK ((),(2:Int),L,a,())=some (k,neg,num,den,text,ref,q,L,a2,()):=hr
    refine⟨_,?_,⟨c-1,a2,l++[gB k neg num den text ref q],rfl,by omega,by simp;omega,fun x hx=>?_,ha2⟩,?_⟩
    ·unfold bQ
     simp only[aG,lQ]
     rw[decide_eq_true h,jQ (n:=c-1) (by omega) (by omega),hr']
     simp only[cond_true,bC]
     rw[hM (by simp;omega) (by decide)]
     rfl
    ·rcases List.mem_append.1 hx with hx | hx
     ·exact hl x hx
     ·rw[List.mem_singleton] at hx;exact hx▸hok
    ·show (c-1).toNat<c.toNat
     omega
   ·right
    refine⟨_,?_,l,a,rfl,⟨by omega,hl⟩,ha⟩
    unfold bQ
    simp only[aG]
    rw[decide_eq_false h]
    rfl) _ ⟨c,a,[],rfl,hc0,by simp;omega,fun x hx=>by simp at hx,ha⟩
 exact⟨l,a',h2▸h1,h3,h4⟩
theorem UW{L:List T}{a:Int}(ha:cF L a):∃name args a',aV ((),L,a,())=some (name,args,L,a',())∧jS name∧OkR args∧cF L a':=by
 unfold aV
 obtain⟨v,a1,e,h0,h1,ha1⟩:=lG ha (n:=12) (by decide) (by decide)
 obtain⟨u,a2,e2,g0,g1,ha2⟩:=lG ha1 (n:=4) (by decide) (by decide)
 rw[e]
 simp only[bC,bD,List.length_cons,List.length_nil]
 rw[AN h0 (by omega)]
 obtain⟨i,rfl⟩:=Int.eq_ofNat_of_zero_le h0
 have hi:i<12:=by omega
 simp only[bC,Int.toNat_natCast,CB,e2]
 generalize hl:([_,_,_,_,_,_,_,_,_,_,_,_]:List T)=names
 obtain⟨x,hx⟩:∃x,names[i]?=some x:=⟨_,List.getElem?_eq_getElem (by rw[←hl];exact hi)⟩
 obtain⟨s,rfl,ht⟩:∃s,x=.v (.string s)∧jS s:=by
  have:=List.mem_of_getElem? hx
  rw[←hl] at this
  simp only[List.mem_cons,List.not_mem_nil,or_false] at this
  rcases this with rfl | rfl | rfl | rfl | rfl | rfl | rfl | rfl | rfl | rfl | rfl | rfl <;> exact⟨_,rfl,_,rfl,by decide⟩
 rw[hx]
 simp only[bC,wG]
 obtain⟨l,a3,hlo,hok,ha3⟩:=Gb (n1:=ByteArray.mk #[]) (t1:=.v (.slice none 0 0)) (t2:=.v (.string s)) g0 (by omega) ha2
 rw[hlo]
 simp only[bC,aM,iL]
 exact⟨s,l,a3,rfl,ht,hok,ha3⟩
theorem OkR.ent{id:Int}{name:ByteArray}{args:List T}(h:OkR args)(ht:jS name)(h0:0≤id)(h1:id≤20):OkE (vU id name args):=⟨id,name,args,rfl,by have:=h.1;omega,h.2,ht,h0,h1⟩
theorem OkR.rec_{name:ByteArray}{args:List T}(h:OkR args)(ht:jS name):OkRec (J0 name args):=⟨name,args,rfl,by have:=h.1;omega,h.2,ht⟩
theorem Jg{L:List T}{n c a:Int}{t1 t2:T}{d:List T}(hc0:0≤c)(hc:c≤2)(ha:cF L a):
 ∃l a',aF b4 ((),n,(),(),c,L,a,t1,t2,[],d,())=some (.inl ((),n,(),(),L,a',t1,t2,l,d,()))∧(l.length≤2∧∀x∈l,OkRec x)∧cF L a':=by
 obtain⟨e,h1,l,a',h2,h3,h4⟩:=wH (F:=b4)
  (fun s=>∃c a l,s=((),n,(),(),c,L,a,t1,t2,l,d,())∧0≤c∧(l.length:Int)+c≤2∧(∀x∈l,OkRec x)∧cF L a)
  (fun s=>s.2.2.2.2.1.toNat)
  (fun e=>∃l a',e=.inl ((),n,(),(),L,a',t1,t2,l,d,())∧(l.length≤2∧∀x∈l,OkRec x)∧cF L a')
  (fun s hs=>by
   obtain⟨c,a,l,rfl,hc0,hcl,hl,ha⟩:=hs
   by_cases h:0<c
   ·left
    obtain⟨name,args,a2,hr,ht,hok,ha2⟩:=UW ha
    refine⟨_,?_,⟨c-1,a2,l++[.agg [.v (.string name),.sl 7 args]],rfl,by omega,by simp;omega,fun x hx=>?_,ha2⟩,?_⟩
    ·unfold b4
     simp only[aG,lQ]
     rw[decide_eq_true h,jQ (n:=c-1) (by omega) (by omega),hr]
     simp only[cond_true,bC]
     rw[hM (by simp;omega) (by decide)]
     rfl
    ·rcases List.mem_append.1 hx with hx | hx
     ·exact hl x hx
     ·rw[List.mem_singleton] at hx;exact hx▸hok.rec_ ht
    ·show (c-1).toNat<c.toNat
     omega
   ·right
    refine⟨_,?_,l,a,rfl,⟨by omega,hl⟩,ha⟩
    unfold b4
    simp only[aG]
    rw[decide_eq_false h]
    rfl) _ ⟨c,a,[],rfl,hc0,by simp;omega,fun x hx=>by simp at hx,ha⟩
 exact⟨l,a',h2▸h1,h3,h4⟩
theorem Jh{L:List T}{c a:Int}{t1 t2:T}{d:List T}(hc0:0≤c)(hc:c≤16)(ha:cF L a):
 ∃l a',aF bI ((),(),(),c,L,a,t1,t2,d,[],())=some (.inl ((),(),L,a',t1,t2,d,l,()))∧Ka l∧cF L a':=by
 obtain⟨e,h1,l,a',h2,h3,h4⟩:=wH (F:=bI)
  (fun s=>∃c a l,s=((),(),(),c,L,a,t1,t2,d,l,())∧0≤c∧(l.length:Int)+c≤16∧(∀x∈l,OkE x)∧cF L a)
  (fun s=>s.2.2.2.1.toNat)
  (fun e=>∃l a',e=.inl ((),(),L,a',t1,t2,d,l,())∧Ka l∧cF L a')
  (fun s hs=>by
   obtain⟨c,a,l,rfl,hc0,hcl,hl,ha⟩:=hs
   by_cases h:0<c
   ·left
    obtain⟨b,a1,hb,ha1⟩:=BI ha (n:=8) (by decide) (by decide)
    have main:∀(id:Int) (a2:Int),cF L a2→∃name args a3,(jS name∧OkR args)∧cF L a3 ∧
     (ob (aV ((),L,a2,())) fun x12=>(ob (room l [(T.agg [(T.v (.int .i64 id)),(T.v (.string x12.1)),(T.sl 7 x12.2.1)])] 48) fun x13=>(some (Sum.inl ((),(),(),(wr .i64 (c-1)),x12.2.2.1,x12.2.2.2.1,t1,t2,d,x13,())):Option ((Unit×Unit×Unit×Int×List T×Int×T×T×List T×List T×Unit)⊕((Unit×Unit×List T×Int×T×T×List T×List T×Unit)⊕Empty))))) =
     some (Sum.inl ((),(),(),c-1,L,a3,t1,t2,d,l++[vU id name args],())):=fun id a2 ha2=>by
     obtain⟨name,args,a3,hr,ht,hok,ha3⟩:=UW ha2
     refine⟨name,args,a3,⟨ht,hok⟩,ha3,?_⟩
     rw[hr,jQ (n:=c-1) (by omega) (by omega)]
     simp only[bC]
     rw[hM (by simp;omega) (by decide)]
     rfl
    cases b with
    | true=>
     obtain⟨v,a2,e,h0,h1,ha2⟩:=lG ha1 (n:=5) (by decide) (by decide)
     obtain⟨name,args,a3,hok,ha3,hm⟩:=main v a2 ha2
     refine⟨_,?_,⟨c-1,a3,l++[vU v name args],rfl,by omega,by simp;omega,fun x hx=>?_,ha3⟩,?_⟩
     ·unfold bI
      simp only[aG,lQ]
      rw[decide_eq_true h,hb]
      simp only[cond_true,bC,e,aM]
      exact hm
     ·rcases List.mem_append.1 hx with hx | hx
      ·exact hl x hx
      ·rw[List.mem_singleton] at hx;exact hx▸hok.2.ent hok.1 (by omega) (by omega)
     ·show (c-1).toNat<c.toNat
      omega
    | false=>
     obtain⟨name,args,a3,hok,ha3,hm⟩:=main ((l.length:Int)+1) a1 ha1
     refine⟨_,?_,⟨c-1,a3,l++[vU ((l.length:Int)+1) name args],rfl,by omega,by simp;omega,fun x hx=>?_,ha3⟩,?_⟩
     ·unfold bI
      simp only[aG,lQ,aY,bD]
      rw[decide_eq_true h,hb,jQ (n:=(l.length:Int)+1) (by omega) (by omega)]
      simp only[cond_true,cond_false,bC,aM]
      exact hm
     ·rcases List.mem_append.1 hx with hx | hx
      ·exact hl x hx
      ·rw[List.mem_singleton] at hx;exact hx▸hok.2.ent hok.1 (by omega) (by omega)
     ·show (c-1).toNat<c.toNat
      omega
   ·right
    refine⟨_,?_,l,a,rfl,⟨by omega,hl⟩,ha⟩
    unfold bI
    simp only[aG]
    rw[decide_eq_false h]
    rfl) _ ⟨c,a,[],rfl,hc0,by simp;omega,fun x hx=>by simp at hx,ha⟩
 exact⟨l,a',h2▸h1,h3,h4⟩
theorem Mm{L:List T}{a n:Int}(hn0:0≤n)(hn:n≤15)(ha:cF L a):∃H D a',bV ((),n,L,a,())=some (H,D,L,a',())∧Ou H∧Ka D∧cF L a':=by
 unfold bV
 obtain⟨v,a1,e,h0,h1,ha1⟩:=lG ha (n:=3) (by decide) (by decide)
 rw[e]
 simp only[bC]
 obtain⟨H,a2,hH,hHo,ha2⟩:=Jg (n:=n) (t1:=.v (.slice none 0 0)) (t2:=.v (.slice none 0 0)) (d:=[]) h0 (by omega) ha1
 rw[hH]
 simp only[bC,aM,aY]
 rw[jQ (by omega) (by omega)]
 obtain⟨u,a3,e3,g0,g1,ha3⟩:=lG ha2 (n:=n+1) (by omega) (by omega)
 rw[e3]
 simp only[bC]
 obtain⟨D,a4,hD,hok,ha4⟩:=Jh (t1:=.v (.slice none 0 0)) (t2:=.v (.slice none 0 0)) (d:=H) g0 (by omega) ha3
 rw[hD]
 simp only[bC,aM]
 exact⟨H,D,a4,rfl,⟨by have:=hHo.1;omega,hHo.2⟩,hok,ha4⟩
end Go.Eng.Et
namespace Go.Eng.Et
open Go.Eng
def Qg(t:T):Prop:=∃name args,t=J0 name args∧1≤args.length∧args.length≤4∧(∀x∈args,OkA 3 x)∧jS name
theorem Pr{y:T}(h:OkA 3 y)(a b c d e f g:T):T.upd 7 y 0 [a,b,c,d,e,f,g]=.agg [a,b,c,d,e,f,g]:=by
 obtain⟨k,neg,num,den,text,ref,l,rfl,_⟩:=h
 unfold T.upd
 rfl
theorem Ob{l:List T}(h:1≤l.length):ZC (l.length:Int) 1 (l.length:Int)=some (1,((l.length:Int)-1).toNat):=by unfold ZC;rw[if_pos ⟨by decide,by omega,Int.le_refl _⟩];rfl
theorem KG{l:List T}{n m:Nat}{x:T}(h:x∈iR l n m):x∈l:=by unfold iR at h;exact List.mem_of_mem_drop (List.mem_of_mem_take h)
theorem KH{l:List T}{n m:Nat}:(iR l n m).length≤l.length:=by unfold iR;rw[List.length_take,List.length_drop];omega
theorem Ji{l:List T}{i:Nat}{y x:T}(h:x∈l.set i y):x∈l∨x=y:=by
 rcases List.mem_or_eq_of_mem_set h with h | h
 ·exact .inl h
 ·exact .inr h
theorem UX{id:Int}{name:ByteArray}{args:List T}(h4:args.length≤4)(h:∀x∈args,OkA 3 x)(ht:jS name)(h0:0≤id)(h1:id≤20):OkE (vU id name args):=⟨id,name,args,rfl,h4,h,ht,h0,h1⟩
set_option maxHeartbeats 4000000 in
theorem Gc{L RL:List T}{a:Int}{t1 t2 t3:T}(hl:RL.length≤16)(hR:∀x∈RL,Qg x)(ha:cF L a):
 ∃l a',aF aD ((),(),RL,(),(0:Int),L,a,t1,t2,t3,[],())=some (.inl ((),(),L,a',t1,t2,t3,l,())) ∧Ka l∧cF L a':=by
 obtain⟨e,h1,l,a',h2,h3,h4⟩:=wH (F:=aD)
  (fun s=>∃(i:Nat) (a:Int) (l:List T),s=((),(),RL,(),(i:Int),L,a,t1,t2,t3,l,())∧i≤RL.length∧l.length=i∧(∀x∈l,OkE x)∧cF L a)
  (fun s=>(16-s.2.2.2.2.1).toNat)
  (fun e=>∃l a',e=.inl ((),(),L,a',t1,t2,t3,l,())∧Ka l∧cF L a')
  (fun s hs=>by
   obtain⟨i,a,l,rfl,hi,hli,hle,ha⟩:=hs
   by_cases h:i<RL.length
   ·left
    obtain⟨x,hx⟩:∃x,RL[i]?=some x:=⟨_,List.getElem?_eq_getElem h⟩
    obtain⟨name,args,rfl,g1,g4,gA,gt⟩:=hR x (List.mem_of_getElem? hx)
    have hw:wr .i64 ((i:Int)+1)=((i+1:Nat):Int):=by rw[jQ (by omega) (by omega)];rfl
    have hc0:T.cell (J0 name args) 0=.v (.string name):=rfl
    have hc1:T.cell (J0 name args) 1=.sl 7 args:=rfl
    have hrw:T.rw? 7 (.sl 7 args)=some args:=by unfold T.rw?;rw[if_pos (by decide),CH]
    have hrm:room [] args 112=some args:=hM (by simp;omega) (by decide)
    obtain⟨b1,a1,e1,ha1⟩:=BI ha (n:=12) (by decide) (by decide)
    cases b1 with
    | true=>
     obtain⟨v,a5,e2,v0,v1,ha5⟩:=lG ha1 (n:=(args.length:Int)) (by omega) (by omega)
     obtain⟨k,neg,num,den,text,ref,q,a2,e3,hA,ha2⟩:=Kg 1 18 (by decide) ha5
     rw[show cN (1+1+18) ((),((1:Nat):Int),L,a5,())=bK ((),(1:Int),L,a5,()) from rfl] at e3
     have hchk:chkI (args.length:Int) v=some v.toNat:=AN v0 v1
     obtain⟨y,hy⟩:∃y,args[v.toNat]?=some y:=⟨_,List.getElem?_eq_getElem (by omega)⟩
     have hset:=Pr (gA y (List.mem_of_getElem? hy)) (.v (.int .i64 k)) (.v (.bool neg)) (.sl 1 num) (.sl 1 den) (.v (.string text)) (.v (.int .i64 ref)) (.sl 7 q)
     obtain⟨args2,eA⟩:∃args2,args2=args.set v.toNat (.agg [.v (.int .i64 k),.v (.bool neg),.sl 1 num,.sl 1 den,.v (.string text),.v (.int .i64 ref),.sl 7 q]):=⟨_,rfl⟩
     have f1:1≤args2.length:=by rw[eA,List.length_set];exact g1
     have f4:args2.length≤4:=by rw[eA,List.length_set];exact g4
     have fA:∀x∈args2,OkA 3 x:=fun x hx=>by
      rw[eA] at hx
      rcases Ji hx with hx | hx
      ·exact gA x hx
      ·rw[hx];exact OkA.le hA (by decide)
     obtain⟨b2,a3,e4,ha3⟩:=BI ha2 (n:=30) (by decide) (by decide)
     have hcut:=Ob (l:=args2) f1
     cases b2 with
     | true=>
      obtain⟨b3,a4,e5,ha4⟩:=BI ha3 (n:=30) (by decide) (by decide)
      cases b3 with
      | true=>
       refine⟨_,?_,⟨i+1,a4,l++[vU ((i+1:Nat):Int) (ByteArray.mk #[88]) (iR args2 1 ((args2.length:Int)-1).toNat)],rfl,by omega,by simp;omega,fun x hx=>?_,ha4⟩,?_⟩
       ·unfold aD
        simp only[aG,aY,bD]
        rw[decide_eq_true (by omega),cC,hx]
        simp only[cond_true,cond_false,bC,hc0,hc1,hrw,hrm,e1,aM,e2,e3,hchk,CB,hy,hset,←eA,e4,e5,hcut,iL,hw]
        rw[hM (by simp;omega) (by decide)]
        rfl
       ·rcases List.mem_append.1 hx with hx | hx
        ·exact hle x hx
        ·rw[List.mem_singleton] at hx
         exact hx▸UX (Nat.le_trans KH f4) (fun x hx=>fA x (KG hx)) (by first | exact gt | exact⟨[88],rfl,by decide⟩) (by omega) (by omega)
       ·show (16-((i+1:Nat):Int)).toNat<(16-(i:Int)).toNat
        omega
      | false=>
       refine⟨_,?_,⟨i+1,a4,l++[vU ((i+1:Nat):Int) name (iR args2 1 ((args2.length:Int)-1).toNat)],rfl,by omega,by simp;omega,fun x hx=>?_,ha4⟩,?_⟩
       ·unfold aD
        simp only[aG,aY,bD]
        rw[decide_eq_true (by omega),cC,hx]
        simp only[cond_true,cond_false,bC,hc0,hc1,hrw,hrm,e1,aM,e2,e3,hchk,CB,hy,hset,←eA,e4,e5,hcut,iL,hw]
        rw[hM (by simp;omega) (by decide)]
        rfl
       ·rcases List.mem_append.1 hx with hx | hx
        ·exact hle x hx
        ·rw[List.mem_singleton] at hx
         exact hx▸UX (Nat.le_trans KH f4) (fun x hx=>fA x (KG hx)) (by first | exact gt | exact⟨[88],rfl,by decide⟩) (by omega) (by omega)
       ·show (16-((i+1:Nat):Int)).toNat<(16-(i:Int)).toNat
        omega
     | false=>
      obtain⟨b3,a4,e5,ha4⟩:=BI ha3 (n:=30) (by decide) (by decide)
      cases b3 with
      | true=>
       refine⟨_,?_,⟨i+1,a4,l++[vU ((i+1:Nat):Int) (ByteArray.mk #[88]) args2],rfl,by omega,by simp;omega,fun x hx=>?_,ha4⟩,?_⟩
       ·unfold aD
        simp only[aG,aY,bD]
        rw[decide_eq_true (by omega),cC,hx]
        simp only[cond_true,cond_false,bC,hc0,hc1,hrw,hrm,e1,aM,e2,e3,hchk,CB,hy,hset,←eA,e4,e5,iL,hw]
        rw[hM (by simp;omega) (by decide)]
        rfl
       ·rcases List.mem_append.1 hx with hx | hx
        ·exact hle x hx
        ·rw[List.mem_singleton] at hx
         exact hx▸UX f4 fA (by first | exact gt | exact⟨[88],rfl,by decide⟩) (by omega) (by omega)
       ·show (16-((i+1:Nat):Int)).toNat<(16-(i:Int)).toNat
        omega
      | false=>
       refine⟨_,?_,⟨i+1,a4,l++[vU ((i+1:Nat):Int) name args2],rfl,by omega,by simp;omega,fun x hx=>?_,ha4⟩,?_⟩
       ·unfold aD
        simp only[aG,aY,bD]
        rw[decide_eq_true (by omega),cC,hx]
        simp only[cond_true,cond_false,bC,hc0,hc1,hrw,hrm,e1,aM,e2,e3,hchk,CB,hy,hset,←eA,e4,e5,iL,hw]
        rw[hM (by simp;omega) (by decide)]
        rfl
       ·rcases List.mem_append.1 hx with hx | hx
        ·exact hle x hx
        ·rw[List.mem_singleton] at hx
         exact hx▸UX f4 fA (by first | exact gt | exact⟨[88],rfl,by decide⟩) (by omega) (by omega)
       ·show (16-((i+1:Nat):Int)).toNat<(16-(i:Int)).toNat
        omega
    | false=>
     have f1:=g1
     have f4:=g4
     have fA:=gA
     obtain⟨b2,a3,e4,ha3⟩:=BI ha1 (n:=30) (by decide) (by decide)
     have hcut:=Ob (l:=args) f1
     cases b2 with
     | true=>
      obtain⟨b3,a4,e5,ha4⟩:=BI ha3 (n:=30) (by decide) (by decide)
      cases b3 with
      | true=>
       refine⟨_,?_,⟨i+1,a4,l++[vU ((i+1:Nat):Int) (ByteArray.mk #[88]) (iR args 1 ((args.length:Int)-1).toNat)],rfl,by omega,by simp;omega,fun x hx=>?_,ha4⟩,?_⟩
       ·unfold aD
        simp only[aG,aY,bD]
        rw[decide_eq_true (by omega),cC,hx]
        simp only[cond_true,cond_false,bC,hc0,hc1,hrw,hrm,e1,aM,e4,e5,hcut,iL,hw]
        rw[hM (by simp;omega) (by decide)]
        rfl
       ·rcases List.mem_append.1 hx with hx | hx
        ·exact hle x hx
        ·rw[List.mem_singleton] at hx
         exact hx▸UX (Nat.le_trans KH f4) (fun x hx=>fA x (KG hx)) (by first | exact gt | exact⟨[88],rfl,by decide⟩) (by omega) (by omega)
       ·show (16-((i+1:Nat):Int)).toNat<(16-(i:Int)).toNat
        omega
      | false=>
       refine⟨_,?_,⟨i+1,a4,l++[vU ((i+1:Nat):Int) name (iR args 1 ((args.length:Int)-1).toNat)],rfl,by omega,by simp;omega,fun x hx=>?_,ha4⟩,?_⟩
       ·unfold aD
        simp only[aG,aY,bD]
        rw[decide_eq_true (by omega),cC,hx]
        simp only[cond_true,cond_false,bC,hc0,hc1,hrw,hrm,e1,aM,e4,e5,hcut,iL,hw]
        rw[hM (by simp;omega) (by decide)]
        rfl
       ·rcases List.mem_append.1 hx with hx | hx
        ·exact hle x hx
        ·rw[List.mem_singleton] at hx
         exact hx▸UX (Nat.le_trans KH f4) (fun x hx=>fA x (KG hx)) (by first | exact gt | exact⟨[88],rfl,by decide⟩) (by omega) (by omega)
       ·show (16-((i+1:Nat):Int)).toNat<(16-(i:Int)).toNat
        omega
     | false=>
      obtain⟨b3,a4,e5,ha4⟩:=BI ha3 (n:=30) (by decide) (by decide)
      cases b3 with
      | true=>
       refine⟨_,?_,⟨i+1,a4,l++[vU ((i+1:Nat):Int) (ByteArray.mk #[88]) args],rfl,by omega,by simp;omega,fun x hx=>?_,ha4⟩,?_⟩
       ·unfold aD
        simp only[aG,aY,bD]
        rw[decide_eq_true (by omega),cC,hx]
        simp only[cond_true,cond_false,bC,hc0,hc1,hrw,hrm,e1,aM,e4,e5,iL,hw]
        rw[hM (by simp;omega) (by decide)]
        rfl
       ·rcases List.mem_append.1 hx with hx | hx
        ·exact hle x hx
        ·rw[List.mem_singleton] at hx
         exact hx▸UX f4 fA (by first | exact gt | exact⟨[88],rfl,by decide⟩) (by omega) (by omega)
       ·show (16-((i+1:Nat):Int)).toNat<(16-(i:Int)).toNat
        omega
      | false=>
       refine⟨_,?_,⟨i+1,a4,l++[vU ((i+1:Nat):Int) name args],rfl,by omega,by simp;omega,fun x hx=>?_,ha4⟩,?_⟩
       ·unfold aD
        simp only[aG,aY,bD]
        rw[decide_eq_true (by omega),cC,hx]
        simp only[cond_true,cond_false,bC,hc0,hc1,hrw,hrm,e1,aM,e4,e5,iL,hw]
        rw[hM (by simp;omega) (by decide)]
        rfl
       ·rcases List.mem_append.1 hx with hx | hx
        ·exact hle x hx
        ·rw[List.mem_singleton] at hx
         exact hx▸UX f4 fA (by first | exact gt | exact⟨[88],rfl,by decide⟩) (by omega) (by omega)
       ·show (16-((i+1:Nat):Int)).toNat<(16-(i:Int)).toNat
        omega
   ·right
    refine⟨_,?_,l,a,rfl,⟨by omega,hle⟩,ha⟩
    unfold aD
    simp only[aG,bD]
    rw[decide_eq_false (by omega)]
    rfl) _ ⟨0,a,[],rfl,by omega,rfl,fun x hx=>by simp at hx,ha⟩
 exact⟨l,a',h2▸h1,h3,h4⟩
theorem ac{p:T→Prop}{a:T}{l:List T}(h:p a)(hl:∀x∈l,p x):∀x∈a::l,p x:=fun x hx=>by
 rcases List.mem_cons.1 hx with rfl | hx
 ·exact h
 ·exact hl x hx
theorem an{p:T→Prop}:∀x∈([]:List T),p x:=fun x hx=>by cases hx
theorem GS{n:Nat}{l:List T}(hl:l.length≤4)(h:∀x∈l,OkA n x):OkA (n+1) (gB 6 false [] [] (ByteArray.mk #[]) 0 l):=⟨6,false,[],[],_,0,l,rfl,hl,h,V0 Bj (by decide) (by decide)⟩
theorem Jj{n:Nat}{neg:Bool}{num den:List T}(hD:Fc neg num den):OkA (n+1) (gB 2 neg num den (ByteArray.mk #[]) 0 []):=⟨2,_,_,_,_,0,[],rfl,by simp,fun x hx=>by simp at hx,hD,.inr (.inl rfl),Bj,by decide,by decide⟩
theorem GT{n:Nat}{k ref:Int}(h0:0≤ref)(h1:ref≤20):OkA (n+1) (gB k false [] [] (ByteArray.mk #[]) ref []):=kD Bj h0 h1
theorem Oc{n:Nat}:OkA (n+1) (gB 4 false [] [] (ByteArray.mk #[70]) 0 []):=kD ⟨[70],rfl,by decide⟩ (by decide) (by decide)
theorem Od{n:Nat}:OkA (n+1) (gB 4 false [] [] (ByteArray.mk #[84]) 0 []):=kD ⟨[84],rfl,by decide⟩ (by decide) (by decide)
theorem Jk{L:List T}{a:Int}(ha:cF L a):∃H D a',bO ((),L,a,())=some (H,D,L,a',())∧Ou H∧Ka D∧cF L a':=by
 have key:∀RL:List T,RL.length≤16→(∀x∈RL,Qg x)→∃H D a',(ob (aF aD ((),(),RL,(),(0:Int),L,a,T.v (.slice none 0 0),T.v (.slice none 0 0),T.v (.slice none 0 0),[],())) fun q34=>bB q34 (fun t35=>(ob (T.sl? 2 t35.2.2.2.2.2.2.1) fun x36=>(some (x36,t35.2.2.2.2.2.2.2.1,t35.2.2.1,t35.2.2.2.1,())))) fun q37=>b0 q37)=some (H,D,L,a',())∧Ou H∧Ka D∧cF L a':=by
  intro RL h1 h2
  obtain⟨D,a',e,hD,ha'⟩:=Gc (t1:=.v (.slice none 0 0)) (t2:=.v (.slice none 0 0)) (t3:=.v (.slice none 0 0)) h1 h2 ha
  rw[e]
  exact⟨[],D,a',rfl,⟨by simp,fun x hx=>by simp at hx⟩,hD,ha'⟩
 unfold bO
 obtain⟨oneg,onum,oden,eOne,hOne⟩:=Np
 rw[eOne]
 simp only[bC,aE]
 refine key _ (by show (9:Nat)≤16;decide) ?_
 have three:∀{n:Nat},OkA (n+2) (gB 6 false [] [] (ByteArray.mk #[]) 0 [gB 2 false [] [] (ByteArray.mk #[]) 0 [],gB 1 false [] [] (ByteArray.mk #[]) 0 [],gB 2 oneg onum oden (ByteArray.mk #[]) 0 []]):=GS (by simp) (ac (GT (by decide) (by decide)) (ac (GT (by decide) (by decide)) (ac (Jj hOne) an)))
 have z:∀{k ref:Int},0≤ref→ref≤20→OkA 3 (gB k false [] [] (ByteArray.mk #[]) ref []):=fun h0 h1=>GT (n:=2) h0 h1
 have z2:∀{k ref:Int},0≤ref→ref≤20→OkA 2 (gB k false [] [] (ByteArray.mk #[]) ref []):=fun h0 h1=>GT (n:=1) h0 h1
 refine ac ⟨_,_,rfl,by simp,by simp,ac (z (by decide) (by decide)) (ac (three (n:=1)) an),_,rfl,by decide⟩ ?_
 refine ac ⟨_,_,rfl,by simp,by simp,ac (z (by decide) (by decide)) (ac (three (n:=1)) an),_,rfl,by decide⟩ ?_
 refine ac ⟨_,_,rfl,by simp,by simp,ac (z (by decide) (by decide)) (ac (z (by decide) (by decide)) (ac (z (by decide) (by decide)) an)),_,rfl,by decide⟩ ?_
 refine ac ⟨_,_,rfl,by simp,by simp,ac (z (by decide) (by decide)) (ac (GS (n:=2) (by decide) (ac (z2 (by decide) (by decide)) (ac (z2 (by decide) (by decide)) (ac (z2 (by decide) (by decide)) an)))) an),_,rfl,by decide⟩ ?_
 refine ac ⟨_,_,rfl,by simp,by simp,ac (z (by decide) (by decide)) (ac (z (by decide) (by decide)) (ac (Oc (n:=2)) an)),_,rfl,by decide⟩ ?_
 refine ac ⟨_,_,rfl,by simp,by simp,ac (z (by decide) (by decide)) (ac (GS (n:=2) (by decide) (ac (z2 (by decide) (by decide)) an)) (ac (z (by decide) (by decide)) (ac (Od (n:=2)) an))),_,rfl,by decide⟩ ?_
 refine ac ⟨_,_,rfl,by simp,by simp,ac (z (by decide) (by decide)) (ac (GS (n:=2) (by decide) (ac (z2 (by decide) (by decide)) an)) an),_,rfl,by decide⟩ ?_
 refine ac ⟨_,_,rfl,by simp,by simp,ac (z (by decide) (by decide)) (ac (z (by decide) (by decide)) an),_,rfl,by decide⟩ ?_
 exact ac ⟨_,_,rfl,by simp,by simp,ac (z (by decide) (by decide)) (ac (z (by decide) (by decide)) (ac (z (by decide) (by decide)) an)),_,rfl,by decide⟩ an
end Go.Eng.Et
namespace Go.Eng.En
open Go.Eng
theorem Mn:jR 40 ()=some (true,()):=by kernel_rfl
theorem e_sane:cL ()=some (true,()):=w7 40 () _ Mn
end Go.Eng.En
namespace Go.Eng.Et
open Go.Eng
open Go.Eng.Lex (Tk eE)
abbrev Gd(n i:Int)(L:List T)(a k:Int)(l:List T):Int×Unit×Unit×Int×List T×Int×Int×Bool×T×T×ByteArray×Int×List T×Unit:=(n,(),(),i,L,a,k,Bool.false,sO,sO,xC,(0:Int),l,())
def Deep(i:Nat)(k:Int)(l:List T):Prop:=OkA (i+1) (gB k false [] [] xC 0 l)∧sz (i+1) (gB k false [] [] xC 0 l)≤2+3*i
theorem Oe:Deep 0 7 []:=⟨kD Bj (by decide) (by decide),by rw[sz,NC];simp[sm]⟩
theorem Of{i:Nat}{k:Int}{l:List T}(h:Deep i k l):Deep (i+1) 6 [gB k false [] [] xC 0 l]:=by
 refine⟨⟨6,false,[],[],xC,0,_,rfl,by simp,fun x hx=>by rw[List.mem_singleton] at hx;exact hx▸h.1,V0 Bj (by decide) (by decide)⟩,?_⟩
 rw[sz,NC,CF]
 have:=h.2
 simp[sm]
 omega
theorem PZ{n:Int}{L:List T}{a:Int}{m:Nat}(hn0:0≤n)(hn:n≤255)(hm:n.tmod 11=(m:Int))(hm10:m≤10):∀(j i:Nat) (k:Int) (l:List T),i+j=m→Deep i k l →
 ∃k' l',aF cT (Gd n i L a k l)=some (.inl ((),(),L,a,k',Bool.false,sO,sO,xC,(0:Int),l',()))∧Deep m k' l'
 | 0,i,k,l,hi,hd=>by
  have:i=m:=by omega
  subst this
  refine⟨k,l,?_,hd⟩
  rw[aT]
  unfold cT
  simp only[aG,RD,hm]
  rw[jQ (by omega) (by omega),decide_eq_false (by omega)]
  rfl
 | j+1,i,k,l,hi,hd=>by
  obtain⟨k',l',e,h⟩:=PZ hn0 hn hm hm10 j (i+1) 6 [gB k false [] [] xC 0 l] (by omega) (Of hd)
  refine⟨k',l',?_,h⟩
  rw[bX (s':=Gd n ((i+1:Nat):Int) L a 6 [gB k false [] [] xC 0 l])]
  ·exact e
  unfold cT
  simp only[aG,RD,hm]
  rw[jQ (n:=(m:Int)) (by omega) (by omega),decide_eq_true (by omega)]
  simp only[cond_true,AM 1 (by decide),bC,aY]
  rw[jQ (by omega) (by omega)]
  rfl
def FB(H D:List T):Prop:=H.length≤4∧D.length≤16∧(∀x∈H,HB x)∧∀x∈D,EB x
abbrev fT(H D:List T):T:=.agg [.sl 2 H,.sl 3 D]
theorem ND{fs H D:List T}{i:Nat}(hi:i<3)(hl:fs.length=3)(hx:fs[i]?=some (fT H D))(h:FB H D):
 b6 (fs,(3:Int),(i:Int),())=some (.inl (fs,(3:Int),((i+1:Nat):Int),())):=by
 obtain⟨s,e,h1,h2⟩:=Bh h.1 h.2.1 h.2.2.1 h.2.2.2
 unfold b6
 simp only[aG,bD,hl]
 rw[decide_eq_true (show (i:Int)<3 by omega),AN (by omega) (by omega)]
 simp only[cond_true,bC,Int.toNat_natCast,CB,hx,show T.cell (fT H D) 0=.sl 2 H from rfl,show T.cell (fT H D) 1=.sl 3 D from rfl,CH,h1,h2,mY,bZ,decide_true,Bool.not_true,cond_false,aY]
 rw[jQ (by omega) (by omega)]
 rfl
theorem Ge{H1 D1 H2 D2 H3 D3:List T}(h1:FB H1 D1)(h2:FB H2 D2)(h3:FB H3 D3):
 aF b6 ([fT H1 D1,fT H2 D2,fT H3 D3],(3:Int),(0:Int),())=some (.inr (.inl ())):=by
 have s1:=ND (fs:=[fT H1 D1,fT H2 D2,fT H3 D3]) (i:=0) (by omega) rfl rfl h1
 have s2:=ND (fs:=[fT H1 D1,fT H2 D2,fT H3 D3]) (i:=1) (by omega) rfl rfl h2
 have s3:=ND (fs:=[fT H1 D1,fT H2 D2,fT H3 D3]) (i:=2) (by omega) rfl rfl h3
 rw[show ((0:Nat):Int)=0 from rfl] at s1
 rw[bX s1,bX s2,bX s3]
 exact aT (by
  unfold b6
  simp only[aG]
  rfl)
theorem Jl{m:Nat}{k:Int}{l:List T}(hm:m≤10)(h:Deep m k l):FB [J0 (ByteArray.mk #[65]) [gB k false [] [] xC 0 l]] []:=by
 refine⟨by simp,by simp,fun x hx=>?_,fun x hx=>by simp at hx⟩
 rw[List.mem_singleton] at hx
 subst hx
 have hs:=h.2
 have hsm:sm (sz (m+1)) [gB k false [] [] xC 0 l]≤40:=by rw[CF];simp[sm];omega
 refine⟨_,_,rfl,Fx ⟨[65],rfl,by decide⟩ ((SF (mv:=19) (mr:=19) (Cf:=sz (m+1)) (by simp) (fun x hx=>?_) (by omega)).mono (by omega))⟩
 rw[List.mem_singleton] at hx
 subst hx
 exact⟨h.1.isA,SG (m+1) 0 19 19 _ h.1 (by omega) (by omega) (by omega) (by omega)⟩
theorem ZA{H D:List T}(hH:Ou H)(hD:Ka D):FB H D:=⟨hH.1,hD.1,fun x hx=>(hH.2 x hx).hb,fun x hx=>(hD.2 x hx).eb⟩
set_option maxHeartbeats 4000000 in
theorem law_texts(zs:List Int){n:Int}(hn0:0≤n)(hn:n≤255):bH (zs.map WT,n,())=some (true,()):=by
 unfold bH
 rw[Ib]
 simp only[bC]
 by_cases hl:(zs.map WT).length≤500
 ·rw[decide_eq_true hl]
  rw[List.length_map] at hl
  have hdice:cF (zs.map WT) 0:=⟨zs,rfl,by omega,by omega,by omega⟩
  obtain⟨m,hm⟩:∃m:Nat,n.tmod 11=(m:Int):=⟨(n.tmod 11).toNat,by rw[Int.toNat_of_nonneg (Int.tmod_nonneg 11 hn0)]⟩
  have hm10:m≤10:=by have:=Int.tmod_lt_of_pos n (show (0:Int)<11 by decide);omega
  obtain⟨k',l',e,hdeep⟩:=PZ (L:=zs.map WT) (a:=0) hn0 hn hm hm10 m 0 7 [] (by omega) Oe
  rw[show ((0:Nat):Int)=0 from rfl] at e
  simp only[Bool.not_true,cond_false,Lo,bC]
  rw[e]
  simp only[bC,aM,AM 1 (by decide)]
  obtain⟨H1,D1,a1,e1,hH1,hD1,ha1⟩:=Mm (n:=5) (by decide) (by decide) hdice
  rw[e1]
  simp only[bC]
  obtain⟨H2,D2,a2,e2,hH2,hD2,ha2⟩:=Jk ha1
  rw[e2]
  simp only[bC,bD,List.length_cons,List.length_nil]
  rw[show (((0+1+1+1:Nat)):Int)=3 from rfl]
  have hlp:=Ge (ZA hH1 hD1) (ZA hH2 hD2) (Jl hm10 hdeep)
  rw[show fT [J0 (ByteArray.mk #[65]) [gB k' false [] [] xC 0 l']] []=T.agg [T.sl 2 [T.agg [T.v (.string (ByteArray.mk #[65])),T.sl 7 [T.agg [T.v (.int .i64 k'),T.v (.bool Bool.false),T.sl 1 [],T.sl 1 [],T.v (.string xC),T.v (.int .i64 0),T.sl 7 l']]]],T.sl 3 []] from rfl] at hlp
  rw[hlp]
  simp only[bC,aM,uP,En.e_sane]
 ·rw[decide_eq_false hl]
  simp only[Bool.not_false,cond_true,En.e_sane,bC]
end Go.Eng.Et
