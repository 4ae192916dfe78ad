/- An engine that turns the code of a function into a plain function on tuples, part 3: what it says of a function holds of every run; it has no conditions of its own. -/
import Derived.Shelf.Vars
import Derived.ProofKit
import Derived.HandedShaped
import Derived.OpenShut
import Derived.MapKept
import Derived.StillTail
import Derived.Laws.Externs
import Derived.Test.YtkkmmpncicdffaaEng2
set_option linter.unusedSimpArgs false
set_option linter.unusedVariables false
namespace Go.Eng
open Go.RowKit
def St.bare(st:St):St:={ st with env:=List.replicate st.env.length D.top }
section
variable {R:Type} {P:Program} {Γ:FuncId→Option Callee}
theorem M8(st:St)(dst:Option Nat)(o:O)(k:St→Nat→Option R):gO st dst o k=(gO st.bare dst o fun s key=>some (s.objs,key)).bind fun p=>k { st with objs:=p.1 } p.2:=by
 have hfi:iC st.bare=iC st:=by unfold iC St.bare;simp only[List.length_replicate]
 have h1:st.bare.objs=st.objs:=rfl
 have h2:st.bare.np=st.np:=rfl
 have h3:st.bare.env.length=st.env.length:=by simp[St.bare]
 cases dst with
 | none=>rfl
 | some d=>
  simp only[gO,hfi,h1,h2,h3]
  split
  ·rfl
  ·split
   ·rfl
   ·split <;> rfl
theorem iN(st:St)(dst:Option Nat)(o:O)(f:Nat→D)(k:St→D→Option R):gO st dst o (fun s key=>k s (f key))=(gO st.bare dst o fun s key=>some (s.objs,f key)).bind fun p=>k { st with objs:=p.1 } p.2:=by
 have hfi:iC st.bare=iC st:=by unfold iC St.bare;simp only[List.length_replicate]
 have h1:st.bare.objs=st.objs:=rfl
 have h2:st.bare.np=st.np:=rfl
 have h3:st.bare.env.length=st.env.length:=by simp[St.bare]
 cases dst with
 | none=>rfl
 | some d=>
  simp only[gO,hfi,h1,h2,h3]
  split
  ·rfl
  ·split
   ·rfl
   ·split <;> rfl
theorem JF(st:St)(objs:List O)(dst:Option Nat)(o:O)(f:Nat→D)(k:St→D→Option R):gO { st with objs:=objs } dst o (fun s key=>k s (f key))=(gO { st.bare with objs:=objs } dst o fun s key=>some (s.objs,f key)).bind fun p=>k { st with objs:=p.1 } p.2:=by
 have h:=iN { st with objs:=objs } dst o f k
 exact h
theorem JG(st:St)(t:TypeId)(d:D)(k:D→Option R):mX P st t d k=(mX P st.bare t d some).bind k:=by
 unfold mX lO St.bare
 repeat' (first | split | dsimp only)
 all_goals first
  | rfl
  | simp_all [aM]
theorem UN{R S:Type}(t:TypeId)(c:C)(f:T→Option R)(g:R→Option S):GC P t c (fun x=>(f x).bind g)=(GC P t c f).bind g:=by
 unfold GC
 split
 ·rw[aM]
 ·rw[aM]
 ·rw[aM]
 ·split
  ·split
   ·rw[aM]
   ·rfl
  ·rfl
 ·split <;> rfl
theorem iH{R S:Type}:∀(ts:List TypeId) (cs:List C) (f:List T→Option R) (g:R→Option S),gK P ts cs (fun x=>(f x).bind g)=(gK P ts cs f).bind g
 | [],[],_,_=>rfl
 | [],_::_,_,_=>rfl
 | _::_,[],_,_=>rfl
 | t::ts,c::cs,f,g=>by
  simp only[gK]
  rw[←UN]
  congr 1
  funext x
  exact iH ts cs _ g
theorem RW(st:St)(t:TypeId)(d v:D)(k:St→Option R):p9 P st t d v k=(p9 P st.bare t d v fun s=>some s.objs).bind fun p=>k { st with objs:=p }:=by
 have hb:st.bare.objs=st.objs:=rfl
 unfold p9 lO
 simp only[hb]
 repeat' (first | split | dsimp only)
 all_goals first
  | rfl
  | (rw[←iH];simp only[aM,Option.bind_some,Option.bind_none];done)
  | (rw[←iH];rfl)
  | simp_all [aM]
theorem O5(op:BinOp)(kd:IntKind)(a b:Int)(k:D→Option R):AA op kd a b k=(AA op kd a b some).bind k:=by
 unfold AA
 repeat' (first | split | dsimp only)
 all_goals first
  | rfl
  | simp_all [aM]
theorem UO(op:BinOp)(kd:IntKind)(a b:Int)(k:D→Option R):mW op kd a b k=(mW op kd a b some).bind k:=by
 unfold mW
 repeat' (first | split | dsimp only)
 all_goals first
  | rfl
  | simp_all [aM]
theorem UP(op:BinOp)(a b:ByteArray)(k:D→Option R):MQ op a b k=(MQ op a b some).bind k:=by
 unfold MQ
 repeat' (first | split | dsimp only)
 all_goals first
  | rfl
  | simp_all [aM]
theorem Ej(op:UnOp)(t:TypeId)(x:D)(k:D→Option R):Pn (P:=P) op t x k=(Pn (P:=P) op t x some).bind k:=by
 unfold Pn HN LM CZ
 repeat' (first | split | dsimp only)
 all_goals first
  | rfl
  | simp_all [aM]
theorem Z7(x:D)(k:D→Option R):ZU x k=(ZU x some).bind k:=by
 unfold ZU lO
 repeat' (first | split | dsimp only)
 all_goals first
  | rfl
  | simp_all [aM]
theorem RX(t:TypeId)(parts:List (Nat×D))(k:D→Option R):B3 P t parts k=(B3 P t parts some).bind k:=by
 unfold B3
 repeat' (first | split | dsimp only)
 all_goals first
  | rfl
  | simp_all [aM]
theorem LV(st:St)(s t:TypeId)(x:D)(k:D→Option R):uC P st s t x k=(uC P st.bare s t x some).bind k:=by
 unfold uC gU C0 lO CZ gT St.bare
 repeat' (first | split | dsimp only)
 all_goals first
  | rfl
  | simp_all [aM]
theorem JH(fn:Fn)(f c:List D)(k:D→Option R):oN fn f c k=(oN fn f c some).bind k:=by
 unfold oN
 repeat' (first | split | dsimp only)
 all_goals first
  | rfl
  | simp_all [aM]
theorem mI(st:St)(t:TypeId)(x:D)(lo hi mx:Option D)(k:D→Option R):jD P st t x lo hi mx k=(jD P st.bare t x lo hi mx some).bind k:=by
 have hc:∀n c,Q3 st.bare n c=Q3 st n c:=fun _ _=>rfl
 unfold jD vL gU C0 lO CZ
 simp only[hc]
 repeat' (first | split | dsimp only)
 all_goals first
  | rfl
  | simp_all [aM]
theorem G8(t:TypeId)(x:D)(f:Nat)(k:D→Option R):l7 P t x f k=(l7 P t x f some).bind k:=by
 unfold l7 lO
 repeat' (first | split | dsimp only)
 all_goals first
  | rfl
  | simp_all [aM]
theorem RY(t:TypeId)(x:D)(f:Nat)(k:D→Option R):B4 P t x f k=(B4 P t x f some).bind k:=by
 unfold B4
 repeat' (first | split | dsimp only)
 all_goals first
  | rfl
  | simp_all [aM]
theorem UQ(st:St)(s t:TypeId)(x:D)(k:D→Option R):IK P st s t x k=(IK P st.bare s t x some).bind k:=by
 unfold IK
 split
 ·split
  ·unfold C0 CZ
   repeat' (first | split | dsimp only)
   all_goals first
    | rfl
    | simp_all [aM]
  ·rfl
 ·exact LV st s t x k
theorem xC(st:St)(t:TypeId)(x ix:D)(k:D→Option R):fG P st t x ix k=(fG P st.bare t x ix some).bind k:=by
 unfold fG lO gU CZ St.bare
 repeat' (first | split | dsimp only)
 all_goals first
  | rfl
  | (simp_all [aM];done)
  | (simp only[aM];congr 1;funext i;refine Eq.trans ?_ (yB _ _);congr 1;funext j;split <;> rfl)
theorem RZ(t:TypeId)(x ix:D)(k:D→Option R):B5 P t x ix k=(B5 P t x ix some).bind k:=by
 unfold B5 C0 gU CZ
 repeat' (first | split | dsimp only)
 all_goals first
  | rfl
  | (simp_all [aM];done)
  | (simp only[aM];congr 1;funext i;refine Eq.trans ?_ (yB _ _);congr 1;funext j;split <;> rfl)
theorem LW(x:D)(i:Nat)(k:D→Option R):rK x i k=(rK x i some).bind k:=by
 unfold rK
 repeat' (first | split | dsimp only)
 all_goals first
  | rfl
  | simp_all [aM]
theorem Z8(st:St)(t:TypeId)(x:D)(k:D→Option R):sC P st t x k=(sC P st.bare t x some).bind k:=by
 unfold sC C0 lO CZ St.bare
 repeat' (first | split | dsimp only)
 all_goals first
  | rfl
  | simp_all [aM]
theorem Z9(op:BinOp)(t yt:TypeId)(x y:D)(k:D→Option R):A0 P op t yt x y k=(A0 P op t yt x y some).bind k:=by
 unfold A0 HN C0 LM CZ
 repeat' (first | split | dsimp only)
 all_goals first
  | rfl
  | (simp only[aM,←UO,←O5,←UP];done)
  | simp_all [aM]
theorem FA{rc:∀{R:Type},TypeId→S1→S1→(Bool→Option R)→Option R}(hrc:∀{R:Type} (t:TypeId) (x y:S1) (k:Bool→Option R),rc t x y k=(rc t x y some).bind k)(cs ds:List C):
 ∀(fs:List Field) {R:Type} (k:Bool→Option R),OM P rc cs ds fs k=(OM P rc cs ds fs some).bind k
 | [],R,k=>rfl
 | f::fs,R,k=>by
  simp only[OM]
  split
  ·rfl
  split
  case h_2=>rfl
  split
  case h_2=>rfl
  rw[hrc,hrc (k:=fun b=>OM P rc cs ds fs fun r=>some (LQ b r)),Option.bind_assoc]
  congr 1;funext b
  rw[FA hrc cs ds fs,FA hrc cs ds fs (k:=fun r=>some (LQ b r)),Option.bind_assoc]
  rfl
theorem FB{rc:∀{R:Type},TypeId→S1→S1→(Bool→Option R)→Option R}(hrc:∀{R:Type} (t:TypeId) (x y:S1) (k:Bool→Option R),rc t x y k=(rc t x y some).bind k)(e:TypeId)(n:Nat)(ag:Bool)(cs ds:List C):
 ∀(is:List Nat) {R:Type} (k:Bool→Option R),ON rc e n ag cs ds is k=(ON rc e n ag cs ds is some).bind k
 | [],R,k=>rfl
 | i::is,R,k=>by
  simp only[ON]
  split
  case h_2=>rfl
  rw[hrc,hrc (k:=fun b=>ON rc e n ag cs ds is fun r=>some (LQ b r)),Option.bind_assoc]
  congr 1;funext b
  rw[FB hrc e n ag cs ds is,FB hrc e n ag cs ds is (k:=fun r=>some (LQ b r)),Option.bind_assoc]
  rfl
theorem rA:∀(d:Nat) {R:Type} (t:TypeId) (x y:S1) (k:Bool→Option R),CC P d t x y k=(CC P d t x y some).bind k
 | 0,R,t,x,y,k=>rfl
 | d+1,R,t,x,y,k=>by
  simp only[CC]
  split
  ·unfold HN CZ;repeat' (first | split | dsimp only)
   all_goals first
    | rfl
    | (simp only[aM];done)
    | simp_all [aM]
  ·unfold LM CZ;repeat' (first | split | dsimp only)
   all_goals first
    | rfl
    | (simp only[aM];done)
    | simp_all [aM]
  ·unfold C0 CZ;repeat' (first | split | dsimp only)
   all_goals first
    | rfl
    | (simp only[aM];done)
    | simp_all [aM]
  ·split
   ·rfl
   split
   case h_2=>rfl
   exact FA (rA d) _ _ _ k
  ·split
   case h_2=>rfl
   exact FB (rA d) _ _ _ _ _ _ k
  ·rfl
theorem Aa(op:BinOp)(t yt:TypeId)(x y:D)(k:D→Option R):ZN P op t yt x y k=(ZN P op t yt x y some).bind k:=by
 unfold ZN
 split
 ·split
  ·rfl
  unfold Jl
  split
  ·split
   ·split
    ·dsimp only;rw[rA,rA (k:=fun b=>some (dB b)),Option.bind_assoc];rfl
    ·split
     ·dsimp only;rw[rA,rA (k:=fun b=>some (dB (!b))),Option.bind_assoc];rfl
     ·rfl
   ·rfl
  ·rfl
 ·exact Z9 op t yt x y k
theorem M9(st:St)(eq:Bool)(c:C)(k:D→Option R):TZ st eq c k=(TZ st.bare eq c some).bind k:=by
 have hb:st.bare.objs=st.objs:=rfl
 have hbif:∀(q:Bool) (d d':D),(bif q then k d else k d')=(bif q then some d else some d').bind k:=fun q d d'=>by cases q <;> rfl
 unfold TZ
 rw[hb]
 split
 ·rfl
 ·split
  ·exact hbif _ _ _
  ·rfl
 ·split
  ·exact hbif _ _ _
  ·rfl
 ·rfl
theorem Ab(st:St)(op:BinOp)(t yt:TypeId)(x y:D)(k:D→Option R):LR P st op t yt x y k=(LR P st.bare op t yt x y some).bind k:=by
 unfold LR lO
 split
 ·split
  ·split
   ·split
    ·exact M9 _ _ _ _
    ·split
     ·exact M9 _ _ _ _
     ·rfl
   ·rfl
  ·rfl
 ·exact Aa op t yt x y k
theorem GP(st:St)(dst:Option Nat)(e:TypeId)(k:St→D→Option R):l6 P st dst e k=(l6 P st.bare dst e fun s d=>some (s.objs,d)).bind fun p=>k { st with objs:=p.1 } p.2:=by
 unfold l6
 repeat' (first | split | dsimp only)
 all_goals first
  | rfl
  | exact iN st dst _ (fun key=>.s (.c (.box key 0))) k
  | simp_all
theorem Ac(st:St)(dst:Option Nat)(v:D)(k:St→D→Option R):Q2 st dst v k=(Q2 st.bare dst v fun s d=>some (s.objs,d)).bind fun p=>k { st with objs:=p.1 } p.2:=by
 unfold Q2
 repeat' (first | split | dsimp only)
 all_goals first
  | rfl
  | exact iN st dst _ (fun key=>.s (.c (.box key 0))) k
  | simp_all
theorem G9(st:St)(dst:Option Nat)(t:TypeId)(l c:D)(k:St→D→Option R):kE P st dst t l c k=(kE P st.bare dst t l c fun s d=>some (s.objs,d)).bind fun p=>k { st with objs:=p.1 } p.2:=by
 unfold kE gU CZ
 repeat' (first | split | dsimp only)
 all_goals first
  | rfl
  | (simp only[aM];congr 1;funext i;congr 1;funext j;congr 1;funext q;exact iN st dst _ (fun key=>.s (.c (.row key))) k)
  | simp_all [aM]
theorem O6(st:St)(dst:Option Nat)(t:TypeId)(l c:D)(k:St→D→Option R):sN P st dst t l c k=(sN P st.bare dst t l c fun s d=>some (s.objs,d)).bind fun p=>k { st with objs:=p.1 } p.2:=by
 unfold sN gU CZ
 repeat' (first | split | dsimp only)
 all_goals first
  | rfl
  | (simp only[aM];congr 1;funext i;congr 1;funext j;congr 1;funext q;exact iN st dst _ (fun key=>.s (.c (.rk key))) k)
  | simp_all [aM]
theorem DK(st:St)(dst:Option Nat)(t:TypeId)(n:Nat)(parts:List (Nat×D))(k:St→D→Option R):iG P st dst t n parts k=(iG P st.bare dst t n parts fun s d=>some (s.objs,d)).bind fun p=>k { st with objs:=p.1 } p.2:=by
 have hb:st.bare.objs=st.objs:=rfl
 unfold iG
 simp only[hb]
 repeat' (first | split | dsimp only)
 all_goals first
  | rfl
  | exact JF st _ dst _ (fun key=>.s (.c (.row key))) k
  | (rw[←iH];congr 1;funext ts;exact JF st _ dst _ (fun key=>.s (.c (.row key))) k)
  | simp_all [aM]
theorem FC(st:St)(dst:Option Nat)(t:TypeId)(n:Nat)(parts:List (Nat×D))(k:St→D→Option R):fU P st dst t n parts k=(fU P st.bare dst t n parts fun s d=>some (s.objs,d)).bind fun p=>k { st with objs:=p.1 } p.2:=by
 unfold fU
 split
 ·split
  ·split
   ·split
    ·exact iN st dst _ (fun key=>.s (.c (.row key))) k
    ·rfl
   ·rfl
  ·rfl
 ·exact DK st dst t n parts k
theorem mJ(t:TypeId)(n:Nat)(parts:List (Nat×D))(k:D→Option R):ZE P t n parts k=(ZE P t n parts some).bind k:=by
 unfold ZE
 repeat' (first | split | dsimp only)
 all_goals first
  | rfl
  | (refine Eq.trans ?_ (iH _ _ _ k);rfl)
  | simp_all [aM]
theorem mK(st:St)(n:Nat)(c:C)(k:List T→Option R):gT st n c k=(gT st.bare n c some).bind k:=by
 have hb:st.bare.objs=st.objs:=rfl
 cases c with
 | t x=>simp only[gT,aM];rfl
 | row key=>
  simp only[gT,hb]
  cases st.objs[key]? with
  | none=>rfl
  | some o=>cases o with
   | row fz e n' es=>by_cases h:n'=n <;> simp[h]
   | _=>rfl
 | cut key m lo len tg=>
  simp only[gT,hb]
  cases st.objs[key]? with
  | none=>rfl
  | some o=>cases o with
   | row fz e n' es=>by_cases h:n'=n∧m=n <;> simp[h]
   | _=>rfl
 | _=>rfl
theorem NA(st:St)(e:TypeId)(n:Nat)(c:C)(k:St→List T→Option R):vK st e n c k=(vK st.bare e n c fun s l=>some (s.objs,l)).bind fun p=>k { st with objs:=p.1 } p.2:=by
 unfold vK St.bare
 repeat' (first | split | dsimp only)
 all_goals first
  | rfl
  | simp_all [aM]
theorem NB(mx:Bool)(t:TypeId)(x y:D)(k:D→Option R):IV P mx t x y k=(IV P mx t x y some).bind k:=by
 unfold IV HN C0 CZ
 repeat' (first | split | dsimp only)
 all_goals first
  | rfl
  | simp_all [aM]
theorem UR(st:St)(t:TypeId)(s x:D)(k:St→D→Option R):IM P st t s x k=(IM P st.bare t s x fun s d=>some (s.objs,d)).bind fun p=>k { st with objs:=p.1 } p.2:=by
 have hb:st.bare.objs=st.objs:=rfl
 have hbb:st.bare.bare=st.bare:=by simp[St.bare]
 unfold IM
 split
 ·split
  ·unfold lO
   split
   ·dsimp only
    split
    ·refine(mK st _ _ _).trans (Eq.trans ?_ (congrArg (fun z:Option (List O×D)=>z.bind fun p=>k { st with objs:=p.1 } p.2) (mK st.bare _ _ _)).symm)
     rw[hbb,Option.bind_assoc]
     refine congrArg _ (funext fun m=>?_)
     simp only[hb]
     repeat' (first | rfl | split)
    ·rfl
   ·rfl
  ·rfl
 ·rfl
theorem O7(st:St)(dst:Option Nat)(t u:TypeId)(s x:D)(k:St→D→Option R):jZ P st dst t u s x k=(jZ P st.bare dst t u s x fun s d=>some (s.objs,d)).bind fun p=>k { st with objs:=p.1 } p.2:=by
 have fin:∀(e:TypeId) (n:Nat) (c:C) (m:List T) (b:Nat),(vK st e n c fun st' l=>ob (room l m b) fun q=>gO st' dst (.row false e n q) fun st key=>k st (.s (.c (.row key)))) =
  (vK st.bare e n c fun st' l=>ob (room l m b) fun q=>gO st' dst (.row false e n q) fun s key=>some (s.objs,.s (.c (.row key)))).bind fun p=>k { st with objs:=p.1 } p.2:=fun e n c m b=>by
  rw[NA,NA st.bare e n c (fun st' l=>ob (room l m b) fun q=>gO st' dst (.row false e n q) fun s key=>(some (s.objs,D.s (.c (.row key))):Option (List O×D)))]
  have hbb:st.bare.bare=st.bare:=by simp[St.bare]
  rw[hbb,Option.bind_assoc]
  congr 1
  funext p
  rw[aM]
  congr 1
  funext q
  rw[iN { st with objs:=p.1 } dst _ (fun key=>.s (.c (.row key))) k,iN { st.bare with objs:=p.1 } dst _ (fun key=>.s (.c (.row key))) (fun s d=>some (s.objs,d)),Option.bind_assoc]
  have h3:(St.bare { st.bare with objs:=p.1 })=St.bare { st with objs:=p.1 }:=by simp[St.bare]
  rw[h3]
  rfl
 unfold jZ
 split
 ·split
  ·split
   ·split
    ·unfold lO
     split
     ·dsimp only
      split
      ·split
       ·have hbb:st.bare.bare=st.bare:=by simp[St.bare]
        refine(mK st _ _ _).trans (Eq.trans ?_ (congrArg (fun z:Option (List O×D)=>z.bind fun p=>k { st with objs:=p.1 } p.2) (mK st.bare _ _ _)).symm)
        rw[hbb,Option.bind_assoc]
        exact congrArg _ (funext fun m=>fin _ _ _ _ _)
       ·rfl
      ·split
       ·unfold C0 CZ
        split
        ·simp only[aM]
         exact congrArg _ (funext fun m=>fin _ _ _ _ _)
        ·rfl
       ·rfl
     ·rfl
    ·rfl
   ·rfl
  ·rfl
 ·rfl
theorem US(st:St)(dst:Option Nat)(t u:TypeId)(key i:Nat)(x:D)(k:St→D→Option R):GF P st dst t u key i x k=(GF P st.bare dst t u key i x fun s d=>some (s.objs,d)).bind fun p=>k { st with objs:=p.1 } p.2:=by
 have hbo:st.bare.objs=st.objs:=rfl
 have hbb:st.bare.bare=st.bare:=by simp[St.bare]
 have fin:∀(o:O),(gO st dst o fun st' K=>k { st' with objs:=st'.objs.set key (.fwd K) } (.s (.c (.inn K i)))) =
  (gO st.bare dst o fun s K=>some (s.objs.set key (.fwd K),D.s (.c (.inn K i)))).bind fun p=>k { st with objs:=p.1 } p.2:=fun o=>by
  have e1:=M8 st dst o fun st' K=>k { st' with objs:=st'.objs.set key (.fwd K) } (.s (.c (.inn K i)))
  have e2:=M8 st.bare dst o fun s K=>(some (s.objs.set key (.fwd K),D.s (.c (.inn K i))):Option (List O×D))
  refine e1.trans (Eq.trans ?_ (congrArg (fun z:Option (List O×D)=>z.bind fun p=>k { st with objs:=p.1 } p.2) e2).symm)
  rw[hbb,Option.bind_assoc]
  rfl
 unfold GF
 split
 ·split
  ·split
   ·split
    ·unfold lO
     split
     ·dsimp only
      refine(mK st _ _ _).trans (Eq.trans ?_ (congrArg (fun z:Option (List O×D)=>z.bind fun p=>k { st with objs:=p.1 } p.2) (mK st.bare _ _ _)).symm)
      rw[hbb,Option.bind_assoc]
      refine congrArg _ (funext fun m=>?_)
      simp only[hbo]
      split
      ·split
       ·simp only[aM]
        refine congrArg _ (funext fun old=>congrArg _ (funext fun q=>?_))
        exact fin _
       ·rfl
      ·rfl
     ·rfl
    ·rfl
   ·rfl
  ·rfl
 ·rfl
theorem O8(st:St)(dst:Option Nat)(t u:TypeId)(s x:D)(k:St→D→Option R):kV P st dst t u s x k=(kV P st.bare dst t u s x fun s d=>some (s.objs,d)).bind fun p=>k { st with objs:=p.1 } p.2:=by
 unfold kV
 split
 ·exact US _ _ _ _ _ _ _ _
 ·exact O7 _ _ _ _ _ _ _
end
theorem R0{R:Type}{P:Program}(st:St)(t:TypeId)(x:D)(lo hi mx:Option D)(k:St→D→Option R):lH P st t x lo hi mx k=(lH P st.bare t x lo hi mx fun s d=>some (s.objs,d)).bind fun p=>k { st with objs:=p.1 } p.2:=by
 have hb:st.bare.objs=st.objs:=rfl
 unfold lH
 split
 ·split
  ·unfold uB
   simp only[hb]
   repeat' (first | split | dsimp only)
   all_goals first
    | rfl
    | (rw[←iH];rfl)
  ·rfl
 ·have hbb:st.bare.bare=st.bare:=by simp[St.bare]
  have e2:=mI (P:=P) st.bare t x lo hi mx (fun d=>(some (st.bare.objs,d):Option (List O×D)))
  rw[hbb] at e2
  refine(mI st t x lo hi mx fun d=>k st d).trans (Eq.trans ?_ (congrArg (fun z:Option (List O×D)=>z.bind fun p=>k { st with objs:=p.1 } p.2) e2).symm)
  rw[Option.bind_assoc]
  rfl
section
variable {R S:Type} {P:Program}
theorem Th{α:Type}(m:Option α)(f:α→Option R)(g:R→Option S):(ob m f).bind g=ob m fun a=>(f a).bind g:=by cases m <;> rfl
theorem Ek(d:D)(f:C→Option R)(g:R→Option S):(lO d f).bind g=lO d fun c=>(f c).bind g:=by unfold lO;split <;> rfl
theorem R1(kd:IntKind)(d:D)(f:Int→Option R)(g:R→Option S):(HN kd d f).bind g=HN kd d fun c=>(f c).bind g:=by
 unfold HN CZ
 split
 ·exact Th _ _ _
 ·rfl
theorem El(d:D)(f:ByteArray→Option R)(g:R→Option S):(C0 d f).bind g=C0 d fun c=>(f c).bind g:=by
 unfold C0 CZ
 split
 ·exact Th _ _ _
 ·rfl
theorem JI:∀(cs:List C) (f:List T→Option R) (g:R→Option S),(uD cs f).bind g=uD cs fun c=>(f c).bind g
 | [],_,_=>rfl
 | c::cs,f,g=>by
  cases c with
  | t x=>
   simp only[uD]
   rw[Th]
   congr 1
   funext a
   exact JI cs _ _
  | _=>rfl
theorem uK(c:Nat)(d:D)(f:T→Option R)(g:R→Option S):(tJ c d f).bind g=tJ c d fun t=>(f t).bind g:=by
 match c with
 | 0=>exact R1 _ _ _ _
 | 1=>exact El _ _ _
 | m+2=>
  simp only[tJ]
  split
  ·split
   ·exact JI _ _ _
   ·rfl
  ·rfl
theorem R2(st:St)(n:Nat)(c:C)(f:List T→Option R)(g:R→Option S):(tM st n c f).bind g=tM st n c fun l=>(f l).bind g:=by
 unfold tM
 split
 ·split <;> rfl
 ·split
  ·split <;> rfl
  ·rfl
 ·rfl
theorem FD(e:TypeId)(v:T)(f:S1→Option R)(g:R→Option S):(G5 P e v f).bind g=G5 P e v fun s=>(f s).bind g:=by
 unfold G5
 split
 ·exact Th _ _ _
 ·split
  ·exact Th _ _ _
  ·rfl
 ·rfl
theorem UT(e:TypeId)(v:T)(g:S1→Option S):G5 P e v g=(G5 P e v some).bind g:=by rw[FD];rfl
theorem GQ(ts:List TypeId)(cs:List C)(f:List T→Option R)(g:R→Option S):(gK P ts cs f).bind g=gK P ts cs fun ts=>(f ts).bind g:=(iH ts cs f g).symm
theorem O9(st:St)(t:TypeId)(x ix:D)(ok:Bool)(k:D→Option R):o9 P st t x ix ok k=(o9 P st.bare t x ix ok some).bind k:=by
 have hb:∀n c (f:List T→Option R),tM st.bare n c f=tM st n c f:=fun _ _ _=>rfl
 unfold o9
 repeat' (first | split | dsimp only)
 all_goals first
  | rfl
  | (simp only[Ek,R2,uK,FD,hb];rfl)
theorem LX(st:St)(dst:Option Nat)(t:TypeId)(k:St→D→Option R):uE P st dst t k=(uE P st.bare dst t fun s d=>some (s.objs,d)).bind fun p=>k { st with objs:=p.1 } p.2:=by
 unfold uE
 repeat' (first | split | dsimp only)
 all_goals first
  | rfl
  | exact iN st dst _ (fun key=>.s (.c (.row key))) k
theorem PA(st:St)(t:TypeId)(m q v:D)(k:St→Option R):vS P st t m q v k=(vS P st.bare t m q v fun s=>some s.objs).bind fun p=>k { st with objs:=p }:=by
 have hb:st.bare.objs=st.objs:=rfl
 unfold vS
 split
 ·split
  ·rw[uK]
   congr 1
   funext kk
   simp only[hb]
   split
   ·split
    ·split
     ·split
      ·rw[GQ]
       congr 1
       funext ts
       split <;> rfl
      ·rfl
     ·rfl
    ·rfl
   ·rfl
  ·rfl
 ·rfl
theorem PB(st:St)(t:TypeId)(x ix:D)(ok:Bool)(k:D→Option R):m8 P st t x ix ok k=(m8 P st.bare t x ix ok some).bind k:=by
 unfold m8
 split
 ·have hb:st.bare.objs=st.objs:=rfl
  have hc:∀(b:Bool) (p q:Option D),(bif b then p else q).bind k=bif b then p.bind k else q.bind k:=fun b p q=>by cases b <;> rfl
  unfold WV
  rw[hb]
  repeat' (first | split | dsimp only)
  all_goals first
   | rfl
   | (rw[uK];congr 1;funext kk;rw[hc,aM];rfl)
 ·exact O9 _ _ _ _ _ _
theorem DL(st:St)(t:TypeId)(m q v:D)(k:St→Option R):m9 P st t m q v k=(m9 P st.bare t m q v fun s=>some s.objs).bind fun p=>k { st with objs:=p }:=by
 unfold m9
 split
 ·have hb:st.bare.objs=st.objs:=rfl
  have hf:iC st.bare=iC st:=by unfold iC St.bare;simp only[List.length_replicate]
  unfold DD
  rw[hb,hf]
  repeat' (first | split | dsimp only)
  all_goals first
   | rfl
   | (rw[uK];congr 1;funext kk;simp only[aM];rfl)
 ·exact PA _ _ _ _ _ _
theorem LY(st:St)(dst:Option Nat)(t:TypeId)(k:St→D→Option R):uG P st dst t k=(uG P st.bare dst t fun s d=>some (s.objs,d)).bind fun p=>k { st with objs:=p.1 } p.2:=by
 unfold uG
 repeat' (first | split | dsimp only)
 all_goals first
  | rfl
  | exact iN st dst _ (fun key=>.s (.c (.rk key))) k
theorem PC(st:St)(t:TypeId)(m q:D)(k:St→D→Option R):lW P st t m q k=(lW P st.bare t m q fun s d=>some (s.objs,d)).bind fun p=>k { st with objs:=p.1 } p.2:=by
 have hb:st.bare.objs=st.objs:=rfl
 unfold lW
 split
 ·split
  ·split
   ·split
    ·rw[uK]
     congr 1
     funext kk
     simp only[hb]
     split
     ·split
      ·split
       ·rw[FD]
        rfl
       ·rfl
      ·rfl
     ·rfl
    ·rfl
   ·rfl
  ·rfl
 ·rfl
theorem JJ(st:St)(t:TypeId)(m q v:D)(k:St→Option R):oQ P st t m q v k=(oQ P st.bare t m q v fun s=>some s.objs).bind fun p=>k { st with objs:=p }:=by
 have hb:st.bare.objs=st.objs:=rfl
 unfold oQ
 split
 ·rw[R1]
  congr 1
  funext kk
  simp only[hb]
  split
  ·split
   ·split
    ·rw[GQ]
     congr 1
     funext ts
     split
     ·rw[Th];rfl
     ·rfl
    ·rfl
   ·rfl
  ·rfl
 ·rfl
end
def Inl.Nat(I:Inl):Prop:=∀{R:Type} (st:St) (dst:Option _root_.Nat) (ds:List D) (k:St→D→Option R),I.go st dst ds k=(I.go st.bare dst ds fun s d=>some (s.objs,d)).bind fun p=>k { st with objs:=p.1 } p.2
def Callee.Nat0(A:Callee):Prop:=∀{R:Type} (args:List S1) (po:List O) (k:List S1→List O→Option R),A.call args po k=(A.call args po fun rs po'=>some (rs,po')).bind fun p=>k p.1 p.2
def Ext.Nat(I:Ext):Prop:=∀{R:Type} (ds:List D) (k:D→Option R),I.go ds k=(I.go ds some).bind k
def Callee.Nat(A:Callee):Prop:=A.Nat0∧(∀I,A.inl=some I→I.Nat)∧∀I,A.ext=some I→I.Nat
section
variable {R:Type} {P:Program} {Γ:FuncId→Option Callee}
theorem JK(st:St)(ks:List Nat):∀(cs:List C) (j:Nat) (ms:List (Option (TypeId×Nat))),iT st.bare ks j ms cs=iT st ks j ms cs
 | [],j,ms=>by cases ms <;> rfl
 | c::cs,j,ms=>by
  have h1:∀m,xA st.bare m c=xA st m c:=fun m=>rfl
  have h2:wZ st.bare ks c=wZ st ks c:=rfl
  simp only[iT,JK st ks cs,h1,h2]
theorem R3(st:St)(objs:List O)(dst:Option Nat)(n:Nat):qA { st.bare with objs:=objs } dst n=qA { st with objs:=objs } dst n:=by
 unfold qA St.bare
 simp only[List.length_replicate]
theorem CH{A:Callee}(hA:A.Nat)(st:St)(dst:Option Nat)(ds:List D)(k:St→D→Option R):
 oB A st dst ds k=(oB A st.bare dst ds fun s d=>some (s.objs,d)).bind fun p=>k { st with objs:=p.1 } p.2:=by
 have hb:st.bare.objs=st.objs:=rfl
 obtain⟨hA,hAi,_⟩:=hA
 unfold oB
 cases hinl:A.inl with
 | some I=>exact hAi I hinl st dst ds k
 | none=>
 dsimp only
 unfold qB
 cases ZL ds with
 | none=>rfl
 | some ss=>
  dsimp only
  rw[hb]
  cases jV ((lF A.deep st.objs ss).map (pG st.objs)) with
  | none=>rfl
  | some bl=>
   dsimp only
   rw[JK]
   cases iT st (lF A.deep st.objs ss) (lF A.deep st.objs ss).length A.rows (ss.flatMap S1.list++bl.flatten) with
   | none=>rfl
   | some q=>
    obtain⟨cs,rws⟩:=q
    dsimp only
    split
    ·refine(hA _ _ _).trans (Eq.trans ?_ (congrArg (fun z:Option (List O×D)=>z.bind fun p=>k { st with objs:=p.1 } p.2) (hA _ _ _)).symm)
     rw[Option.bind_assoc]
     refine congrArg _ (funext fun p=>?_)
     obtain⟨rs,po'⟩:=p
     dsimp only
     rw[R3]
     split
     ·rfl
     ·split
      ·rfl
      ·split
       ·split <;> rfl
       ·rfl
    ·rfl
theorem yQ(hΓ:∀f A,Γ f=some A→A.Nat)(st:St)(dst:Option Nat)(f:D)(args:List D)(k:St→D→Option R):
 fH Γ st dst f args k=(fH Γ st.bare dst f args fun s d=>some (s.objs,d)).bind fun p=>k { st with objs:=p.1 } p.2:=by
 unfold fH lO
 split
 ·dsimp only
  split
  ·split
   ·split
    ·rename_i A hA
     split
     ·rename_i I hI
      refine((hΓ _ A hA).2.2 I hI _ _).trans (Eq.trans ?_ (congrArg (fun z:Option (List O×D)=>z.bind fun p=>k { st with objs:=p.1 } p.2) ((hΓ _ A hA).2.2 I hI _ _)).symm)
      rw[Option.bind_assoc]
      rfl
     ·exact CH (hΓ _ A hA) st dst args k
    ·rfl
   ·rfl
  ·split
   ·rename_i A hA
    split
    ·rfl
    ·exact CH (hΓ _ A hA) st dst _ k
   ·rfl
  ·rfl
 ·rfl
end
section
variable {R:Type} (P:Program) (Γ:FuncId→Option Callee)
def cN(b:St)(dst:Option Nat)(ty:TypeId)(bi:Builtin)(args:List D)(ts:List TypeId):Option (List O×D):=match bi,args,ts with
 | .len,[x],[t]=>(sC P b t x some).bind fun d=>some (b.objs,d)
 | .append,[s,x],[t,u]=>kV P b dst t u s x fun s d=>some (s.objs,d)
 | .copy,[s,x],[t,_]=>IM P b t s x fun s d=>some (s.objs,d)
 | .min,[x,y],[t,_]=>(IV P false t x y some).bind fun d=>some (b.objs,d)
 | .max,[x,y],[t,_]=>(IV P true t x y some).bind fun d=>some (b.objs,d)
 | _,_,_=>none
def CI(b:St)(dst:Option Nat)(f:D)(args:List D):Option (List O×D):=match vT Γ with
 | []=>fH Γ b dst f args fun s d=>some (s.objs,d)
 | B=>if j0 (bE Γ) dst=true then fH Γ b dst f args fun s d=>some (s.objs,d) else if T8 B (f::args)=true then (fH Γ b dst f args fun s d=>some (s.objs,d)).bind fun p=>if QT B b.objs p.1=true then some p else none else none
def yR(b:St)(dst:Option Nat)(f:D)(args:List D):Option (List O×D):=if (BD Γ b.objs dst (f::args)&&mG Γ b dst (f::args))=true then CI Γ b dst f args else none
def yS(Γ:FuncId→Option Callee)(P:Program)(b:St)(dst:Option Nat)(t:TypeId):Option (List O×D):=match vT Γ with
 | []=>l6 P b dst t fun s d=>some (s.objs,d)
 | B=>if (E4 Γ b dst&&GJ Γ b dst)=true then (l6 P b dst t fun s d=>some (s.objs,d)).bind fun p=>if (QT B b.objs p.1||j0 (bE Γ) dst)=true then some p else none else none
def CJ(o:Oper)(b:St)(e:Operand→D):Option (List O×D):=match o.op with
 | .move x=>some (b.objs,e x)
 | .assign x=>some (b.objs,e x)
 | .pick c x y=>(LM (e c) some).bind fun q=>some (b.objs,bif q then e x else e y)
 | .alloc t=>yS Γ P b o.dst t
 | .box _ x=>Q2 b o.dst (e x) fun s d=>some (s.objs,d)
 | .build t parts=>(B3 P t (parts.toList.map fun p=>(p.1,e p.2)) some).bind fun d=>some (b.objs,d)
 | .buildSlice t len parts=>Jt Γ P b o.dst t len (parts.toList.map fun p=>(p.1,e p.2)) fun s d=>some (s.objs,d)
 | .load t x=>if xB Γ o.dst (e x)=true then (lG Γ P b o.dst t (e x) some).bind fun d=>some (b.objs,d) else none
 | .store t x v=>if (Dx Γ t (e x)&&WZ Γ t (e x))=true then (p9 P b t (e x) (e v) fun s=>some s.objs).bind fun q=>some (q,D.top) else none
 | .nilCheck x=>(ZU (e x) some).bind fun d=>some (b.objs,d)
 | .binOp op t x y yt=>(LR P b op t yt (e x) (e y) some).bind fun d=>some (b.objs,d)
 | .unOp op t x=>(Pn (P:=P) op t (e x) some).bind fun d=>some (b.objs,d)
 | .convert s t x=>(IK P b s t (e x) some).bind fun d=>some (b.objs,d)
 | .makeFunc fn f c=>(oN fn (f.toList.map e) (c.toList.map e) some).bind fun d=>some (b.objs,d)
 | .makeSlice t l c=>gW Γ P b o.dst t (e l) (e c) fun s d=>some (s.objs,d)
 | .slice t x lo hi mx=>if (BE Γ o.dst (e x)&&IX Γ o.dst (e x))=true then lH P b t (e x) (lo.map e) (hi.map e) (mx.map e) fun s d=>some (s.objs,d) else none
 | .fieldAddr t x f=>(l7 P t (e x) f some).bind fun d=>some (b.objs,d)
 | .field t x f=>(B4 P t (e x) f some).bind fun d=>some (b.objs,d)
 | .indexAddr t x ix=>(nA Γ P b o.dst t (e x) (e ix) some).bind fun d=>some (b.objs,d)
 | .index t x ix=>(B5 P t (e x) (e ix) some).bind fun d=>some (b.objs,d)
 | .extract x i=>(rK (e x) i some).bind fun d=>some (b.objs,d)
 | .call { callee:=.builtin bi,args,argTypes }=>if pJ Γ b o.dst bi (args.toList.map e)=true then cN P b o.dst o.type bi (args.toList.map e) argTypes.toList else none
 | .call { callee:=.value f,args,.. }=>yR Γ b o.dst (e f) (args.toList.map e)
 | .makeMap t none=>uI Γ P b o.dst t fun s d=>some (s.objs,d)
 | .lookup t x ix ok=>(m8 P b t (e x) (e ix) ok some).bind fun d=>some (b.objs,d)
 | .mapUpdate t m q v=>(m9 P b t (e m) (e q) (e v) fun s=>some s.objs).bind fun q=>some (q,D.top)
 | .insert t m q v=>(m9 P b t (e m) (e q) (e v) fun s=>some s.objs).bind fun q=>some (q,D.top)
 | .mapEntry t m q=>lW P b t (e m) (e q) fun s d=>some (s.objs,d)
 | .entryStore t m q v=>(oQ P b t (e m) (e q) (e v) fun s=>some s.objs).bind fun q=>some (q,D.top)
 | _=>none
end
section
variable {R:Type} {P:Program} {Γ:FuncId→Option Callee}
theorem Em(d:D)(k:Bool→Option R):LM d k=(LM d some).bind k:=by
 unfold LM CZ
 split
 ·simp only[aM];rfl
 ·rfl
theorem LZ(st:St)(dst:Option Nat)(ty:TypeId)(bi:Builtin)(args:List D)(ts:List TypeId)(k:St→D→Option R):
 DE P st dst ty bi args ts k=(cN P st.bare dst ty bi args ts).bind fun p=>k { st with objs:=p.1 } p.2:=by
 unfold DE
 split
 ·dsimp only[cN]
  rw[Z8,Option.bind_assoc];rfl
 ·exact O8 st dst _ _ _ _ k
 ·exact UR st _ _ _ k
 ·dsimp only[cN]
  rw[NB,Option.bind_assoc];rfl
 ·dsimp only[cN]
  rw[NB,Option.bind_assoc];rfl
 ·rename_i h1 h2 h3 h4 h5
  unfold cN
  split
  ·exact(h1 _ _ rfl rfl rfl).elim
  ·exact(h2 _ _ _ _ rfl rfl rfl).elim
  ·exact(h3 _ _ _ _ rfl rfl rfl).elim
  ·exact(h4 _ _ _ _ rfl rfl rfl).elim
  ·exact(h5 _ _ _ _ rfl rfl rfl).elim
  ·rfl
theorem UU(st:St)(dst:Option Nat)(t:TypeId)(d:D)(k:D→Option R):lG Γ P st dst t d k=(lG Γ P st.bare dst t d some).bind k:=by
 have hbx:oR st.bare d=oR st d:=rfl
 unfold lG
 rw[hbx]
 split
 ·exact JG _ _ _ _
 ·split
  ·exact JG _ _ _ _
  ·rfl
theorem R4(st:St)(dst:Option Nat)(t:TypeId)(x ix:D)(k:D→Option R):nA Γ P st dst t x ix k=(nA Γ P st.bare dst t x ix some).bind k:=by
 unfold nA
 split
 ·exact xC _ _ _ _ _
 ·split
  ·exact xC _ _ _ _ _
  ·rfl
theorem R5(st:St)(dst:Option Nat)(e:TypeId)(k:St→D→Option R):OV Γ P st dst e k=(yS Γ P st.bare dst e).bind fun p=>k { st with objs:=p.1 } p.2:=by
 unfold OV yS
 have ho:E4 Γ st.bare dst=E4 Γ st dst:=rfl
 have ho2:GJ Γ st.bare dst=GJ Γ st dst:=rfl
 rw[ho,ho2]
 generalize vT Γ=B
 cases B with
 | nil=>exact GP _ _ _ _
 | cons w B=>
  dsimp only
  split
  case isFalse=>rfl
  refine(GP _ _ _ _).trans ?_
  rw[Option.bind_assoc]
  refine congrArg _ (funext fun p=>?_)
  have hb:st.bare.objs=st.objs:=rfl
  rw[hb]
  split <;> rfl
theorem xD(Γ:FuncId→Option Callee)(st:St)(dst:Option Nat)(t:TypeId)(l c:D)(k:St→D→Option R):eO Γ P st dst t l c k=(eO Γ P st.bare dst t l c fun s d=>some (s.objs,d)).bind fun p=>k { st with objs:=p.1 } p.2:=by
 unfold eO
 split
 ·exact O6 _ _ _ _ _ _
 ·exact G9 _ _ _ _ _ _
theorem HA(Γ:FuncId→Option Callee)(st:St)(dst:Option Nat)(t:TypeId)(l c:D)(k:St→D→Option R):gW Γ P st dst t l c k=(gW Γ P st.bare dst t l c fun s d=>some (s.objs,d)).bind fun p=>k { st with objs:=p.1 } p.2:=by
 have hown:E4 Γ st.bare dst=E4 Γ st dst:=rfl
 unfold gW
 cases vT Γ with
 | nil=>exact xD _ _ _ _ _ _ _
 | cons w B=>
  dsimp only
  rw[hown]
  split
  ·exact xD _ _ _ _ _ _ _
  ·rfl
theorem L0(Γ:FuncId→Option Callee)(st:St)(dst:Option Nat)(t:TypeId)(k:St→D→Option R):uI Γ P st dst t k=(uI Γ P st.bare dst t fun s d=>some (s.objs,d)).bind fun p=>k { st with objs:=p.1 } p.2:=by
 unfold uI
 split
 ·exact LY _ _ _ _
 ·exact LX _ _ _ _
theorem En(st:St)(dst:Option Nat)(d:D):(st.put dst d).objs=st.objs:=by cases dst <;> rfl
theorem JL(st:St)(dst:Option Nat)(ds:List D):mG Γ st.bare dst ds=mG Γ st dst ds:=by
 unfold mG St.bare
 simp only[List.length_replicate]
theorem JM(st:St)(dst:Option Nat)(b:Builtin)(ds:List D):pJ Γ st.bare dst b ds=pJ Γ st dst b ds:=by
 unfold pJ WY
 simp only[JL]
 rfl
theorem UV(hΓ:∀f A,Γ f=some A→A.Nat)(st:St)(dst:Option Nat)(f:D)(args:List D)(k:St→Option R):
 WX Γ st dst f args k=(yR Γ st.bare dst f args).bind fun p=>k (({ st with objs:=p.1 }:St).put dst p.2):=by
 unfold WX yR
 have hb0:st.bare.objs=st.objs:=rfl
 have hb1:mG Γ st.bare dst (f::args)=mG Γ st dst (f::args):=by
  unfold mG St.bare
  simp only[List.length_replicate]
 rw[hb0,hb1]
 split
 case isFalse=>rfl
 unfold T9 CI
 generalize vT Γ=B
 cases B with
 | nil=>exact yQ hΓ st dst _ _ fun st d=>k (st.put dst d)
 | cons q B=>
  dsimp only
  split
  ·exact yQ hΓ st dst _ _ fun st d=>k (st.put dst d)
  split
  ·refine(yQ hΓ st dst _ _ _).trans ?_
   rw[Option.bind_assoc]
   refine congrArg _ (funext fun p=>?_)
   rw[En]
   have hb:st.bare.objs=st.objs:=rfl
   rw[hb]
   split <;> rfl
  ·rfl
theorem JN(hΓ:∀f A,Γ f=some A→A.Nat)(o:Oper)(st:St)(k:St→Option R):Qa P Γ o st k=(CJ P Γ o st.bare (ev st)).bind fun p=>k (({ st with objs:=p.1 }:St).put o.dst p.2):=by
 obtain⟨dst,op,ty,pos,after,guard⟩:=o
 unfold Qa CJ
 cases op with
 | move x=>rfl
 | assign x=>rfl
 | pick c x y=>
  dsimp only
  rw[Em,Option.bind_assoc]
  exact congrArg _ (funext fun q=>by cases q <;> rfl)
 | alloc e=>exact R5 st dst _ fun st d=>k (st.put dst d)
 | box e x=>exact Ac st dst _ fun st d=>k (st.put dst d)
 | build t parts=>dsimp only;rw[RX,Option.bind_assoc];rfl
 | buildSlice t n parts=>
  dsimp only
  unfold Jt
  split
  ·rw[mJ,mJ (k:=fun d=>some (st.bare.objs,d)),Option.bind_assoc];rfl
  show (if GK Γ st.objs dst=true then _ else _)=Option.bind (if GK Γ st.objs dst=true then _ else _) _
  split
  ·exact FC st dst _ _ _ fun st d=>k (st.put dst d)
  ·rfl
 | load t x=>
  dsimp only
  split
  ·rw[UU,Option.bind_assoc];rfl
  ·rfl
 | store t x v=>
  dsimp only
  split
  ·rw[RW,Option.bind_assoc];rfl
  ·rfl
 | nilCheck x=>dsimp only;rw[Z7,Option.bind_assoc];rfl
 | binOp op t x y yt=>dsimp only;rw[Ab,Option.bind_assoc];rfl
 | unOp op t x=>dsimp only;rw[Ej,Option.bind_assoc];rfl
 | convert s t x=>dsimp only;rw[UQ,Option.bind_assoc];rfl
 | makeFunc fn f c=>dsimp only;rw[JH,Option.bind_assoc];rfl
 | makeSlice t l c=>exact HA Γ st dst _ _ _ fun st d=>k (st.put dst d)
 | slice t x lo hi mx=>
  dsimp only
  split
  ·exact R0 st t _ _ _ _ fun st d=>k (st.put dst d)
  ·rfl
 | fieldAddr t x f=>dsimp only;rw[G8,Option.bind_assoc];rfl
 | field t x f=>dsimp only;rw[RY,Option.bind_assoc];rfl
 | indexAddr t x ix=>dsimp only;rw[R4,Option.bind_assoc];rfl
 | index t x ix=>dsimp only;rw[RZ,Option.bind_assoc];rfl
 | extract x i=>dsimp only;rw[LW,Option.bind_assoc];rfl
 | call c=>
  obtain⟨callee,args,argTypes⟩:=c
  cases callee with
  | builtin b=>
   dsimp only
   rw[JM]
   split
   ·exact LZ st dst ty b _ _ fun st d=>k (st.put dst d)
   ·rfl
  | value f=>exact UV hΓ st dst _ _ k
  | _=>rfl
 | makeMap t h=>
  cases h with
  | none=>exact L0 Γ st dst t fun st d=>k (st.put dst d)
  | some x=>rfl
 | lookup t x ix ok=>dsimp only;rw[PB,Option.bind_assoc];rfl
 | mapUpdate t m q v=>dsimp only;rw[DL,Option.bind_assoc];rfl
 | insert t m q v=>dsimp only;rw[DL,Option.bind_assoc];rfl
 | mapEntry t m q=>exact PC st t _ _ fun st d=>k (st.put dst d)
 | entryStore t m q v=>dsimp only;rw[JJ,Option.bind_assoc];rfl
 | _=>rfl
end
section
variable (P:Program) (Γ:FuncId→Option Callee) (ops:Array Oper)
def NC(d:D):Option Bool:=match d with
 | .s (.c (.t (.v (.bool b))))=>some b
 | _=>none
def XA(want:Bool)(d:D):Option Bool:=ZV d (some false) ((NC d).map (·==want))
def gd(o:Oper)(st:St):Option Bool:=match o.guard with
 | none=>some true
 | some (j,want)=>match (ops[j]?).bind (·.dst) with
  | none=>none
  | some t=>XA want (st.env.getD t D.top)
def fW(o:Oper)(st:St):Option (List O×D):=(gd ops o st).bind fun w=>bif w then CJ P Γ o st.bare (ev st) else some (st.objs,LS)
def St.with(st:St)(dst:Option Nat)(p:List O×D):St:=({ st with objs:=p.1 }:St).put dst p.2
def qK(i:Nat)(st:St):Option St:=match ops[i]? with
 | none=>some st
 | some o=>(fW P Γ ops o st).map (st.with o.dst)
end
section
variable {R:Type} {P:Program} {Γ:FuncId→Option Callee} {ops:Array Oper}
theorem Ad(d:D)(k:Bool→Option R):LM d k=(NC d).bind k:=by
 cases d with
 | tup l=>rfl
 | s x=>cases x with
  | agg l=>rfl
  | c c=>cases c with
   | t x=>cases x with
    | v y=>cases y <;> rfl
    | _=>rfl
   | _=>rfl
theorem Eo{d:D}{b:Bool}(h:NC d=some b):d=dB b:=by
 unfold NC at h
 split at h
 ·cases h;rfl
 ·cases h
theorem Ep(st:St){t:Nat}{b:Bool}(h:st.env.getD t D.top=dB b):st.put (some t) (dB b)=st:=by
 unfold St.put
 have hlt:t<st.env.length:=by
  apply Classical.byContradiction
  intro hge
  rw[List.getD_eq_getElem?_getD,List.getElem?_eq_none (by omega)] at h
  cases h
 have:st.env[t]=dB b:=by rw[List.getD_eq_getElem?_getD,List.getElem?_eq_getElem hlt] at h;exact h
 have h2:st.env.set t (dB b)=st.env:=by rw[←this];exact List.set_getElem_self hlt
 dsimp only
 rw[h2]
theorem AK(hΓ:∀f A,Γ f=some A→A.Nat):∀(l:List Nat) (st:St) (k:St→Option R),yJ P Γ ops l st k=(l.foldlM (fun st i=>qK P Γ ops i st) st).bind k
 | [],st,k=>rfl
 | i::l,st,k=>by
  rw[List.foldlM_cons]
  simp only[yJ,qK]
  cases ho:ops[i]? with
  | none=>exact AK hΓ l st k
  | some o=>
   dsimp only
   have fin:∀(p:Option (List O×D)),(p.bind fun p=>yJ P Γ ops l (({ st with objs:=p.1 }:St).put o.dst p.2) k)=((p.map (st.with o.dst)).bind fun s=>l.foldlM (fun st i=>qK P Γ ops i st) s).bind k:=fun p=>by
    cases p with
    | none=>rfl
    | some p=>exact AK hΓ l _ k
   cases hg:o.guard with
   | none=>
    dsimp only
    rw[JN hΓ]
    have:fW P Γ ops o st=CJ P Γ o st.bare (ev st):=by simp[fW,gd,hg]
    rw[this]
    exact fin _
   | some g=>
    obtain⟨j,want⟩:=g
    dsimp only
    cases hd:(ops[j]?).bind (·.dst) with
    | none=>simp[fW,gd,hg,hd]
    | some t=>
     dsimp only
     rw[Ad]
     unfold ZV
     split
     ·rename_i hoff
      have he:fW P Γ ops o st=some (st.objs,LS):=by
       simp only[fW,gd,hg,hd,hoff,XA,ZV,Option.bind_some,cond_false]
      rw[he]
      exact fin (some (st.objs,LS))
     rename_i hoff
     have hbw:XA want (st.env.getD t D.top)=(NC (st.env.getD t D.top)).map (·==want):=by
      unfold XA ZV
      split
      ·rename_i h;exact(hoff h).elim
      ·rfl
     cases hb:NC (st.env.getD t D.top) with
     | none=>simp only[fW,gd,hg,hd,hbw,hb];rfl
     | some b=>
      have hs:=Ep st (Eo hb)
      have he:fW P Γ ops o st=bif b==want then CJ P Γ o st.bare (ev st) else some (st.objs,LS):=by
       simp only[fW,gd,hg,hd,hbw,hb,Option.map_some,Option.bind_some]
      rw[he]
      cases b with
      | true=>
       simp only[Option.bind_some,cond_true]
       rw[hs]
       cases want with
       | true=>simp only[if_true];rw[JN hΓ];exact fin _
       | false=>exact fin (some (st.objs,LS))
      | false=>
       simp only[Option.bind_some,cond_false]
       rw[hs]
       cases want with
       | true=>exact fin (some (st.objs,LS))
       | false=>simp only[Bool.false_eq_true,if_false];rw[JN hΓ];exact fin _
theorem Qi{st:St}{t:Nat}{d:D}{x:Operand}(h:x≠.tmp t):ev (st.put (some t) d) x=ev st x:=by
 cases x with
 | tmp i=>
  have hne:t≠i:=fun e=>h (e▸rfl)
  simp only[ev,St.put,List.getD_eq_getElem?_getD]
  rw[List.getElem?_set_ne hne]
 | _=>rfl
theorem Er(st:St)(dst:Option Nat)(d:D):(st.put dst d).bare=st.bare:=by
 cases dst with
 | none=>rfl
 | some i=>simp[St.put,St.bare]
theorem Ae{e e':Operand→D}(o:Oper)(b:St)(h:∀x∈o.op.operands,e x=e' x):CJ P Γ o b e=CJ P Γ o b e':=by
 obtain⟨dst,op,type,pos,after,guard⟩:=o
 have pairs:∀ps:Array (Nat×Operand),(∀x∈(ps.toList.map (·.2)).toArray,e x=e' x)→(ps.toList.map fun p=>(p.1,e p.2))=(ps.toList.map fun p=>(p.1,e' p.2)):=fun ps hp=>
  List.map_congr_left fun p hm=>by rw[hp p.2 (by simp only[List.mem_toArray,List.mem_map];exact⟨p,hm,rfl⟩)]
 have lst:∀l:Array Operand,(∀x∈l,e x=e' x)→l.toList.map e=l.toList.map e':=fun l hl=>List.map_congr_left fun x hx=>hl x (Array.mem_toList_iff.1 hx)
 cases op <;> simp only[Op.operands] at h <;> unfold CJ <;> dsimp only
 case build t ps=>rw[pairs ps h]
 case buildSlice t n ps=>rw[pairs ps h]
 case makeFunc fn first captured=>rw[lst first fun x hx=>h x (by simp[hx]),lst captured fun x hx=>h x (by simp[hx])]
 case slice t x lo hi mx=>cases lo <;> cases hi <;> cases mx <;> simp_all
 case makeMap t q=>cases q <;> rfl
 case call c=>
  obtain⟨callee,args,ats⟩:=c
  have hargs:=lst args fun x hx=>h x (by simp[Call.operands,hx])
  cases callee with
  | builtin bi=>dsimp only;rw[hargs]
  | value f=>dsimp only;rw[hargs,h f (by simp[Call.operands])]
  | _=>rfl
 all_goals first
  | rfl
  | (simp_all;done)
theorem XC{o:Oper}{st:St}{dst:Option Nat}{d:D}(h:∀t,dst=some t→t∉o.looksAt ops):fW P Γ ops o (st.put dst d)=fW P Γ ops o st:=by
 cases dst with
 | none=>rfl
 | some t=>
  have ht:=h t rfl
  have h1:CJ P Γ o (st.put (some t) d).bare (ev (st.put (some t) d))=CJ P Γ o st.bare (ev st):=by
   rw[Er]
   exact Ae o st.bare fun x hx=>Qi fun e=>ht (by
    subst e
    exact List.mem_append_left _ (List.mem_filterMap.2 ⟨.tmp t,by simpa using hx,rfl⟩))
  have h2:gd ops o (st.put (some t) d)=gd ops o st:=by
   unfold gd
   cases hg:o.guard with
   | none=>rfl
   | some g=>
    obtain⟨j,want⟩:=g
    dsimp only
    cases hd:(ops[j]?).bind (·.dst) with
    | none=>rfl
    | some i=>
     have hne:t≠i:=fun e=>ht (by
      subst e
      refine List.mem_append_right _ ?_
      simp[hg,hd])
     dsimp only[St.put]
     rw[List.getD_eq_getElem?_getD,List.getD_eq_getElem?_getD,List.getElem?_set_ne hne]
  unfold fW
  rw[h1,h2]
  rfl
end
def Qj(pl:List Nat):Option Nat→Bool
 | some s=>pl.contains (30000000+s)
 | none=>false
def Kh(pl:List Nat)(o:Oper):Bool:=match o.op with
 | .buildSlice _ _ _=>match o.dst with
  | some s=>pl.contains (90500000+s)
  | none=>false
 | .call { callee:=.value (.func f),.. }=>pl.contains (f+1000000)&&!Qj pl o.dst
 | .call { callee:=.builtin .min,.. }=>true
 | .call { callee:=.builtin .max,.. }=>true
 | .move _=>true
 | .assign _=>true
 | .pick _ _ _=>true
 | .build _ _=>true
 | .nilCheck _=>true
 | .unOp _ _ _=>true
 | .makeFunc _ _ _=>true
 | .fieldAddr _ _ _=>true
 | .field _ _ _=>true
 | .index _ _ _=>true
 | .extract _ _=>true
 | .binOp .eql _ _ _ _=>false
 | .binOp .neq _ _ _ _=>false
 | .binOp _ _ _ _ _=>true
 | _=>false
def Iz(pl:List Nat)(o:Oper):Bool:=match o.op with
 | .load _ _=>true
 | .convert _ _ _=>true
 | .indexAddr _ _ _=>true
 | .binOp _ _ _ _ _=>true
 | .lookup _ _ _ _=>true
 | .slice _ _ lo hi mx=>lo.isSome||hi.isSome||mx.isSome
 | .call { callee:=.builtin .len,.. }=>true
 | .call { callee:=.builtin .min,.. }=>true
 | .call { callee:=.builtin .max,.. }=>true
 | .call { callee:=.value (.func f),.. }=>pl.contains f||pl.contains (f+1000000)
 | _=>Kh pl o
def Callee.Pure0(A:Callee):Prop:=(A.inl=none∧A.ext=none)∧∀(args:List S1) (po:List O) (rs:List S1) (po':List O),A.call args po (fun rs po'=>some (rs,po'))=some (rs,po')→po=[]∧po'=[]∧rs.all (fun s=>s.list.all yC)=true
def Callee.Pure(A:Callee):Prop:=A.ext=none∧∀{b:St} {dst:Option _root_.Nat} {ds:List D} {p:List O×D},(oB A b dst ds fun s d=>some (s.objs,d))=some p→p.1=b.objs
def Callee.PureP(A:Callee):Prop:=A.ext=none∧∀(b:St) (q:List O) (dst:Option _root_.Nat) (ds:List D),(oB A { b with objs:=q } dst ds fun s d=>some (s.objs,d))=(oB A b dst ds fun s d=>some (s.objs,d)).map fun p=>(q,p.2)
def BoxSame(o o':List O)(k:Nat):Prop:=∀l,o[k]?=some (.box l)↔o'[k]?=some (.box l)
theorem kH{o:List O}{K:Nat}{x:O}{k:Nat}(h1:gV o[K]?=false)(h2:gV (some x)=false):BoxSame o (o.set K x) k:=fun l=>by
 by_cases hk:K=k
 ·subst hk
  constructor
  ·intro h;rw[h] at h1;cases h1
  ·intro h
   rw[List.getElem?_set] at h
   split at h
   ·split at h
    ·cases h;cases h2
    ·cases h
   ·exact h
 ·rw[List.getElem?_set_ne hk]
theorem BoxSame.trans{a b c:List O}{k:Nat}(h1:BoxSame a b k)(h2:BoxSame b c k):BoxSame a c k:=fun l=>(h1 l).trans (h2 l)
theorem BoxSame.refl(a:List O)(k:Nat):BoxSame a a k:=fun _=>Iff.rfl
theorem rS{α:Type}{st:St}{dst:Option Nat}{o:O}{f:St→Nat→Option α}{r:α}(ho:gV (some o)=false)(h:gO st dst o f=some r):∃K,(∀k,BoxSame st.objs (st.objs.set K o) k)∧f { st with objs:=st.objs.set K o } K=some r:=by
 unfold gO at h
 split at h
 ·split at h
  ·rename_i d _ hf
   exact⟨_,fun k=>kH (by rw[hf];rfl) ho,h⟩
  ·split at h
   ·rename_i hf
    exact⟨_,fun k=>kH (by rw[hf];rfl) ho,h⟩
   ·split at h
    ·rename_i K hK
     have hm:K∈(List.range st.objs.length).filter fun i=>decide (st.np+st.env.length≤i)&&g9 st.objs[i]?:=by
      unfold iC at hK
      exact List.mem_of_mem_head? hK
     have h2:=(List.mem_filter.1 hm).2
     simp only[Bool.and_eq_true] at h2
     exact⟨_,fun k=>kH (by
      have:=h2.2
      unfold g9 at this
      split at this
      ·rename_i e;rw[e];rfl
      ·cases this) ho,h⟩
    ·cases h
 ·cases h
theorem L4{P:Program}{b:St}{dst:Option Nat}{t u:TypeId}{s x:D}{p:List O×D}(h:(jZ P b dst t u s x fun s d=>some (s.objs,d))=some p)(k:Nat):BoxSame b.objs p.1 k:=by
 have own:∀{e:TypeId} {n:Nat} {c:C} {f:St→List T→Option (List O×D)},vK b e n c f=some p→(∀st l,BoxSame b.objs st.objs k→f st l=some p→BoxSame b.objs p.1 k)→BoxSame b.objs p.1 k:=fun {e n c f} h hf=>by
  unfold vK at h
  split at h
  ·exact hf _ _ (.refl _ _) h
  ·split at h
   ·rename_i hob
    split at h
    ·exact hf _ _ (kH (by rw[hob];rfl) rfl) h
    ·cases h
   ·cases h
  ·split at h
   ·rename_i hob
    split at h
    ·exact hf _ _ (kH (by rw[hob];rfl) rfl) h
    ·cases h
   ·cases h
  ·cases h
 have tail:∀{st:St} {e n:Nat} {q:List T},BoxSame b.objs st.objs k→(gO st dst (.row false e n q) fun st key=>some (st.objs,D.s (.c (.row key))))=some p→BoxSame b.objs p.1 k:=fun {st e n q} hb h=>by
  obtain⟨K,h1,h2⟩:=rS rfl h
  cases h2
  exact hb.trans (h1 k)
 unfold jZ at h
 split at h
 case h_2=>cases h
 split at h
 case h_2=>cases h
 split at h
 case h_2=>cases h
 split at h
 case isFalse=>cases h
 unfold lO at h
 split at h
 case h_2=>cases h
 split at h
 ·split at h
  case h_2=>cases h
  unfold gT at h
  dsimp only at h
  split at h
  ·obtain⟨l,_,h⟩:=aC h
   exact own h fun st l hb h=>by
    obtain⟨q,_,h⟩:=aC h
    exact tail hb h
  ·split at h
   ·split at h
    ·exact own h fun st l hb h=>by
      obtain⟨q,_,h⟩:=aC h
      exact tail hb h
    ·cases h
   ·cases h
  ·split at h
   ·split at h
    ·exact own h fun st l hb h=>by
      obtain⟨q,_,h⟩:=aC h
      exact tail hb h
    ·cases h
   ·cases h
  ·cases h
 ·split at h
  ·obtain⟨s',h⟩:∃s',(vK b _ 1 _ fun st l=>ob (room l (iS s') 1) fun q=>gO st dst (.row false _ 1 q) fun st key=>some (st.objs,D.s (.c (.row key))))=some p:=by
    cases x with
    | tup l=>cases h
    | s sx=>cases sx with
     | agg l=>cases h
     | c cx=>cases cx with
      | t tx=>
       obtain⟨s',_,h⟩:=aC (show ob tx.str? _=some p from h)
       exact⟨s',h⟩
      | _=>cases h
   exact own h fun st l hb h=>by
    obtain⟨q,_,h⟩:=aC h
    exact tail hb h
  ·cases h
theorem rT{R:Type}{ix:D}{f:Int→Option R}{r:R}(h:gU ix f=some r):∃i,f i=some r∧∀{S:Type} (g:Int→Option S),gU ix g=g i:=by
 unfold gU CZ at h
 unfold gU CZ
 cases ix with
 | tup l=>cases h
 | s s=>cases s with
  | agg l=>cases h
  | c c=>cases c with
   | t x=>
    dsimp only at h ⊢
    obtain⟨i,h1,h2⟩:=aC h
    exact⟨i,h2,fun g=>by rw[h1];rfl⟩
   | _=>cases h
theorem UW{R:Type}{st:St}{n:Nat}{c:C}{f:List T→Option R}{r:R}(h:gT st n c f=some r):∃m,f m=some r:=by
 unfold gT at h
 split at h
 ·obtain⟨l,_,h⟩:=aC h
  exact⟨l,h⟩
 ·split at h
  ·split at h
   ·exact⟨_,h⟩
   ·cases h
  ·cases h
 ·split at h
  ·split at h
   ·exact⟨_,h⟩
   ·cases h
  ·cases h
 ·cases h
theorem R6{P:Program}{b:St}{dst:Option Nat}{t u:TypeId}{key i:Nat}{x:D}{p:List O×D}(h:(GF P b dst t u key i x fun s d=>some (s.objs,d))=some p)(k:Nat):BoxSame b.objs p.1 k:=by
 unfold GF at h
 split at h
 case h_2=>cases h
 split at h
 case h_2=>cases h
 split at h
 case h_2=>cases h
 split at h
 case isFalse=>cases h
 unfold lO at h
 split at h
 case h_2=>cases h
 obtain⟨m,h⟩:=UW h
 split at h
 case h_2=>cases h
 rename_i hob
 split at h
 case isFalse=>cases h
 obtain⟨old,_,h⟩:=aC h
 obtain⟨q,_,h⟩:=aC h
 obtain⟨K,h1,h2⟩:=rS rfl h
 cases h2
 refine(h1 k).trans (kH ?_ rfl)
 rw[List.getElem?_set]
 split
 ·split <;> rfl
 ·rw[hob];rfl
theorem L5{P:Program}{b:St}{dst:Option Nat}{t u:TypeId}{s x:D}{p:List O×D}(h:(kV P b dst t u s x fun s d=>some (s.objs,d))=some p)(k:Nat):BoxSame b.objs p.1 k:=by
 unfold kV at h
 split at h
 ·exact R6 h k
 ·exact L4 h k
theorem tQ(k:Nat):∀(ks:List Nat) (objs:List O),BoxSame objs (freezeL objs ks) k
 | [],objs=>.refl _ _
 | x::ks,objs=>by
  rw[freezeL_cons]
  split
  ·rename_i o ho
   refine BoxSame.trans (fun l=>?_) (tQ k ks _)
   by_cases hk:x=k
   ·subst hk
    have hlt:x<objs.length:=by
     rw[List.getElem?_eq_some_iff] at ho
     exact ho.1
    rw[List.getElem?_set_self hlt,ho]
    cases o <;> simp[fX]
   ·rw[List.getElem?_set_ne hk]
  ·exact tQ k ks objs
theorem Af{R:Type}{P:Program}{t:TypeId}{c:C}{k:T→Option R}{r:R}(h:GC P t c k=some r):∃x,k x=some r:=by
 unfold GC at h
 split at h
 ·obtain⟨n,_,h⟩:=aC h;exact⟨_,h⟩
 ·obtain⟨n,_,h⟩:=aC h;exact⟨_,h⟩
 ·obtain⟨n,_,h⟩:=aC h;exact⟨_,h⟩
 ·split at h
  ·split at h
   ·obtain⟨n,_,h⟩:=aC h;exact⟨_,h⟩
   ·cases h
  ·cases h
 ·split at h
  ·exact⟨_,h⟩
  ·cases h
theorem rU{R:Type}{P:Program}{r:R}:∀{ts:List TypeId} {cs:List C} {k:List T→Option R},gK P ts cs k=some r→∃xs,k xs=some r
 | [],[],k,h=>⟨[],h⟩
 | [],_::_,k,h=>by simp[gK] at h
 | _::_,[],k,h=>by simp[gK] at h
 | t::ts,c::cs,k,h=>by
  simp only[gK] at h
  obtain⟨x,h⟩:=Af h
  obtain⟨xs,h⟩:=rU h
  exact⟨_,h⟩
theorem JO{objs:List O}{cs:List C}{q:List O×List C}(h:EV objs cs=some q)(k:Nat):BoxSame objs q.1 k:=by
 unfold EV at h
 obtain⟨l,_,h⟩:=Option.map_eq_some_iff.1 h
 subst h
 exact tQ k _ _
theorem DM{P:Program}{b:St}{dst:Option Nat}{t:TypeId}{n:Nat}{parts:List (Nat×D)}{p:List O×D}(h:(fU P b dst t n parts fun s d=>some (s.objs,d))=some p)(k:Nat):BoxSame b.objs p.1 k:=by
 unfold fU at h
 split at h
 ·split at h
  case h_2=>cases h
  split at h
  case h_2=>cases h
  split at h
  case isFalse=>cases h
  obtain⟨K,h1,h2⟩:=rS rfl h
  cases h2
  exact h1 k
 ·unfold iG at h
  split at h
  case h_2=>cases h
  split at h
  case h_2=>cases h
  split at h
  case h_2=>cases h
  split at h
  case h_2=>cases h
  split at h
  case isFalse=>cases h
  split at h
  case h_2=>cases h
  split at h
  case h_2=>cases h
  rename_i q hq
  split at h
  case h_2=>cases h
  have h:=h
  rw[show ∀(ts:List TypeId) (cs:List C) (f:List T→Option (List O×D)),gK P ts cs f=(gK P ts cs some).bind f from fun ts cs f=>iH ts cs some f] at h
  obtain⟨ts,_,h⟩:=Option.bind_eq_some_iff.1 h
  obtain⟨K,h1,h2⟩:=rS rfl h
  cases h2
  exact(JO hq k).trans (h1 k)
theorem HU:∀(l acc:List Nat) (k:Nat),k∈Iy acc l→k∈acc∨k∈l
 | [],acc,k,h=>by simp only[Iy,List.mem_reverse] at h;exact .inl h
 | a::l,acc,k,h=>by
  simp only[Iy] at h
  split at h
  ·rcases HU l acc k h with h | h
   ·exact .inl h
   ·exact .inr (by simp[h])
  ·rcases HU l (a::acc) k h with h | h
   ·rcases List.mem_cons.1 h with h | h
    ·subst h;exact .inr (by simp)
    ·exact .inl h
   ·exact .inr (by simp[h])
def Es(b:St)(dst:Option _root_.Nat)(k:_root_.Nat):Prop:=k<b.np+b.env.length∧∀s,dst=some s→k≠b.np+s
def Callee.Framed(A:Callee):Prop:=A.ext=none∧(∀{b:St} {dst:Option _root_.Nat} {ds:List D} {p:List O×D},(oB A b dst ds fun s d=>some (s.objs,d))=some p →
 ∀k l,(∀d∈ds,k∉MY d)→b.objs[k]?=some (.box l)→p.1[k]?=some (.box l)) ∧
 ∀{b:St} {dst:Option _root_.Nat} {ds:List D} {p:List O×D},(oB A b dst ds fun s d=>some (s.objs,d))=some p→(∀k,G6 b.objs[k]?=true→jE b.objs k ds=true→p.1[k]?=b.objs[k]?) ∧
  ∀k x,jE b.objs k ds=true→Es b dst k→(oB A { b with objs:=b.objs.set k x } dst ds fun s d=>some (s.objs,d))=some (p.1.set k x,p.2)
theorem Callee.PureP.pure{A:Callee}(h:A.PureP):A.Pure:=⟨h.1,fun {b dst ds p} hp=>by
 have:=h.2 b b.objs dst ds
 have e:({ b with objs:=b.objs }:St)=b:=rfl
 rw[e,hp] at this
 simp only[Option.map_some,Option.some.injEq] at this
 rw[this]⟩
theorem Callee.PureP.framed{A:Callee}(h:A.PureP):A.Framed:=⟨h.1,fun hp k l _ hb=>by rw[h.pure.2 hp];exact hb,fun {b dst ds p} hp=>⟨fun k _ _=>by rw[h.pure.2 hp],fun k x _ _=>by
 have h1:=h.2 b (b.objs.set k x) dst ds
 rw[hp] at h1
 rw[h1,h.pure.2 hp]
 rfl⟩⟩
theorem PD{st:St}{dst:Option Nat}{n k:Nat}{x:O}(h:Es st dst k):qA { st with objs:=st.objs.set k x } dst n=qA st dst n:=by
 obtain⟨h1,h2⟩:=h
 unfold qA
 split
 ·rfl
 ·rename_i n d
  have hne:∀i,i≠k→g9 (st.objs.set k x)[i]?=g9 st.objs[i]?:=fun i hi=>by rw[List.getElem?_set_ne (fun e=>hi e.symm)]
  have e1:(([0,1,2,3,4,5].map fun j=>st.np+(j*st.env.length+d)).filter fun i=>g9 (st.objs.set k x)[i]?)=(([0,1,2,3,4,5].map fun j=>st.np+(j*st.env.length+d)).filter fun i=>g9 st.objs[i]?):=by
   refine List.filter_congr fun i hi=>hne i ?_
   obtain⟨j,_,rfl⟩:=List.mem_map.1 hi
   have h3:=h2 d rfl
   cases j with
   | zero=>intro e;apply h3;rw[←e];simp
   | succ j=>
    have:(j+1)*st.env.length=j*st.env.length+st.env.length:=Nat.succ_mul _ _
    omega
  have e2:((List.range (st.objs.set k x).length).filter fun i=>decide (st.np+st.env.length≤i)&&g9 (st.objs.set k x)[i]?)=((List.range st.objs.length).filter fun i=>decide (st.np+st.env.length≤i)&&g9 st.objs[i]?):=by
   rw[List.length_set]
   refine List.filter_congr fun i _=>?_
   by_cases hi:st.np+st.env.length≤i
   ·rw[hne i (by omega)]
   ·rw[decide_eq_false hi];rfl
  dsimp only
  rw[e1,e2]
 ·rfl
theorem UX{st:St}{dst:Option Nat}{n k:Nat}{nk:List Nat}(h:qA st dst n=some nk)(hi:Es st dst k):k∉nk:=by
 obtain⟨h1,h2⟩:=hi
 unfold qA at h
 split at h
 ·cases h;simp
 ·rename_i n d
  dsimp only at h
  split at h
  ·cases h
   intro hk
   obtain⟨hk2,hk3⟩:=List.mem_filter.1 (List.mem_of_mem_take hk)
   obtain⟨j,_,e⟩:=List.mem_map.1 hk2
   have h3:=h2 d rfl
   cases j with
   | zero=>apply h3;rw[←e];simp
   | succ j=>
    have:(j+1)*st.env.length=j*st.env.length+st.env.length:=Nat.succ_mul _ _
    omega
  ·split at h
   ·cases h
    intro hk
    obtain⟨hk2,hk3⟩:=List.mem_filter.1 (List.mem_of_mem_take hk)
    rw[Bool.and_eq_true,decide_eq_true_eq] at hk3
    omega
   ·cases h
 ·cases h
theorem R7{st:St}{ks:List Nat}{k:Nat}{x:O}:∀{c:C},k∉C.rs c→wZ { st with objs:=st.objs.set k x } ks c=wZ st ks c:=fun {c} h=>by
 unfold wZ
 cases c with
 | row key=>dsimp only;rw[List.getElem?_set_ne (fun e=>h (by simp[C.rs,e]))]
 | cut key n lo len s=>dsimp only;rw[List.getElem?_set_ne (fun e=>h (by simp[C.rs,e]))]
 | _=>rfl
theorem R8{st:St}{m:TypeId×Nat}{k:Nat}{x:O}:∀{c:C},k∉C.rs c→xA { st with objs:=st.objs.set k x } m c=xA st m c:=fun {c} h=>by
 cases c with
 | row key=>simp only[xA];rw[List.getElem?_set_ne (fun e=>h (by simp[C.rs,e]))]
 | t v=>
  cases v with
  | v w=>
   cases w with
   | slice p l c=>cases p <;> cases l <;> cases c <;> rfl
   | _=>rfl
  | _=>rfl
 | _=>rfl
theorem GR{st:St}{ks:List Nat}{k:Nat}{x:O}:∀(cs:List C) (j:Nat) (ms:List (Option (TypeId×Nat))),(∀c∈cs,k∉C.rs c)→iT { st with objs:=st.objs.set k x } ks j ms cs=iT st ks j ms cs
 | [],j,ms,_=>by cases ms <;> rfl
 | c::cs,j,ms,h=>by
  have h1:∀m,xA { st with objs:=st.objs.set k x } m c=xA st m c:=fun m=>R8 (h c (by simp))
  have h2:wZ { st with objs:=st.objs.set k x } ks c=wZ st ks c:=R7 (h c (by simp))
  have h3:=fun j ms=>GR (st:=st) (ks:=ks) (k:=k) (x:=x) cs j ms fun c hc=>h c (List.mem_cons_of_mem _ hc)
  simp only[iT,h3,h1,h2]
theorem tT{k:Nat}{x:O}:∀(rows:List Nat) (objs:List O),k∉rows→freezeL (objs.set k x) rows=(freezeL objs rows).set k x
 | [],_,_=>rfl
 | q::rows,objs,h=>by
  simp only[List.mem_cons,not_or] at h
  simp only[freezeL_cons]
  rw[List.getElem?_set_ne h.1]
  split
  ·rw[List.set_comm _ _ h.1]
   exact tT rows _ h.2
  ·exact tT rows _ h.2
theorem CK{k:Nat}{x:O}:∀(km:List (Option Nat)) (po:List O) (objs:List O),some k∉km→vN (objs.set k x) km po=(vN objs km po).set k x
 | [],po,objs,_=>by cases po <;> rfl
 | some q::km,[],objs,_=>rfl
 | none::km,[],objs,_=>rfl
 | some q::km,o::po,objs,h=>by
  simp only[List.mem_cons,not_or] at h
  simp only[vN]
  rw[List.set_comm _ _ (fun e=>h.1 (by rw[e]))]
  exact CK km po _ h.2
 | none::km,o::po,objs,h=>by
  simp only[List.mem_cons,not_or] at h
  simp only[vN]
  exact CK km po _ h.2
theorem qU:∀(cs:List C) (ms:List (Option (TypeId×Nat))) (k:Nat),k∈fF ms cs→∃c∈cs,k∈C.rs c
 | [],ms,k,h=>by cases ms <;> simp[fF] at h
 | c::cs,ms,k,h=>by
  simp only[fF] at h
  split at h
  ·obtain⟨c',h1,h2⟩:=qU cs ms.tail k h
   exact⟨c',List.mem_cons_of_mem _ h1,h2⟩
  ·rcases List.mem_append.1 h with h | h
   ·exact⟨c,List.mem_cons_self ..,h⟩
   ·obtain⟨c',h1,h2⟩:=qU cs ms.tail k h
    exact⟨c',List.mem_cons_of_mem _ h1,h2⟩
theorem Ag{st:St}{m:TypeId×Nat}{c:C}{p:Option Nat×O}{k:Nat}(h:xA st m c=some p)(hk:p.1=some k):k∈C.rs c:=by
 unfold xA at h
 split at h
 ·split at h
  ·split at h
   case isFalse=>cases h
   cases h
   cases hk
   simp[C.rs]
  ·split at h
   case isFalse=>cases h
   cases h
   cases hk
   simp[C.rs]
  ·cases h
 ·split at h
  case isFalse=>cases h
  cases h
  cases hk
 ·cases h
theorem AL{st:St}{ks:List Nat}:∀(cs:List C) (j:Nat) (ms:List (Option (TypeId×Nat))) (cs':List C) (rws:List (Option Nat×O)),iT st ks j ms cs=some (cs',rws)→∀p∈rws,∀k,p.1=some k→∃c∈cs,k∈C.rs c
 | [],j,ms,cs',rws,hh,p,hp,k,hk=>by
  cases ms <;> (simp only[iT,Option.some.injEq,Prod.mk.injEq] at hh;obtain⟨_,rfl⟩:=hh;simp at hp)
 | c::cs,j,ms,cs',rws,hh,p,hp,k,hk=>by
  simp only[iT] at hh
  split at hh
  ·split at hh
   ·rename_i p' q hp' hq
    cases hh
    rcases List.mem_cons.1 hp with rfl | hp
    ·exact⟨c,List.mem_cons_self ..,Ag hp' hk⟩
    ·obtain⟨c',h1,h2⟩:=AL cs (j+1) ms.tail _ _ hq p hp k hk
     exact⟨c',List.mem_cons_of_mem _ h1,h2⟩
   ·cases hh
  ·split at hh
   ·rename_i c' q hp' hq
    cases hh
    obtain⟨c',h1,h2⟩:=AL cs j ms.tail _ _ hq p hp k hk
    exact⟨c',List.mem_cons_of_mem _ h1,h2⟩
   ·cases hh
theorem DN{objs:List O}{k:Nat}{ss:List S1}{bl:List (List C)}(h:jE objs k (ss.map .s)=true)(hbl:jV ((lF false objs ss).map (pG objs))=some bl):(∀c∈ss.flatMap S1.list++bl.flatten,k∉C.rs c)∧k∉lF false objs ss:=by
 have h0:∀s∈ss,∀c∈s.list,k∉C.rs c∧∀k'∈c.ks,k'≠k∧k∉Ns objs[k']?:=fun s hs c hc=>by
  have:=List.all_eq_true.1 (List.all_eq_true.1 h (.s s) (List.mem_map.2 ⟨s,hs,rfl⟩)) c hc
  rw[Bool.and_eq_true] at this
  refine⟨fun hm=>?_,fun k' hk'=>?_⟩
  ·have h1:=this.1
   rw[List.contains_iff_mem.2 hm] at h1;cases h1
  ·have:=List.all_eq_true.1 this.2 k' hk'
   rw[Bool.and_eq_true] at this
   refine⟨fun e=>?_,fun hm=>?_⟩
   ·subst e;have:=this.1;simp at this
   ·have h1:=this.2
    rw[List.contains_iff_mem.2 hm] at h1;cases h1
 have hk0:∀k'∈lF false objs ss,∃s∈ss,∃c∈s.list,k'∈c.ks:=fun k' hk'=>by
  unfold lF GH at hk'
  dsimp only[cond_false] at hk'
  rcases HU _ _ _ hk' with h1 | h1
  ·cases h1
  ·obtain⟨s,hs,h1⟩:=List.mem_flatMap.1 h1
   obtain⟨c,hc,h1⟩:=List.mem_flatMap.1 h1
   exact⟨s,hs,c,hc,h1⟩
 refine⟨fun c hc=>?_,fun hm=>?_⟩
 ·rcases List.mem_append.1 hc with hc | hc
  ·obtain⟨s,hs,hc⟩:=List.mem_flatMap.1 hc
   exact(h0 s hs c hc).1
  ·obtain⟨l,hl,hc⟩:=List.mem_flatten.1 hc
   have h1:=OF hbl
   have h2:some l∈(lF false objs ss).map (pG objs):=by rw[h1];exact List.mem_map.2 ⟨l,hl,rfl⟩
   obtain⟨k',hk',h3⟩:=List.mem_map.1 h2
   obtain⟨s,hs,c',hc',h4⟩:=hk0 k' hk'
   have h5:=((h0 s hs c' hc').2 k' h4).2
   have h6:objs[k']?=some (.box l):=by
    unfold pG at h3
    split at h3
    ·rename_i l' he
     cases h3
     exact he
    ·cases h3
   rw[h6] at h5
   exact fun hm=>h5 (List.mem_flatMap.2 ⟨c,hc,hm⟩)
 ·obtain⟨s,hs,c,hc,h1⟩:=hk0 k hm
  exact((h0 s hs c hc).2 k h1).1 rfl
theorem PE{A:Callee}(hN:A.Nat)(hi:A.inl=none)(he:A.ext=none)(hd:A.deep=false:=by rfl):A.Framed:=by
 refine⟨he,?_,fun {b dst ds p} h=>⟨?_,?_⟩⟩
 rotate_left
 ·intro k ho hoff
  obtain⟨hN,_⟩:=hN
  unfold oB at h
  rw[hi] at h
  dsimp only at h
  unfold qB at h
  split at h
  ·cases h
  rename_i ss hss
  have hds:=B7 hss
  rw[hd] at h
  rw[hds] at hoff
  split at h
  ·cases h
  rename_i bl hbl
  obtain⟨hc1,hc2⟩:=DN hoff hbl
  split at h
  ·cases h
  rename_i cs rws hhand
  dsimp only at h
  split at h
  case isFalse=>cases h
  rw[hN] at h
  obtain⟨q,hq,h2⟩:=Option.bind_eq_some_iff.1 h
  obtain⟨rs,po'⟩:=q
  dsimp only at h2
  split at h2
  ·cases h2;rfl
  split at h2
  ·cases h2
  rename_i nk hnk
  split at h2
  case isFalse=>cases h2
  split at h2
  case h_2=>cases h2
  cases h2
  dsimp only
  have hfz:(freezeL b.objs (fF A.rows (ss.flatMap S1.list++bl.flatten)))[k]?=b.objs[k]?:=o8 _ _ _ fun hm=>by
   obtain⟨c,h1,h2⟩:=qU _ _ _ hm
   exact hc1 c h1 h2
  rw[l8]
  ·exact hfz
  ·intro hm
   rcases List.mem_append.1 hm with hm | hm
   ·rcases List.mem_append.1 hm with hm | hm
    ·obtain⟨k',hk',e⟩:=List.mem_map.1 hm
     cases e
     exact hc2 hk'
    ·obtain⟨r,hr,e⟩:=List.mem_map.1 hm
     obtain⟨c,h1,h2⟩:=AL _ _ _ _ _ hhand r hr k e
     exact hc1 c h1 h2
   ·obtain⟨k',hk',e⟩:=List.mem_map.1 hm
    cases e
    have:=((E0 hnk).2 k hk').1
    rw[hfz] at this
    rw[this] at ho
    cases ho
 ·intro k x hoff hib
  obtain⟨hN,_⟩:=hN
  unfold oB at h ⊢
  rw[hi] at h ⊢
  dsimp only at h ⊢
  unfold qB at h ⊢
  split at h
  ·cases h
  rename_i ss hss
  have hds:=B7 hss
  rw[hd] at h ⊢
  rw[hds] at hoff
  split at h
  ·cases h
  rename_i bl hbl
  obtain⟨hc1,hc2⟩:=DN hoff hbl
  have hbl':jV ((lF false (b.objs.set k x) ss).map (pG (b.objs.set k x)))=some bl:=by
   rw[←hbl]
   have:lF false (b.objs.set k x) ss=lF false b.objs ss:=rfl
   rw[this]
   refine congrArg jV (List.map_congr_left fun k' hk'=>?_)
   unfold pG
   rw[List.getElem?_set_ne (fun e=>hc2 (by rw[e];exact hk'))]
  dsimp only
  rw[hbl']
  dsimp only
  have hkx:lF false (b.objs.set k x) ss=lF false b.objs ss:=rfl
  rw[hkx,GR _ _ _ hc1]
  split at h
  ·cases h
  rename_i cs rws hhand
  dsimp only at h ⊢
  split at h
  case isFalse=>cases h
  rename_i hcnd
  rw[if_pos hcnd]
  rw[hN] at h ⊢
  obtain⟨q,hq,h2⟩:=Option.bind_eq_some_iff.1 h
  rw[hq]
  obtain⟨rs,po'⟩:=q
  dsimp only[Option.bind_some] at h2 ⊢
  split at h2
  ·rename_i hemp
   rw[if_pos hemp]
   cases h2
   rfl
  rename_i hemp
  rw[if_neg hemp]
  have hkt:k∉fF A.rows (ss.flatMap S1.list++bl.flatten):=fun hm=>by
   obtain⟨c,h1,h2⟩:=qU _ _ _ hm
   exact hc1 c h1 h2
  rw[tT _ _ hkt]
  have hfi:=PD (st:={ b with objs:=freezeL b.objs (fF A.rows (ss.flatMap S1.list++bl.flatten)) }) (dst:=dst) (n:=po'.length-(eK bl (cs.drop (ss.flatMap S1.list).length)++rws.map (·.2)).length) (k:=k) (x:=x) hib
  dsimp only at hfi
  rw[hfi]
  split at h2
  ·cases h2
  rename_i nk hnk
  split at h2
  case isFalse=>cases h2
  rename_i hcnd2
  rw[if_pos hcnd2]
  split at h2
  case h_2=>cases h2
  rename_i po2 rs' hp2 hr2
  cases h2
  dsimp only
  rw[CK]
  intro hm
  rcases List.mem_append.1 hm with hm | hm
  ·rcases List.mem_append.1 hm with hm | hm
   ·obtain⟨k',hk',e⟩:=List.mem_map.1 hm
    cases e
    exact hc2 hk'
   ·obtain⟨r,hr,e⟩:=List.mem_map.1 hm
    obtain⟨c,h1,h2⟩:=AL _ _ _ _ _ hhand r hr k e
    exact hc1 c h1 h2
  ·obtain⟨k',hk',e⟩:=List.mem_map.1 hm
   cases e
   exact UX hnk hib hk'
 intro b dst ds p h k l hk hb
 obtain⟨hN,_⟩:=hN
 unfold oB at h
 rw[hi] at h
 dsimp only at h
 unfold qB at h
 split at h
 ·cases h
 rename_i ss hss
 have hds:=B7 hss
 split at h
 ·cases h
 split at h
 ·cases h
 rename_i cs rws hhand
 dsimp only at h
 split at h
 case isFalse=>cases h
 rw[hN] at h
 obtain⟨q,hq,h2⟩:=Option.bind_eq_some_iff.1 h
 obtain⟨rs,po'⟩:=q
 dsimp only at h2
 split at h2
 ·cases h2;exact hb
 split at h2
 ·cases h2
 rename_i nk hnk
 split at h2
 case isFalse=>cases h2
 split at h2
 case h_2=>cases h2
 cases h2
 dsimp only
 rw[l8]
 ·exact kF _ _ _ _ hb
 ·intro hm
  rcases List.mem_append.1 hm with hm | hm
  ·rcases List.mem_append.1 hm with hm | hm
   ·obtain⟨k',hk',e⟩:=List.mem_map.1 hm
    cases e
    rw[hd] at hk'
    unfold lF GH at hk'
    dsimp only[cond_false] at hk'
    rcases HU _ _ _ hk' with h0 | h0
    ·cases h0
    ·obtain⟨s,hs,h1⟩:=List.mem_flatMap.1 h0
     exact hk (.s s) (by rw[hds];exact List.mem_map.2 ⟨s,hs,rfl⟩) h1
   ·obtain⟨r,hr,e⟩:=List.mem_map.1 hm
    obtain⟨e',n,l',h1,h3,_⟩:=vO _ _ _ _ _ hhand r hr
    have:=h3 k e
    rcases h1 with h1 | h1 <;> (rw[hb,h1] at this;cases this)
  ·obtain⟨k',hk',e⟩:=List.mem_map.1 hm
   cases e
   have:=((E0 hnk).2 k hk').1
   rw[kF _ _ _ _ hb] at this
   cases this
def Callee.Never(A:Callee):Prop:=∃I,A.ext=some I∧∀{R:Type} (ds:List D) (k:D→Option R),I.go ds k=none
def FE(fD:D)(g:FuncId):Prop:=(∃v,fD=.s (.c (.t (.v v)))∧kW v=some g)∨∃caps,fD=.s (.c (.fn g caps))
theorem PF{Γ:FuncId→Option Callee}{b:St}{dst:Option Nat}{fD:D}{ds:List D}{p:List O×D}{k:Nat}(hall:∀g A,Γ g=some A→FE fD g→A.Framed∨A.Never)
 (h:(fH Γ b dst fD ds fun s d=>some (s.objs,d))=some p) (hk:∀d∈fD::ds,k∉MY d) {l:List C} (hl:b.objs[k]?=some (.box l)):p.1[k]?=some (.box l):=by
 unfold fH lO at h
 split at h
 case h_2=>cases h
 rename_i cc
 dsimp only at h
 split at h
 ·rename_i v
  split at h
  case h_2=>cases h
  rename_i g hg
  split at h
  case h_2=>cases h
  rename_i A hA
  rcases hall g A hA (.inl ⟨v,rfl,hg⟩) with hF | ⟨I,hI,hn⟩
  ·rw[hF.1] at h
   exact hF.2.1 h k l (fun d hd=>hk d (List.mem_cons_of_mem _ hd)) hl
  ·rw[hI] at h
   dsimp only at h
   rw[hn] at h
   cases h
 ·rename_i g caps
  split at h
  case h_2=>cases h
  rename_i A hA
  rcases hall g A hA (.inr ⟨caps,rfl⟩) with hF | ⟨I,hI,hn⟩
  ·rw[hF.1] at h
   refine hF.2.1 h k l (fun d hd=>?_) hl
   rcases List.mem_append.1 hd with hd | hd
   ·exact hk d (List.mem_cons_of_mem _ hd)
   ·intro hkd
    unfold RK at hd
    obtain⟨q,hq,rfl⟩:=List.mem_map.1 hd
    have:k=q.1:=by simpa[MY,S1.list,C.ks] using hkd
    subst this
    refine hk _ (List.mem_cons_self ..) ?_
    simp only[MY,S1.list,List.flatMap_cons,List.flatMap_nil,List.append_nil,C.ks]
    exact List.mem_map.2 ⟨q,hq,rfl⟩
  ·rw[hI] at h
   cases h
 ·cases h
theorem BJ{Γ:FuncId→Option Callee}{b:St}{dst:Option Nat}{fD:D}{ds:List D}{p:List O×D}{k:Nat}(hall:∀g A,Γ g=some A→FE fD g→A.Framed∨A.Never)
 (h:(fH Γ b dst fD ds fun s d=>some (s.objs,d))=some p) (ho:G6 b.objs[k]?=true) (hk:jE b.objs k (fD::ds)=true):p.1[k]?=b.objs[k]?:=by
 have hk2:jE b.objs k ds=true:=by
  unfold jE at hk ⊢
  rw[List.all_cons,Bool.and_eq_true] at hk
  exact hk.2
 unfold fH lO at h
 split at h
 case h_2=>cases h
 rename_i cc
 dsimp only at h
 split at h
 ·rename_i v
  split at h
  case h_2=>cases h
  rename_i g hg
  split at h
  case h_2=>cases h
  rename_i A hA
  rcases hall g A hA (.inl ⟨v,rfl,hg⟩) with hF | ⟨I,hI,hn⟩
  ·rw[hF.1] at h
   exact(hF.2.2 h).1 k ho hk2
  ·rw[hI] at h
   dsimp only at h
   rw[hn] at h
   cases h
 ·rename_i g caps
  split at h
  case h_2=>cases h
  rename_i A hA
  rcases hall g A hA (.inr ⟨caps,rfl⟩) with hF | ⟨I,hI,hn⟩
  ·rw[hF.1] at h
   refine(hF.2.2 h).1 k ho ?_
   unfold jE at hk hk2 ⊢
   rw[List.all_append,Bool.and_eq_true]
   refine⟨hk2,?_⟩
   rw[List.all_cons,Bool.and_eq_true] at hk
   have hk1:=hk.1
   simp only[OW,S1.list,List.all_cons,List.all_nil,Bool.and_true,Bool.and_eq_true,C.ks] at hk1
   rw[List.all_eq_true]
   intro d hd
   unfold RK at hd
   obtain⟨q,hq,rfl⟩:=List.mem_map.1 hd
   have:=List.all_eq_true.1 hk1.2 q.1 (List.mem_map.2 ⟨q,hq,rfl⟩)
   simp only[OW,S1.list,List.all_cons,List.all_nil,Bool.and_true,C.ks,C.rs,this]
   rfl
  ·rw[hI] at h
   cases h
 ·cases h
def CL(pl:List Nat):Option Nat→Bool
 | some s=>pl.contains (20000000+s)
 | none=>true
def JP(pl:List Nat):Option Nat→Bool
 | some s=>pl.contains (20000000+s)
 | none=>false
def UY(pl:List Nat)(o:Oper):Bool:=match o.op with
 | .load _ _=>!CL pl o.dst
 | .indexAddr _ _ _=>!CL pl o.dst
 | .slice _ _ lo hi none=>(lo.isSome||hi.isSome)&&!CL pl o.dst
 | .call { callee:=.builtin .len,.. }=>!CL pl o.dst
 | _=>false
def Ki(pl:List Nat)(o:Oper):Bool:=match o.op with
 | .call { callee:=.builtin .append,.. }=>true
 | .call { callee:=.value (.func f),.. }=>pl.contains (f+4000000)&&!JP pl o.dst
 | .call { callee:=.value _,.. }=>pl.contains 9000002&&!JP pl o.dst
 | .alloc _=>!CL pl o.dst
 | .store t _ _=>!pl.contains 28999999&&!pl.contains (80000000+t)
 | .buildSlice _ _ _=>true
 | .makeSlice _ _ _=>true
 | _=>false
def k4(Γ:FuncId→Option Callee)(pl:List Nat):Prop:=(∀f A,pl.contains f=true→Γ f=some A→A.Pure)∧(∀f A,pl.contains (f+1000000)=true→Γ f=some A→A.PureP)∧(∀f A,pl.contains (f+4000000)=true→Γ f=some A→A.Framed)∧(pl.contains 9000000=true→vT Γ≠[])∧(∀s,(bE Γ).contains s=true→pl.contains (20000000+s)=true)∧(pl.contains 9000002=true→∀f A,(f==2000000)=false→Γ f=some A→A.Framed)∧(∀A,Γ 2000000=some A→A.Never) ∧
 (∀s,pl.contains (90000000+s)=true→(fC Γ).contains s=true)∧∀t,t<8000000→pl.contains (82000000+t)=true→(CF Γ).contains t=true
def HV:Operand→Operand→Bool
 | .tmp a,.tmp b=>a==b
 | _,_=>false
def Qk(x y:Oper):Bool:=x.guard.isNone&&y.guard.isNone&&match x.op,y.op with
 | .lookup t m k false,.mapEntry t' m' k'=>t==t'&&HV m m'&&HV k k'
 | _,_=>false
def XD(o:Oper):Bool:=match o.op with
 | .load _ _=>true
 | .indexAddr _ _ _=>true
 | .call { callee:=.builtin .len,.. }=>true
 | _=>false
def ND(pl:List Nat)(o:Oper):Bool:=match o.op with
 | .load _ _=>match o.dst with
  | some s=>pl.contains (90000000+s)
  | none=>false
 | _=>false
def XE(pl:List Nat)(o:Oper):Bool:=match o.op with
 | .store t _ _=>decide (t<8000000)&&pl.contains (82000000+t)
 | .buildSlice _ _ _=>true
 | .mapUpdate _ _ _ _=>true
 | .insert _ _ _ _=>true
 | _=>false
def NE(pl:List Nat)(o:Oper):Bool:=match o.op with
 | .load _ _=>match o.dst with
  | some s=>pl.contains (91000000+s)
  | none=>false
 | _=>false
def XF(pl:List Nat)(o:Oper):Bool:=match o.op with
 | .store t _ _=>decide (t<1000000)&&pl.contains (84000000+t)
 | _=>false
def Kj(o:Oper):Bool:=match o.op with
 | .alloc _=>true
 | .box _ _=>true
 | _=>false
def Et(o:Oper):Bool:=o.guard.isNone&&match o.op with
 | .alloc _=>true
 | _=>false
def Kl(o:Oper):Bool:=o.guard.isNone&&match o.op with
 | .makeSlice _ _ _=>true
 | _=>false
def XG(pl:List Nat)(o:Oper):Bool:=match o.op with
 | .store _ _ _=>pl==pl
 | _=>false
def GS(o:Oper):Bool:=match o.op with
 | .call { callee:=.builtin .len,.. }=>true
 | _=>false
def XH(pl:List Nat)(o:Oper):Bool:=(match o.dst with
 | some s=>pl.contains (92000000+s)
 | none=>false)&&match o.op with
 | .call { callee:=.value (.func f),.. }=>pl.contains (f+4000000)
 | .call { callee:=.value _,.. }=>pl.contains 9000002
 | _=>false
def R9(pl:List Nat)(o:Oper):Bool:=GS o&&match o.dst with
 | some s=>pl.contains (93000000+s)
 | none=>false
def Km(pl:List Nat):Option Nat→Bool
 | some s=>pl.contains (94000000+s)
 | none=>false
def NF(pl:List Nat)(o:Oper):Bool:=Km pl o.dst&&match o.op with
 | .slice _ _ lo hi none=>lo.isSome||hi.isSome
 | _=>false
def XI(pl:List Nat)(o:Oper):Bool:=Km pl o.dst&&match o.op with
 | .call { callee:=.builtin .append,.. }=>true
 | .buildSlice _ n parts=>n==0&&parts.toList.isEmpty
 | _=>false
def Un(pl:List Nat)(o:Oper):Bool:=Et o&&match o.dst with
 | some s=>pl.contains (91600000+s)
 | none=>false
def Kn(pl:List Nat)(o:Oper):Bool:=o.guard.isNone&&(match o.dst with
 | some s=>pl.contains (92500000+s)
 | none=>false)&&match o.op with
 | .call { callee:=.value (.func f),.. }=>pl.contains (f+4000000)
 | .call { callee:=.builtin .append,.. }=>true
 | _=>false
def NG(ops:Array Oper)(pl:List Nat)(x y:Oper):Bool:=x.apart ops y&&(Kh pl x||Kh pl y||(Iz pl x&&Iz pl y)||Qk x y||(pl.contains 9000000&&((UY pl x&&Ki pl y)||(Ki pl x&&UY pl y)))||(XD x&&Kj y)||(pl.contains 9000000&&!pl.contains 28999999&&Et x&&Et y)||(pl.contains 9000000&&!pl.contains 28999999&&Kl x&&Kl y)||((ND pl x&&XE pl y)||(XE pl x&&ND pl y))||((GS x&&XG pl y)||(XG pl x&&GS y))||((NE pl x&&XF pl y)||(XF pl x&&NE pl y))||((R9 pl x&&XH pl y)||(XH pl x&&R9 pl y))||((NF pl x&&XI pl y)||(XI pl x&&NF pl y))||(pl.contains 9000000&&!pl.contains 28999999&&((Un pl x&&Kn pl y)||(Kn pl x&&Un pl y))))
def Ko(ops:Array Oper)(listed:Array Bool)(i:Nat):Nat→Nat→Bool
 | 0,_=>false
 | fuel+1,j=>match ops[j]? with
  | some oj=>oj.after.any fun e=>Region.binds .any e&&(e.on==i||(!listed.getD e.on true&&Ko ops listed i fuel e.on))
  | none=>false
def Eu(ops:Array Oper)(pl:List Nat)(listed:Array Bool)(i:Nat):Bool:=match ops[i]? with
 | none=>false
 | some oi=>(List.range ops.size).all fun j=>j==i||listed.getD j true||match ops[j]? with
  | some oj=>Ko ops listed i ops.size j||NG ops pl oi oj
  | none=>true
def Ev(ops:Array Oper)(pl:List Nat):Nat→Nat→Array Bool→Bool
 | 0,_,listed=>(Region.ready .any ops listed).isEmpty
 | fuel+1,k,listed=>(Region.ready .any ops listed).contains k&&Eu ops pl listed k&&Ev ops pl fuel (k+1) (listed.setIfInBounds k true)
def Nw(pl:List Nat)(ops:Array Oper):Bool:=Ev ops pl ops.size 0 (Array.replicate ops.size false)
section
variable {R:Type} {P:Program} {Γ:FuncId→Option Callee} {ops:Array Oper} {pl:List Nat}
theorem Ah{op:BinOp}(h1:op≠.eql)(h2:op≠.neq)(b b':St)(t yt:TypeId)(x y:D)(k:D→Option R):LR P b op t yt x y k=LR P b' op t yt x y k:=by
 unfold LR
 split
 ·split
  ·unfold lO
   split
   ·first
    | rfl
    | (rw[if_neg h1,if_neg h2,if_neg h1,if_neg h2])
   ·rfl
  ·rfl
 ·rfl
theorem NH:∀{cs:List C} {k:List T→Option R} {r:R},uD cs k=some r→∃ts vs,xT ts=some vs∧ts.length=cs.length∧k ts=some r∧∀{S:Type} (g:List T→Option S),uD cs g=g ts
 | [],k,r,h=>⟨[],[],rfl,rfl,h,fun _=>rfl⟩
 | c::cs,k,r,h=>by
  cases c with
  | t x=>
   simp only[uD] at h
   obtain⟨n,hn,h1⟩:=aC h
   obtain⟨ts,vs,e1,e2,e3,e4⟩:=NH h1
   refine⟨_,_,by simp only[xT,e1];rfl,by simp[e2],e3,fun g=>?_⟩
   simp only[uD,hn]
   exact e4 _
  | _=>simp[uD] at h
theorem yT{c:Nat}{d:D}{k:T→Option R}{r:R}(h:tJ c d k=some r):∃t v,kS c t=some v∧k t=some r∧∀{S:Type} (g:T→Option S),tJ c d g=g t:=by
 match c with
 | 0=>
  simp only[tJ,HN,CZ] at h
  split at h
  ·rename_i x
   obtain⟨n,hn,h1⟩:=aC h
   exact⟨_,_,rfl,h1,fun g=>by simp only[tJ,HN,CZ,hn];rfl⟩
  ·cases h
 | 1=>
  simp only[tJ,C0,CZ] at h
  split at h
  ·rename_i x
   obtain⟨n,hn,h1⟩:=aC h
   exact⟨_,_,rfl,h1,fun g=>by simp only[tJ,C0,CZ,hn];rfl⟩
  ·cases h
 | m+2=>
  simp only[tJ] at h
  split at h
  ·rename_i cs
   split at h
   ·rename_i hl
    obtain⟨ts,vs,e1,e2,e3,e4⟩:=NH h
    exact⟨.agg ts,_,by simp only[kS,e2,hl,if_true,e1];rfl,e3,fun g=>by simp only[tJ,hl,if_true];exact e4 _⟩
   ·cases h
  ·cases h
theorem Ew{c:Nat}{kk z:T}{v:Value}{l:List T}(hk:kS c kk=some v):mapGetD kk (qC kk z l) z=mapGetD kk l z:=by
 unfold qC mapGetD
 cases hm:bO kk l with
 | some i=>dsimp only;rw[hm]
 | none=>
  dsimp only
  have hr:mQ kk kk=true:=(C7 hk hk).2 rfl
  have:bO kk (l++[.agg [kk,z]])=some l.length:=by
   unfold bO at hm ⊢
   rw[List.findIdx?_append,hm]
   simp[List.findIdx?_cons,jW,hr]
  rw[this]
  simp[rO]
theorem Ai{R:Type}(c:Nat)(d:D):tJ c d (fun _=>(none:Option R))=none:=by
 cases h:tJ c d (fun _=>(none:Option R)) with
 | none=>rfl
 | some r=>obtain⟨t,v,_,h3,_⟩:=yT h;cases h3
theorem PG{b:St}{t:TypeId}{m q:D}{d:D}{p:List O×D}(h1:o9 P b t m q false some=some d)(h2:(lW P b t m q fun s d=>some (s.objs,d))=some p):
 o9 P { b with objs:=p.1 } t m q false some=some d:=by
 unfold lW at h2
 unfold o9 at h1 ⊢
 split at h2
 case h_2=>cases h2
 rename_i kt e hu
 try rw[hu] at h1
 try rw[hu]
 try dsimp only at h1
 try dsimp only
 split at h2
 case h_2=>cases h2
 rename_i c i hc hi
 try rw[hc,hi] at h1
 try rw[hc,hi]
 try dsimp only at h1
 try dsimp only
 split at h2
 case h_2=>cases h2
 rename_i z hz
 try rw[hz] at h1
 try rw[hz]
 try dsimp only at h1
 try dsimp only
 split at h2
 case isFalse=>cases h2
 rename_i hzk
 try rw[if_pos hzk] at h1
 try rw[if_pos hzk]
 obtain⟨kk,v,hkv,h3,hg⟩:=yT h2
 split at h3
 case h_2=>cases h3
 rename_i mk
 split at h3
 case h_2=>cases h3
 rename_i t' n l hob
 split at h3
 case isFalse=>cases h3
 rename_i hn
 subst hn
 rw[UT] at h3
 obtain⟨s,_,h4⟩:=Option.bind_eq_some_iff.1 h3
 simp only[Option.some.injEq] at h4
 subst h4
 simp only[lO,tM,hob,if_true,hg] at h1
 have hlt:mk<b.objs.length:=(List.getElem?_eq_some_iff.1 hob).1
 have hset:(b.objs.set mk (.mp false t' (c+1000000000) (qC kk (m7 z) l)))[mk]?=some (.mp false t' (c+1000000000) (qC kk (m7 z) l)):=List.getElem?_set_self hlt
 simp only[lO,tM,hset,if_true,hg,Ew hkv]
 exact h1
theorem Uo(hpl:k4 Γ pl){o:Oper}(h:Kh pl o=true)(b s0:St)(q:List O):CJ P Γ o { b with objs:=q } (ev s0)=(CJ P Γ o b (ev s0)).map fun p=>(q,p.2):=by
 obtain⟨dst,op,type,pos,after,guard⟩:=o
 have bm:∀{α:Type} (x:Option α) (f:α→D),(x.bind fun d=>some (q,f d))=(x.bind fun d=>some (b.objs,f d)).map fun p=>(q,p.2):=fun x f=>by cases x <;> rfl
 unfold Kh at h
 unfold CJ
 cases op with
 | call c=>
  obtain⟨callee,args,ats⟩:=c
  cases callee with
  | value f=>
   cases f with
   | func f=>
    dsimp only at h ⊢
    have hv:∀ds,(fH Γ { b with objs:=q } dst (ev s0 (.func f)) ds fun s d=>some (s.objs,d))=(fH Γ b dst (ev s0 (.func f)) ds fun s d=>some (s.objs,d)).map fun p=>(q,p.2):=fun ds=>by
     unfold fH lO
     dsimp only[ev]
     have hpf:kW (Value.func (.func f) #[] #[])=some f:=rfl
     rw[hpf]
     dsimp only
     cases hA:Γ f with
     | none=>rfl
     | some A=>
      dsimp only
      obtain⟨he,hq⟩:=hpl.2.1 f A (Bool.and_eq_true_iff.1 h).1 hA
      rw[he]
      exact hq b q dst _
    have hself:∀ds p,(fH Γ b dst (ev s0 (.func f)) ds fun s d=>some (s.objs,d))=some p→p.1=b.objs:=fun ds p hp=>by
     have h2:=hv ds
     have h3:∀q,(fH Γ { b with objs:=q } dst (ev s0 (.func f)) ds fun s d=>some (s.objs,d))=(fH Γ b dst (ev s0 (.func f)) ds fun s d=>some (s.objs,d)).map fun p=>(q,p.2):=fun q=>by
      unfold fH lO
      dsimp only[ev]
      have hpf:kW (Value.func (.func f) #[] #[])=some f:=rfl
      rw[hpf]
      dsimp only
      cases hA:Γ f with
      | none=>rfl
      | some A=>
       dsimp only
       obtain⟨he,hq⟩:=hpl.2.1 f A (Bool.and_eq_true_iff.1 h).1 hA
       rw[he]
       exact hq b q dst _
     have h4:=h3 b.objs
     have e:({ b with objs:=b.objs }:St)=b:=rfl
     rw[e,hp] at h4
     simp only[Option.map_some,Option.some.injEq] at h4
     rw[h4]
    have okself:∀(B:List Nat) (o:List O),QT B o o=true:=fun B o=>by
     unfold QT
     refine List.all_eq_true.2 fun k _=>?_
     cases gV o[k]? <;> rfl
    have hgt:∀o:List O,∀ds:List D,BD Γ o dst ds=BD Γ b.objs dst ds:=fun o ds=>by
     unfold BD
     cases dst with
     | none=>rfl
     | some s=>
      have h2:(!pl.contains (30000000+s))=true:=(Bool.and_eq_true_iff.1 h).2
      cases h4:(bE Γ).contains (10000000+s) with
      | false=>simp only[h4,Bool.false_and,Bool.or_false]
      | true=>
       have aux:∀n:Nat,20000000+(10000000+n)=30000000+n:=fun n=>by omega
       have h5:pl.contains (20000000+(10000000+s))=true:=hpl.2.2.2.2.1 _ h4
       rw[aux] at h5
       rw[h5] at h2;cases h2
    have hgi:∀o:List O,∀ds:List D,mG Γ { b with objs:=o } dst ds=mG Γ b dst ds:=fun o ds=>by
     unfold mG
     cases dst with
     | none=>rfl
     | some s=>
      have h2:(!pl.contains (30000000+s))=true:=(Bool.and_eq_true_iff.1 h).2
      cases h4:(bE Γ).contains (10000000+s) with
      | false=>simp only[h4,Bool.false_and,Bool.or_false]
      | true=>
       have aux:∀n:Nat,20000000+(10000000+n)=30000000+n:=fun n=>by omega
       have h5:pl.contains (20000000+(10000000+s))=true:=hpl.2.2.2.2.1 _ h4
       rw[aux] at h5
       rw[h5] at h2;cases h2
    unfold yR
    rw[hgt,hgi]
    split
    case isFalse=>rfl
    unfold CI
    generalize vT Γ=B
    cases B with
    | nil=>exact hv _
    | cons w B=>
     dsimp only
     split
     ·exact hv _
     split
     ·rw[hv]
      cases hp:(fH Γ b dst (ev s0 (.func f)) (List.map (ev s0) args.toList) fun s d=>some (s.objs,d)) with
      | none=>rfl
      | some p=>
       simp only[Option.map_some,Option.bind_some,hself _ p hp,okself,if_true]
     ·rfl
   | _=>cases h
  | builtin bi=>
   have hm:∀(mx:Bool) (as:List D) (ts:List TypeId),cN P { b with objs:=q } dst type (if mx=true then Builtin.max else Builtin.min) as ts=(cN P b dst type (if mx=true then Builtin.max else Builtin.min) as ts).map fun p=>(q,p.2):=fun mx as ts=>by
    have h0:∀(x y:D) (t:TypeId),((IV P mx t x y some).bind fun d=>some (q,d))=((IV P mx t x y some).bind fun d=>some (b.objs,d)).map fun p=>(q,p.2):=fun x y t=>bm _ _
    cases mx
    ·match as,ts with
     | [x,y],[t,u]=>exact h0 x y t
     | [],_=>rfl
     | [_],_=>rfl
     | _::_::_::_,_=>rfl
     | [_,_],[]=>rfl
     | [_,_],[_]=>rfl
     | [_,_],_::_::_::_=>rfl
    ·match as,ts with
     | [x,y],[t,u]=>exact h0 x y t
     | [],_=>rfl
     | [_],_=>rfl
     | _::_::_::_,_=>rfl
     | [_,_],[]=>rfl
     | [_,_],[_]=>rfl
     | [_,_],_::_::_::_=>rfl
   cases bi with
   | min=>exact hm false _ _
   | max=>exact hm true _ _
   | _=>cases h
  | _=>cases h
 | binOp op t x y yt=>
  have hop:op≠.eql∧op≠.neq:=by
   constructor <;> (intro e;subst e;cases h)
  dsimp only
  rw[Ah hop.1 hop.2 { b with objs:=q } b]
  exact bm _ _
 | buildSlice t n parts=>
  dsimp only at h ⊢
  have hl:UC Γ dst=true:=by
   cases dst with
   | none=>cases h
   | some s=>
    dsimp only at h
    exact hpl.2.2.2.2.2.2.2.1 (500000+s) (by rw[←Nat.add_assoc];exact h)
  unfold Jt
  rw[if_pos hl,if_pos hl]
  rw[mJ (k:=fun d=>some (q,d)),mJ (k:=fun d=>some (b.objs,d))]
  exact bm _ id
 | _=>first
  | rfl
  | exact bm _ _
  | (cases h;done)
theorem Nx(hpl:k4 Γ pl){o:Oper}(h:Kh pl o=true)(st:St)(q:List O):fW P Γ ops o { st with objs:=q }=(fW P Γ ops o st).map fun p=>(q,p.2):=by
 have h1:gd ops o { st with objs:=q }=gd ops o st:=rfl
 have h2:CJ P Γ o (St.bare { st with objs:=q }) (ev { st with objs:=q })=(CJ P Γ o st.bare (ev st)).map fun p=>(q,p.2):=Uo hpl h st.bare st q
 unfold fW
 rw[h1,h2]
 cases gd ops o st with
 | none=>rfl
 | some w=>cases w <;> rfl
theorem UZ{A:Callee}(hN:A.Nat)(hP:A.Pure0){b:St}{dst:Option Nat}{ds:List D}{p:List O×D}(h:(oB A b dst ds fun s d=>some (s.objs,d))=some p):p.1=b.objs:=by
 obtain⟨⟨hP0,_⟩,hP⟩:=hP
 obtain⟨hN,_⟩:=hN
 unfold oB at h
 rw[hP0] at h
 dsimp only at h
 unfold qB at h
 split at h
 ·cases h
 ·split at h
  ·cases h
  ·split at h
   ·cases h
   ·dsimp only at h
    split at h
    ·rw[hN] at h
     obtain⟨q,hq,h2⟩:=Option.bind_eq_some_iff.1 h
     obtain⟨rs,po'⟩:=q
     obtain⟨e1,e2,e3⟩:=hP _ _ rs po' hq
     rw[e1,e2,e3] at h2
     cases h2
     rfl
    ·cases h
theorem Callee.Pure0.pure{A:Callee}(hN:A.Nat)(hP:A.Pure0):A.Pure:=⟨hP.1.2,fun h=>UZ hN hP h⟩
theorem Kp(hN:∀f A,Γ f=some A→A.Nat)(hpl:k4 Γ pl){o:Oper}(h:Iz pl o=true){b st:St}{p:List O×D}(hp:CJ P Γ o b (ev st)=some p):p.1=b.objs:=by
 obtain⟨dst,op,type,pos,after,guard⟩:=o
 have bm:∀{α:Type} (x:Option α) (f:α→D),(x.bind fun d=>some (b.objs,f d))=some p→p.1=b.objs:=fun x f hx=>by
  cases x with
  | none=>cases hx
  | some a=>cases hx;rfl
 unfold Iz at h
 unfold CJ at hp
 cases op with
 | call c=>
  obtain⟨callee,args,ats⟩:=c
  cases callee with
  | builtin bi=>
   dsimp only at hp h
   split at hp
   case isFalse=>cases hp
   unfold cN at hp
   split at hp
   ·exact bm _ _ hp
   ·cases h
   ·cases h
   ·exact bm _ _ hp
   ·exact bm _ _ hp
   ·cases hp
  | value f=>
   cases f with
   | func f=>
    dsimp only at hp h
    have hp:(fH Γ b dst (ev st (.func f)) (List.map (ev st) args.toList) fun s d=>some (s.objs,d))=some p:=by
     unfold yR at hp
     split at hp
     case isFalse=>cases hp
     unfold CI at hp
     split at hp
     ·exact hp
     split at hp
     ·exact hp
     ·split at hp
      ·obtain⟨p',h1,h2⟩:=Option.bind_eq_some_iff.1 hp
       split at h2
       ·cases h2;exact h1
       ·cases h2
      ·cases hp
    unfold fH lO at hp
    dsimp only[ev] at hp
    have hpf:kW (Value.func (.func f) #[] #[])=some f:=rfl
    rw[hpf] at hp
    dsimp only at hp
    split at hp
    ·rename_i A hA
     have hpp:A.Pure:=by
      rcases Bool.or_eq_true_iff.1 h with h | h
      ·exact hpl.1 f A h hA
      ·exact(hpl.2.1 f A h hA).pure
     rw[hpp.1] at hp
     exact hpp.2 hp
    ·cases hp
   | _=>cases h
  | _=>cases h
 | move x=>cases hp;rfl
 | assign x=>cases hp;rfl
 | slice t x lo hi mx=>
  dsimp only at hp h
  split at hp
  case isFalse=>cases hp
  unfold lH at hp
  split at hp
  ·split at hp
   ·rename_i hn
    obtain⟨h1,h2,h3⟩:=hn
    cases lo <;> cases hi <;> cases mx <;> first
     | (cases h;done)
     | (cases h1;done)
     | (cases h2;done)
     | (cases h3;done)
   ·cases hp
  ·rw[mI] at hp
   exact bm _ id hp
 | load t x=>
  dsimp only at hp
  split at hp
  ·exact bm _ _ hp
  ·cases hp
 | buildSlice t n parts=>
  dsimp only at h hp
  have hl:UC Γ dst=true:=by
   cases dst with
   | none=>cases h
   | some s=>
    exact hpl.2.2.2.2.2.2.2.1 (500000+s) (by rw[←Nat.add_assoc];exact h)
  unfold Jt at hp
  rw[if_pos hl,mJ] at hp
  exact bm _ id hp
 | _=>first
  | exact bm _ _ hp
  | (cases h;done)
theorem nH(hN:∀f A,Γ f=some A→A.Nat)(hpl:k4 Γ pl){o:Oper}(h:Iz pl o=true){st:St}{p:List O×D}(hp:fW P Γ ops o st=some p):p.1=st.objs:=by
 unfold fW at hp
 cases hg:gd ops o st with
 | none=>rw[hg] at hp;cases hp
 | some w=>
  rw[hg] at hp
  cases w with
  | true=>exact Kp hN hpl h (b:=st.bare) hp
  | false=>cases hp;rfl
theorem JQ{o:Oper}(h:Kh pl o=true):Iz pl o=true:=by
 obtain⟨dst,op,type,pos,after,guard⟩:=o
 unfold Kh at h
 unfold Iz Kh
 cases op with
 | buildSlice t n parts=>exact h
 | call c=>
  obtain⟨callee,args,ats⟩:=c
  cases callee with
  | value f=>
   cases f with
   | func f=>exact Bool.or_eq_true_iff.2 (.inr (Bool.and_eq_true_iff.1 h).1)
   | _=>cases h
  | builtin bi=>cases bi <;> first | rfl | (cases h;done)
  | _=>cases h
 | _=>first
  | rfl
  | (cases h;done)
theorem Aj(st:St){x y:Option Nat}(d e:D)(h:∀t,x=some t→y≠some t):(st.put x d).put y e=(st.put y e).put x d:=by
 cases x with
 | none=>rfl
 | some i=>
  cases y with
  | none=>rfl
  | some j=>
   have hne:i≠j:=fun he=>h i rfl (he▸rfl)
   simp only[St.put,List.set_comm _ _ hne]
theorem Ak{o:Oper}(h:UY pl o=true):Iz pl o=true:=by
 obtain⟨dst,op,type,pos,after,guard⟩:=o
 unfold UY at h
 unfold Iz
 split at h
 ·rename_i e;dsimp only at e;subst e;rfl
 ·rename_i e;dsimp only at e;subst e;rfl
 ·rename_i lo hi e
  dsimp only at e
  subst e
  dsimp only
  rw[Bool.and_eq_true] at h
  rw[h.1];rfl
 ·rename_i e;dsimp only at e;subst e;rfl
 ·cases h
theorem Ex(hN:∀f A,Γ f=some A→A.Nat)(hpl:k4 Γ pl){o:Oper}(h:UY pl o=true){st:St}{p:List O×D}(hp:fW P Γ ops o st=some p):p.1=st.objs:=nH hN hpl (Ak h) hp
theorem AM(hpl:k4 Γ pl){dst:Option Nat}(h:(!CL pl dst)=true):j0 (bE Γ) dst=false:=by
 cases dst with
 | none=>rfl
 | some s=>
  have h':(!pl.contains (20000000+s))=true:=h
  show (bE Γ).contains s=false
  cases hc:(bE Γ).contains s with
  | false=>rfl
  | true=>rw[hpl.2.2.2.2.1 s hc] at h';cases h'
theorem HB{R:Type}{st:St}{q:List O}{t:TypeId}{x ix:D}{k:D→Option R}(h:OU x=true):fG P { st with objs:=q } t x ix k=fG P st t x ix k:=by
 unfold OU at h
 split at h
 ·rfl
 ·rfl
 ·rfl
 ·cases h
theorem JR{x:D}(h:IW x=true):∃y,x=.s (.c (.t y)):=by
 unfold IW at h
 split at h
 ·exact⟨_,rfl⟩
 ·cases h
theorem NI{R:Type}{st:St}{q:List O}{t:TypeId}{x:D}{k:D→Option R}(h:IW x=true):sC P { st with objs:=q } t x k=sC P st t x k:=by
 obtain⟨y,rfl⟩:=JR h
 unfold sC
 cases P.underlying t with
 | none=>rfl
 | some u=>cases u <;> first | rfl | (cases y <;> rfl)
theorem GT{R:Type}{st:St}{q:List O}{t:TypeId}{x:D}{lo hi:Option D}{k:D→Option R}(h:IW x=true):jD P { st with objs:=q } t x lo hi none k=jD P st t x lo hi none k:=by
 obtain⟨y,rfl⟩:=JR h
 unfold jD
 cases P.underlying t with
 | none=>rfl
 | some u=>cases u <;> rfl
theorem JS(hpl:k4 Γ pl)(hq:vT Γ≠[]){dst:Option Nat}(h:(!CL pl dst)=true){x:D}(hg:BE Γ dst x=true):IW x=true:=by
 unfold BE at hg
 split at hg
 ·rename_i e;exact absurd e hq
 ·rwa[AM hpl h,Bool.or_false] at hg
theorem DO(hpl:k4 Γ pl){o:Oper}(hq:vT Γ≠[])(h:UY pl o=true){st:St}{q:List O}(hb:∀k∈vT Γ,BoxSame st.objs q k){d:D}(hp:fW P Γ ops o st=some (st.objs,d)):fW P Γ ops o { st with objs:=q }=some (q,d):=by
 obtain⟨dst,op,type,pos,after,guard⟩:=o
 unfold UY at h
 unfold fW at hp ⊢
 have h1:gd ops (⟨dst,op,type,pos,after,guard⟩:Oper) { st with objs:=q }=gd ops (⟨dst,op,type,pos,after,guard⟩:Oper) st:=rfl
 rw[h1]
 cases hg:gd ops (⟨dst,op,type,pos,after,guard⟩:Oper) st with
 | none=>rw[hg] at hp;cases hp
 | some w=>
  rw[hg] at hp
  cases w with
  | false=>
   simp only[Option.bind_some,cond_false,Option.some.injEq,Prod.mk.injEq] at hp ⊢
   exact⟨trivial,hp.2⟩
  | true=>
   cases op with
   | slice t x lo hi mx=>
    cases mx with
    | some m=>cases h
    | none=>
     dsimp only at h
     rw[Bool.and_eq_true] at h
     have hp:(if (BE Γ dst (ev st x)&&IX Γ dst (ev st x))=true then lH P st.bare t (ev st x) (lo.map (ev st)) (hi.map (ev st)) none fun s d=>some (s.objs,d) else none)=some (st.objs,d):=hp
     show (if (BE Γ dst (ev st x)&&IX Γ dst (ev st x))=true then lH P { st.bare with objs:=q } t (ev st x) (lo.map (ev st)) (hi.map (ev st)) none fun s d=>some (s.objs,d) else none)=some (q,d)
     split at hp
     case isFalse=>cases hp
     rename_i hg2
     rw[if_pos hg2]
     have htr:=JS hpl hq h.2 (Bool.and_eq_true_iff.1 hg2).1
     unfold lH at hp ⊢
     split at hp
     ·rename_i hA
      exfalso
      split at hp
      ·obtain⟨y,hy⟩:=JR htr
       rw[hy] at hp
       unfold uB at hp
       split at hp
       ·split at hp
        ·rename_i e;cases e
        ·cases hp
       ·cases hp
      ·cases hp
     ·rename_i hA
      rw[if_neg hA,GT htr,mI]
      rw[mI] at hp
      obtain⟨d0,e1,e2⟩:=Option.bind_eq_some_iff.1 hp
      cases e2
      have e1':jD P st.bare.bare t (ev st x) (lo.map (ev st)) (hi.map (ev st)) none some=some d:=e1
      rw[e1']
      rfl
   | call c=>
    obtain⟨callee,args,ats⟩:=c
    cases callee with
    | builtin bi=>
     cases bi with
     | len=>
      dsimp only at h
      have hp:(if pJ Γ st dst .len (args.toList.map (ev st))=true then cN P st.bare dst type .len (args.toList.map (ev st)) ats.toList else none)=some (st.objs,d):=hp
      show (if pJ Γ st dst .len (args.toList.map (ev st))=true then cN P { st.bare with objs:=q } dst type .len (args.toList.map (ev st)) ats.toList else none)=some (q,d)
      split at hp
      case isFalse=>cases hp
      rename_i hg2
      rw[if_pos hg2]
      generalize args.toList.map (ev st)=as at *
      generalize ats.toList=ts at *
      unfold cN at hp ⊢
      match as,ts,hg2,hp with
      | [x],[t],hg2,hp=>
       dsimp only at hp ⊢
       have htr:IW x=true:=JS hpl hq h (by
        have:pJ Γ st dst .len [x]=true:=hg2
        unfold pJ at this
        simp only[List.all_cons,List.all_nil,Bool.and_true,Bool.and_eq_true] at this
        exact this.1)
       rw[NI htr]
       obtain⟨d0,e1,e2⟩:=Option.bind_eq_some_iff.1 hp
       cases e2
       rw[e1]
       rfl
      | [],_,hg2,hp=>cases hp
      | [x],[],hg2,hp=>cases hp
      | [x],_::_::_,hg2,hp=>cases hp
      | _::_::_,_,hg2,hp=>cases hp
     | _=>cases h
    | _=>cases h
   | indexAddr t x ix=>
    have hp:((nA Γ P st.bare dst t (ev st x) (ev st ix) some).bind fun d=>some (st.bare.objs,d))=some (st.objs,d):=hp
    obtain⟨d',h3,h2⟩:=Option.bind_eq_some_iff.1 hp
    cases h2
    show ((nA Γ P { st.bare with objs:=q } dst t (ev st x) (ev st ix) some).bind fun d=>some (q,d))=some (q,d)
    have key:nA Γ P { st.bare with objs:=q } dst t (ev st x) (ev st ix) some=some d:=by
     unfold nA at h3 ⊢
     cases hB:vT Γ with
     | nil=>exact absurd hB hq
     | cons w B=>
      rw[hB] at h3
      dsimp only at h3 ⊢
      rw[AM hpl h,Bool.or_false] at h3 ⊢
      split at h3
      case isFalse=>cases h3
      rename_i hi
      rw[if_pos hi,HB hi]
      exact h3
    rw[key]
    rfl
   | load t x=>
    have hp:(if xB Γ dst (ev st x)=true then ((lG Γ P st.bare dst t (ev st x) some).bind fun d=>some (st.bare.objs,d)) else none)=some (st.objs,d):=hp
    split at hp
    case isFalse=>cases hp
    rename_i hgl
    obtain⟨d',h3,h2⟩:=Option.bind_eq_some_iff.1 hp
    cases h2
    show (if xB Γ dst (ev st x)=true then ((lG Γ P { st.bare with objs:=q } dst t (ev st x) some).bind fun d=>some (q,d)) else none)=some (q,d)
    rw[if_pos hgl]
    have key:lG Γ P { st.bare with objs:=q } dst t (ev st x) some=some d:=by
     unfold lG at h3 ⊢
     cases hB:vT Γ with
     | nil=>exact absurd hB hq
     | cons w B=>
      rw[hB] at h3 hb
      dsimp only at h3 ⊢
      rw[AM hpl h,Bool.or_false] at h3 ⊢
      split at h3
      case isFalse=>cases h3
      rename_i hqp0
      have hqp1:=hqp0
      rw[Bool.and_eq_true] at hqp1
      obtain⟨hqp,hbx⟩:=hqp1
      have hgoal:(yH (w::B) (ev st x)&&oR { st.bare with objs:=q } (ev st x))=true:=by
       rw[Bool.and_eq_true]
       refine⟨hqp,?_⟩
       unfold yH at hqp
       unfold oR at hbx ⊢
       split at hqp
       ·rename_i kk jj he
        rw[he] at hbx ⊢
        dsimp only at hbx ⊢
        have hk:kk∈w::B:=by simpa using hqp
        cases ho:st.objs[kk]? with
        | none=>
         have hbx':gV st.objs[kk]?=true:=hbx
         rw[ho] at hbx';cases hbx'
        | some o=>
         have hbx':gV st.objs[kk]?=true:=hbx
         rw[ho] at hbx'
         cases o with
         | box l=>rw[(hb kk hk l).1 ho];rfl
         | _=>cases hbx'
       ·rename_i he
        rw[he]
       ·cases hqp
      rw[if_pos hgoal]
      unfold mX at h3 ⊢
      split at h3
      case h_2=>cases h3
      rename_i n bb hn hbb
      split at h3
      ·cases h3
      rename_i hc
      rw[if_neg hc]
      unfold lO at h3 ⊢
      unfold yH at hqp
      split at hqp
      ·rename_i kk jj he
       rw[he] at h3 ⊢
       dsimp only at h3 ⊢
       have hk:kk∈w::B:=by simpa using hqp
       split at h3
       ·rename_i cs hcs
        have hcs2:st.objs[kk]?=some (.box cs):=by
         have hbx':gV st.objs[kk]?=true:=by
          rw[he] at hbx
          exact hbx
         have hcs0:(st.objs[kk]?).bind O.cells?=some cs:=hcs
         cases ho:st.objs[kk]? with
         | none=>rw[ho] at hbx';cases hbx'
         | some o=>
          rw[ho] at hbx' hcs0
          cases o with
          | box l=>cases hcs0;rfl
          | _=>cases hbx'
        have hcs':q[kk]?=some (.box cs):=(hb kk hk cs).1 hcs2
        have hcs3:(q[kk]?).bind O.cells?=some cs:=by rw[hcs'];rfl
        rw[hcs3]
        exact h3
       ·cases h3
      ·rename_i he
       rw[he] at h3 ⊢
       exact h3
      ·cases hqp
    rw[key]
    rfl
   | _=>cases h
theorem DP{α:Type}{st:St}{dst:Option Nat}{o:O}{f:St→Nat→Option α}{r:α}(h:gO st dst o f=some r):∃K,st.objs[K]?=some .fresh∧f { st with objs:=st.objs.set K o } K=some r:=by
 unfold gO at h
 split at h
 ·split at h
  ·rename_i hf
   exact⟨_,hf,h⟩
  ·split at h
   ·rename_i hf
    exact⟨_,hf,h⟩
   ·split at h
    ·rename_i K hK
     have hm:K∈(List.range st.objs.length).filter fun i=>decide (st.np+st.env.length≤i)&&g9 st.objs[i]?:=by
      unfold iC at hK
      exact List.mem_of_mem_head? hK
     have h2:=(List.mem_filter.1 hm).2
     simp only[Bool.and_eq_true] at h2
     have h4:st.objs[K]?=some .fresh:=by
      have:=h2.2
      unfold g9 at this
      split at this
      ·rename_i e;exact e
      ·cases this
     exact⟨_,h4,h⟩
    ·cases h
 ·cases h
theorem SA{B:List Nat}{o o':List O}(hok:QT B o o'=true){k:Nat}(hk:k∈B)(fr:∀l,o[k]?=some (.box l)→o'[k]?=some (.box l)):BoxSame o o' k:=by
 intro l
 constructor
 ·exact fr l
 ·intro hl
  unfold QT at hok
  have h5:=List.all_eq_true.1 hok k hk
  rw[hl] at h5
  simp only[gV,Bool.not_true,Bool.or_false] at h5
  cases ho:o[k]? with
  | none=>rw[ho] at h5;cases h5
  | some x=>
   rw[ho] at h5
   cases x with
   | box l0=>
    have:=fr l0 ho
    rw[hl] at this
    cases this
    rfl
   | _=>cases h5
theorem yU{Γ:FuncId→Option Callee}{P:Program}{R:Type}{st:St}{dst:Option Nat}{t:TypeId}{l c:D}{k:St→D→Option R}{r:R}(h:eO Γ P st dst t l c k=some r):
 ∃(o:O) (f:Nat→D),gV (some o)=false∧o≠.fresh∧∀{S:Type} (st':St) (k':St→D→Option S),eO Γ P st' dst t l c k'=gO st' dst o fun s key=>k' s (f key):=by
 unfold eO at h
 by_cases hr:Pz Γ dst=true
 ·rw[if_pos hr] at h
  unfold sN at h
  split at h
  case h_2=>cases h
  rename_i e hu
  split at h
  case h_2=>cases h
  rename_i i e2 h1 h2
  split at h
  case h_2=>cases h
  rename_i n h3 h4
  split at h
  case isFalse=>cases h
  rename_i hc
  obtain⟨a,g1,g2⟩:=rT h
  obtain⟨b,g3,g4⟩:=rT g1
  obtain⟨p,g5,g6⟩:=aC g3
  refine⟨.rr none e e2 n (repL p.1 []),fun key=>.s (.c (.rk key)),rfl,by simp,fun st' k'=>?_⟩
  unfold eO
  rw[if_pos hr]
  unfold sN
  simp only[hu,h1,h2,h3,h4,if_pos hc,g2,g4,g5]
  rfl
 ·rw[if_neg hr] at h
  unfold kE at h
  split at h
  case h_2=>cases h
  rename_i e hu
  split at h
  case h_2=>cases h
  rename_i i h1
  split at h
  case h_2=>cases h
  rename_i z h2
  split at h
  case h_2=>cases h
  rename_i cs h3
  split at h
  case h_2=>cases h
  rename_i ts h4
  split at h
  case isFalse=>cases h
  rename_i hc
  obtain⟨a,g1,g2⟩:=rT h
  obtain⟨b,g3,g4⟩:=rT g1
  obtain⟨p,g5,g6⟩:=aC g3
  refine⟨.row false e i.size (repL p.1 (Tf i.size ts)),fun key=>.s (.c (.row key)),rfl,by simp,fun st' k'=>?_⟩
  unfold eO
  rw[if_neg hr]
  unfold kE
  simp only[hu,h1,h2,h3,h4,if_pos hc,g2,g4,g5]
  rfl
theorem Ey(hpl:k4 Γ pl)(hq:vT Γ≠[]){o:Oper}(h:Ki pl o=true){st:St}{q:List O}{d:D}(hp:fW P Γ ops o st=some (q,d)):∀k∈vT Γ,BoxSame st.objs q k:=by
 intro k hk
 obtain⟨dst,op,type,pos,after,guard⟩:=o
 unfold Ki at h
 unfold fW at hp
 cases hg:gd ops (⟨dst,op,type,pos,after,guard⟩:Oper) st with
 | none=>rw[hg] at hp;cases hp
 | some w=>
  rw[hg] at hp
  cases w with
  | false=>cases hp;exact .refl _ _
  | true=>
   have hp:CJ P Γ ⟨dst,op,type,pos,after,guard⟩ st.bare (ev st)=some (q,d):=hp
   unfold CJ at hp
   cases op with
   | makeSlice t l c=>
    have hp:gW Γ P st.bare dst t (ev st l) (ev st c) (fun s d=>some (s.objs,d))=some (q,d):=hp
    have hr:eO Γ P st.bare dst t (ev st l) (ev st c) (fun s d=>some (s.objs,d))=some (q,d):=by
     unfold gW at hp
     split at hp
     ·exact hp
     ·split at hp
      ·exact hp
      ·cases hp
    obtain⟨o,f,hb,_,hn⟩:=yU hr
    rw[hn] at hr
    obtain⟨K,h1,h2⟩:=rS hb hr
    cases h2
    exact h1 k
   | call c=>
    obtain⟨callee,args,ats⟩:=c
    cases callee with
    | builtin bi=>
     cases bi with
     | append=>
      dsimp only at hp
      split at hp
      case isFalse=>cases hp
      unfold cN at hp
      split at hp
      ·cases ‹Builtin.append=_›
      ·exact L5 hp k
      ·cases ‹Builtin.append=_›
      ·cases ‹Builtin.append=_›
      ·cases ‹Builtin.append=_›
      ·cases hp
     | _=>cases h
    | value f=>
     dsimp only at hp
     have hlc:j0 (bE Γ) dst=false:=by
      have h2:JP pl dst=false:=by
       have h3:(!JP pl dst)=true:=by
        cases f <;> exact(Bool.and_eq_true_iff.1 h).2
       cases h4:JP pl dst with
       | false=>rfl
       | true=>rw[h4] at h3;cases h3
      cases dst with
      | none=>rfl
      | some s=>
       show (bE Γ).contains s=false
       cases h4:(bE Γ).contains s with
       | false=>rfl
       | true=>
        have h5:pl.contains (20000000+s)=true:=hpl.2.2.2.2.1 s h4
        have h6:pl.contains (20000000+s)=false:=h2
        rw[h5] at h6;cases h6
     have hall:∀g A,Γ g=some A→FE (ev st f) g→A.Framed∨A.Never:=fun g A hA hr=>by
      by_cases hflag:(g==2000000)=true
      ·have:g=2000000:=by simpa using hflag
       subst this
       exact .inr (hpl.2.2.2.2.2.2.1 A hA)
      ·have hflag:(g==2000000)=false:=by simpa using hflag
       left
       cases f with
       | func f'=>
        have:g=f':=by
         rcases hr with⟨v,h1,h2⟩ | ⟨caps,h1⟩
         ·simp only[ev] at h1
          cases h1
          have hpf:kW (Value.func (.func f') #[] #[])=some f':=rfl
          rw[hpf] at h2
          cases h2;rfl
         ·simp only[ev] at h1
          cases h1
        subst this
        exact hpl.2.2.1 g A (Bool.and_eq_true_iff.1 h).1 hA
       | _=>exact hpl.2.2.2.2.2.1 (Bool.and_eq_true_iff.1 h).1 g A hflag hA
     unfold yR at hp
     split at hp
     case isFalse=>cases hp
     unfold CI at hp
     cases hB:vT Γ with
     | nil=>exact absurd hB hq
     | cons w B=>
      rw[hB] at hp hk
      dsimp only at hp
      rw[hlc] at hp
      simp only[Bool.false_eq_true,if_false] at hp
      split at hp
      case isFalse=>cases hp
      rename_i hqd
      obtain⟨p',h1,h2⟩:=Option.bind_eq_some_iff.1 hp
      split at h2
      case isFalse=>cases h2
      rename_i hok
      cases h2
      have hkeys:∀d∈ev st f::args.toList.map (ev st),k∉MY d:=fun d hd hkd=>by
       unfold T8 at hqd
       have h5:=List.all_eq_true.1 hqd d hd
       have h6:=List.all_eq_true.1 h5 k hkd
       have h7:(w::B).contains k=true:=by simpa using hk
       rw[h7] at h6
       cases h6
      have fr:∀l,st.objs[k]?=some (.box l)→q[k]?=some (.box l):=fun l hl=>PF hall h1 hkeys hl
      exact SA hok hk fr
    | _=>cases h
   | buildSlice t n parts=>
    dsimp only at hp
    unfold Jt at hp
    split at hp
    ·rw[mJ] at hp
     obtain⟨d,_,h2⟩:=Option.bind_eq_some_iff.1 hp
     cases h2
     exact fun l=>Iff.rfl
    split at hp
    case isFalse=>cases hp
    exact DM hp k
   | store t x v=>
    dsimp only at hp h
    split at hp
    case isFalse=>cases hp
    rename_i hgs
    rw[Bool.and_eq_true] at hgs
    replace hgs:=hgs.1
    unfold Dx at hgs
    cases hB:vT Γ with
    | nil=>exact absurd hB hq
    | cons w B=>
     rw[hB] at hgs hk
     dsimp only at hgs
     have hnl:(bE Γ).contains 8999999=false:=by
      cases hc:(bE Γ).contains 8999999 with
      | false=>rfl
      | true=>
       have:=hpl.2.2.2.2.1 _ hc
       rw[this] at h
       cases h
     have hnt:(bE Γ).contains (60000000+t)=false:=by
      cases hc:(bE Γ).contains (60000000+t) with
      | false=>rfl
      | true=>
       have h9:=hpl.2.2.2.2.1 _ hc
       have aux8:∀n:Nat,20000000+(60000000+n)=80000000+n:=fun n=>by omega
       rw[show 20000000+(60000000+t)=80000000+t from aux8 t] at h9
       rw[h9,Bool.and_comm] at h
       cases h
     rw[hnl,hnt,Bool.false_or,Bool.false_or] at hgs
     obtain⟨q',h1,h2⟩:=Option.bind_eq_some_iff.1 hp
     cases h2
     unfold p9 at h1
     split at h1
     case h_2=>cases h1
     split at h1
     case isFalse=>cases h1
     split at hgs
     case h_3=>cases hgs
     case h_2=>
      rename_i kk mm ii jj he
      rw[he] at h1
      unfold lO at h1
      dsimp only at h1
      split at h1
      case h_2=>cases h1
      rename_i q2 hfz
      split at h1
      case h_2=>cases h1
      rename_i e m' es hob
      obtain⟨ts,h1⟩:=rU h1
      split at h1
      case isFalse=>cases h1
      obtain⟨x,_,h1⟩:=aC h1
      cases h1
      exact(JO hfz k).trans (kH (by rw[hob];rfl) rfl)
     rename_i kk jj he
     rw[he] at h1
     unfold lO at h1
     dsimp only at h1
     split at h1
     ·split at h1
      ·cases h1
       have hne:kk≠k:=fun e=>by
        subst e
        have:(w::B).contains kk=true:=by simpa using hk
        rw[this] at hgs
        cases hgs
       intro l
       rw[List.getElem?_set_ne hne]
       exact Iff.rfl
      ·cases h1
     ·cases h1
   | alloc e=>
    dsimp only at hp
    unfold yS at hp
    cases hB:vT Γ with
    | nil=>exact absurd hB hq
    | cons w B=>
     rw[hB] at hp hk
     dsimp only at hp
     split at hp
     case isFalse=>cases hp
     obtain⟨p',h1,h2⟩:=Option.bind_eq_some_iff.1 hp
     rw[AM hpl h,Bool.or_false] at h2
     split at h2
     case isFalse=>cases h2
     rename_i hok
     cases h2
     refine SA hok hk fun l hl=>?_
     unfold l6 at h1
     split at h1
     case h_2=>cases h1
     split at h1
     case h_2=>cases h1
     split at h1
     case h_2=>cases h1
     obtain⟨K,hK,h3⟩:=DP h1
     cases h3
     dsimp only
     rw[List.getElem?_set_ne (fun e=>by
      subst e
      have hl':st.bare.objs[K]?=some (.box l):=hl
      rw[hK] at hl'
      cases hl')]
     exact hl
   | _=>cases h
def NJ(o o':List O):Prop:=∀(k:Nat) (x:O),o[k]?=some x→x≠O.fresh→o'[k]?=some x
theorem AN{o o':List O}(hg:NJ o o'):∀{f k K:Nat},p8 o f k=some K→p8 o' f k=some K
 | 0,_,_,h=>by simp[p8] at h
 | f+1,k,K,h=>by
  simp only[p8] at h ⊢
  split at h
  ·rename_i ho;rw[hg k _ ho (by simp)];exact h
  ·rename_i ho;rw[hg k _ ho (by simp)];exact AN hg h
  ·cases h
theorem JT{R:Type}{st:St}{q:List O}{t:TypeId}{d:D}{k:D→Option R}{r:R}(hg:NJ st.objs q)(h:mX P st t d k=some r):mX P { st with objs:=q } t d k=some r:=by
 unfold mX at h ⊢
 cases hn:pZ P t with
 | none=>rw[hn] at h;cases h
 | some n=>
  cases hb:rI P t with
  | none=>rw[hn,hb] at h;cases h
  | some b=>
   rw[hn,hb] at h
   dsimp only at h ⊢
   split at h
   ·cases h
   rename_i hc
   rw[if_neg hc]
   unfold lO at h ⊢
   cases d with
   | tup l=>cases h
   | s s=>cases s with
    | agg l=>cases h
    | c c=>
     cases c with
     | box key j=>
      dsimp only at h ⊢
      cases ho:st.objs[key]? with
      | none=>rw[ho] at h;cases h
      | some o=>
       rw[ho] at h
       rw[hg key o ho (fun e=>by subst e;cases h)]
       exact h
     | elt key m i j=>
      dsimp only at h ⊢
      cases ho:st.objs[key]? with
      | none=>rw[ho] at h;cases h
      | some o=>
       rw[ho] at h
       rw[hg key o ho (fun e=>by subst e;cases h)]
       exact h
     | elr key i=>
      dsimp only at h ⊢
      cases hr:p8 st.objs 64 key with
      | none=>rw[hr] at h;cases h
      | some K=>
       rw[hr] at h
       rw[AN hg hr]
       dsimp only at h ⊢
       cases ho:st.objs[K]? with
       | none=>rw[ho] at h;cases h
       | some o=>
        rw[ho] at h
        rw[hg K o ho (fun e=>by subst e;cases h)]
        exact h
     | _=>exact h
theorem xE{R:Type}{st:St}{q:List O}{t:TypeId}{x ix:D}{k:D→Option R}{r:R}(hg:NJ st.objs q)(h:fG P st t x ix k=some r):fG P { st with objs:=q } t x ix k=some r:=by
 unfold fG at h ⊢
 cases hu:P.underlying t with
 | none=>rw[hu] at h;cases h
 | some u=>
  rw[hu] at h
  cases u with
  | slice e=>
   dsimp only at h ⊢
   cases hn:pZ P e with
   | none=>rw[hn] at h;cases h
   | some n=>
    rw[hn] at h
    dsimp only at h ⊢
    unfold lO at h ⊢
    cases x with
    | tup l=>cases h
    | s s=>cases s with
     | agg l=>cases h
     | c c=>
      dsimp only at h ⊢
      obtain⟨i,h1,h2⟩:=rT h
      rw[h2]
      cases c with
      | row key=>
       dsimp only at h1 ⊢
       cases ho:st.objs[key]? with
       | none=>rw[ho] at h1;cases h1
       | some o=>
        rw[ho] at h1
        rw[hg key o ho (fun e=>by subst e;cases h1)]
        exact h1
      | cut key m lo len tg=>
       dsimp only at h1 ⊢
       cases ho:st.objs[key]? with
       | none=>rw[ho] at h1;cases h1
       | some o=>
        rw[ho] at h1
        rw[hg key o ho (fun e=>by subst e;cases h1)]
        exact h1
      | rk key=>
       dsimp only at h1 ⊢
       cases hr:p8 st.objs 64 key with
       | none=>rw[hr] at h1;cases h1
       | some K=>
        rw[hr] at h1
        rw[AN hg hr]
        dsimp only at h1 ⊢
        cases ho:st.objs[K]? with
        | none=>rw[ho] at h1;cases h1
        | some o=>
         rw[ho] at h1
         rw[hg K o ho (fun e=>by subst e;cases h1)]
         exact h1
      | _=>exact h1
  | _=>exact h
theorem Al{R:Type}{st:St}{q:List O}{t:TypeId}{x:D}{k:D→Option R}{r:R}(hg:NJ st.objs q)(h:sC P st t x k=some r):sC P { st with objs:=q } t x k=some r:=by
 unfold sC at h ⊢
 cases hu:P.underlying t with
 | none=>rw[hu] at h;cases h
 | some u=>
  rw[hu] at h
  cases u with
  | slice e=>
   dsimp only at h ⊢
   unfold lO at h ⊢
   cases x with
   | tup l=>cases h
   | s s=>cases s with
    | agg l=>cases h
    | c c=>
     dsimp only at h ⊢
     cases c with
     | row key=>
      dsimp only at h ⊢
      cases ho:st.objs[key]? with
      | none=>rw[ho] at h;cases h
      | some o=>
       rw[ho] at h
       rw[hg key o ho (fun e=>by subst e;cases h)]
       exact h
     | rk key=>
      dsimp only at h ⊢
      cases hr:p8 st.objs 64 key with
      | none=>rw[hr] at h;cases h
      | some K=>
       rw[hr] at h
       rw[AN hg hr]
       dsimp only at h ⊢
       cases ho:st.objs[K]? with
       | none=>rw[ho] at h;cases h
       | some o=>
        rw[ho] at h
        rw[hg K o ho (fun e=>by subst e;cases h)]
        exact h
     | _=>exact h
  | map kt e=>
   dsimp only at h ⊢
   unfold lO at h ⊢
   cases x with
   | tup l=>cases h
   | s s=>cases s with
    | agg l=>cases h
    | c c=>
     dsimp only at h ⊢
     cases c with
     | t y=>
      cases y <;> first | exact h | cases h
     | row key=>
      dsimp only at h ⊢
      cases ho:st.objs[key]? with
      | none=>rw[ho] at h;cases h
      | some o=>
       rw[ho] at h
       rw[hg key o ho (fun e=>by subst e;cases h)]
       exact h
     | _=>exact h
  | _=>exact h
theorem NK{o:List O}{K:Nat}{x:O}(h:o[K]?=some .fresh):NJ o (o.set K x):=fun k y hy hn=>by
 have hne:K≠k:=fun e=>by subst e;rw[h] at hy;cases hy;exact hn rfl
 rw[List.getElem?_set_ne hne]
 exact hy
theorem SB{o:Oper}(h:Kj o=true){st:St}{q:List O}{d:D}(hp:fW P Γ ops o st=some (q,d)):NJ st.objs q:=by
 obtain⟨dst,op,type,pos,after,guard⟩:=o
 unfold Kj at h
 unfold fW at hp
 cases hg:gd ops (⟨dst,op,type,pos,after,guard⟩:Oper) st with
 | none=>rw[hg] at hp;cases hp
 | some w=>
  rw[hg] at hp
  cases w with
  | false=>cases hp;exact fun k x h _=>h
  | true=>
   have hp:CJ P Γ ⟨dst,op,type,pos,after,guard⟩ st.bare (ev st)=some (q,d):=hp
   unfold CJ at hp
   cases op with
   | alloc t=>
    dsimp only at hp
    have hal:(l6 P st.bare dst t fun s d=>some (s.objs,d))=some (q,d):=by
     unfold yS at hp
     split at hp
     ·exact hp
     ·split at hp
      case isFalse=>cases hp
      obtain⟨p',h1,h2⟩:=Option.bind_eq_some_iff.1 hp
      split at h2
      ·cases h2;exact h1
      ·cases h2
    unfold l6 at hal
    split at hal
    case h_2=>cases hal
    split at hal
    case h_2=>cases hal
    split at hal
    case h_2=>cases hal
    obtain⟨K,h1,h2⟩:=DP hal
    cases h2
    exact NK h1
   | box t x=>
    dsimp only at hp
    unfold Q2 at hp
    split at hp
    case h_2=>cases hp
    split at hp
    case isFalse=>cases hp
    obtain⟨K,h1,h2⟩:=DP hp
    cases h2
    exact NK h1
   | _=>cases h
theorem An{oi oj:Oper}(hl:XD oi=true)(ha:Kj oj=true){st:St}{q2:List O}{d1 d2:D}(e1:fW P Γ ops oi st=some (st.objs,d1))(e2:fW P Γ ops oj st=some (q2,d2)):fW P Γ ops oi { st with objs:=q2 }=some (q2,d1):=by
 have hgr:=SB ha e2
 clear e2 ha
 obtain⟨dst,op,type,pos,after,guard⟩:=oi
 unfold XD at hl
 unfold fW at e1 ⊢
 have h1:gd ops (⟨dst,op,type,pos,after,guard⟩:Oper) { st with objs:=q2 }=gd ops (⟨dst,op,type,pos,after,guard⟩:Oper) st:=rfl
 rw[h1]
 cases hg:gd ops (⟨dst,op,type,pos,after,guard⟩:Oper) st with
 | none=>rw[hg] at e1;cases e1
 | some w=>
  rw[hg] at e1
  cases w with
  | false=>
   simp only[Option.bind_some,cond_false,Option.some.injEq,Prod.mk.injEq] at e1 ⊢
   exact⟨trivial,e1.2⟩
  | true=>
   cases op with
   | indexAddr t x ix=>
    have e1:((nA Γ P st.bare dst t (ev st x) (ev st ix) some).bind fun d=>some (st.bare.objs,d))=some (st.objs,d1):=e1
    obtain⟨d',h3,h2⟩:=Option.bind_eq_some_iff.1 e1
    cases h2
    show ((nA Γ P { st.bare with objs:=q2 } dst t (ev st x) (ev st ix) some).bind fun d=>some (q2,d))=some (q2,d1)
    have key:nA Γ P { st.bare with objs:=q2 } dst t (ev st x) (ev st ix) some=some d1:=by
     unfold nA at h3 ⊢
     cases hB:vT Γ with
     | nil=>
      rw[hB] at h3
      exact xE (st:=st.bare) hgr h3
     | cons w B=>
      rw[hB] at h3
      dsimp only at h3 ⊢
      split at h3
      case isFalse=>cases h3
      rename_i hi
      rw[if_pos hi]
      exact xE (st:=st.bare) hgr h3
    rw[key]
    rfl
   | load t x=>
    have e1:(if xB Γ dst (ev st x)=true then ((lG Γ P st.bare dst t (ev st x) some).bind fun d=>some (st.bare.objs,d)) else none)=some (st.objs,d1):=e1
    split at e1
    case isFalse=>cases e1
    rename_i hgl
    obtain⟨d',h3,h2⟩:=Option.bind_eq_some_iff.1 e1
    cases h2
    show (if xB Γ dst (ev st x)=true then ((lG Γ P { st.bare with objs:=q2 } dst t (ev st x) some).bind fun d=>some (q2,d)) else none)=some (q2,d1)
    rw[if_pos hgl]
    have key:lG Γ P { st.bare with objs:=q2 } dst t (ev st x) some=some d1:=by
     unfold lG at h3 ⊢
     cases hB:vT Γ with
     | nil=>
      rw[hB] at h3
      exact JT (st:=st.bare) hgr h3
     | cons w B=>
      rw[hB] at h3
      dsimp only at h3 ⊢
      split at h3
      case isFalse=>cases h3
      rename_i hi
      have hbx:∀d,oR st.bare d=true→oR { st.bare with objs:=q2 } d=true:=fun d hd=>by
       unfold oR at hd ⊢
       split
       ·rename_i kk jj
        have hd:gV st.objs[kk]?=true:=hd
        show gV q2[kk]?=true
        cases ho:st.objs[kk]? with
        | none=>rw[ho] at hd;cases hd
        | some o=>
         rw[ho] at hd
         rw[hgr kk o ho (fun e=>by subst e;cases hd)]
         exact hd
       ·rfl
      have hi':((yH (w::B) (ev st x)&&oR { st.bare with objs:=q2 } (ev st x))||j0 (bE Γ) dst)=true:=by
       rw[Bool.or_eq_true,Bool.and_eq_true] at hi ⊢
       exact hi.imp (fun h=>⟨h.1,hbx _ h.2⟩) id
      rw[if_pos hi']
      exact JT (st:=st.bare) hgr h3
    rw[key]
    rfl
   | call c=>
    obtain⟨callee,args,ats⟩:=c
    cases callee with
    | builtin bi=>
     cases bi with
     | len=>
      have hev:∀x,ev { st with objs:=q2 } x=ev st x:=fun x=>by cases x <;> rfl
      have e1:(if pJ Γ st dst .len (args.toList.map (ev st))=true then cN P st.bare dst type .len (args.toList.map (ev st)) ats.toList else none)=some (st.objs,d1):=e1
      show (if pJ Γ st dst .len (args.toList.map (ev { st with objs:=q2 }))=true then cN P { st.bare with objs:=q2 } dst type .len (args.toList.map (ev { st with objs:=q2 })) ats.toList else none)=some (q2,d1)
      have hm:args.toList.map (ev { st with objs:=q2 })=args.toList.map (ev st):=List.map_congr_left fun x _=>hev x
      rw[hm]
      split at e1
      case isFalse=>cases e1
      rename_i hgb
      rw[if_pos hgb]
      unfold cN at e1 ⊢
      split at e1
      ·obtain⟨d',h3,h2⟩:=Option.bind_eq_some_iff.1 e1
       cases h2
       have:=Al (st:=st.bare) hgr h3
       show ((sC P { st.bare with objs:=q2 } _ _ some).bind fun d=>some (q2,d))=_
       rw[this]
       rfl
      all_goals first
       | (cases ‹Builtin.len=_›;done)
       | (cases e1;done)
     | _=>cases hl
    | _=>cases hl
   | _=>cases hl
theorem FG(hpl:k4 Γ pl)(h:(!pl.contains 28999999)=true):(bE Γ).contains 8999999=false:=by
 cases hc:(bE Γ).contains 8999999 with
 | false=>rfl
 | true=>
  have:=hpl.2.2.2.2.1 _ hc
  rw[this] at h
  cases h
theorem PH(hpl:k4 Γ pl)(hq:vT Γ≠[])(hn:(!pl.contains 28999999)=true){o:Oper}(h:Et o=true):∃(d:Nat) (x:O) (go:Bool),((∀t,o.dst=some t→t=d)∧(go=true→gV (some x)=true))∧∀(st:St) (q:List O) (v:D),
 fW P Γ ops o st=some (q,v)↔(o.dst=some d∧go=true∧st.objs[st.np+d]?=some .fresh∧q=st.objs.set (st.np+d) x∧v=.s (.c (.box (st.np+d) 0))∧(QT (vT Γ) st.objs q||j0 (bE Γ) o.dst)=true∧GJ Γ st o.dst=true):=by
 obtain⟨dst,op,type,pos,after,guard⟩:=o
 unfold Et at h
 rw[Bool.and_eq_true] at h
 obtain⟨hgd,h⟩:=h
 cases guard with
 | some g=>cases hgd
 | none=>
  cases op with
  | alloc t=>
   have key:∀st:St,fW P Γ ops ⟨dst,.alloc t,type,pos,after,none⟩ st=yS Γ P st.bare dst t:=fun st=>rfl
   cases dst with
   | none=>
    refine⟨0,.box [],true,⟨fun t ht=>(by cases ht),fun _=>rfl⟩,fun st q v=>⟨fun he=>?_,fun he=>(by cases he.1)⟩⟩
    rw[key] at he
    unfold yS at he
    split at he
    ·rename_i e;exact absurd e hq
    ·split at he
     case isFalse=>cases he
     rename_i ho
     have ho:=(Bool.and_eq_true_iff.1 ho).1
     unfold E4 at ho
     rw[FG hpl hn] at ho
     cases ho
   | some d=>
    have hz:∃(x:O) (go:Bool),(go=true→gV (some x)=true)∧∀(st:St) (f:St→D→Option (List O×D)),st.objs[st.np+d]?=some .fresh→l6 P st (some d) t f=if go then f { st with objs:=st.objs.set (st.np+d) x } (.s (.c (.box (st.np+d) 0))) else none:=by
     unfold l6
     cases P.info? t with
     | none=>exact⟨.fresh,false,(fun h=>by cases h),fun st f _=>rfl⟩
     | some i=>
      dsimp only
      cases i.zero with
      | none=>exact⟨.fresh,false,(fun h=>by cases h),fun st f _=>rfl⟩
      | some z=>
       dsimp only
       cases rJ z with
       | none=>exact⟨.fresh,false,(fun h=>by cases h),fun st f _=>rfl⟩
       | some cs=>
        refine⟨.box (Q1 P t cs),true,fun _=>rfl,fun st f hf=>?_⟩
        dsimp only
        unfold gO
        dsimp only
        rw[hf]
        rfl
    obtain⟨x,go,hbx,hz⟩:=hz
    refine⟨d,x,go,⟨fun t ht=>(by cases ht;rfl),hbx⟩,fun st q v=>?_⟩
    rw[key]
    unfold yS
    cases hB:vT Γ with
    | nil=>exact absurd hB hq
    | cons w B=>
     dsimp only
     have how:E4 Γ st.bare (some d)=true↔st.objs[st.np+d]?=some .fresh:=by
      unfold E4
      rw[FG hpl hn,Bool.false_or]
      show (match st.objs[st.np+d]? with | some .fresh=>true | _=>false)=true↔_
      constructor
      ·intro hh
       split at hh
       ·assumption
       ·cases hh
      ·intro hh
       rw[hh]
     constructor
     ·intro he
      split at he
      case isFalse=>cases he
      rename_i ho
      have ho:=Bool.and_eq_true_iff.1 ho
      have hf:=how.1 ho.1
      rw[hz st.bare _ hf] at he
      cases go with
      | false=>cases he
      | true=>
       simp only[if_true,Option.bind_some] at he
       split at he
       case isFalse=>cases he
       rename_i hk
       cases he
       exact⟨rfl,rfl,hf,rfl,rfl,hk,ho.2⟩
     ·rintro ⟨_,hgo,hf,rfl,rfl,hk,hga⟩
      rw[if_pos (show (E4 Γ st.bare (some d)&&GJ Γ st.bare (some d))=true from Bool.and_eq_true_iff.2 ⟨how.2 hf,hga⟩),hz st.bare _ hf]
      subst hgo
      simp only[if_true,Option.bind_some]
      exact if_pos hk
  | _=>cases h
theorem Ez(hpl:k4 Γ pl)(hq:vT Γ≠[])(hn:(!pl.contains 28999999)=true){o:Oper}(h:Kl o=true){st:St}{q:List O}{v:D}(hp:fW P Γ ops o st=some (q,v)):
 ∃(d:Nat) (x:O),x≠.fresh∧st.objs[st.np+d]?=some .fresh∧q=st.objs.set (st.np+d) x∧∀q':List O,q'[st.np+d]?=some .fresh→fW P Γ ops o { st with objs:=q' }=some (q'.set (st.np+d) x,v):=by
 obtain⟨dst,op,type,pos,after,guard⟩:=o
 unfold Kl at h
 rw[Bool.and_eq_true] at h
 obtain⟨hgd,h⟩:=h
 cases guard with
 | some g=>cases hgd
 | none=>
  cases op with
  | makeSlice t l c=>
   have key:∀st:St,fW P Γ ops ⟨dst,.makeSlice t l c,type,pos,after,none⟩ st=gW Γ P st.bare dst t (ev st l) (ev st c) fun s d=>some (s.objs,d):=fun st=>rfl
   have hev:∀(q':List O) (x:Operand),ev { st with objs:=q' } x=ev st x:=fun q' x=>by cases x <;> rfl
   rw[key] at hp
   unfold gW at hp
   cases hB:vT Γ with
   | nil=>exact absurd hB hq
   | cons w B=>
    rw[hB] at hp
    dsimp only at hp
    split at hp
    case isFalse=>cases hp
    rename_i ho
    have how:∀st:St,E4 Γ st dst=true↔∃d,dst=some d∧st.objs[st.np+d]?=some .fresh:=fun st=>by
     unfold E4
     rw[FG hpl hn,Bool.false_or]
     cases dst with
     | none=>exact⟨fun h=>(by cases h),fun⟨d,h,_⟩=>(by cases h)⟩
     | some d=>
      dsimp only
      constructor
      ·intro hh
       split at hh
       ·exact⟨d,rfl,by assumption⟩
       ·cases hh
      ·rintro ⟨d',e,hh⟩
       cases e
       rw[hh]
    obtain⟨d,rfl,hf⟩:=(how _).1 ho
    have hf:st.objs[st.np+d]?=some .fresh:=hf
    obtain⟨x,f,_,hx,hinv⟩:=yU hp
    have hnew:∀(st':St),st'.objs[st'.np+d]?=some .fresh→eO Γ P st' (some d) t (ev st l) (ev st c) (fun s d=>some (s.objs,d))=some (st'.objs.set (st'.np+d) x,f (st'.np+d)):=fun st' hf'=>by
     rw[hinv]
     unfold gO
     dsimp only
     rw[hf']
    rw[hnew st.bare hf] at hp
    cases hp
    refine⟨d,x,hx,hf,rfl,fun q' hq'=>?_⟩
    rw[key]
    unfold gW
    rw[hB]
    dsimp only
    rw[if_pos ((how _).2 ⟨d,rfl,hq'⟩),hev,hev]
    exact hnew (St.bare { st with objs:=q' }) hq'
  | _=>cases h
theorem Fa{B:List Nat}{o:List O}{K1 K2:Nat}{x1 x2:O}(hne:K1≠K2)(hf:o[K2]?=some .fresh)(h:QT B (o.set K1 x1) ((o.set K1 x1).set K2 x2)=true):QT B o (o.set K2 x2)=true:=by
 unfold QT at h ⊢
 refine List.all_eq_true.2 fun k hk=>?_
 have h5:=List.all_eq_true.1 h k hk
 by_cases e:k=K2
 ·subst e
  have hlt:k<o.length:=(List.getElem?_eq_some_iff.1 hf).1
  rw[List.getElem?_set_ne hne,hf,List.getElem?_set_self (by simpa using hlt)] at h5
  rw[hf,List.getElem?_set_self hlt]
  exact h5
 ·rw[List.getElem?_set_ne (fun e'=>e e'.symm)]
  cases gV o[k]? <;> rfl
theorem Fb{B:List Nat}{o:List O}{K1 K2:Nat}{x1 x2:O}(hne:K1≠K2)(hf:o[K1]?=some .fresh)(h:QT B o (o.set K1 x1)=true):QT B (o.set K2 x2) ((o.set K2 x2).set K1 x1)=true:=by
 unfold QT at h ⊢
 refine List.all_eq_true.2 fun k hk=>?_
 have h5:=List.all_eq_true.1 h k hk
 by_cases e:k=K1
 ·subst e
  have hlt:k<o.length:=(List.getElem?_eq_some_iff.1 hf).1
  rw[hf,List.getElem?_set_self hlt] at h5
  rw[List.getElem?_set_ne hne.symm,hf,List.getElem?_set_self (by simpa using hlt)]
  exact h5
 ·rw[List.getElem?_set_ne (i:=K1) (fun e'=>e e'.symm)]
  cases gV (o.set K2 x2)[k]? <;> rfl
theorem Ao{oi oj:Oper}(h:Qk oi oj=true){st:St}{q1 q2:List O}{d1 d2:D}(e1:fW P Γ ops oi st=some (q1,d1))(e2:fW P Γ ops oj { st with objs:=q1 }=some (q2,d2)){G:Prop}
 (caseq:q1=st.objs→(∀q,q=q2→fW P Γ ops oi { st with objs:=q }=some (q2,d1))→G):G:=by
 obtain⟨dst,op,type,pos,after,guard⟩:=oi
 obtain⟨dst',op',type',pos',after',guard'⟩:=oj
 unfold Qk at h
 simp only[Bool.and_eq_true,Option.isNone_iff_eq_none] at h
 obtain⟨⟨rfl,rfl⟩,h⟩:=h
 split at h
 case h_2=>cases h
 rename_i t m k t' m' k'
 simp only[Bool.and_eq_true,beq_iff_eq] at h
 obtain⟨⟨rfl,hm⟩,hk⟩:=h
 have hmm:m=m':=by
  unfold HV at hm
  split at hm
  ·have:=beq_iff_eq.1 hm;rw[this]
  ·cases hm
 have hkk:k=k':=by
  unfold HV at hk
  split at hk
  ·have:=beq_iff_eq.1 hk;rw[this]
  ·cases hk
 subst hmm;subst hkk
 have x1:((m8 P st.bare t (ev st m) (ev st k) false some).bind fun d=>some (st.bare.objs,d))=some (q1,d1):=e1
 obtain⟨d,g1,g2⟩:=Option.bind_eq_some_iff.1 x1
 simp only[Option.some.injEq,Prod.mk.injEq] at g2
 obtain⟨g2,rfl⟩:=g2
 have hq:q1=st.objs:=g2.symm
 subst hq
 refine caseq rfl fun q hq=>?_
 subst hq
 have x2:(lW P st.bare t (ev st m) (ev st k) fun s d=>some (s.objs,d))=some (q,d2):=e2
 have hnr:∀d0:D,(∃key,d0=.s (.c (.rk key)))→(lW P st.bare t d0 (ev st k) fun s d=>some (s.objs,d))=some (q,d2)→False:=fun d0 hd0 hx=>by
  obtain⟨key,rfl⟩:=hd0
  unfold lW at hx
  dsimp only at hx
  simp only[Ai] at hx
  repeat' (first | split at hx | dsimp only at hx)
  all_goals (cases hx;done)
 have hgk:∀(b:St),m8 P b t (ev st m) (ev st k) false some=o9 P b t (ev st m) (ev st k) false some:=fun b=>by
  unfold m8
  split
  ·rename_i key hd0
   exact(hnr _ ⟨key,hd0⟩ x2).elim
  ·rfl
 rw[hgk] at g1
 have x3:=PG g1 x2
 have x4:((m8 P { st.bare with objs:=q } t (ev st m) (ev st k) false some).bind fun d=>some (q,d))=some (q,d):=by
  rw[hgk,x3];rfl
 exact x4
def O.isB:O→Bool
 | .box _=>true
 | .fbox _=>true
 | _=>false
def BF(o o':List O):Prop:=∀(k:Nat) (x:O),x.isB=true→(o[k]?=some x↔o'[k]?=some x)
theorem BF.symm{o o':List O}(h:BF o o'):BF o' o:=fun k x hx=>(h k x hx).symm
theorem BF.trans{a b c:List O}(h:BF a b)(h':BF b c):BF a c:=fun k x hx=>(h k x hx).trans (h' k x hx)
theorem BF.set{o:List O}{K:Nat}{x y:O}(h:o[K]?=some y)(hy:y.isB=false)(hx:x.isB=false):BF o (o.set K x):=fun k z hz=>by
 by_cases hk:K=k
 ·subst hk
  rw[List.getElem?_set_self (List.getElem?_eq_some_iff.1 h).1,h]
  constructor
  ·intro e;cases e;rw[hy] at hz;cases hz
  ·intro e;cases e;rw[hx] at hz;cases hz
 ·rw[List.getElem?_set_ne hk]
theorem BF.freezeL:∀(ks:List Nat) (objs:List O),BF objs (freezeL objs ks)
 | [],objs=>fun _ _ _=>Iff.rfl
 | x::ks,objs=>by
  rw[Eng.freezeL_cons]
  split
  ·rename_i o ho
   refine BF.trans ?_ (BF.freezeL ks _)
   cases hb:o.isB with
   | false=>exact BF.set ho hb (by cases o <;> first | rfl | cases hb)
   | true=>
    have e:fX o=o:=by cases o <;> first | rfl | cases hb
    rw[e]
    have e2:objs.set x o=objs:=by
     apply List.ext_getElem?
     intro j
     by_cases hj:x=j
     ·subst hj;rw[List.getElem?_set_self (List.getElem?_eq_some_iff.1 ho).1,ho]
     ·rw[List.getElem?_set_ne hj]
    rw[e2]
    exact fun _ _ _=>Iff.rfl
  ·exact BF.freezeL ks objs
theorem BF.cells{o o':List O}(h:BF o o')(k:Nat):(o[k]?).bind O.cells?=(o'[k]?).bind O.cells?∧gV o[k]?=gV o'[k]?:=by
 have none_of:∀(a:Option O),(∀x,a=some x→x.isB=false)→a.bind O.cells?=none∧gV a=false:=fun a ha=>by
  cases a with
  | none=>exact⟨rfl,rfl⟩
  | some x=>
   have:=ha x rfl
   cases x <;> first | exact⟨rfl,rfl⟩ | cases this
 by_cases hx:∃x,o[k]?=some x∧x.isB=true
 ·obtain⟨x,h1,h2⟩:=hx
  rw[h1,(h k x h2).1 h1]
  exact⟨rfl,rfl⟩
 ·have h1:∀x,o[k]?=some x→x.isB=false:=fun x e=>by
   cases hb:x.isB with
   | false=>rfl
   | true=>exact(hx ⟨x,e,hb⟩).elim
  have h2:∀x,o'[k]?=some x→x.isB=false:=fun x e=>by
   cases hb:x.isB with
   | false=>rfl
   | true=>exact(hx ⟨x,(h k x hb).2 e,hb⟩).elim
  rw[(none_of _ h1).1,(none_of _ h2).1,(none_of _ h1).2,(none_of _ h2).2]
  exact⟨rfl,rfl⟩
theorem XJ{α:Type}{st:St}{dst:Option Nat}{o:O}{f:St→Nat→Option α}{r:α}(ho:o.isB=false)(h:gO st dst o f=some r):∃K,BF st.objs (st.objs.set K o)∧f { st with objs:=st.objs.set K o } K=some r:=by
 unfold gO at h
 split at h
 ·split at h
  ·rename_i d _ hf
   exact⟨_,BF.set hf rfl ho,h⟩
  ·split at h
   ·rename_i hf
    exact⟨_,BF.set hf rfl ho,h⟩
   ·split at h
    ·rename_i K hK
     have hm:K∈(List.range st.objs.length).filter fun i=>decide (st.np+st.env.length≤i)&&g9 st.objs[i]?:=by
      unfold iC at hK
      exact List.mem_of_mem_head? hK
     have h2:=(List.mem_filter.1 hm).2
     simp only[Bool.and_eq_true] at h2
     have h3:st.objs[K]?=some .fresh:=by
      have:=h2.2
      unfold g9 at this
      split at this
      ·assumption
      ·cases this
     exact⟨_,BF.set h3 rfl ho,h⟩
    ·cases h
 ·cases h
theorem XK{cs:List C}{objs:List O}{q:List O×List C}(h:EV objs cs=some q):BF objs q.1:=by
 unfold EV at h
 obtain⟨l,_,h⟩:=Option.map_eq_some_iff.1 h
 subst h
 exact BF.freezeL _ _
theorem JU{P:Program}{b:St}{dst:Option Nat}{t:TypeId}{n:Nat}{parts:List (Nat×D)}{p:List O×D}(h:(fU P b dst t n parts fun s d=>some (s.objs,d))=some p):BF b.objs p.1:=by
 unfold fU at h
 split at h
 ·split at h
  case h_2=>cases h
  split at h
  case h_2=>cases h
  split at h
  case isFalse=>cases h
  obtain⟨K,h1,h2⟩:=XJ rfl h
  cases h2
  exact h1
 ·unfold iG at h
  split at h
  case h_2=>cases h
  split at h
  case h_2=>cases h
  split at h
  case h_2=>cases h
  split at h
  case h_2=>cases h
  split at h
  case isFalse=>cases h
  split at h
  case h_2=>cases h
  split at h
  case h_2=>cases h
  rename_i q hq
  split at h
  case h_2=>cases h
  have h:=h
  rw[show ∀(ts:List TypeId) (cs:List C) (f:List T→Option (List O×D)),gK P ts cs f=(gK P ts cs some).bind f from fun ts cs f=>iH ts cs some f] at h
  obtain⟨ts,_,h⟩:=Option.bind_eq_some_iff.1 h
  obtain⟨K,h1,h2⟩:=XJ rfl h
  cases h2
  exact(XK hq).trans h1
theorem JV{P:Program}{b:St}{t:TypeId}{m key v:D}{q:List O}(h:(m9 P b t m key v fun s=>some s.objs)=some q):BF b.objs q:=by
 unfold m9 at h
 split at h
 ·unfold DD at h
  split at h
  case h_2=>cases h
  split at h
  case h_2=>cases h
  split at h
  case h_2=>cases h
  split at h
  case h_3=>cases h
  case h_1=>
   split at h
   case h_2=>cases h
   rename_i hob
   split at h
   case isFalse=>cases h
   obtain⟨t,v,_,h,_⟩:=yT h
   obtain⟨_,_,h⟩:=aC h
   obtain⟨_,_,h⟩:=aC h
   obtain⟨_,_,h⟩:=aC h
   cases h
   exact BF.set hob rfl rfl
  case h_2=>
   split at h
   case h_2=>cases h
   rename_i hob
   split at h
   case h_2=>cases h
   rename_i hoq
   split at h
   case h_2=>cases h
   rename_i FF hF
   split at h
   case isFalse=>cases h
   obtain⟨t,v,_,h,_⟩:=yT h
   obtain⟨_,_,h⟩:=aC h
   cases h
   obtain⟨_,hf⟩:=sM hF
   refine(BF.set hf rfl rfl).trans (BF.trans (BF.set (y:=_) (by rw[List.getElem?_set_ne (fun e=>by rw[e,hob] at hf;cases hf)];exact hob) rfl rfl) (BF.set (y:=_) (by
    rw[List.getElem?_set_ne (fun e=>by rw[e,hoq] at hob;cases hob),List.getElem?_set_ne (fun e=>by rw[e,hoq] at hf;cases hf)];exact hoq) rfl rfl))
 ·unfold vS at h
  split at h
  case h_2=>cases h
  split at h
  case h_2=>cases h
  obtain⟨t,v,_,h,_⟩:=yT h
  split at h
  case h_2=>cases h
  split at h
  case h_2=>cases h
  rename_i hfz
  split at h
  case h_2=>cases h
  rename_i hob
  split at h
  case isFalse=>cases h
  obtain⟨ts,h⟩:=rU h
  split at h
  case h_2=>cases h
  cases h
  exact(XK hfz).trans (BF.set hob rfl rfl)
theorem XL(hpl:k4 Γ pl){o:Oper}(h:XE pl o=true){st:St}{q:List O}{d:D}(hp:fW P Γ ops o st=some (q,d)):BF st.objs q:=by
 obtain⟨dst,op,type,pos,after,guard⟩:=o
 unfold XE at h
 unfold fW at hp
 cases hg:gd ops (⟨dst,op,type,pos,after,guard⟩:Oper) st with
 | none=>rw[hg] at hp;cases hp
 | some w=>
  rw[hg] at hp
  cases w with
  | false=>cases hp;exact fun _ _ _=>Iff.rfl
  | true=>
   have hp:CJ P Γ ⟨dst,op,type,pos,after,guard⟩ st.bare (ev st)=some (q,d):=hp
   unfold CJ at hp
   cases op with
   | store t x v=>
    dsimp only at hp h
    split at hp
    case isFalse=>cases hp
    rename_i hgs
    rw[Bool.and_eq_true] at hgs
    have hge:=hgs.2
    unfold WZ at hge
    rw[Bool.and_eq_true,Bool.and_eq_true] at hge
    replace hge:=hge.1.1
    rw[Bool.and_eq_true] at h
    rw[hpl.2.2.2.2.2.2.2.2 t (of_decide_eq_true h.1) h.2] at hge
    have hge:UA (ev st x)=true:=hge
    obtain⟨q',h1,h2⟩:=Option.bind_eq_some_iff.1 hp
    cases h2
    unfold p9 at h1
    split at h1
    case h_2=>cases h1
    split at h1
    case isFalse=>cases h1
    unfold UA at hge
    split at hge
    case h_2=>cases hge
    rename_i kk mm ii jj he
    rw[he] at h1
    unfold lO at h1
    dsimp only at h1
    split at h1
    case h_2=>cases h1
    rename_i q2 hfz
    split at h1
    case h_2=>cases h1
    rename_i e m' es hob
    obtain⟨ts,h1⟩:=rU h1
    split at h1
    case isFalse=>cases h1
    obtain⟨x,_,h1⟩:=aC h1
    cases h1
    have hfz':BF st.objs q2.1:=by
     unfold EV at hfz
     obtain⟨l,_,hfz⟩:=Option.map_eq_some_iff.1 hfz
     subst hfz
     exact BF.freezeL _ _
    exact hfz'.trans (BF.set hob rfl rfl)
   | buildSlice t n parts=>
    dsimp only at hp
    unfold Jt at hp
    split at hp
    ·rw[mJ] at hp
     obtain⟨d,_,h2⟩:=Option.bind_eq_some_iff.1 hp
     cases h2
     exact fun k x _=>Iff.rfl
    split at hp
    case isFalse=>cases hp
    exact JU hp
   | mapUpdate t m q v=>
    dsimp only at hp
    obtain⟨q',h1,h2⟩:=Option.bind_eq_some_iff.1 hp
    cases h2
    exact JV (b:=st.bare) h1
   | insert t m q v=>
    dsimp only at hp
    obtain⟨q',h1,h2⟩:=Option.bind_eq_some_iff.1 hp
    cases h2
    exact JV (b:=st.bare) h1
   | _=>cases h
theorem XM(hN:∀f A,Γ f=some A→A.Nat)(hpl:k4 Γ pl){o:Oper}(h:ND pl o=true){st:St}{p:List O×D}(hp:fW P Γ ops o st=some p):p.1=st.objs:=by
 refine nH hN hpl (pl:=pl) ?_ hp
 obtain⟨dst,op,type,pos,after,guard⟩:=o
 unfold ND at h
 cases op <;> first | rfl | (cases h;done)
theorem BK(hpl:k4 Γ pl){o:Oper}(h:ND pl o=true){st:St}{q:List O}(hb:BF st.objs q){d:D}(hp:fW P Γ ops o st=some (st.objs,d)):fW P Γ ops o { st with objs:=q }=some (q,d):=by
 obtain⟨dst,op,type,pos,after,guard⟩:=o
 unfold ND at h
 unfold fW at hp ⊢
 have h1:gd ops (⟨dst,op,type,pos,after,guard⟩:Oper) { st with objs:=q }=gd ops (⟨dst,op,type,pos,after,guard⟩:Oper) st:=rfl
 rw[h1]
 cases hg:gd ops (⟨dst,op,type,pos,after,guard⟩:Oper) st with
 | none=>rw[hg] at hp;cases hp
 | some w=>
  rw[hg] at hp
  cases w with
  | false=>
   simp only[Option.bind_some,cond_false,Option.some.injEq,Prod.mk.injEq] at hp ⊢
   exact⟨trivial,hp.2⟩
  | true=>
   cases op with
   | load t x=>
    cases dst with
    | none=>cases h
    | some sl=>
     dsimp only at h
     have hp:(if xB Γ (some sl) (ev st x)=true then ((lG Γ P st.bare (some sl) t (ev st x) some).bind fun d=>some (st.bare.objs,d)) else none)=some (st.objs,d):=hp
     split at hp
     case isFalse=>cases hp
     rename_i hgl
     obtain⟨d',h3,h2⟩:=Option.bind_eq_some_iff.1 hp
     cases h2
     show (if xB Γ (some sl) (ev st x)=true then ((lG Γ P { st.bare with objs:=q } (some sl) t (ev st x) some).bind fun d=>some (q,d)) else none)=some (q,d)
     rw[if_pos hgl]
     have hbx:OY (ev st x)=true:=by
      have:=hgl
      unfold xB at this
      dsimp only at this
      rw[Bool.and_eq_true] at this
      replace this:=this.1
      rw[hpl.2.2.2.2.2.2.2.1 sl h] at this
      exact this
     unfold OY at hbx
     split at hbx
     case h_2=>cases hbx
     rename_i kk jj he
     rw[he] at h3 ⊢
     obtain⟨c1,c2⟩:=hb.cells kk
     have hlk:∀(f:D→Option D),mX P { st.bare with objs:=q } t (.s (.c (.box kk jj))) f=mX P st.bare t (.s (.c (.box kk jj))) f:=fun f=>by
      unfold mX lO
      have c1':(({ st.bare with objs:=q }:St).objs[kk]?).bind O.cells?=(st.bare.objs[kk]?).bind O.cells?:=c1.symm
      simp only[c1']
     have hbd:oR { st.bare with objs:=q } (.s (.c (.box kk jj)))=oR st.bare (.s (.c (.box kk jj))):=c2.symm
     have key:lG Γ P { st.bare with objs:=q } (some sl) t (.s (.c (.box kk jj))) some=some d:=by
      unfold lG at h3 ⊢
      rw[hbd]
      simp only[hlk]
      exact h3
     rw[key]
     rfl
   | _=>cases h
def RF(o o':List O):Prop:=∀(k:Nat) (x:O),x.isB=false→(o[k]?=some x↔o'[k]?=some x)
theorem RF.symm{o o':List O}(h:RF o o'):RF o' o:=fun k x hx=>(h k x hx).symm
theorem RF.set{o:List O}{K:Nat}{x y:O}(h:o[K]?=some y)(hy:y.isB=true)(hx:x.isB=true):RF o (o.set K x):=fun k z hz=>by
 by_cases hk:K=k
 ·subst hk
  rw[List.getElem?_set_self (List.getElem?_eq_some_iff.1 h).1,h]
  constructor
  ·intro e;cases e;rw[hy] at hz;cases hz
  ·intro e;cases e;rw[hx] at hz;cases hz
 ·rw[List.getElem?_set_ne hk]
def O.ln:O→Option (Nat×Nat)
 | .row _ _ _ l=>some (0,l.length)
 | .mp _ _ _ l=>some (1,l.length)
 | .rr _ e _ _ l=>some (e+2,l.length)
 | _=>none
def LnF(o o':List O):Prop:=∀k:Nat,(∀x:O,x.isB=false→x.ln=none→(o[k]?=some x↔o'[k]?=some x))∧(o[k]?).bind O.ln=(o'[k]?).bind O.ln
theorem LnF.symm{o o':List O}(h:LnF o o'):LnF o' o:=fun k=>⟨fun x a b=>((h k).1 x a b).symm,(h k).2.symm⟩
theorem LnF.trans{a b c:List O}(h:LnF a b)(h':LnF b c):LnF a c:=fun k=>⟨fun x p q=>((h k).1 x p q).trans ((h' k).1 x p q),(h k).2.trans (h' k).2⟩
theorem RF.ln{o o':List O}(h:RF o o'):LnF o o':=fun k=>by
 refine⟨fun x hb _=>h k x hb,?_⟩
 have aux:∀{a b:List O},RF a b→∀x,a[k]?=some x→x.isB=true→(b[k]?).bind O.ln=none:=fun {a b} hab x hx hb=>by
  cases hy:b[k]? with
  | none=>rfl
  | some y=>
   cases hyb:y.isB with
   | true=>cases y <;> first | rfl | cases hyb
   | false=>
    rw[(hab k y hyb).2 hy] at hx
    cases hx
    rw[hyb] at hb;cases hb
 cases hx:o[k]? with
 | none=>
  cases hy:o'[k]? with
  | none=>rfl
  | some y=>
   cases hyb:y.isB with
   | true=>cases y <;> first | rfl | cases hyb
   | false=>rw[(h k y hyb).2 hy] at hx;cases hx
 | some x=>
  cases hb:x.isB with
  | true=>
   rw[aux h x hx hb]
   cases x <;> first | rfl | cases hb
  | false=>rw[(h k x hb).1 hx]
theorem LnF.set{o:List O}{K:Nat}{x y:O}(h:o[K]?=some y)(hy:y.ln≠none)(hx:x.ln=y.ln):LnF o (o.set K x):=fun k=>by
 have hlt:=(List.getElem?_eq_some_iff.1 h).1
 by_cases hk:K=k
 ·subst hk
  rw[List.getElem?_set_self hlt,h]
  refine⟨fun z _ hz=>⟨fun e=>?_,fun e=>?_⟩,?_⟩
  ·cases e;exact(hy hz).elim
  ·cases e;rw[hx] at hz;exact(hy hz).elim
  ·simp only[Option.bind_some];exact hx.symm
 ·rw[List.getElem?_set_ne hk]
  exact⟨fun _ _ _=>Iff.rfl,rfl⟩
theorem LnF.freezeL:∀(ks:List Nat) (objs:List O),LnF objs (freezeL objs ks)
 | [],objs=>fun _=>⟨fun _ _ _=>Iff.rfl,rfl⟩
 | x::ks,objs=>by
  rw[Eng.freezeL_cons]
  split
  ·rename_i o ho
   refine LnF.trans ?_ (LnF.freezeL ks _)
   cases o with
   | row fz e n l=>exact LnF.set ho (by simp[O.ln]) rfl
   | mp fz e n l=>exact LnF.set ho (by simp[O.ln]) rfl
   | _=>
    have key:∀o:O,objs[x]?=some o→LnF objs (objs.set x o):=fun o ho k=>by
     by_cases hk:x=k
     ·subst hk
      rw[List.getElem?_set_self (List.getElem?_eq_some_iff.1 ho).1,ho]
      exact⟨fun _ _ _=>Iff.rfl,rfl⟩
     ·rw[List.getElem?_set_ne hk]
      exact⟨fun _ _ _=>Iff.rfl,rfl⟩
    exact key _ ho
  ·exact LnF.freezeL ks _
theorem LnF.rr{o o':List O}(hg:LnF o o'){k:Nat}{hole:Option Nat}{e e2:TypeId}{n:Nat}{l:List (List T)}(h:o[k]?=some (.rr hole e e2 n l)):∃hole' e2' n' l',o'[k]?=some (.rr hole' e e2' n' l')∧l'.length=l.length:=by
 have hl:=(hg k).2
 rw[h] at hl
 simp only[Option.bind_some,O.ln] at hl
 obtain⟨y,hy,hyl⟩:=Option.bind_eq_some_iff.1 hl.symm
 cases y with
 | rr hole' e' e2' n' l'=>
  simp only[O.ln,Option.some.injEq,Prod.mk.injEq] at hyl
  obtain⟨h1,h2⟩:=hyl
  have:e'=e:=Nat.add_right_cancel h1
  subst this
  exact⟨_,_,_,_,hy,h2⟩
 | row fz e' n' l'=>simp only[O.ln,Option.some.injEq,Prod.mk.injEq] at hyl;exact(Nat.succ_ne_zero _ hyl.1.symm).elim
 | mp fz e' n' l'=>simp only[O.ln,Option.some.injEq,Prod.mk.injEq] at hyl;exact(Nat.succ_ne_zero _ (Nat.succ.inj hyl.1).symm).elim
 | _=>simp[O.ln] at hyl
theorem XN{o o':List O}(hg:LnF o o'):∀{f k K:Nat},p8 o f k=some K→p8 o' f k=some K
 | 0,_,_,h=>by simp[p8] at h
 | f+1,k,K,h=>by
  simp only[p8] at h ⊢
  split at h
  ·rename_i ho;obtain⟨_,_,_,_,q,_⟩:=hg.rr ho;rw[q];exact h
  ·rename_i ho;rw[((hg k).1 _ rfl rfl).1 ho];exact XN hg h
  ·cases h
theorem Kq{R:Type}{st:St}{q:List O}{t:TypeId}{x:D}{k:D→Option R}{r:R}(hg:LnF st.objs q)(h:sC P st t x k=some r):sC P { st with objs:=q } t x k=some r:=by
 have get:∀(key:Nat) (o:O),st.objs[key]?=some o→o.isB=false→o.ln=none→q[key]?=some o:=fun key o ho hb hl=>((hg key).1 o hb hl).1 ho
 unfold sC at h ⊢
 cases hu:P.underlying t with
 | none=>rw[hu] at h;cases h
 | some u=>
  rw[hu] at h
  cases u with
  | slice e=>
   dsimp only at h ⊢
   unfold lO at h ⊢
   cases x with
   | tup l=>cases h
   | s s=>cases s with
    | agg l=>cases h
    | c c=>
     dsimp only at h ⊢
     cases c with
     | row key=>
      dsimp only at h ⊢
      have hl:=(hg key).2
      cases ho:st.objs[key]? with
      | none=>rw[ho] at h;cases h
      | some o=>
       rw[ho] at h hl
       cases o with
       | row fz e n l=>
        simp only[Option.bind_some,O.ln] at hl
        obtain⟨y,hy,hyl⟩:=Option.bind_eq_some_iff.1 hl.symm
        rw[hy]
        cases y with
        | row fz' e' n' l'=>
         simp only[O.ln,Option.some.injEq,Prod.mk.injEq,true_and] at hyl
         have e1:lenL l'=lenL l:=by unfold lenL;rw[hyl]
         show k (dI .i64 (lenL l'))=some r
         rw[e1]
         exact h
        | rr hole' e' e2' n' l'=>simp only[O.ln,Option.some.injEq,Prod.mk.injEq] at hyl;exact(Nat.succ_ne_zero _ hyl.1).elim
        | mp fz' e' n' l'=>simp[O.ln] at hyl
        | _=>simp[O.ln] at hyl
       | _=>cases h
     | rk key=>
      dsimp only at h ⊢
      cases hr:p8 st.objs 64 key with
      | none=>rw[hr] at h;cases h
      | some K=>
       rw[hr] at h
       rw[XN hg hr]
       dsimp only at h ⊢
       cases ho:st.objs[K]? with
       | none=>rw[ho] at h;cases h
       | some o=>
        rw[ho] at h
        cases o with
        | rr hole e1 e2 n l=>
         obtain⟨_,_,_,l',q,ql⟩:=hg.rr ho
         rw[q]
         have e1:lenL l'=lenL l:=by unfold lenL;rw[ql]
         dsimp only at h ⊢
         rw[e1]
         exact h
        | _=>cases h
     | _=>exact h
  | map kt e=>
   dsimp only at h ⊢
   unfold lO at h ⊢
   cases x with
   | tup l=>cases h
   | s s=>cases s with
    | agg l=>cases h
    | c c=>
     dsimp only at h ⊢
     cases c with
     | t y=>
      cases y <;> first | exact h | cases h
     | row key=>
      dsimp only at h ⊢
      have hl:=(hg key).2
      cases ho:st.objs[key]? with
      | none=>rw[ho] at h;cases h
      | some o=>
       rw[ho] at h hl
       cases o with
       | mp fz e n l=>
        simp only[Option.bind_some,O.ln] at hl
        obtain⟨y,hy,hyl⟩:=Option.bind_eq_some_iff.1 hl.symm
        rw[hy]
        cases y with
        | mp fz' e' n' l'=>
         simp only[O.ln,Option.some.injEq,Prod.mk.injEq,true_and] at hyl
         have e1:lenL l'=lenL l:=by unfold lenL;rw[hyl]
         show k (dI .i64 (lenL l'))=some r
         rw[e1]
         exact h
        | rr hole' e' e2' n' l'=>simp only[O.ln,Option.some.injEq,Prod.mk.injEq] at hyl;exact(Nat.succ_ne_zero _ (Nat.succ.inj hyl.1)).elim
        | row fz' e' n' l'=>simp[O.ln] at hyl
        | _=>simp[O.ln] at hyl
       | _=>cases h
     | _=>exact h
  | _=>exact h
theorem Ap{P:Program}{b:St}{t:TypeId}{x v:D}{q:List O}(h:(p9 P b t x v fun s=>some s.objs)=some q):LnF b.objs q:=by
 unfold p9 at h
 split at h
 case h_2=>cases h
 split at h
 case isFalse=>cases h
 unfold lO at h
 split at h
 case h_2=>cases h
 rename_i c
 cases c
 all_goals dsimp only at h
 all_goals try (cases h;done)
 ·split at h
  case h_2=>cases h
  rename_i hob
  split at h
  case isFalse=>cases h
  cases h
  exact(RF.set hob rfl rfl).ln
 ·split at h
  case h_2=>cases h
  rename_i q2 hfz
  split at h
  case h_2=>cases h
  rename_i e m' es hob
  obtain⟨ts,h⟩:=rU h
  split at h
  case isFalse=>cases h
  obtain⟨x,_,h⟩:=aC h
  cases h
  have hfz':LnF b.objs q2.1:=by
   unfold EV at hfz
   obtain⟨l,_,hfz⟩:=Option.map_eq_some_iff.1 hfz
   subst hfz
   exact LnF.freezeL _ _
  exact hfz'.trans (LnF.set hob (by simp[O.ln]) (by simp[O.ln]))
 ·split at h
  case h_2=>cases h
  split at h
  case h_2=>cases h
  rename_i hob
  split at h
  case isFalse=>cases h
  obtain⟨_,_,h⟩:=aC h
  obtain⟨_,_,h⟩:=aC h
  obtain⟨_,_,h⟩:=aC h
  cases h
  exact LnF.set hob (by simp[O.ln]) (by simp[O.ln])
theorem XO{o:Oper}(h:XG pl o=true){st:St}{q:List O}{d:D}(hp:fW P Γ ops o st=some (q,d)):LnF st.objs q:=by
 obtain⟨dst,op,type,pos,after,guard⟩:=o
 unfold XG at h
 unfold fW at hp
 cases hg:gd ops (⟨dst,op,type,pos,after,guard⟩:Oper) st with
 | none=>rw[hg] at hp;cases hp
 | some w=>
  rw[hg] at hp
  cases w with
  | false=>cases hp;exact fun _=>⟨fun _ _ _=>Iff.rfl,rfl⟩
  | true=>
   have hp:CJ P Γ ⟨dst,op,type,pos,after,guard⟩ st.bare (ev st)=some (q,d):=hp
   unfold CJ at hp
   cases op with
   | store t x v=>
    dsimp only at hp h
    split at hp
    case isFalse=>cases hp
    obtain⟨q',h1,h2⟩:=Option.bind_eq_some_iff.1 hp
    cases h2
    exact Ap (b:=st.bare) h1
   | _=>cases h
def AS(Γ:FuncId→Option Callee)(o o':List O):Prop:=∀k,(fC Γ).contains (5000000+k)=true→o[k]?=o'[k]?
theorem AS.symm{o o':List O}(h:AS Γ o o'):AS Γ o' o:=fun k hk=>(h k hk).symm
theorem XP(hpl:k4 Γ pl){o:Oper}(h:XF pl o=true){st:St}{q:List O}{d:D}(hp:fW P Γ ops o st=some (q,d)):AS Γ st.objs q:=by
 obtain⟨dst,op,type,pos,after,guard⟩:=o
 unfold XF at h
 unfold fW at hp
 cases hg:gd ops (⟨dst,op,type,pos,after,guard⟩:Oper) st with
 | none=>rw[hg] at hp;cases hp
 | some w=>
  rw[hg] at hp
  cases w with
  | false=>cases hp;exact fun _ _=>rfl
  | true=>
   have hp:CJ P Γ ⟨dst,op,type,pos,after,guard⟩ st.bare (ev st)=some (q,d):=hp
   unfold CJ at hp
   cases op with
   | store t x v=>
    dsimp only at hp h
    split at hp
    case isFalse=>cases hp
    rename_i hgs
    rw[Bool.and_eq_true] at hgs
    have hge:=hgs.2
    unfold WZ at hge
    rw[Bool.and_eq_true,Bool.and_eq_true] at hge
    replace hge:=hge.2
    rw[Bool.and_eq_true] at h
    have ht:=of_decide_eq_true h.1
    have aux9:∀n:Nat,82000000+(2000000+n)=84000000+n:=fun n=>by omega
    have aux7:∀n:Nat,n<1000000→2000000+n<8000000:=fun n hn=>by omega
    rw[hpl.2.2.2.2.2.2.2.2 (2000000+t) (aux7 t ht) (by rw[show 82000000+(2000000+t)=84000000+t from aux9 t];exact h.2)] at hge
    have hge:UB Γ (ev st x)=true:=hge
    obtain⟨q',h1,h2⟩:=Option.bind_eq_some_iff.1 hp
    cases h2
    unfold p9 at h1
    split at h1
    case h_2=>cases h1
    split at h1
    case isFalse=>cases h1
    unfold UB at hge
    split at hge
    case h_2=>cases hge
    rename_i kk jj he
    rw[he] at h1
    unfold lO at h1
    dsimp only at h1
    split at h1
    case h_2=>cases h1
    rename_i l hob
    split at h1
    case isFalse=>cases h1
    cases h1
    exact fun k hk=>by
     by_cases e:kk=k
     ·subst e;rw[hk] at hge;cases hge
     ·exact(List.getElem?_set_ne e).symm
   | _=>cases h
theorem XQ(hN:∀f A,Γ f=some A→A.Nat)(hpl:k4 Γ pl){o:Oper}(h:NE pl o=true){st:St}{p:List O×D}(hp:fW P Γ ops o st=some p):p.1=st.objs:=by
 refine nH hN hpl (pl:=pl) ?_ hp
 obtain⟨dst,op,type,pos,after,guard⟩:=o
 unfold NE at h
 cases op <;> first | rfl | (cases h;done)
theorem BL(hpl:k4 Γ pl){o:Oper}(h:NE pl o=true){st:St}{q:List O}(hb:AS Γ st.objs q){d:D}(hp:fW P Γ ops o st=some (st.objs,d)):fW P Γ ops o { st with objs:=q }=some (q,d):=by
 obtain⟨dst,op,type,pos,after,guard⟩:=o
 unfold NE at h
 unfold fW at hp ⊢
 have h1:gd ops (⟨dst,op,type,pos,after,guard⟩:Oper) { st with objs:=q }=gd ops (⟨dst,op,type,pos,after,guard⟩:Oper) st:=rfl
 rw[h1]
 cases hg:gd ops (⟨dst,op,type,pos,after,guard⟩:Oper) st with
 | none=>rw[hg] at hp;cases hp
 | some w=>
  rw[hg] at hp
  cases w with
  | false=>
   simp only[Option.bind_some,cond_false,Option.some.injEq,Prod.mk.injEq] at hp ⊢
   exact⟨trivial,hp.2⟩
  | true=>
   cases op with
   | load t x=>
    cases dst with
    | none=>cases h
    | some sl=>
     dsimp only at h
     have hp:(if xB Γ (some sl) (ev st x)=true then ((lG Γ P st.bare (some sl) t (ev st x) some).bind fun d=>some (st.bare.objs,d)) else none)=some (st.objs,d):=hp
     split at hp
     case isFalse=>cases hp
     rename_i hgl
     obtain⟨d',h3,h2⟩:=Option.bind_eq_some_iff.1 hp
     cases h2
     show (if xB Γ (some sl) (ev st x)=true then ((lG Γ P { st.bare with objs:=q } (some sl) t (ev st x) some).bind fun d=>some (q,d)) else none)=some (q,d)
     rw[if_pos hgl]
     have hbx:Dy Γ (ev st x)=true:=by
      have:=hgl
      unfold xB at this
      dsimp only at this
      rw[Bool.and_eq_true] at this
      replace this:=this.2
      have aux:∀n:Nat,90000000+(1000000+n)=91000000+n:=fun n=>by omega
      rw[hpl.2.2.2.2.2.2.2.1 (1000000+sl) (by rw[aux];exact h)] at this
      exact this
     unfold Dy at hbx
     split at hbx
     case h_2=>cases hbx
     rename_i kk jj he
     rw[he] at h3 ⊢
     have ck:=hb kk hbx
     have c1:(st.objs[kk]?).bind O.cells?=(q[kk]?).bind O.cells?:=by rw[ck]
     have c2:gV st.objs[kk]?=gV q[kk]?:=by rw[ck]
     have hlk:∀(f:D→Option D),mX P { st.bare with objs:=q } t (.s (.c (.box kk jj))) f=mX P st.bare t (.s (.c (.box kk jj))) f:=fun f=>by
      unfold mX lO
      have c1':(({ st.bare with objs:=q }:St).objs[kk]?).bind O.cells?=(st.bare.objs[kk]?).bind O.cells?:=c1.symm
      simp only[c1']
     have hbd:oR { st.bare with objs:=q } (.s (.c (.box kk jj)))=oR st.bare (.s (.c (.box kk jj))):=c2.symm
     have key:lG Γ P { st.bare with objs:=q } (some sl) t (.s (.c (.box kk jj))) some=some d:=by
      unfold lG at h3 ⊢
      rw[hbd]
      simp only[hlk]
      exact h3
     rw[key]
     rfl
   | _=>cases h
theorem PI(hN:∀f A,Γ f=some A→A.Nat)(hpl:k4 Γ pl){o:Oper}(h:GS o=true){st:St}{p:List O×D}(hp:fW P Γ ops o st=some p):p.1=st.objs:=by
 refine nH hN hpl (pl:=pl) ?_ hp
 obtain⟨dst,op,type,pos,after,guard⟩:=o
 unfold GS at h
 cases op with
 | call c=>
  obtain⟨callee,args,ats⟩:=c
  cases callee with
  | builtin bi=>cases bi <;> first | rfl | (cases h;done)
  | _=>cases h
 | _=>cases h
theorem BM{o:Oper}(h:GS o=true){st:St}{q:List O}(hb:LnF st.objs q){d:D}(hp:fW P Γ ops o st=some (st.objs,d)):fW P Γ ops o { st with objs:=q }=some (q,d):=by
 obtain⟨dst,op,type,pos,after,guard⟩:=o
 unfold GS at h
 unfold fW at hp ⊢
 have h1:gd ops (⟨dst,op,type,pos,after,guard⟩:Oper) { st with objs:=q }=gd ops (⟨dst,op,type,pos,after,guard⟩:Oper) st:=rfl
 rw[h1]
 cases hg:gd ops (⟨dst,op,type,pos,after,guard⟩:Oper) st with
 | none=>rw[hg] at hp;cases hp
 | some w=>
  rw[hg] at hp
  cases w with
  | false=>
   simp only[Option.bind_some,cond_false,Option.some.injEq,Prod.mk.injEq] at hp ⊢
   exact⟨trivial,hp.2⟩
  | true=>
   cases op with
   | call c=>
    obtain⟨callee,args,ats⟩:=c
    cases callee with
    | builtin bi=>
     cases bi with
     | len=>
      have hev:∀x,ev { st with objs:=q } x=ev st x:=fun x=>by cases x <;> rfl
      have hp:(if pJ Γ st dst .len (args.toList.map (ev st))=true then cN P st.bare dst type .len (args.toList.map (ev st)) ats.toList else none)=some (st.objs,d):=hp
      show (if pJ Γ st dst .len (args.toList.map (ev { st with objs:=q }))=true then cN P { st.bare with objs:=q } dst type .len (args.toList.map (ev { st with objs:=q })) ats.toList else none)=some (q,d)
      have hm:args.toList.map (ev { st with objs:=q })=args.toList.map (ev st):=List.map_congr_left fun x _=>hev x
      rw[hm]
      split at hp
      case isFalse=>cases hp
      rename_i hgb
      rw[if_pos hgb]
      unfold cN at hp ⊢
      split at hp
      ·obtain⟨d',h3,h2⟩:=Option.bind_eq_some_iff.1 hp
       cases h2
       have:=Kq (st:=st.bare) hb h3
       show ((sC P { st.bare with objs:=q } _ _ some).bind fun d=>some (q,d))=_
       rw[this]
       rfl
      all_goals first
       | (cases ‹Builtin.len=_›;done)
       | (cases hp;done)
     | _=>cases h
    | _=>cases h
   | _=>cases h
theorem DQ(hpl:k4 Γ pl){f:Operand}{st:St}(h:(match f with | .func f'=>pl.contains (f'+4000000) | _=>pl.contains 9000002)=true):∀g A,Γ g=some A→FE (ev st f) g→A.Framed∨A.Never:=fun g A hA hr=>by
 by_cases hflag:(g==2000000)=true
 ·have:g=2000000:=by simpa using hflag
  subst this
  exact .inr (hpl.2.2.2.2.2.2.1 A hA)
 ·have hflag:(g==2000000)=false:=by simpa using hflag
  left
  cases f with
  | func f'=>
   have:g=f':=by
    rcases hr with⟨v,h1,h2⟩ | ⟨caps,h1⟩
    ·simp only[ev] at h1
     cases h1
     have hpf:kW (Value.func (.func f') #[] #[])=some f':=rfl
     rw[hpf] at h2
     cases h2;rfl
    ·simp only[ev] at h1
     cases h1
   subst this
   exact hpl.2.2.1 g A h hA
  | _=>exact hpl.2.2.2.2.2.1 h g A hflag hA
theorem NL{b:St}{dst:Option Nat}{f:D}{args:List D}{p:List O×D}(h:yR Γ b dst f args=some p):(BD Γ b.objs dst (f::args)=true∧mG Γ b dst (f::args)=true)∧(fH Γ b dst f args fun s d=>some (s.objs,d))=some p:=by
 unfold yR at h
 split at h
 case isFalse=>cases h
 rename_i hg
 refine⟨Bool.and_eq_true_iff.1 hg,?_⟩
 unfold CI at h
 split at h
 ·exact h
 ·split at h
  ·exact h
  ·split at h
   case isFalse=>cases h
   obtain⟨p',h1,h2⟩:=Option.bind_eq_some_iff.1 h
   split at h2
   case isFalse=>cases h2
   cases h2
   exact h1
theorem JW{objs:List O}{K:Nat}{x:O}{ds:List D}(h:jE objs K ds=true)(k:Nat):jE (objs.set K x) k ds=jE objs k ds:=by
 have hall:∀{α:Type} (l:List α) (f g:α→Bool),(∀a∈l,f a=g a)→l.all f=l.all g:=by
  intro α l f g
  induction l with
  | nil=>intro _;rfl
  | cons a l ih=>intro h;rw[List.all_cons,List.all_cons,h a (by simp),ih fun b hb=>h b (by simp[hb])]
 unfold jE at h ⊢
 refine hall _ _ _ fun d hd=>hall _ _ _ fun c hc=>?_
 have h1:=List.all_eq_true.1 (List.all_eq_true.1 h d hd) c hc
 rw[Bool.and_eq_true] at h1
 congr 1
 refine hall _ _ _ fun k' hk'=>?_
 have h2:=List.all_eq_true.1 h1.2 k' hk'
 rw[Bool.and_eq_true] at h2
 have hne:K≠k':=fun e=>by subst e;have:=h2.1;simp at this
 rw[List.getElem?_set_ne hne]
theorem NM{s:Nat}{st:St}{ds:List D}(h:mG Γ st (some s) ds=true)(hg:(fC Γ).contains (2500000+s)=true):
 (bE Γ).contains (10000000+s)=true∧(bE Γ).contains s=true∧(fC Γ).contains (2000000+s)=false∧∀k∈Tg Γ,jE st.objs k ds=true∧k<st.np+st.env.length∧k≠st.np+s∧k<st.objs.length:=by
 unfold mG at h
 dsimp only at h
 rw[hg] at h
 simp only[Bool.not_true,Bool.false_or,Bool.and_eq_true,Bool.not_eq_true'] at h
 obtain⟨h1,⟨h2,h3⟩,h4⟩:=h
 refine⟨h1,h2,h3,fun k hk=>?_⟩
 have:=List.all_eq_true.1 h4 k hk
 simp only[Bool.and_eq_true,decide_eq_true_eq,bne_iff_ne,ne_eq] at this
 exact⟨this.1,this.2.1,this.2.2.1,this.2.2.2⟩
theorem U1{st:St}{dst:Option Nat}{o:O}{f:Nat→D}{k:Nat}{x:O}{p:List O×D}(hi:Es st dst k)(h:(gO st dst o fun s key=>some (s.objs,f key))=some p):
 (gO { st with objs:=st.objs.set k x } dst o fun s key=>some (s.objs,f key))=some (p.1.set k x,p.2):=by
 obtain⟨h1,h2⟩:=hi
 cases dst with
 | none=>cases h
 | some d=>
  have h3:=h2 d rfl
  have e1:(st.objs.set k x)[st.np+d]?=st.objs[st.np+d]?:=List.getElem?_set_ne h3
  have e2:(st.objs.set k x)[st.np+(st.env.length+d)]?=st.objs[st.np+(st.env.length+d)]?:=List.getElem?_set_ne (by omega)
  have e3:iC { st with objs:=st.objs.set k x }=iC st:=by
   unfold iC
   dsimp only
   rw[List.length_set]
   refine congrArg List.head? (List.filter_congr fun i _=>?_)
   by_cases hi:st.np+st.env.length≤i
   ·rw[List.getElem?_set_ne (by omega)]
   ·rw[decide_eq_false hi];rfl
  have hK:∀{K},iC st=some K→K≠k:=fun {K} hK=>by
   unfold iC at hK
   have hm:=List.mem_of_mem_head? hK
   have h4:=(List.mem_filter.1 hm).2
   rw[Bool.and_eq_true,decide_eq_true_eq] at h4
   omega
  unfold gO at h ⊢
  dsimp only at h ⊢
  rw[e1,e2,e3]
  split at h
  ·cases h
   dsimp only
   rw[List.set_comm _ _ h3]
  ·split at h
   ·cases h
    dsimp only
    rw[List.set_comm _ _ (show k≠st.np+(st.env.length+d) by omega)]
   ·split at h
    ·rename_i K hK'
     cases h
     dsimp only
     rw[List.set_comm _ _ (Ne.symm (hK hK'))]
    ·cases h
theorem PJ{α:Type}{b:St}{n:Nat}{c:C}{f:List T→Option α}{k:Nat}{x:O}(hc:k∉C.rs c):gT { b with objs:=b.objs.set k x } n c f=gT b n c f:=by
 cases c with
 | row key=>simp only[gT];rw[List.getElem?_set_ne (fun e=>hc (by simp[C.rs,e]))]
 | cut key m lo len s=>simp only[gT];rw[List.getElem?_set_ne (fun e=>hc (by simp[C.rs,e]))]
 | _=>rfl
theorem JX{α:Type}{b:St}{e:TypeId}{n:Nat}{c:C}{f g:St→List T→Option α}{k:Nat}{x:O}{r r':α}(hc:k∉C.rs c)(hf:∀(o:List O) l,f { b with objs:=o } l=some r→g { b with objs:=o.set k x } l=some r')(h:vK b e n c f=some r):
 vK { b with objs:=b.objs.set k x } e n c g=some r':=by
 cases c with
 | t v=>
  cases v with
  | v w=>
   cases w with
   | slice p l c=>
    cases p with
    | none=>
     cases l with
     | zero=>
      cases c with
      | zero=>exact hf b.objs [] h
      | succ c=>cases h
     | succ l=>cases h
    | some p=>cases h
   | _=>cases h
  | _=>cases h
 | row key=>
  have hne:k≠key:=fun e=>hc (by simp[C.rs,e])
  simp only[vK] at h ⊢
  rw[List.getElem?_set_ne hne]
  split at h
  ·rename_i e' n' es ho
   split at h
   ·rename_i hcd
    rw[if_pos hcd,List.set_comm _ _ hne]
    exact hf _ _ h
   ·cases h
  ·cases h
 | cut key m lo len s=>
  have hne:k≠key:=fun e=>hc (by simp[C.rs,e])
  simp only[vK] at h ⊢
  rw[List.getElem?_set_ne hne]
  split at h
  ·rename_i e' n' es ho
   split at h
   ·rename_i hcd
    rw[if_pos hcd,List.set_comm _ _ hne]
    exact hf _ _ h
   ·cases h
  ·cases h
 | _=>cases h
theorem L6{b:St}{dst:Option Nat}{t u:TypeId}{cs cx:C}{p:List O×D}{k:Nat}{x:O}(hs:k∉C.rs cs)(hx:k∉C.rs cx)(hi:Es b dst k)
 (h:(jZ P b dst t u (.s (.c cs)) (.s (.c cx)) fun s d=>some (s.objs,d))=some p):(jZ P { b with objs:=b.objs.set k x } dst t u (.s (.c cs)) (.s (.c cx)) fun s d=>some (s.objs,d))=some (p.1.set k x,p.2):=by
 have tail:∀{e n:Nat} {q:List T} (o:List O),(gO { b with objs:=o } dst (.row false e n q) fun st key=>some (st.objs,D.s (.c (.row key))))=some p→(gO { b with objs:=o.set k x } dst (.row false e n q) fun st key=>some (st.objs,D.s (.c (.row key))))=some (p.1.set k x,p.2):=fun {e n q} o h=>
  U1 (st:={ b with objs:=o }) (f:=fun key=>D.s (.c (.row key))) hi h
 unfold jZ at h ⊢
 split at h
 case h_2=>cases h
 split at h
 case h_2=>cases h
 split at h
 case h_2=>cases h
 split at h
 case isFalse=>cases h
 rename_i hcd
 rw[if_pos hcd]
 unfold lO at h ⊢
 dsimp only at h ⊢
 split at h
 ·rename_i hut
  rw[if_pos hut]
  rw[PJ hx]
  have hm:∀(n:Nat) (c:C) (f g:List T→Option (List O×D)),(∀m,f m=some p→g m=some (p.1.set k x,p.2))→gT b n c f=some p→gT b n c g=some (p.1.set k x,p.2):=fun n c f g hfg h=>by
   unfold gT at h ⊢
   split at h
   ·obtain⟨l,hl,h⟩:=aC h
    rw[hl]
    exact hfg l h
   ·split at h
    ·split at h
     ·rename_i h1
      rw[if_pos h1]
      exact hfg _ h
     ·cases h
    ·cases h
   ·split at h
    ·split at h
     ·rename_i h1
      rw[if_pos h1]
      exact hfg _ h
     ·cases h
    ·cases h
   ·cases h
  refine hm _ _ _ _ (fun m h=>JX hs (fun o l h=>?_) h) h
  obtain⟨q,hq,h⟩:=aC h
  rw[hq]
  exact tail o h
 ·rename_i hut
  rw[if_neg hut]
  split at h
  ·cases cx with
   | t tx=>
    obtain⟨s',hs',h⟩:=aC (show ob tx.str? _=some p from h)
    show ob tx.str? _=_
    rw[hs']
    have e9:∀(f:ByteArray→Option (List O×D)),ob (some s') f=f s':=fun f=>by unfold ob;rfl
    rw[e9]
    refine JX hs (fun o l h=>?_) h
    obtain⟨q,hq,h⟩:=aC h
    rw[hq]
    exact tail o h
   | _=>cases h
  ·cases h
theorem SC{α:Type}{st:St}{dst:Option Nat}{o:O}{f:St→Nat→Option α}{r:α}{k:Nat}(ho:G6 st.objs[k]?=true)(h:gO st dst o f=some r):∃K,(st.objs.set K o)[k]?=st.objs[k]?∧f { st with objs:=st.objs.set K o } K=some r:=by
 obtain⟨K,h1,h2⟩:=DP h
 refine⟨K,List.getElem?_set_ne (fun e=>?_),h2⟩
 subst e
 rw[h1] at ho
 cases ho
theorem yV{P:Program}{b:St}{dst:Option Nat}{t u:TypeId}{s x:D}{p:List O×D}{k:Nat}(hs:(∃y,s=.s (.c (.t y)))∨∃key,s=.s (.c (.row key))∧key≠k)(ho:G6 b.objs[k]?=true)
 (h:(jZ P b dst t u s x fun s d=>some (s.objs,d))=some p):p.1[k]?=b.objs[k]?:=by
 have own:∀{e:TypeId} {n:Nat} {c:C} {f:St→List T→Option (List O×D)},s=.s (.c c)→vK b e n c f=some p→(∀st l,st.objs[k]?=b.objs[k]?→f st l=some p→p.1[k]?=b.objs[k]?)→p.1[k]?=b.objs[k]?:=fun {e n c f} hc h hf=>by
  unfold vK at h
  split at h
  ·exact hf _ _ rfl h
  ·rename_i key
   split at h
   ·split at h
    ·refine hf _ _ (List.getElem?_set_ne fun e=>?_) h
     rcases hs with⟨y,hy⟩ | ⟨key',hy,hne⟩
     ·rw[hc] at hy;cases hy
     ·rw[hc] at hy;cases hy;exact hne e
    ·cases h
   ·cases h
  ·rename_i key m lo len tg
   rcases hs with⟨y,hy⟩ | ⟨key',hy,hne⟩ <;> (rw[hc] at hy;cases hy)
  ·cases h
 have tail:∀{st:St} {e n:Nat} {q:List T},st.objs[k]?=b.objs[k]?→(gO st dst (.row false e n q) fun st key=>some (st.objs,D.s (.c (.row key))))=some p→p.1[k]?=b.objs[k]?:=fun {st e n q} hb h=>by
  obtain⟨K,h1,h2⟩:=SC (by rw[hb];exact ho) h
  cases h2
  exact h1.trans hb
 unfold jZ at h
 split at h
 case h_2=>cases h
 split at h
 case h_2=>cases h
 split at h
 case h_2=>cases h
 split at h
 case isFalse=>cases h
 unfold lO at h
 split at h
 case h_2=>cases h
 split at h
 ·split at h
  case h_2=>cases h
  unfold gT at h
  dsimp only at h
  split at h
  ·obtain⟨l,_,h⟩:=aC h
   exact own rfl h fun st l hb h=>by
    obtain⟨q,_,h⟩:=aC h
    exact tail hb h
  ·split at h
   ·split at h
    ·exact own rfl h fun st l hb h=>by
      obtain⟨q,_,h⟩:=aC h
      exact tail hb h
    ·cases h
   ·cases h
  ·split at h
   ·split at h
    ·exact own rfl h fun st l hb h=>by
      obtain⟨q,_,h⟩:=aC h
      exact tail hb h
    ·cases h
   ·cases h
  ·cases h
 ·split at h
  ·obtain⟨s',h⟩:∃s',(vK b _ 1 _ fun st l=>ob (room l (iS s') 1) fun q=>gO st dst (.row false _ 1 q) fun st key=>some (st.objs,D.s (.c (.row key))))=some p:=by
    cases x with
    | tup l=>cases h
    | s sx=>cases sx with
     | agg l=>cases h
     | c cx=>cases cx with
      | t tx=>
       obtain⟨s',_,h⟩:=aC (show ob tx.str? _=some p from h)
       exact⟨s',h⟩
      | _=>cases h
   exact own rfl h fun st l hb h=>by
    obtain⟨q,_,h⟩:=aC h
    exact tail hb h
  ·cases h
theorem Fe(hq:vT Γ≠[])(hpl:k4 Γ pl){o:Oper}(h:Kn pl o=true){st:St}{q:List O}{d:D}(hp:fW P Γ ops o st=some (q,d)){K:Nat}(hK:K∈Tg Γ):
 K<st.objs.length∧(G6 st.objs[K]?=true→q[K]?=st.objs[K]?)∧(∀x,fW P Γ ops o { st with objs:=st.objs.set K x }=some (q.set K x,d)):=by
 obtain⟨dst,op,type,pos,after,guard⟩:=o
 unfold Kn at h
 rw[Bool.and_eq_true,Bool.and_eq_true] at h
 obtain⟨⟨hgd,h1⟩,h2⟩:=h
 cases guard with
 | some g=>cases hgd
 | none=>
  cases dst with
  | none=>cases h1
  | some sl=>
   cases op with
   | call c=>
    obtain⟨callee,args,ats⟩:=c
    cases callee with
    | value fo=>
     cases fo with
     | func f=>
      have hgs:(fC Γ).contains (2500000+sl)=true:=by
       have aux:∀n:Nat,90000000+(2500000+n)=92500000+n:=fun n=>by omega
       exact hpl.2.2.2.2.2.2.2.1 (2500000+sl) (by rw[aux];exact h1)
      have key:∀st':St,fW P Γ ops ⟨some sl,.call ⟨.value (.func f),args,ats⟩,type,pos,after,none⟩ st'=yR Γ st'.bare (some sl) (ev st' (.func f)) (args.toList.map (ev st')):=fun st'=>rfl
      rw[key] at hp
      obtain⟨⟨_,hgi⟩,hv⟩:=NL hp
      obtain⟨l1,l2,l3,l4⟩:=NM hgi hgs
      obtain⟨m1,m2,m3,m4⟩:=l4 K hK
      have hall:∀g A,Γ g=some A→FE (ev st (.func f)) g→A.Framed∨A.Never:=DQ hpl (f:=.func f) h2
      refine⟨m4,fun ho=>BJ (b:=st.bare) hall hv ho m1,fun x=>?_⟩
      rw[key]
      have hev:∀y,ev ({ st with objs:=st.objs.set K x }:St) y=ev st y:=fun y=>rfl
      have hargs:args.toList.map (ev ({ st with objs:=st.objs.set K x }:St))=args.toList.map (ev st):=rfl
      rw[hargs,hev]
      unfold yR
      have hgc':BD Γ (st.objs.set K x) (some sl) (ev st (.func f)::args.toList.map (ev st))=true:=by
       unfold BD
       dsimp only
       rw[l3]
       rfl
      have hgi':mG Γ (St.bare { st with objs:=st.objs.set K x }) (some sl) (ev st (.func f)::args.toList.map (ev st))=true:=by
       unfold mG at hgi ⊢
       dsimp only at hgi ⊢
       have e1:(St.bare { st with objs:=st.objs.set K x }).objs=st.objs.set K x:=rfl
       have e2:(St.bare { st with objs:=st.objs.set K x }).np=st.bare.np:=rfl
       have e3:(St.bare { st with objs:=st.objs.set K x }).env=st.bare.env:=rfl
       rw[e1,e2,e3]
       have m1':jE st.objs K (ev st (.func f)::args.toList.map (ev st))=true:=m1
       simp only[JW m1',List.length_set]
       exact hgi
      rw[if_pos (show (BD Γ (St.bare { st with objs:=st.objs.set K x }).objs (some sl) (ev st (.func f)::args.toList.map (ev st))&&mG Γ (St.bare { st with objs:=st.objs.set K x }) (some sl) (ev st (.func f)::args.toList.map (ev st)))=true from Bool.and_eq_true_iff.2 ⟨hgc',hgi'⟩)]
      unfold CI
      cases hB:vT Γ with
      | nil=>exact absurd hB hq
      | cons w B=>
       dsimp only
       rw[if_pos (show j0 (bE Γ) (some sl)=true from l2)]
       unfold fH lO at hv ⊢
       dsimp only[ev] at hv ⊢
       have hpf:kW (Value.func (.func f) #[] #[])=some f:=rfl
       rw[hpf] at hv ⊢
       dsimp only at hv ⊢
       cases hA:Γ f with
       | none=>rw[hA] at hv;cases hv
       | some A=>
        rw[hA] at hv
        dsimp only at hv ⊢
        have hF:=hpl.2.2.1 f A h2 hA
        rw[hF.1] at hv ⊢
        have m5:jE st.bare.objs K (args.toList.map (ev st))=true:=by
         have m1':jE st.objs K (ev st (.func f)::args.toList.map (ev st))=true:=m1
         unfold jE at m1' ⊢
         rw[List.all_cons,Bool.and_eq_true] at m1'
         exact m1'.2
        exact(hF.2.2 hv).2 K x m5 ⟨m2,fun s hs=>by cases hs;exact m3⟩
     | _=>cases h2
    | builtin bi=>
     cases bi with
     | append=>
      have hgs:(fC Γ).contains (2500000+sl)=true:=by
       have aux:∀n:Nat,90000000+(2500000+n)=92500000+n:=fun n=>by omega
       exact hpl.2.2.2.2.2.2.2.1 (2500000+sl) (by rw[aux];exact h1)
      have key:∀st':St,fW P Γ ops ⟨some sl,.call ⟨.builtin .append,args,ats⟩,type,pos,after,none⟩ st'=if pJ Γ st'.bare (some sl) .append (args.toList.map (ev st'))=true then cN P st'.bare (some sl) type .append (args.toList.map (ev st')) ats.toList else none:=fun st'=>rfl
      rw[key] at hp
      split at hp
      case isFalse=>cases hp
      rename_i hgb
      rw[JM] at hgb
      unfold cN at hp
      split at hp
      any_goals (first | (cases ‹Builtin.append=_›;done) | (cases hp;done))
      rename_i s x t u hbi ha hats
      rw[ha] at hgb
      have hgb2:=Bool.and_eq_true_iff.1 hgb
      have hgj:=hgb2.2
      unfold WY at hgj
      dsimp only at hgj
      rw[hgs] at hgj
      simp only[Bool.not_true,Bool.false_or,Bool.and_eq_true] at hgj
      obtain⟨hgi,hra,hX⟩:=hgj
      have hX:Py Γ (some sl)=false:=by simpa using hX
      obtain⟨l1,l2,l3,l4⟩:=NM hgi hgs
      obtain⟨m1,m2,m3,m4⟩:=l4 K hK
      obtain⟨cs,cx,rfl,rfl,hcs⟩:∃cs cx,s=.s (.c cs)∧x=.s (.c cx)∧((∃y,cs=.t y)∨∃key,cs=.row key):=by
       unfold Nt at hra
       split at hra
       ·rename_i e;cases e;exact⟨_,_,rfl,rfl,.inl ⟨_,rfl⟩⟩
       ·rename_i e;cases e;exact⟨_,_,rfl,rfl,.inr ⟨_,rfl⟩⟩
       ·rename_i e;cases e;exact⟨_,_,rfl,rfl,.inl ⟨_,rfl⟩⟩
       ·rename_i e;cases e;exact⟨_,_,rfl,rfl,.inr ⟨_,rfl⟩⟩
       ·cases hra
      have hrs:K∉C.rs cs∧K∉C.rs cx:=by
       unfold jE at m1
       simp only[OW,S1.list,List.all_cons,List.all_nil,Bool.and_true,Bool.and_eq_true,Bool.not_eq_true'] at m1
       refine⟨fun hm=>?_,fun hm=>?_⟩
       ·have:=m1.1.1
        rw[List.contains_iff_mem.2 hm] at this
        cases this
       ·have:=m1.2.1
        rw[List.contains_iff_mem.2 hm] at this
        cases this
      have hp:(kV P st.bare (some sl) t u (.s (.c cs)) (.s (.c cx)) fun s d=>some (s.objs,d))=some (q,d):=hp
      have hgk:∀b:St,kV P b (some sl) t u (.s (.c cs)) (.s (.c cx)) (fun s d=>some (s.objs,d))=jZ P b (some sl) t u (.s (.c cs)) (.s (.c cx)) fun s d=>some (s.objs,d):=fun b=>by
       rcases hcs with⟨y,rfl⟩ | ⟨key,rfl⟩ <;> rfl
      rw[hgk] at hp
      refine⟨m4,fun ho=>yV (b:=st.bare) (by
       rcases hcs with⟨y,rfl⟩ | ⟨key,rfl⟩
       ·exact .inl ⟨y,rfl⟩
       ·exact .inr ⟨key,rfl,fun e=>hrs.1 (by subst e;simp[C.rs])⟩) ho hp,fun x=>?_⟩
      rw[key]
      have hargs:args.toList.map (ev ({ st with objs:=st.objs.set K x }:St))=[.s (.c cs),.s (.c cx)]:=ha
      rw[hargs,hats]
      have hgi':mG Γ (St.bare { st with objs:=st.objs.set K x }) (some sl) [.s (.c cs),.s (.c cx)]=true:=by
       rw[JL]
       unfold mG at hgi ⊢
       dsimp only at hgi ⊢
       simp only[JW m1,List.length_set]
       exact hgi
      have hgP:Dw Γ (St.bare { st with objs:=st.objs.set K x }).objs (some sl) (.s (.c cs))=true:=by
       unfold Dw GK
       rw[hX]
       rfl
      rw[if_pos (show pJ Γ (St.bare { st with objs:=st.objs.set K x }) (some sl) .append [.s (.c cs),.s (.c cx)]=true from Bool.and_eq_true_iff.2 ⟨hgP,by
       unfold WY
       dsimp only
       rw[hgs,hgi',hra,hX]
       rfl⟩)]
      show (kV P (St.bare { st with objs:=st.objs.set K x }) (some sl) t u (.s (.c cs)) (.s (.c cx)) fun s d=>some (s.objs,d))=_
      rw[hgk]
      exact L6 (b:=st.bare) hrs.1 hrs.2 ⟨by simpa[St.bare] using m2,fun s hs=>by cases hs;exact m3⟩ hp
     | _=>cases h2
    | _=>cases h2
   | _=>cases h2
theorem XR(hpl:k4 Γ pl){o:Oper}(h:XH pl o=true){st:St}{q:List O}{d:D}(hp:fW P Γ ops o st=some (q,d)):AS Γ st.objs q:=by
 obtain⟨dst,op,type,pos,after,guard⟩:=o
 unfold XH at h
 unfold fW at hp
 cases hg:gd ops (⟨dst,op,type,pos,after,guard⟩:Oper) st with
 | none=>rw[hg] at hp;cases hp
 | some w=>
  rw[hg] at hp
  cases w with
  | false=>cases hp;exact fun _ _=>rfl
  | true=>
   have hp:CJ P Γ ⟨dst,op,type,pos,after,guard⟩ st.bare (ev st)=some (q,d):=hp
   unfold CJ at hp
   rw[Bool.and_eq_true] at h
   obtain⟨h1,h2⟩:=h
   cases dst with
   | none=>cases h1
   | some sl=>
    cases op with
    | call c=>
     obtain⟨callee,args,ats⟩:=c
     cases callee with
     | value f=>
      have hp:yR Γ st.bare (some sl) (ev st f) (args.toList.map (ev st))=some (q,d):=hp
      obtain⟨⟨hgc,_⟩,hv⟩:=NL hp
      have hall:∀g A,Γ g=some A→FE (ev st f) g→A.Framed∨A.Never:=DQ hpl (by cases f <;> exact h2)
      unfold BD at hgc
      dsimp only at hgc h1
      have aux:∀n:Nat,90000000+(2000000+n)=92000000+n:=fun n=>by omega
      rw[hpl.2.2.2.2.2.2.2.1 (2000000+sl) (by rw[aux];exact h1)] at hgc
      have hgc:Uj Γ st.objs (ev st f::args.toList.map (ev st))=true:=(Bool.and_eq_true_iff.1 hgc).2
      intro k hk
      have hm:k∈Wr Γ:=List.mem_filterMap.2 ⟨5000000+k,List.contains_iff_mem.1 hk,by rw[if_pos (Nat.le_add_right _ _),Nat.add_sub_cancel_left]⟩
      have:=List.all_eq_true.1 hgc k hm
      rw[Bool.and_eq_true] at this
      exact(BJ (b:=st.bare) hall hv this.1 this.2).symm
     | _=>cases h2
    | _=>cases h2
theorem Kr{R:Type}{st:St}{q:List O}{t:TypeId}{x:D}{k:D→Option R}(hb:AS Γ st.objs q)(hx:yI Γ x=true):sC P { st with objs:=q } t x k=sC P st t x k:=by
 unfold yI at hx
 split at hx
 ·exact NI rfl
 ·rename_i kk
  have ck:=hb kk hx
  unfold sC lO
  dsimp only
  rw[ck]
 ·cases hx
theorem XS(hN:∀f A,Γ f=some A→A.Nat)(hpl:k4 Γ pl){o:Oper}(h:R9 pl o=true){st:St}{p:List O×D}(hp:fW P Γ ops o st=some p):p.1=st.objs:=PI hN hpl (Bool.and_eq_true_iff.1 h).1 hp
theorem BN(hpl:k4 Γ pl){o:Oper}(h:R9 pl o=true){st:St}{q:List O}(hb:AS Γ st.objs q){d:D}(hp:fW P Γ ops o st=some (st.objs,d)):fW P Γ ops o { st with objs:=q }=some (q,d):=by
 obtain⟨dst,op,type,pos,after,guard⟩:=o
 unfold R9 at h
 rw[Bool.and_eq_true] at h
 obtain⟨h,hsl⟩:=h
 unfold GS at h
 unfold fW at hp ⊢
 have h1:gd ops (⟨dst,op,type,pos,after,guard⟩:Oper) { st with objs:=q }=gd ops (⟨dst,op,type,pos,after,guard⟩:Oper) st:=rfl
 rw[h1]
 cases hg:gd ops (⟨dst,op,type,pos,after,guard⟩:Oper) st with
 | none=>rw[hg] at hp;cases hp
 | some w=>
  rw[hg] at hp
  cases w with
  | false=>
   simp only[Option.bind_some,cond_false,Option.some.injEq,Prod.mk.injEq] at hp ⊢
   exact⟨trivial,hp.2⟩
  | true=>
   cases dst with
   | none=>cases hsl
   | some sl=>
   cases op with
   | call c=>
    obtain⟨callee,args,ats⟩:=c
    cases callee with
    | builtin bi=>
     cases bi with
     | len=>
      have hev:∀x,ev { st with objs:=q } x=ev st x:=fun x=>by cases x <;> rfl
      have hp:(if pJ Γ st (some sl) .len (args.toList.map (ev st))=true then cN P st.bare (some sl) type .len (args.toList.map (ev st)) ats.toList else none)=some (st.objs,d):=hp
      show (if pJ Γ st (some sl) .len (args.toList.map (ev { st with objs:=q }))=true then cN P { st.bare with objs:=q } (some sl) type .len (args.toList.map (ev { st with objs:=q })) ats.toList else none)=some (q,d)
      have hm:args.toList.map (ev { st with objs:=q })=args.toList.map (ev st):=List.map_congr_left fun x _=>hev x
      rw[hm]
      split at hp
      case isFalse=>cases hp
      rename_i hgb
      rw[if_pos hgb]
      unfold cN at hp ⊢
      split at hp
      ·rename_i x t _ hargs hats
       rw[hargs] at hgb
       have hgb:([x].all fun x=>BE Γ (some sl) x&&Dv Γ (some sl) x)=true:=hgb
       simp only[List.all_cons,List.all_nil,Bool.and_true,Bool.and_eq_true] at hgb
       have hgn:=hgb.2
       unfold Dv at hgn
       dsimp only at hgn hsl
       have aux:∀n:Nat,90000000+(3000000+n)=93000000+n:=fun n=>by omega
       rw[hpl.2.2.2.2.2.2.2.1 (3000000+sl) (by rw[aux];exact hsl)] at hgn
       have hgn:yI Γ x=true:=hgn
       obtain⟨d',h3,h2⟩:=Option.bind_eq_some_iff.1 hp
       cases h2
       have:=Kr (P:=P) (st:=st.bare) (q:=q) (t:=t) (k:=some) hb hgn
       show ((sC P { st.bare with objs:=q } _ _ some).bind fun d=>some (q,d))=_
       rw[this,h3]
       rfl
      all_goals first
       | (cases ‹Builtin.len=_›;done)
       | (cases hp;done)
     | _=>cases h
    | _=>cases h
   | _=>cases h
theorem U2(hpl:k4 Γ pl){dst:Option Nat}(h:Km pl dst=true):Py Γ dst=true:=by
 cases dst with
 | none=>cases h
 | some s=>
  have aux:∀n:Nat,90000000+(4000000+n)=94000000+n:=fun n=>by omega
  exact hpl.2.2.2.2.2.2.2.1 (4000000+s) (by rw[aux];exact h)
theorem NN(hpl:k4 Γ pl){dst:Option Nat}(h:Km pl dst=true){objs:List O}(hg:GK Γ objs dst=true){k:Nat}(hk:(fC Γ).contains (5000000+k)=true):G6 objs[k]?=true:=by
 unfold GK at hg
 rw[U2 hpl h] at hg
 have hm:k∈Wr Γ:=List.mem_filterMap.2 ⟨5000000+k,List.contains_iff_mem.1 hk,by rw[if_pos (Nat.le_add_right _ _),Nat.add_sub_cancel_left]⟩
 exact List.all_eq_true.1 hg k hm
theorem XT(hpl:k4 Γ pl){o:Oper}(h:XI pl o=true){st:St}{q:List O}{d:D}(hp:fW P Γ ops o st=some (q,d)):AS Γ st.objs q:=by
 obtain⟨dst,op,type,pos,after,guard⟩:=o
 unfold XI at h
 unfold fW at hp
 cases hg:gd ops (⟨dst,op,type,pos,after,guard⟩:Oper) st with
 | none=>rw[hg] at hp;cases hp
 | some w=>
  rw[hg] at hp
  cases w with
  | false=>cases hp;exact fun _ _=>rfl
  | true=>
   have hp:CJ P Γ ⟨dst,op,type,pos,after,guard⟩ st.bare (ev st)=some (q,d):=hp
   unfold CJ at hp
   rw[Bool.and_eq_true] at h
   obtain⟨hx,h2⟩:=h
   cases op with
   | buildSlice t n parts=>
    dsimp only at hp h2
    unfold Jt at hp
    split at hp
    ·rw[mJ] at hp
     obtain⟨d,_,h2⟩:=Option.bind_eq_some_iff.1 hp
     cases h2
     exact fun _ _=>rfl
    split at hp
    case isFalse=>cases hp
    rename_i hgf
    rw[Bool.and_eq_true] at h2
    obtain⟨hn,hps⟩:=h2
    have hn:n=0:=by simpa using hn
    have hps:parts.toList=[]:=by simpa using hps
    rw[hps,hn] at hp
    intro k hk
    have ho:G6 st.bare.objs[k]?=true:=NN hpl hx hgf hk
    unfold fU at hp
    rw[if_pos ⟨rfl,rfl⟩] at hp
    split at hp
    case h_2=>cases hp
    split at hp
    case h_2=>cases hp
    split at hp
    case isFalse=>cases hp
    obtain⟨K,h1,h3⟩:=SC ho hp
    cases h3
    exact h1.symm
   | call c=>
    obtain⟨callee,args,ats⟩:=c
    cases callee with
    | builtin bi=>
     cases bi with
     | append=>
      dsimp only at hp
      split at hp
      case isFalse=>cases hp
      rename_i hgb
      unfold cN at hp
      split at hp
      any_goals (first | (cases ‹Builtin.append=_›;done) | (cases hp;done))
      rename_i s x t u hbi hargs hats
      rw[hargs] at hgb
      have hgb:=(Bool.and_eq_true_iff.1 hgb).1
      have hgb:(GK Γ st.bare.objs dst&&(!Py Γ dst||OX Γ s))=true:=hgb
      rw[Bool.and_eq_true,U2 hpl hx] at hgb
      obtain⟨g1,g2⟩:=hgb
      have g2:OX Γ s=true:=g2
      intro k hk
      have ho:G6 st.bare.objs[k]?=true:=NN hpl hx g1 hk
      have hs:(∃y,s=.s (.c (.t y)))∨∃key,s=.s (.c (.row key))∧key≠k:=by
       unfold OX at g2
       split at g2
       ·exact .inl ⟨_,rfl⟩
       ·refine .inr ⟨_,rfl,fun e=>?_⟩
        subst e
        rw[hk] at g2
        cases g2
       ·cases g2
      unfold kV at hp
      split at hp
      ·rcases hs with⟨y,hy⟩ | ⟨key,hy,_⟩ <;> cases hy
      ·exact(yV hs ho hp).symm
     | _=>cases h2
    | _=>cases h2
   | _=>cases h2
theorem XU(hN:∀f A,Γ f=some A→A.Nat)(hpl:k4 Γ pl){o:Oper}(h:NF pl o=true){st:St}{p:List O×D}(hp:fW P Γ ops o st=some p):p.1=st.objs:=by
 refine nH hN hpl (pl:=pl) ?_ hp
 obtain⟨dst,op,type,pos,after,guard⟩:=o
 unfold NF at h
 rw[Bool.and_eq_true] at h
 obtain⟨_,h⟩:=h
 cases op with
 | slice t x lo hi mx=>
  cases mx with
  | some m=>cases h
  | none=>
   show (lo.isSome||hi.isSome||false)=true
   rw[Bool.or_false]
   exact h
 | _=>cases h
theorem Aq{st:St}{q:List O}{t:TypeId}{x:D}{lo hi:Option D}{d:D}(hb:AS Γ st.objs q)(hx:yI Γ x=true)(hlh:¬(lo.isNone=true∧hi.isNone=true∧(none:Option D).isNone=true))
 (h:(lH P st t x lo hi none fun s d=>some (s.objs,d))=some (st.objs,d)):(lH P { st with objs:=q } t x lo hi none fun s d=>some (s.objs,d))=some (q,d):=by
 have hk:∀(f:D→Option (List O×D)),jD P { st with objs:=q } t x lo hi none f=jD P st t x lo hi none f:=fun f=>by
  unfold yI at hx
  split at hx
  ·exact GT rfl
  ·rename_i kk
   have ck:=hb kk hx
   unfold jD lO Q3
   dsimp only
   rw[ck]
  ·cases hx
 unfold lH at h ⊢
 split at h
 ·cases h
 ·rename_i hA
  rw[if_neg hA]
  rw[hk]
  have e:∀o:List O,(jD P st t x lo hi none fun d=>some (o,d))=(jD P st.bare t x lo hi none some).map fun d=>(o,d):=fun o=>by
   rw[mI]
   cases jD P st.bare t x lo hi none some <;> rfl
  have h:(jD P st t x lo hi none fun d=>some (st.objs,d))=some (st.objs,d):=h
  show (jD P st t x lo hi none fun d=>some (q,d))=some (q,d)
  rw[e] at h ⊢
  cases hs:jD P st.bare t x lo hi none some with
  | none=>rw[hs] at h;cases h
  | some d'=>rw[hs] at h;simp only[Option.map_some,Option.some.injEq,Prod.mk.injEq,true_and] at h;rw[h];rfl
theorem BO(hpl:k4 Γ pl){o:Oper}(h:NF pl o=true){st:St}{q:List O}(hb:AS Γ st.objs q){d:D}(hp:fW P Γ ops o st=some (st.objs,d)):fW P Γ ops o { st with objs:=q }=some (q,d):=by
 obtain⟨dst,op,type,pos,after,guard⟩:=o
 unfold NF at h
 rw[Bool.and_eq_true] at h
 obtain⟨hx,h⟩:=h
 unfold fW at hp ⊢
 have h1:gd ops (⟨dst,op,type,pos,after,guard⟩:Oper) { st with objs:=q }=gd ops (⟨dst,op,type,pos,after,guard⟩:Oper) st:=rfl
 rw[h1]
 cases hg:gd ops (⟨dst,op,type,pos,after,guard⟩:Oper) st with
 | none=>rw[hg] at hp;cases hp
 | some w=>
  rw[hg] at hp
  cases w with
  | false=>
   simp only[Option.bind_some,cond_false,Option.some.injEq,Prod.mk.injEq] at hp ⊢
   exact⟨trivial,hp.2⟩
  | true=>
   cases op with
   | slice t x lo hi mx=>
    cases mx with
    | some m=>cases h
    | none=>
     dsimp only at h
     have hp:(if (BE Γ dst (ev st x)&&IX Γ dst (ev st x))=true then lH P st.bare t (ev st x) (lo.map (ev st)) (hi.map (ev st)) none fun s d=>some (s.objs,d) else none)=some (st.objs,d):=hp
     show (if (BE Γ dst (ev st x)&&IX Γ dst (ev st x))=true then lH P { st.bare with objs:=q } t (ev st x) (lo.map (ev st)) (hi.map (ev st)) none fun s d=>some (s.objs,d) else none)=some (q,d)
     split at hp
     case isFalse=>cases hp
     rename_i hg2
     rw[if_pos hg2]
     have hgx:=(Bool.and_eq_true_iff.1 hg2).2
     unfold IX at hgx
     rw[U2 hpl hx] at hgx
     have hgx:yI Γ (ev st x)=true:=hgx
     refine Aq (st:=st.bare) hb hgx ?_ hp
     rintro ⟨n1,n2,_⟩
     rw[Option.isNone_map] at n1 n2
     cases lo <;> cases hi <;> simp_all
   | _=>cases h
theorem Ar(hN:∀f A,Γ f=some A→A.Nat)(hpl:k4 Γ pl){i j:Nat}{oi oj:Oper}(hi:ops[i]?=some oi)(hj:ops[j]?=some oj)(hc:NG ops pl oi oj=true){st s1 s2:St}
 (h1:qK P Γ ops i st=some s1) (h2:qK P Γ ops j s1=some s2):∃s1',qK P Γ ops j st=some s1'∧qK P Γ ops i s1'=some s2:=by
 simp only[NG,Bool.and_eq_true,Bool.or_eq_true] at hc
 obtain⟨hap,hcls⟩:=hc
 obtain⟨a1,a2,a3⟩:=Oper.apart_spec hap
 simp only[qK,hi,hj] at *
 cases e1:fW P Γ ops oi st with
 | none=>simp[e1] at h1
 | some p1=>
  obtain⟨q1,d1⟩:=p1
  simp only[e1,Option.map_some,Option.some.injEq] at h1
  subst h1
  have w2:fW P Γ ops oj (st.with oi.dst (q1,d1))=fW P Γ ops oj { st with objs:=q1 }:=XC (st:={ st with objs:=q1 }) a1
  rw[w2] at h2
  have back:∀q2 d2,fW P Γ ops oi (st.with oj.dst (q2,d2))=fW P Γ ops oi { st with objs:=q2 }:=fun q2 d2=>XC (st:={ st with objs:=q2 }) a3
  have fin:∀q d2,((st.with oj.dst (q,d2)).with oi.dst (q,d1))=(st.with oi.dst (q1,d1)).with oj.dst (q,d2):=fun q d2=>by
   have hp:=Aj ({ st with objs:=q }:St) d1 d2 a2
   unfold St.with
   have r1:∀(s:St) (x:Option Nat) (d:D) (q:List O),({ s.put x d with objs:=q }:St)=({ s with objs:=q }:St).put x d:=fun s x d q=>by cases x <;> rfl
   simp only[r1]
   exact hp.symm
  cases e2:fW P Γ ops oj { st with objs:=q1 } with
  | none=>simp[e2] at h2
  | some p2=>
   obtain⟨q2,d2⟩:=p2
   simp only[e2,Option.map_some,Option.some.injEq] at h2
   subst h2
   have caseq:q1=st.objs→(∀q,q=q2→fW P Γ ops oi { st with objs:=q }=some (q2,d1))→∃s1',(fW P Γ ops oj st).map (st.with oj.dst)=some s1'∧(fW P Γ ops oi s1').map (s1'.with oi.dst)=some ((st.with oi.dst (q1,d1)).with oj.dst (q2,d2)):=fun hq hoi=>by
    subst hq
    have e3:fW P Γ ops oj st=some (q2,d2):=e2
    refine⟨st.with oj.dst (q2,d2),by rw[e3];rfl,?_⟩
    rw[back,hoi q2 rfl]
    simp only[Option.map_some]
    rw[fin]
   rcases hcls with((((((((((((hP | hP) | ⟨hn1,hn2⟩) | hle) | ⟨hq0,⟨hl,hf⟩ | ⟨hf,hl⟩⟩) | ⟨hla,hal⟩) | ⟨⟨⟨hq0,hnl⟩,hx1⟩,hx2⟩) | ⟨⟨⟨hq0,hnl⟩,hx1⟩,hx2⟩) | (⟨hlb,hfe⟩ | ⟨hfe,hlb⟩)) | (⟨hln,hfb⟩ | ⟨hfb,hln⟩)) | (⟨hlc,hfc⟩ | ⟨hfc,hlc⟩)) | (⟨hlg,hfg⟩ | ⟨hfg,hlg⟩)) | (⟨hlh,hfh⟩ | ⟨hfh,hlh⟩)) | ⟨⟨hq0,hnl⟩,⟨hli,hfi⟩ | ⟨hfi,hli⟩⟩
   ·have hq:q1=st.objs:=nH hN hpl (pl:=pl) (JQ hP) e1
    exact caseq hq fun q hqq=>by subst hqq;rw[Nx hpl hP,e1];rfl
   ·have hq2:q2=q1:=nH hN hpl (pl:=pl) (JQ hP) e2
    subst hq2
    have e3:(fW P Γ ops oj st).map (fun p=>(q2,p.2))=some (q2,d2):=by rw[←Nx hpl hP];exact e2
    cases e4:fW P Γ ops oj st with
    | none=>rw[e4] at e3;cases e3
    | some p=>
     obtain⟨q0,d0⟩:=p
     rw[e4] at e3
     simp only[Option.map_some,Option.some.injEq,Prod.mk.injEq,true_and] at e3
     subst e3
     have hq0:q0=st.objs:=nH hN hpl (pl:=pl) (JQ hP) e4
     subst hq0
     refine⟨st.with oj.dst (st.objs,d0),rfl,?_⟩
     rw[back]
     have e5:fW P Γ ops oi { st with objs:=st.objs }=some (q2,d1):=e1
     rw[e5]
     simp only[Option.map_some]
     have:=fin q2 d0
     have r2:((st.with oj.dst (st.objs,d0)).with oi.dst (q2,d1))=((st.with oj.dst (q2,d0)).with oi.dst (q2,d1)):=by
      unfold St.with
      cases oj.dst <;> rfl
     rw[r2,this]
   ·have hq:q1=st.objs:=nH hN hpl hn1 e1
    have hq2:q2=q1:=nH hN hpl hn2 e2
    exact caseq hq fun q hqq=>by rw[hqq,hq2,hq];have:fW P Γ ops oi { st with objs:=st.objs }=some (q1,d1):=e1;rw[this,hq]
   ·exact Ao hle e1 e2 caseq
   ·-- a load,then a call
    have hq:q1=st.objs:=Ex hN hpl hl e1
    subst hq
    exact caseq rfl fun q hqq=>by
     subst hqq
     exact DO hpl (hpl.2.2.2.1 hq0) hl (fun k hk=>Ey hpl (hpl.2.2.2.1 hq0) hf e2 k hk) e1
   ·-- a call,then a load
    have hq2:q2=q1:=Ex hN hpl hl e2
    subst hq2
    have e3:fW P Γ ops oj st=some (st.objs,d2):=by
     have:=DO (st:={ st with objs:=q2 }) (q:=st.objs) hpl (hpl.2.2.2.1 hq0) hl (fun k hk l=>(Ey hpl (hpl.2.2.2.1 hq0) hf e1 k hk l).symm) e2
     exact this
    refine⟨st.with oj.dst (st.objs,d2),by rw[e3];rfl,?_⟩
    rw[back]
    have e5:fW P Γ ops oi { st with objs:=st.objs }=some (q2,d1):=e1
    rw[e5]
    simp only[Option.map_some]
    have:=fin q2 d2
    have r2:((st.with oj.dst (st.objs,d2)).with oi.dst (q2,d1))=((st.with oj.dst (q2,d2)).with oi.dst (q2,d1)):=by
     unfold St.with
     cases oj.dst <;> rfl
    rw[r2,this]
   ·have hw:Iz pl oi=true:=by
     obtain⟨dst,op,type,pos,after,guard⟩:=oi
     unfold XD at hla
     cases op with
     | call c=>
      obtain⟨callee,args,ats⟩:=c
      cases callee with
      | builtin bi=>cases bi <;> first | rfl | (cases hla;done)
      | _=>cases hla
     | _=>first | rfl | (cases hla;done)
    have hq:q1=st.objs:=nH hN hpl hw e1
    subst hq
    exact caseq rfl fun q hqq=>by
     subst hqq
     exact An hla hal e1 e2
   ·have hq:=hpl.2.2.2.1 hq0
    have hnl':(!pl.contains 28999999)=true:=by simpa using hnl
    obtain⟨d1',x1,g1,hd1,E1⟩:=PH (P:=P) (ops:=ops) hpl hq hnl' hx1
    obtain⟨d2',x2,g2,hd2,E2⟩:=PH (P:=P) (ops:=ops) hpl hq hnl' hx2
    obtain⟨i1,i2,i3,i4,i5,i6,i7⟩:=(E1 st q1 d1).1 e1
    obtain⟨j1,j2,j3,j4,j5,j6,j7⟩:=(E2 { st with objs:=q1 } q2 d2).1 e2
    have hne:st.np+d1'≠st.np+d2':=fun e=>a2 d1' i1 (by rw[j1];congr 1;omega)
    have j3':q1[st.np+d2']?=some .fresh:=j3
    have j4':q2=q1.set (st.np+d2') x2:=j4
    subst i4
    have hf2:st.objs[st.np+d2']?=some .fresh:=by rw[List.getElem?_set_ne hne] at j3';exact j3'
    have e3:fW P Γ ops oj st=some (st.objs.set (st.np+d2') x2,d2):=(E2 st _ _).2 ⟨j1,j2,hf2,rfl,j5,by
     rw[Bool.or_eq_true] at j6 ⊢
     refine j6.imp (fun h=>?_) id
     have h:QT (vT Γ) (st.objs.set (st.np+d1') x1) q2=true:=h
     rw[j4'] at h
     exact Fa hne hf2 h,j7⟩
    refine⟨st.with oj.dst (st.objs.set (st.np+d2') x2,d2),by rw[e3];rfl,?_⟩
    rw[back]
    have e5:fW P Γ ops oi { st with objs:=st.objs.set (st.np+d2') x2 }=some (q2,d1):=(E1 _ _ _).2 ⟨i1,i2,by
     show (st.objs.set (st.np+d2') x2)[st.np+d1']?=_
     rw[List.getElem?_set_ne hne.symm];exact i3,by
     rw[j4']
     exact List.set_comm _ _ hne,i5,by
     rw[Bool.or_eq_true] at i6 ⊢
     refine i6.imp (fun h=>?_) id
     show QT (vT Γ) (st.objs.set (st.np+d2') x2) q2=true
     rw[j4',List.set_comm _ _ hne]
     exact Fb hne i3 h,i7⟩
    rw[e5]
    simp only[Option.map_some]
    have:=fin q2 d2
    have r2:((st.with oj.dst (st.objs.set (st.np+d2') x2,d2)).with oi.dst (q2,d1))=((st.with oj.dst (q2,d2)).with oi.dst (q2,d1)):=by
     unfold St.with
     cases oj.dst <;> rfl
    rw[r2,this]
   ·have hq:=hpl.2.2.2.1 hq0
    have hnl':(!pl.contains 28999999)=true:=by simpa using hnl
    obtain⟨k1,x1,n1,f1,g1,E1⟩:=Ez (P:=P) (ops:=ops) hpl hq hnl' hx1 e1
    obtain⟨k2,x2,n2,f2,g2,E2⟩:=Ez (P:=P) (ops:=ops) hpl hq hnl' hx2 e2
    subst g1
    have f2':(st.objs.set (st.np+k1) x1)[st.np+k2]?=some .fresh:=f2
    have g2':q2=(st.objs.set (st.np+k1) x1).set (st.np+k2) x2:=g2
    have hlt:st.np+k1<st.objs.length:=(List.getElem?_eq_some_iff.1 f1).1
    have hne:st.np+k1≠st.np+k2:=fun e=>by
     rw[←e,List.getElem?_set_self hlt] at f2'
     cases f2'
     exact n1 rfl
    have hf2:st.objs[st.np+k2]?=some .fresh:=by rw[List.getElem?_set_ne hne] at f2';exact f2'
    have e3:fW P Γ ops oj st=some (st.objs.set (st.np+k2) x2,d2):=E2 st.objs hf2
    refine⟨st.with oj.dst (st.objs.set (st.np+k2) x2,d2),by rw[e3];rfl,?_⟩
    rw[back]
    have e5:fW P Γ ops oi { st with objs:=st.objs.set (st.np+k2) x2 }=some (q2,d1):=by
     rw[E1 (st.objs.set (st.np+k2) x2) (by rw[List.getElem?_set_ne hne.symm];exact f1),g2',List.set_comm _ _ hne]
    rw[e5]
    simp only[Option.map_some]
    have:=fin q2 d2
    have r2:((st.with oj.dst (st.objs.set (st.np+k2) x2,d2)).with oi.dst (q2,d1))=((st.with oj.dst (q2,d2)).with oi.dst (q2,d1)):=by
     unfold St.with
     cases oj.dst <;> rfl
    rw[r2,this]
   ·-- a load from a box,then a store into an element
    have hq:q1=st.objs:=XM hN hpl hlb e1
    subst hq
    exact caseq rfl fun q hqq=>by
     subst hqq
     exact BK hpl hlb (XL hpl hfe e2) e1
   ·have hq2:q2=q1:=XM (st:={ st with objs:=q1 }) hN hpl hlb e2
    subst hq2
    have e3:fW P Γ ops oj st=some (st.objs,d2):=BK (st:={ st with objs:=q2 }) (q:=st.objs) hpl hlb (XL hpl hfe e1).symm e2
    refine⟨st.with oj.dst (st.objs,d2),by rw[e3];rfl,?_⟩
    rw[back]
    have e5:fW P Γ ops oi { st with objs:=st.objs }=some (q2,d1):=e1
    rw[e5]
    simp only[Option.map_some]
    have:=fin q2 d2
    have r2:((st.with oj.dst (st.objs,d2)).with oi.dst (q2,d1))=((st.with oj.dst (q2,d2)).with oi.dst (q2,d1)):=by
     unfold St.with
     cases oj.dst <;> rfl
    rw[r2,this]
   ·-- a length,then a store into a box
    have hq:q1=st.objs:=PI hN hpl hln e1
    subst hq
    exact caseq rfl fun q hqq=>by
     subst hqq
     exact BM hln (XO (pl:=pl) hfb e2) e1
   ·have hq2:q2=q1:=PI (st:={ st with objs:=q1 }) hN hpl hln e2
    subst hq2
    have e3:fW P Γ ops oj st=some (st.objs,d2):=BM (st:={ st with objs:=q2 }) (q:=st.objs) hln (XO (pl:=pl) hfb e1).symm e2
    refine⟨st.with oj.dst (st.objs,d2),by rw[e3];rfl,?_⟩
    rw[back]
    have e5:fW P Γ ops oi { st with objs:=st.objs }=some (q2,d1):=e1
    rw[e5]
    simp only[Option.map_some]
    have:=fin q2 d2
    have r2:((st.with oj.dst (st.objs,d2)).with oi.dst (q2,d1))=((st.with oj.dst (q2,d2)).with oi.dst (q2,d1)):=by
     unfold St.with
     cases oj.dst <;> rfl
    rw[r2,this]
   ·-- a load from a box,then a store off the list A
    have hq:q1=st.objs:=XQ hN hpl hlc e1
    subst hq
    exact caseq rfl fun q hqq=>by
     subst hqq
     exact BL hpl hlc (XP hpl hfc e2) e1
   ·have hq2:q2=q1:=XQ (st:={ st with objs:=q1 }) hN hpl hlc e2
    subst hq2
    have e3:fW P Γ ops oj st=some (st.objs,d2):=BL (st:={ st with objs:=q2 }) (q:=st.objs) hpl hlc (XP hpl hfc e1).symm e2
    refine⟨st.with oj.dst (st.objs,d2),by rw[e3];rfl,?_⟩
    rw[back]
    have e5:fW P Γ ops oi { st with objs:=st.objs }=some (q2,d1):=e1
    rw[e5]
    simp only[Option.map_some]
    have:=fin q2 d2
    have r2:((st.with oj.dst (st.objs,d2)).with oi.dst (q2,d1))=((st.with oj.dst (q2,d2)).with oi.dst (q2,d1)):=by
     unfold St.with
     cases oj.dst <;> rfl
    rw[r2,this]
   ·-- a length,then a call
    have hq:q1=st.objs:=XS hN hpl hlg e1
    subst hq
    exact caseq rfl fun q hqq=>by
     subst hqq
     exact BN hpl hlg (XR hpl hfg e2) e1
   ·have hq2:q2=q1:=XS (st:={ st with objs:=q1 }) hN hpl hlg e2
    subst hq2
    have e3:fW P Γ ops oj st=some (st.objs,d2):=BN (st:={ st with objs:=q2 }) (q:=st.objs) hpl hlg (XR hpl hfg e1).symm e2
    refine⟨st.with oj.dst (st.objs,d2),by rw[e3];rfl,?_⟩
    rw[back]
    have e5:fW P Γ ops oi { st with objs:=st.objs }=some (q2,d1):=e1
    rw[e5]
    simp only[Option.map_some]
    have:=fin q2 d2
    have r2:((st.with oj.dst (st.objs,d2)).with oi.dst (q2,d1))=((st.with oj.dst (q2,d2)).with oi.dst (q2,d1)):=by
     unfold St.with
     cases oj.dst <;> rfl
    rw[r2,this]
   ·-- a cut,then an append
    have hq:q1=st.objs:=XU hN hpl hlh e1
    subst hq
    exact caseq rfl fun q hqq=>by
     subst hqq
     exact BO hpl hlh (XT hpl hfh e2) e1
   ·have hq2:q2=q1:=XU (st:={ st with objs:=q1 }) hN hpl hlh e2
    subst hq2
    have e3:fW P Γ ops oj st=some (st.objs,d2):=BO (st:={ st with objs:=q2 }) (q:=st.objs) hpl hlh (XT hpl hfh e1).symm e2
    refine⟨st.with oj.dst (st.objs,d2),by rw[e3];rfl,?_⟩
    rw[back]
    have e5:fW P Γ ops oi { st with objs:=st.objs }=some (q2,d1):=e1
    rw[e5]
    simp only[Option.map_some]
    have:=fin q2 d2
    have r2:((st.with oj.dst (st.objs,d2)).with oi.dst (q2,d1))=((st.with oj.dst (q2,d2)).with oi.dst (q2,d1)):=by
     unfold St.with
     cases oj.dst <;> rfl
    rw[r2,this]
   ·-- a new variable,then a call
    have hq:=hpl.2.2.2.1 hq0
    have hnl':(!pl.contains 28999999)=true:=by simpa using hnl
    obtain⟨x1,x2⟩:=Bool.and_eq_true_iff.1 hli
    obtain⟨d1',x,g1,hd1,E1⟩:=PH (P:=P) (ops:=ops) hpl hq hnl' x1
    obtain⟨i1,i2,i3,i4,i5,i6,i7⟩:=(E1 st q1 d1).1 e1
    obtain⟨hKi,hls⟩:(st.np+d1')∈Tg Γ∧j0 (bE Γ) oi.dst=true:=by
     rw[i1] at i7 x2 ⊢
     have aux:∀n:Nat,90000000+(1600000+n)=91600000+n:=fun n=>by omega
     have hgs:(fC Γ).contains (1600000+d1')=true:=hpl.2.2.2.2.2.2.2.1 (1600000+d1') (by rw[aux];exact x2)
     unfold GJ at i7
     dsimp only at i7
     rw[hgs] at i7
     simp only[Bool.not_true,Bool.false_or,Bool.and_eq_true] at i7
     exact⟨by simpa using i7.1,i7.2⟩
    subst i4
    have hlt:st.np+d1'<st.objs.length:=(List.getElem?_eq_some_iff.1 i3).1
    obtain⟨c1,c2,c3⟩:=Fe hq hpl hfi e2 hKi
    have hbx:=hd1.2 i2
    have hset:(st.objs.set (st.np+d1') x).set (st.np+d1') .fresh=st.objs:=by
     rw[List.set_set]
     refine List.ext_getElem? fun j=>?_
     by_cases hj:st.np+d1'=j
     ·subst hj
      rw[List.getElem?_set_self hlt,i3]
     ·rw[List.getElem?_set_ne hj]
    have e3:fW P Γ ops oj st=some (q2.set (st.np+d1') .fresh,d2):=by
     have:=c3 .fresh
     dsimp only at this
     rw[hset] at this
     exact this
    have hqx:q2[st.np+d1']?=some x:=by
     rw[c2 (by
      show G6 (st.objs.set (st.np+d1') x)[st.np+d1']?=true
      rw[List.getElem?_set_self hlt]
      cases x <;> first | rfl | (cases hbx;done))]
     exact List.getElem?_set_self hlt
    have hlt2:st.np+d1'<q2.length:=(List.getElem?_eq_some_iff.1 hqx).1
    have hset2:(q2.set (st.np+d1') .fresh).set (st.np+d1') x=q2:=by
     rw[List.set_set]
     refine List.ext_getElem? fun j=>?_
     by_cases hj:st.np+d1'=j
     ·subst hj
      rw[List.getElem?_set_self hlt2,hqx]
     ·rw[List.getElem?_set_ne hj]
    refine⟨st.with oj.dst (q2.set (st.np+d1') .fresh,d2),by rw[e3];rfl,?_⟩
    rw[back]
    have e5:fW P Γ ops oi { st with objs:=q2.set (st.np+d1') .fresh }=some (q2,d1):=(E1 _ _ _).2 ⟨i1,i2,List.getElem?_set_self hlt2,hset2.symm,i5,by
     rw[hls,Bool.or_true],i7⟩
    rw[e5]
    simp only[Option.map_some]
    have:=fin q2 d2
    have r2:((st.with oj.dst (q2.set (st.np+d1') .fresh,d2)).with oi.dst (q2,d1))=((st.with oj.dst (q2,d2)).with oi.dst (q2,d1)):=by
     unfold St.with
     cases oj.dst <;> rfl
    rw[r2,this]
   ·-- a call,then a new variable
    have hq:=hpl.2.2.2.1 hq0
    have hnl':(!pl.contains 28999999)=true:=by simpa using hnl
    obtain⟨x1,x2⟩:=Bool.and_eq_true_iff.1 hli
    obtain⟨d1',x,g1,hd1,E1⟩:=PH (P:=P) (ops:=ops) hpl hq hnl' x1
    obtain⟨i1,i2,i3,i4,i5,i6,i7⟩:=(E1 { st with objs:=q1 } q2 d2).1 e2
    obtain⟨hKi,hls⟩:(st.np+d1')∈Tg Γ∧j0 (bE Γ) oj.dst=true:=by
     rw[i1] at i7 x2 ⊢
     have aux:∀n:Nat,90000000+(1600000+n)=91600000+n:=fun n=>by omega
     have hgs:(fC Γ).contains (1600000+d1')=true:=hpl.2.2.2.2.2.2.2.1 (1600000+d1') (by rw[aux];exact x2)
     unfold GJ at i7
     dsimp only at i7
     rw[hgs] at i7
     simp only[Bool.not_true,Bool.false_or,Bool.and_eq_true] at i7
     exact⟨by simpa using i7.1,i7.2⟩
    obtain⟨c1,c2,c3⟩:=Fe hq hpl hfi e1 hKi
    have i3':q1[st.np+d1']?=some .fresh:=i3
    have i4':q2=q1.set (st.np+d1') x:=i4
    have hfr:st.objs[st.np+d1']?=some .fresh:=by
     cases ho:G6 st.objs[st.np+d1']? with
     | true=>
      have:=c2 ho
      rw[i3'] at this
      rw[←this] at ho
      cases ho
     | false=>
      rw[List.getElem?_eq_getElem c1] at ho ⊢
      cases hx:st.objs[st.np+d1'] <;> rw[hx] at ho <;> first | rfl | (cases ho;done)
    have e3:fW P Γ ops oj st=some (st.objs.set (st.np+d1') x,d2):=(E1 st _ _).2 ⟨i1,i2,hfr,rfl,i5,by
     rw[hls,Bool.or_true],i7⟩
    refine⟨st.with oj.dst (st.objs.set (st.np+d1') x,d2),by rw[e3];rfl,?_⟩
    rw[back]
    have e5:fW P Γ ops oi { st with objs:=st.objs.set (st.np+d1') x }=some (q2,d1):=by rw[c3 x,i4']
    rw[e5]
    simp only[Option.map_some]
    have:=fin q2 d2
    have r2:((st.with oj.dst (st.objs.set (st.np+d1') x,d2)).with oi.dst (q2,d1))=((st.with oj.dst (q2,d2)).with oi.dst (q2,d1)):=by
     unfold St.with
     cases oj.dst <;> rfl
    rw[r2,this]
end
section
variable {P:Program} {Γ:FuncId→Option Callee} {ops:Array Oper} {pl:List Nat}
def Ff(P:Program)(Γ:FuncId→Option Callee)(ops:Array Oper)(e:St→Prop):Nat→Array Bool→St→Prop
 | 0,listed,st=>Region.ready .any ops listed=[]∧e st
 | fuel+1,listed,st=>(Region.ready .any ops listed=[]→e st)∧∀i∈Region.ready .any ops listed,∃st',qK P Γ ops i st=some st'∧Ff P Γ ops e fuel (listed.setIfInBounds i true) st'
inductive Blk (ops:Array Oper) (listed:Array Bool) (i:Nat):Nat→Prop
 | one {j:Nat} {oj:Oper} {e:Edge} (hj:ops[j]?=some oj) (he:e∈oj.after) (hb:Region.binds .any e=true) (hi:e.on=i):Blk ops listed i j
 | via {j:Nat} {oj:Oper} {e:Edge} (hj:ops[j]?=some oj) (he:e∈oj.after) (hb:Region.binds .any e=true) (hu:listed.getD e.on true=false) (h:Blk ops listed i e.on):Blk ops listed i j
theorem XV{listed:Array Bool}{i:Nat}:∀(fuel j:Nat),Ko ops listed i fuel j=true→Blk ops listed i j
 | 0,_,h=>by cases h
 | fuel+1,j,h=>by
  unfold Ko at h
  cases hj:ops[j]? with
  | none=>rw[hj] at h;cases h
  | some oj=>
   rw[hj] at h
   obtain⟨e,he,h2⟩:=Array.any_eq_true'.1 h
   simp only[Bool.and_eq_true,Bool.or_eq_true,beq_iff_eq,Bool.not_eq_true'] at h2
   obtain⟨hb,h3 | ⟨h3,h4⟩⟩:=h2
   ·exact .one hj he hb h3
   ·exact .via hj he hb h3 (XV fuel e.on h4)
theorem U3{i:Nat}{oi:Oper}{listed:Array Bool}(hi:ops[i]?=some oi)(h:Eu ops pl listed i=true)(j:Nat)(oj:Oper)(hj:ops[j]?=some oj)(hne:j≠i)(hun:listed.getD j true=false)
 (hno:¬Blk ops listed i j):NG ops pl oi oj=true:=by
 simp only[Eu,hi,List.all_eq_true,List.mem_range] at h
 have h1:=h j (Array.getElem?_eq_some_iff.1 hj).1
 simp only[hj,Bool.or_eq_true,beq_iff_eq,hne,false_or,hun,Bool.false_eq_true] at h1
 rcases h1 with h1 | h1
 ·exact absurd (XV _ _ h1) hno
 ·exact h1
theorem Ks{listed:Array Bool}{i j:Nat}(hi:listed.getD i true=false)(hr:j∈Region.ready .any ops listed):¬Blk ops listed i j:=by
 intro h
 obtain⟨_,oj,hoj,hall⟩:=mem_ready.1 hr
 have key:∀(m:Nat),listed.getD m true=false→listed.getD m false=true→False:=fun m h1 h0=>by
  rcases Nat.lt_or_ge m listed.size with h' | h'
  ·simp[h'] at h0 h1;rw[h0] at h1;cases h1
  ·simp[Array.getElem?_eq_none h'] at h1
 cases h with
 | one hj he hb hie=>
  rw[hoj] at hj
  cases hj
  have:=hall _ he hb
  rw[hie] at this
  exact key i hi this
 | via hj he hb hu h=>
  rw[hoj] at hj
  cases hj
  exact key _ hu (hall _ he hb)
theorem Blk.grow{listed:Array Bool}{i j':Nat}(hj':¬Blk ops listed i j'):∀{k:Nat},Blk ops listed i k→Blk ops (listed.setIfInBounds j' true) i k:=by
 intro k h
 induction h with
 | one hj he hb hi=>exact .one hj he hb hi
 | via hj he hb hu h ih=>
  refine .via hj he hb ?_ ih
  rw[getD_set_ne true (fun e=>hj' (by rw[e];exact h))]
  exact hu
theorem U4{e:St→Prop}(hN:∀f A,Γ f=some A→A.Nat)(hpl:k4 Γ pl){i:Nat}{oi:Oper}(hi:ops[i]?=some oi):
 ∀(fuel:Nat) (listed:Array Bool) (st st1:St),
  (∀j oj,ops[j]?=some oj→j≠i→listed.getD j true=false→¬Blk ops listed i j→NG ops pl oi oj=true) →
  i∈Region.ready .any ops listed→qK P Γ ops i st=some st1→Ff P Γ ops e fuel (listed.setIfInBounds i true) st1→Ff P Γ ops e (fuel+1) listed st:=by
 intro fuel
 induction fuel with
 | zero=>
  intro listed st st1 _ hr hy H
  refine⟨fun h=>(by rw[h] at hr;cases hr),fun j hj=>?_⟩
  by_cases hji:j=i
  ·subst hji;exact⟨st1,hy,H⟩
  ·have:=ready_mono hj hji
   rw[H.1] at this
   cases this
 | succ fuel ih=>
  intro listed st st1 hfree hr hy H
  refine⟨fun h=>(by rw[h] at hr;cases hr),fun j hj=>?_⟩
  by_cases hji:j=i
  ·subst hji;exact⟨st1,hy,H⟩
  ·obtain⟨st2,h1,h2⟩:=H.2 j (ready_mono hj hji)
   obtain⟨hjun,oj,hoj,hall⟩:=mem_ready.1 hj
   have hnb:¬Blk ops listed i j:=Ks (mem_ready.1 hr).1 hj
   obtain⟨st1',g1,g2⟩:=Ar hN hpl hi hoj (hfree j oj hoj hji hjun hnb) hy h1
   have hfree':∀k ok,ops[k]?=some ok→k≠i→(listed.setIfInBounds j true).getD k true=false →
    ¬Blk ops (listed.setIfInBounds j true) i k→NG ops pl oi ok=true:=fun k ok hk hki hun hno=>by
    refine hfree k ok hk hki ?_ (fun hb=>hno (hb.grow hnb))
    by_cases hjk:j=k
    ·subst hjk;exact hjun
    ·rw[getD_set_ne true hjk] at hun;exact hun
   refine⟨st1',g1,ih (listed.setIfInBounds j true) st1' st2 hfree' (ready_mono hr (Ne.symm hji)) g2 ?_⟩
   rw[Array.setIfInBounds_comm _ _ hji]
   exact h2
theorem SD{e:St→Prop}(hN:∀f A,Γ f=some A→A.Nat)(hpl:k4 Γ pl):∀(n k:Nat) (listed:Array Bool) (st st':St),k+n=ops.size →
 Ev ops pl n k listed=true→(List.range' k n).foldlM (fun st i=>qK P Γ ops i st) st=some st'→e st'→Ff P Γ ops e n listed st
 | 0,k,listed,st,st',_,hB,h,he=>by
  cases h
  exact⟨by simpa[Ev] using hB,he⟩
 | n+1,k,listed,st,st',hk,hB,h,he=>by
  have hlt:k<ops.size:=by omega
  have h0:ops[k]?=some ops[k]:=Array.getElem?_eq_getElem hlt
  simp only[Ev,Bool.and_eq_true] at hB
  obtain⟨⟨hr,hf⟩,hB'⟩:=hB
  rw[List.range'_succ,List.foldlM_cons] at h
  cases hs:qK P Γ ops k st with
  | none=>rw[hs] at h;cases h
  | some st1=>
   rw[hs] at h
   exact U4 hN hpl h0 n listed st st1 (U3 h0 hf) (by simpa using hr) hs (SD hN hpl n (k+1) _ st1 st' (by omega) hB' h he)
theorem U5{e:St→Prop}:∀(fuel t:Nat) (listed:Array Bool) (st:St),Ff P Γ ops e fuel listed st →
 ∃st',(Region.linearise.go .any ops fuel t listed []).foldlM (fun st i=>qK P Γ ops i st) st=some st'∧e st':=by
 intro fuel
 induction fuel with
 | zero=>intro t listed st h;exact⟨st,by simp[Region.linearise.go],h.2⟩
 | succ fuel ih=>
  intro t listed st h
  obtain⟨h₀,h₁⟩:=h
  simp only[Region.linearise.go]
  change ∃st',(match (Region.ready .any ops listed)[t%(Region.ready .any ops listed).length]? with
   | some i=>Region.linearise.go .any ops fuel (t/(Region.ready .any ops listed).length) (listed.setIfInBounds i true) [i]
   | none=>[].reverse).foldlM (fun st i=>qK P Γ ops i st) st=some st'∧e st'
  cases hi:(Region.ready .any ops listed)[t%(Region.ready .any ops listed).length]? with
  | none=>
   have hnil:Region.ready .any ops listed=[]:=by
    cases hr:Region.ready .any ops listed with
    | nil=>rfl
    | cons x xs=>
     rw[hr] at hi
     have hlt:t%(x::xs).length<(x::xs).length:=Nat.mod_lt _ (by simp)
     simp at hi
     simp at hlt
     omega
   exact⟨st,rfl,h₀ hnil⟩
  | some i=>
   simp only[]
   rw[linearise_go_acc,List.reverse_singleton,List.singleton_append,List.foldlM_cons]
   obtain⟨st1,g1,g2⟩:=h₁ i (List.mem_of_getElem? hi)
   obtain⟨st',g3,g4⟩:=ih (t/(Region.ready .any ops listed).length) _ st1 g2
   exact⟨st',by rw[g1];exact g3,g4⟩
theorem Fg(hm:P.follows .mixedOrders=true)(hΓ:GOK P Γ)(hN:∀f A,Γ f=some A→A.Nat)(hpl:k4 Γ pl):UJ P Γ (Nw pl):=by
 intro ops hd R w0 F Xc ρ0 ρ st a w k r Q t hG h hk hn
 simp only[Region.schedule,hm,Bool.true_or,if_true]
 rw[AK hN,List.range_eq_range'] at hk
 cases hs:(List.range' 0 ops.size).foldlM (fun st i=>qK P Γ ops i st) st with
 | none=>rw[hs] at hk;cases hk
 | some st1=>
  rw[hs] at hk
  have ha:=SD (e:=fun st'=>k st'=some r) hN hpl ops.size 0 (Array.replicate ops.size false) st st1 (by omega) hd hs hk
  obtain⟨st',g1,g2⟩:=U5 ops.size t _ st ha
  refine OZ hΓ hG (Region.linearise .any ops t) h (k:=k) ?_ hn
  rw[AK hN]
  show ((Region.linearise.go .any ops ops.size t (Array.replicate ops.size false) []).foldlM (fun st i=>qK P Γ ops i st) st).bind k=some r
  rw[g1]
  exact g2
end
theorem eQ(sg:Sig)(U:n7 sg.hin.shapes→Option (n7 sg.hout.shapes)):(aB sg U).Nat:=by
 refine⟨?_,fun I h=>(by cases h),fun I h=>(by cases h)⟩
 intro R args po k
 simp only[aB]
 split
 ·refine(AJ _).trans (Eq.trans ?_ (congrArg (fun z:Option (List S1×List O)=>z.bind fun p=>k p.1 p.2) (AJ _)).symm)
  rw[Option.bind_assoc]
  refine congrArg _ (funext fun p=>?_)
  rw[aM]
  refine congrArg _ (funext fun q=>?_)
  split <;> rfl
 ·rfl
def U6:Sh→Bool
 | .int _=>true
 | .bool=>true
 | .str=>true
 | _=>false
def pN:Nat→List It→Bool
 | _,[]=>true
 | i,.slot j::l=>j==i&&pN (i+1) l
 | i,.aggs j _::l=>j==i&&pN (i+1) l
 | _,_=>false
def vY:List It→Nat
 | []=>0
 | .slot _::l=>1+vY l
 | .aggs _ n::l=>n+vY l
 | .box _ n::l=>n+vY l
 | .boxr _ _ n::l=>n+vY l
def PK(sg:Sig):Bool:=decide (sg.np=0)&&decide (sg.nnew=0)&&sg.hout.shapes.all U6&&pN 0 sg.hout.items&&decide (sg.hout.items.length=sg.nres)&&decide (vY sg.hout.items≤sg.hout.shapes.length)&&sg.kept.isEmpty
theorem NO:∀(l:List Sh) (t:n7 l),l.all U6=true→(tP l t).all yC=true∧(tP l t).length=l.length
 | [],_,_=>⟨rfl,rfl⟩
 | s::l,t,h=>by
  simp only[List.all_cons,Bool.and_eq_true] at h
  obtain⟨h1,h2⟩:=NO l t.2 h.2
  refine⟨?_,by simp[tP,h2]⟩
  simp only[tP,List.all_cons,Bool.and_eq_true]
  refine⟨?_,h1⟩
  cases s <;> first
   | rfl
   | (cases h.1;done)
theorem vZ:∀(l:List It) (i:Nat) (cs:List C) (st:St),pN i l=true→cs.all yC=true→vY l≤cs.length→i+l.length≤st.env.length →
 (∀j,j<i→∃s,st.env[j]?=some (.s s)∧s.list.all yC=true)→(b6 l cs st).objs=st.objs∧∀j,j<i+l.length→∃s,(b6 l cs st).env[j]?=some (.s s)∧s.list.all yC=true
 | [],i,cs,st,h1,h2,h3,h4,h5=>⟨rfl,h5⟩
 | .slot k::l,i,cs,st,h1,h2,h3,h4,h5=>by
  simp only[pN,Bool.and_eq_true,beq_iff_eq] at h1
  obtain⟨rfl,h1⟩:=h1
  simp only[List.length_cons] at h4
  cases cs with
  | nil=>simp[vY] at h3
  | cons c cs=>
   simp only[List.all_cons,Bool.and_eq_true] at h2
   simp only[vY,List.length_cons] at h3
   obtain⟨e1,e2⟩:=vZ l (k+1) cs { st with env:=st.env.set k (.s (.c c)) } h1 h2.2 (by omega) (by simp;omega) (fun j hj=>by
    by_cases hjk:k=j
    ·subst hjk
     exact⟨.c c,by rw[List.getElem?_set_self (by omega)],by simp[S1.list,h2.1]⟩
    ·obtain⟨s,q1,q2⟩:=h5 j (by omega)
     exact⟨s,by simp only[];rw[List.getElem?_set_ne hjk];exact q1,q2⟩)
   simp only[b6,List.tail_cons,List.headD_cons]
   refine⟨e1,fun j hj=>e2 j (by simp only[List.length_cons] at hj;omega)⟩
 | .aggs k n::l,i,cs,st,h1,h2,h3,h4,h5=>by
  simp only[pN,Bool.and_eq_true,beq_iff_eq] at h1
  obtain⟨rfl,h1⟩:=h1
  simp only[List.length_cons] at h4
  simp only[vY] at h3
  obtain⟨e1,e2⟩:=vZ l (k+1) (cs.drop n) { st with env:=st.env.set k (.s (.agg (cs.take n))) } h1 (List.all_eq_true.2 fun x hx=>List.all_eq_true.1 h2 x (List.mem_of_mem_drop hx)) (by rw[List.length_drop];omega) (by simp;omega) (fun j hj=>by
   by_cases hjk:k=j
   ·subst hjk
    exact⟨.agg (cs.take n),by rw[List.getElem?_set_self (by omega)],List.all_eq_true.2 fun x hx=>List.all_eq_true.1 h2 x (List.mem_of_mem_take hx)⟩
   ·obtain⟨s,q1,q2⟩:=h5 j (by omega)
    exact⟨s,by simp only[];rw[List.getElem?_set_ne hjk];exact q1,q2⟩)
  simp only[b6]
  refine⟨e1,fun j hj=>e2 j (by simp only[List.length_cons] at hj;omega)⟩
 | .box _ _::_,i,cs,st,h1,_,_,_,_=>by simp[pN] at h1
 | .boxr _ _ _::_,i,cs,st,h1,_,_,_,_=>by simp[pN] at h1
theorem GU:∀(l:List Sh) (t:n7 l),l.all U6=true→eP l t=[]
 | [],_,_=>rfl
 | s::l,t,h=>by
  simp only[List.all_cons,Bool.and_eq_true] at h
  cases s <;> first
   | exact GU l t.2 h.2
   | (cases h.1;done)
theorem L7{sg:Sig}{U:n7 sg.hin.shapes→Option (n7 sg.hout.shapes)}(h:PK sg=true):(aB sg U).Pure0:=by
 unfold PK at h
 simp only[Bool.and_eq_true,decide_eq_true_eq,List.isEmpty_iff] at h
 obtain⟨⟨⟨⟨⟨⟨h1,h2⟩,h3⟩,h4⟩,h5⟩,h6⟩,h7⟩:=h
 refine⟨⟨rfl,rfl⟩,?_⟩
 intro args po rs po' hc
 simp only[aB] at hc
 split at hc
 ·rename_i hlen
  have hpo:po=[]:=List.eq_nil_of_length_eq_zero (by omega)
  rw[AJ] at hc
  obtain⟨t,_,hc⟩:=Option.bind_eq_some_iff.1 hc
  obtain⟨q,_,hq⟩:=aC hc
  split at hq
  ·rename_i X3 hrs
   simp only[Option.some.injEq,Prod.mk.injEq] at hq
   obtain⟨e1,e2⟩:=hq
   obtain⟨g1,g2⟩:=NO sg.hout.shapes q h3
   have hno:sg.no=sg.nres:=by simp[Sig.no,h7]
   obtain⟨s1,s2⟩:=vZ sg.hout.items 0 (tP sg.hout.shapes q) (gL sg.np sg.no (sg.np+sg.nnew)) h4 g1 (by rw[g2];exact h6) (by simp[gL,hno,h5]) (fun j hj=>by omega)
   have hob:(bU sg.hout sg.np sg.no (sg.np+sg.nnew) q).objs=[]:=by
    unfold bU
    simp only[GU _ _ h3,jF,s1]
    simp[gL,h1,h2]
   refine⟨hpo,by rw[←e2,hob],?_⟩
   rw[←e1]
   have hs:=B7 hrs
   refine List.all_eq_true.2 fun s hs'=>?_
   obtain⟨j,hj⟩:=List.mem_iff_getElem?.1 hs'
   have h8:=congrArg (fun z=>z[j]?) hs
   simp only[List.getElem?_map,hj,Option.map_some,List.getElem?_take] at h8
   split at h8
   ·rename_i hjl
    obtain⟨s',q1,q2⟩:=s2 j (by omega)
    have h9:(bU sg.hout sg.np sg.no (sg.np+sg.nnew) q).env[j]?=some (.s s'):=q1
    rw[h9] at h8
    cases h8
    exact q2
   ·cases h8
  ·cases hq
 ·cases hc
structure TabOK (P:Program) (pl:List Nat) (l:List (FuncId×Callee)):Prop where
 gok:GOK P (kZ l)
 nat:∀f A,kZ l f=some A→A.Nat
 pure:k4 (kZ l) pl
theorem PL{pl:List Nat}(h:pl.all (fun n=>decide (n<82000000))=true){m:Nat}(hm:82000000≤m)(hc:pl.contains m=true):False:=by
 have:=List.all_eq_true.1 h m (by simpa using hc)
 have:=of_decide_eq_true this
 omega
theorem TabOK.nil{P:Program}{pl:List Nat}(h:pl.contains 9000000=false:=by kernel_rfl)(h2:pl.contains 9000002=false:=by kernel_rfl)(h3:pl.all (fun n=>decide (n<82000000))=true:=by kernel_rfl):TabOK P pl []:=
 ⟨.nil,fun _ _ h=>(by cases h),fun _ _ _ h=>(by cases h),fun _ _ _ h=>(by cases h),fun _ _ _ h=>(by cases h),fun h'=>(by rw[h] at h';cases h'),fun _ h=>(by cases h),fun h'=>(by rw[h2] at h';cases h'),fun _ h=>(by cases h),fun s hs=>(PL h3 (by omega) hs).elim,fun s _ hs=>(PL h3 (by omega) hs).elim⟩
def jU(B L:List Nat):Callee where
 call:=fun _ _ _=>none
 ext:=some ⟨fun _ _=>none⟩
 quiet:=B
 loose:=L
theorem Fh{P:Program}{B L:List Nat}:(jU B L).OK P 2000000:=⟨fun _ _ _ _ h=>(by cases h),fun I h=>(by cases h),fun I h=>(by
 cases h
 intro R w X ρ r ds vals k _ _ hk
 cases hk)⟩
theorem AO{B L:List Nat}:(jU B L).Nat:=⟨fun _ _ _=>rfl,fun I h=>(by cases h),fun I h=>(by
 cases h
 intro R ds k
 rfl)⟩
theorem TabOK.flag{P:Program}{pl:List Nat}{B L:List Nat}(hB:B.isEmpty=false)(h1:pl.contains 2000000=false)(h2:pl.contains 3000000=false)(h3:pl.contains 6000000=false)(h4:L.all (fun s=>pl.contains (20000000+s))=true)(h5:pl.all (fun n=>decide (n<82000000))=true:=by kernel_rfl):TabOK P pl [(2000000,jU B L)]:=by
 have hl:∀f A,kZ [(2000000,jU B L)] f=some A→f=2000000∧A=jU B L:=fun f A h=>by
  simp only[kZ] at h
  split at h
  ·rename_i e;cases h;exact⟨e.symm,rfl⟩
  ·cases h
 refine⟨fun f A h=>?_,fun f A h=>?_,fun f A hc h=>?_,fun f A hc h=>?_,fun f A hc h=>?_,fun _ h=>?_,fun s hs=>?_,fun _ f A hf h=>?_,fun A h=>?_,fun s hs=>(PL h5 (by omega) hs).elim,fun s _ hs=>(PL h5 (by omega) hs).elim⟩
 ·obtain⟨rfl,rfl⟩:=hl f A h;exact⟨fun he=>(by cases he),Fh⟩
 ·obtain⟨rfl,rfl⟩:=hl f A h;exact AO
 ·obtain⟨rfl,rfl⟩:=hl f A h;rw[h1] at hc;cases hc
 ·obtain⟨rfl,rfl⟩:=hl f A h;rw[h2] at hc;cases hc
 ·obtain⟨rfl,rfl⟩:=hl f A h;rw[h3] at hc;cases hc
 ·have h:B=[]:=h
  subst h
  cases hB
 ·have hs:L.contains s=true:=hs
  exact List.all_eq_true.1 h4 s (by simpa using hs)
 ·obtain⟨rfl,rfl⟩:=hl f A h;cases hf
 ·obtain⟨_,rfl⟩:=hl 2000000 A h
  exact⟨_,rfl,fun _ _=>rfl⟩
theorem TabOK.flagG0{P:Program}{pl:List Nat}{G S:List Nat}(h1:(pl.contains 2000002||pl.contains 3000002||pl.contains 6000002||pl.contains 9000002||pl.contains 9000000)=false)
 (h5:pl.all (fun n=>decide (n<82000000)||(decide (n<90000000)&&G.contains (n-82000000))||(decide (90000000≤n)&&S.contains (n-90000000)))=true):TabOK P pl [(2000002,jU G S)]:=by
 simp only[Bool.or_eq_false_iff] at h1
 obtain⟨⟨⟨⟨a4,a5⟩,a6⟩,a7⟩,a8⟩:=h1
 have hl:∀f A,kZ [(2000002,jU G S)] f=some A→(f=2000002∧A=jU G S):=fun f A h=>by
  simp only[kZ] at h
  split at h
  ·rename_i e;cases h;exact⟨e.symm,rfl⟩
  ·cases h
 have hok:∀{B L:List Nat} {f:FuncId},(jU B L).OK P f:=fun {B L f}=>⟨fun _ _ _ _ h=>(by cases h),fun I h=>(by cases h),fun I h=>(by
  cases h
  intro R w X ρ r ds vals k _ _ hk
  cases hk)⟩
 refine⟨fun f A h=>?_,fun f A h=>?_,fun f A hc h=>?_,fun f A hc h=>?_,fun f A hc h=>?_,fun h _=>?_,fun s hs=>?_,fun hf=>?_,fun A h=>?_,fun s hs=>?_,fun t ht0 ht=>?_⟩
 ·obtain⟨rfl,rfl⟩:=hl f A h;exact⟨fun he=>(by cases he),hok⟩
 ·obtain⟨rfl,rfl⟩:=hl f A h;exact AO
 ·obtain⟨rfl,rfl⟩:=hl f A h
  rw[a4] at hc;cases hc
 ·obtain⟨rfl,rfl⟩:=hl f A h
  rw[a5] at hc;cases hc
 ·obtain⟨rfl,rfl⟩:=hl f A h
  rw[a6] at hc;cases hc
 ·rw[a8] at h;cases h
 ·have hs:([]:List Nat).contains s=true:=hs
  cases hs
 ·rw[a7] at hf;cases hf
 ·obtain⟨e,_⟩:=hl 2000000 A h
  cases e
 ·have:=List.all_eq_true.1 h5 (90000000+s) (by simpa using hs)
  rw[Bool.or_eq_true,Bool.or_eq_true,Bool.and_eq_true,Bool.and_eq_true] at this
  rcases this with(h | ⟨h,_⟩) | ⟨_,h⟩
  ·have:=of_decide_eq_true h;omega
  ·have:=of_decide_eq_true h;omega
  ·have e:90000000+s-90000000=s:=by omega
   rw[e] at h
   exact h
 ·have:=List.all_eq_true.1 h5 (82000000+t) (by simpa using ht)
  rw[Bool.or_eq_true,Bool.or_eq_true,Bool.and_eq_true,Bool.and_eq_true] at this
  rcases this with(h | ⟨_,h⟩) | ⟨h,_⟩
  ·have:=of_decide_eq_true h;omega
  ·have e:82000000+t-82000000=t:=by omega
   rw[e] at h
   exact h
  ·have:=of_decide_eq_true h;omega
theorem TabOK.flagG{P:Program}{pl:List Nat}{B L G S:List Nat}(hB:B.isEmpty=false)(h1:(pl.contains 2000000||pl.contains 3000000||pl.contains 6000000||pl.contains 2000002||pl.contains 3000002||pl.contains 6000002||pl.contains 9000002)=false)(h4:L.all (fun s=>pl.contains (20000000+s))=true)
 (h5:pl.all (fun n=>decide (n<82000000)||(decide (n<90000000)&&G.contains (n-82000000))||(decide (90000000≤n)&&S.contains (n-90000000)))=true):TabOK P pl [(2000000,jU B L),(2000002,jU G S)]:=by
 simp only[Bool.or_eq_false_iff] at h1
 obtain⟨⟨⟨⟨⟨⟨a1,a2⟩,a3⟩,a4⟩,a5⟩,a6⟩,a7⟩:=h1
 have hl:∀f A,kZ [(2000000,jU B L),(2000002,jU G S)] f=some A→(f=2000000∧A=jU B L)∨(f=2000002∧A=jU G S):=fun f A h=>by
  simp only[kZ] at h
  split at h
  ·rename_i e;cases h;exact .inl ⟨e.symm,rfl⟩
  ·split at h
   ·rename_i e;cases h;exact .inr ⟨e.symm,rfl⟩
   ·cases h
 have hok:∀{B L:List Nat} {f:FuncId},(jU B L).OK P f:=fun {B L f}=>⟨fun _ _ _ _ h=>(by cases h),fun I h=>(by cases h),fun I h=>(by
  cases h
  intro R w X ρ r ds vals k _ _ hk
  cases hk)⟩
 refine⟨fun f A h=>?_,fun f A h=>?_,fun f A hc h=>?_,fun f A hc h=>?_,fun f A hc h=>?_,fun _ h=>?_,fun s hs=>?_,fun hf=>?_,fun A h=>?_,fun s hs=>?_,fun t ht0 ht=>?_⟩
 ·rcases hl f A h with⟨rfl,rfl⟩ | ⟨rfl,rfl⟩ <;> exact⟨fun he=>(by cases he),hok⟩
 ·rcases hl f A h with⟨rfl,rfl⟩ | ⟨rfl,rfl⟩ <;> exact AO
 ·rcases hl f A h with⟨rfl,rfl⟩ | ⟨rfl,rfl⟩
  ·rw[a1] at hc;cases hc
  ·rw[a4] at hc;cases hc
 ·rcases hl f A h with⟨rfl,rfl⟩ | ⟨rfl,rfl⟩
  ·rw[a2] at hc;cases hc
  ·rw[a5] at hc;cases hc
 ·rcases hl f A h with⟨rfl,rfl⟩ | ⟨rfl,rfl⟩
  ·rw[a3] at hc;cases hc
  ·rw[a6] at hc;cases hc
 ·have h:B=[]:=h
  subst h
  cases hB
 ·have hs:L.contains s=true:=hs
  exact List.all_eq_true.1 h4 s (by simpa using hs)
 ·rw[a7] at hf;cases hf
 ·rcases hl 2000000 A h with⟨_,rfl⟩ | ⟨e,_⟩
  ·exact⟨_,rfl,fun _ _=>rfl⟩
  ·cases e
 ·have:=List.all_eq_true.1 h5 (90000000+s) (by simpa using hs)
  rw[Bool.or_eq_true,Bool.or_eq_true,Bool.and_eq_true,Bool.and_eq_true] at this
  rcases this with(h | ⟨h,_⟩) | ⟨_,h⟩
  ·have:=of_decide_eq_true h;omega
  ·have:=of_decide_eq_true h;omega
  ·have e:90000000+s-90000000=s:=by omega
   rw[e] at h
   exact h
 ·have:=List.all_eq_true.1 h5 (82000000+t) (by simpa using ht)
  rw[Bool.or_eq_true,Bool.or_eq_true,Bool.and_eq_true,Bool.and_eq_true] at this
  rcases this with(h | ⟨_,h⟩) | ⟨h,_⟩
  ·have:=of_decide_eq_true h;omega
  ·have e:82000000+t-82000000=t:=by omega
   rw[e] at h
   exact h
  ·have:=of_decide_eq_true h;omega
theorem TabOK.consP{P:Program}{pl:List Nat}{f:FuncId}{A:Callee}{l:List (FuncId×Callee)}(hc:A.ext=none→rM P f)(hA:A.OK P f)(hn:A.Nat)(hp:pl.contains f=true→A.Pure)(hq:pl.contains (f+1000000)=true→A.PureP)
 (hF:(pl.contains (f+4000000)||pl.contains 9000002)=true→A.Framed) (hne:(f==2000000)=false) (hl:TabOK P pl l) (hne2:(f==2000002)=false:=by kernel_rfl):TabOK P pl ((f,A)::l):=by
 have hlk:kZ ((f,A)::l) 2000000=kZ l 2000000:=by
  simp only[kZ]
  rw[if_neg (by intro h;subst h;cases hne)]
 have hqo:vT (kZ ((f,A)::l))=vT (kZ l):=by
  unfold vT
  rw[hlk]
 have hlo:bE (kZ ((f,A)::l))=bE (kZ l):=by
  unfold bE
  rw[hlk]
 have hlk2:kZ ((f,A)::l) 2000002=kZ l 2000002:=by
  simp only[kZ]
  rw[if_neg (by intro h;subst h;cases hne2)]
 have hgs:fC (kZ ((f,A)::l))=fC (kZ l):=by
  unfold fC
  rw[hlk2]
 have hgt:CF (kZ ((f,A)::l))=CF (kZ l):=by
  unfold CF
  rw[hlk2]
 refine⟨.cons hc hA hl.gok,fun g B h=>?_,fun g B hg h=>?_,fun g B hg h=>?_,fun g B hg h=>?_,fun hg=>(by rw[hqo];exact hl.pure.2.2.2.1 hg),fun s hs=>(by rw[hlo] at hs;exact hl.pure.2.2.2.2.1 s hs),fun hg g B hg2 h=>?_,fun B h=>?_,fun s hs=>(by rw[hgs];exact hl.pure.2.2.2.2.2.2.2.1 s hs),fun s hs2 hs=>(by rw[hgt];exact hl.pure.2.2.2.2.2.2.2.2 s hs2 hs)⟩
 ·simp only[kZ] at h
  split at h
  ·cases h;exact hn
  ·exact hl.nat g B h
 ·simp only[kZ] at h
  split at h
  ·rename_i e;cases h;subst e;exact hp hg
  ·exact hl.pure.1 g B hg h
 ·simp only[kZ] at h
  split at h
  ·rename_i e;cases h;subst e;exact hq hg
  ·exact hl.pure.2.1 g B hg h
 ·simp only[kZ] at h
  split at h
  ·rename_i e;cases h;subst e;exact hF (by rw[hg];rfl)
  ·exact hl.pure.2.2.1 g B hg h
 ·simp only[kZ] at h
  split at h
  ·rename_i e;cases h;subst e;exact hF (by rw[hg];exact Bool.or_true _)
  ·exact hl.pure.2.2.2.2.2.1 hg g B hg2 h
 ·rw[hlk] at h
  exact hl.pure.2.2.2.2.2.2.1 B h
theorem TabOK.cons{P:Program}{pl:List Nat}{f:FuncId}{A:Callee}{l:List (FuncId×Callee)}(hc:A.ext=none→rM P f)(hA:A.OK P f)(hn:A.Nat)(hp:pl.contains f=true→A.Pure0)(hq:pl.contains (f+1000000)=false)
 (hF:(pl.contains (f+4000000)||pl.contains 9000002)=true→A.Framed) (hne:(f==2000000)=false) (hl:TabOK P pl l) (hne2:(f==2000002)=false:=by kernel_rfl):TabOK P pl ((f,A)::l):=
 hl.consP hc hA hn (fun h=>(hp h).pure hn) (fun h=>by rw[hq] at h;cases h) hF hne hne2
theorem TabOK.rrs{P:Program}{pl:List Nat}{L:List Nat}{l:List (FuncId×Callee)}(h1:(pl.contains 2000001||pl.contains 3000001||pl.contains 6000001||pl.contains 9000002)=false)(hl:TabOK P pl l):TabOK P pl ((2000001,jU [] L)::l):=by
 simp only[Bool.or_eq_false_iff] at h1
 obtain⟨⟨⟨h1,h2⟩,h3⟩,h4⟩:=h1
 refine hl.consP (fun he=>by cases he) ⟨fun _ _ _ _ h=>(by cases h),fun I h=>(by cases h),fun I h=>(by
  cases h
  intro R w X ρ r ds vals k _ _ hk
  cases hk)⟩ AO (fun h=>by rw[h1] at h;cases h) (fun h=>by rw[h2] at h;cases h) (fun h=>by rw[h3,h4] at h;cases h) rfl
def rV(ds:List D):Bool:=ds.all fun d=>match d with
 | .s s=>s.list.all vM
 | .tup _=>false
def Callee.strict(A:Callee):Callee where
 call:=fun args po k=>A.call args po fun rs po'=>if po'.isEmpty&&rs.all (fun s=>s.list.all vM) then k rs po' else none
def Ti(A:Callee):Callee where
 call:=fun _ _ _=>none
 inl:=some ⟨fun st dst ds k=>if rV ds=true then qB A.strict st dst ds k else none⟩
theorem As{P:Program}{f:FuncId}{A:Callee}(h:A.OK P f):A.strict.OK P f:=by
 refine⟨?_,fun I h=>(by cases h),fun I h=>(by cases h)⟩
 intro R args po k r hk
 obtain⟨rs,po',h1,h2⟩:=h.1 args po _ r hk
 split at h1
 ·exact⟨rs,po',h1,h2⟩
 ·cases h1
theorem U7{A:Callee}(h:A.Nat):A.strict.Nat:=by
 refine⟨?_,fun I h=>(by cases h),fun I h=>(by cases h)⟩
 intro R args po k
 show (A.call args po _)=(A.call args po _).bind _
 refine(h.1 _ _ _).trans (Eq.trans ?_ (congrArg (fun z:Option (List S1×List O)=>z.bind fun p=>k p.1 p.2) (h.1 _ _ _)).symm)
 rw[Option.bind_assoc]
 refine congrArg _ (funext fun p=>?_)
 split <;> rfl
theorem U8{P:Program}{f:FuncId}{A:Callee}(h:A.OK P f):(Ti A).OK P f:=by
 refine⟨fun _ _ _ _ h=>(by cases h),fun I hI=>?_,fun I h=>(by cases h)⟩
 cases hI
 intro R w0 w F Xc ρ0 ρ st a r dst ds vals k hG hR hlen hd hk
 dsimp only at hk
 split at hk
 ·exact IJ hG (As h) hR hlen hd hk
 ·cases hk
theorem PM{A:Callee}(h:A.Nat):(Ti A).Nat:=by
 refine⟨fun _ _ _=>rfl,fun I hI=>?_,fun I h=>(by cases h)⟩
 cases hI
 intro R st dst ds k
 dsimp only
 split
 ·exact CH (U7 h) st dst ds k
 ·rfl
theorem SE:∀(l:List C),l.all vM=true→(l.flatMap C.ks=[]∧∀(st:St) (j:Nat),iT st [] j [] l=some (l,[]))∧fF [] l=[]
 | [],_=>⟨⟨rfl,fun _ _=>rfl⟩,rfl⟩
 | c::l,h=>by
  simp only[List.all_cons,Bool.and_eq_true] at h
  obtain⟨⟨h1,h2⟩,h3⟩:=SE l h.2
  cases c <;> first
   | (cases h.1;done)
   | (refine⟨⟨by rw[List.flatMap_cons,h1];rfl,fun st j=>?_⟩,?_⟩
      ·simp only[iT,List.headD_nil,List.tail_nil,wZ,h2]
      ·simp only[fF,List.headD_nil,List.tail_nil,h3]
       rfl)
theorem wA:∀(ss:List S1),qS ss (ss.flatMap S1.list)=ss
 | []=>rfl
 | .c c::l=>by
  show S1.c _::qS l _=_
  simp only[List.flatMap_cons,S1.list,List.singleton_append,List.headD_cons,List.tail_cons,wA l]
 | .agg a::l=>by
  show S1.agg _::qS l _=_
  simp only[List.flatMap_cons,S1.list,List.take_left',List.drop_left',wA l]
theorem XW:∀(ds:List D),rV ds=true→∃ss,ZL ds=some ss∧(ss.flatMap S1.list).all vM=true
 | [],_=>⟨[],rfl,rfl⟩
 | .s s::l,h=>by
  simp only[rV,List.all_cons,Bool.and_eq_true] at h
  obtain⟨ss,h1,h2⟩:=XW l h.2
  exact⟨s::ss,by simp[ZL,h1],by rw[List.flatMap_cons,List.all_append,h.1,h2];rfl⟩
 | .tup _::l,h=>by simp[rV] at h
theorem U9{s:S1}(h:s.list.all vM=true):C6 [] s=some s:=by
 have hc:∀c:C,vM c=true→rN [] c=some c:=fun c hc=>by cases c <;> first | rfl | (cases hc;done)
 cases s with
 | c c=>simp only[S1.list,List.all_cons,List.all_nil,Bool.and_true] at h;simp[C6,hc c h]
 | agg l=>
  simp only[S1.list] at h
  have:jV (l.map (rN []))=some l:=by
   induction l with
   | nil=>rfl
   | cons c l ih=>
    simp only[List.all_cons,Bool.and_eq_true] at h
    simp only[List.map_cons,hc c h.1,jV]
    rw[ih h.2]
    rfl
  simp[C6,this]
theorem NP:∀{rs:List S1},rs.all (fun s=>s.list.all vM)=true→jV (rs.map (C6 []))=some rs
 | [],_=>rfl
 | s::rs,h=>by
  simp only[List.all_cons,Bool.and_eq_true] at h
  simp only[List.map_cons,U9 h.1,jV]
  rw[NP h.2]
  rfl
theorem DR{R:Type}{A:Callee}(hN:A.Nat){st:St}{dst:Option Nat}{ds:List D}{k:St→D→Option R}(h:rV ds=true):
 qB A.strict st dst ds k=((ZL ds).bind fun ss=>A.call ss [] fun rs po'=>if po'.isEmpty&&rs.all (fun s=>s.list.all vM) then some (OI rs) else none).bind fun d=>k st d:=by
 obtain⟨ss,h1,h2⟩:=XW ds h
 obtain⟨⟨e1,e2⟩,e3⟩:=SE _ h2
 have hk:GH ss=[]:=by
  unfold GH
  have:(ss.flatMap fun s=>s.list.flatMap C.ks)=(ss.flatMap S1.list).flatMap C.ks:=by rw[List.flatMap_assoc]
  rw[this,e1];rfl
 have hkx:∀d,lF d st.objs ss=[]:=fun d=>by
  unfold lF
  rw[hk]
  cases d <;> rfl
 unfold qB
 rw[h1]
 dsimp only
 rw[hkx]
 simp only[List.map_nil,jV,List.flatten_nil,List.append_nil,List.length_nil]
 show (match iT st [] 0 [] (ss.flatMap S1.list) with | none=>none | some (cs,rws)=>_)=_
 rw[e2]
 dsimp only
 simp only[List.filterMap_nil,List.nodup_nil,decide_true,List.all_nil,Bool.and_self,if_true,Option.bind_some]
 have e4:qS ss (ss.flatMap S1.list)=ss:=wA ss
 have e5:fF A.strict.rows (ss.flatMap S1.list)=[]:=e3
 rw[e4,e5]
 show (A.call ss (eK [] _++[]) _)=_
 simp only[eK,List.append_nil]
 refine(hN.1 _ _ _).trans (Eq.trans ?_ (congrArg (fun z:Option D=>z.bind fun d=>k st d) (hN.1 _ _ _)).symm)
 rw[Option.bind_assoc]
 refine congrArg _ (funext fun p=>?_)
 obtain⟨rs,po'⟩:=p
 dsimp only
 split
 ·rename_i hc
  simp only[Bool.and_eq_true,List.isEmpty_iff] at hc
  obtain⟨rfl,hrs⟩:=hc
  simp only[List.isEmpty_nil,Bool.and_self,Bool.true_and,List.length_nil,Nat.sub_self,Option.bind_some]
  by_cases hsc:(rs.all fun s=>s.list.all yC)=true
  ·rw[hsc];rfl
  ·rw[Bool.not_eq_true] at hsc
   rw[hsc]
   simp only[Bool.and_false,Bool.false_eq_true,if_false,List.length_nil,Nat.sub_self,List.map_nil,List.append_nil,Nat.sub_zero,qA,List.nodup_nil,decide_true,Nat.le_refl,Bool.and_self,if_true,jV,NP hrs]
   rfl
 ·rfl
theorem rC{A:Callee}(hN:A.Nat):(Ti A).PureP:=⟨rfl,fun b q dst ds=>by
 show (if rV ds=true then qB A.strict { b with objs:=q } dst ds _ else none)=(if rV ds=true then qB A.strict b dst ds _ else none).map _
 split
 ·rename_i h
  rw[DR hN h,DR hN h]
  cases((ZL ds).bind fun ss=>A.call ss [] fun rs po'=>if po'.isEmpty&&rs.all (fun s=>s.list.all vM) then some (OI rs) else none) <;> rfl
 ·rfl⟩
noncomputable abbrev BP(P:Program)(l:List (FuncId×Callee))(pl:List Nat)(t:HT)(fn:Func)(sg:Sig):n7 sg.hin.shapes→Option (n7 sg.hout.shapes):=
 Nv P (kZ l) (Nw pl) (UM t fn) fn.results.toList fn.ntmps sg
theorem VA{P:Program}{l:List (FuncId×Callee)}{pl:List Nat}{f:FuncId}{fn:Func}{t:HT}{sg:Sig}{U:n7 sg.hin.shapes→Option (n7 sg.hout.shapes)}(hm:P.follows .mixedOrders=true)
 (hΓ:TabOK P pl l) (hf:P.funcs[f]?=some fn) (ht:HR t fn=true) (hs:sg.ok fn.ntmps=true) (hU:∀x,BP P l pl t fn sg x=U x):(aB sg U).OK P f:=
 RU hΓ.gok (Fg hm hΓ.gok hΓ.nat hΓ.pure) hf (Z6 ht) rfl rfl hs fun x q h=>by rw[←hU x] at h;exact h
open Go.RowKit
theorem At{P:Program}{f:FuncId}{A:Callee}(hA:A.OK P f){args:List S1}{b:Bool}(hcall:(A.call args [] fun rs po=>some (rs,po))=some ([.c (.t (.v (.bool b)))],[])){W:World}(hG:Good P W (fun _=>False)){vals:List Value}
 (hargs:RdSs W (fun _=>False) (fun _=>none) args vals):Calls P f vals.toArray W fun e W'=>e=.returned (.bool b)∧Below W.heap.size W W':=by
 obtain⟨rs,po',h1,h2⟩:=hA.1 args [] _ _ hcall
 simp only[Option.some.injEq,Prod.mk.injEq] at h1
 obtain⟨e1,e2⟩:=h1
 subst e1;subst e2
 have hX:∀b,¬XB [] (fun _=>none) (fun _=>False) b:=fun b hh=>hh.elim (fun⟨k,o,v,h1,_⟩=>by simp at h1) id
 have hm:∀b,¬oH [] (fun _=>none) b:=fun b ⟨k,o,v,h1,_⟩=>by simp at h1
 refine(h2 W (fun _=>False) (fun _=>none) vals (fun k o h=>by simp at h) (fun k k' b ⟨o,v,h1,_⟩=>by simp at h1) (fun _ h=>h.elim) (fun _ _ h=>h)
  (fun g k hg=>⟨fun hh=>hm g hh,(hG g k hg).2⟩) (hargs.step (Stp.refl (fun _=>False) W) (fun _ h=>h.elim) (fun b hb=>(hX b hb).elim) (.refl _))).mono fun e w' ⟨v,ρ',he,hs,_,_,_,_,_,hr⟩=>?_
 have hv:v=.bool b:=by
  rcases hr with hr | ⟨hr,_⟩
  ·cases hr
  ·exact Rd.inv_v hr
 subst hv
 exact⟨he,hs.below hm⟩
theorem JY{P:Program}{W:World}(h:W.ShapedOpen P)(F:Nat→Prop)(hF:∀b,¬F b):Good P W F:=fun g k ⟨t,zero,h1,h2,h3,h4,h5,h6⟩=>
 ⟨hF g,Go.Proofs.cell_of_shapedOpen_int h h1 h2 h3 h4 h5 h6⟩
open Go.RowKit Go.ChangeShapes Go.WideShapes
theorem BQ{H:Type}{enc:TypeId×Value→H}{P:Program}(hl:laidOutB P=true){W W':World}(hb:Below W.heap.size W W'):∀(ts:List TypeId) (vs:List Value) (ds:List (DataW H)) (p:List MemPlace),
 (∀t∈ts,P.readableRec t=true∧t<P.types.size)→DataW.TrodAll enc P W 0 (fun _=>true) true ts vs ds p→(∀x∈p,x.block<W.heap.size) →
 DataW.TrodAll enc P W' 0 (fun b=>decide (b<W.heap.size)) true ts vs ds p
 | [],vs,ds,p,_,h,_=>by
  obtain⟨rfl,rfl,rfl⟩:=trodAll_nil h
  exact trodAll_mk0
 | t::ts,vs,ds,p,hr,h,hp=>by
  obtain⟨v,vs',d,ds',q,r,rfl,rfl,rfl,h1,h2⟩:=trodAll_cons h
  obtain⟨r1,r2⟩:=hr t (by simp)
  exact⟨q,r,Below.trod hl r1 r2 h1 hb fun x hx=>hp x (List.mem_append.2 (.inl hx)),BQ hl hb ts vs' ds' r (fun t' ht=>hr t' (by simp[ht])) h2 fun x hx=>hp x (List.mem_append.2 (.inr hx)),rfl⟩
theorem VB{C:Checked}{os:Os}{f:FuncId}{fn:Func}{s:ChangeSpec}{conds:List PathCond}{tb:TypeId}{H:Type}{enc:TypeId×Value→H}
 (own:ownKnob C.prog.godebug=none) (started:os.Started) (noInit:C.prog.inits.idxOf? f=none) (hfn:C.prog.funcs[f]?=some fn) (hl:laidOutB C.prog=true)
 (hread:fn.params.toList.all (fun t=>C.prog.readableRec t&&decide (t<C.prog.types.size))=true) (hres:fn.resultTypes=#[tb]) (hb:C.prog.underlying tb=some .bool)
 (hvars:s.vars=[]) (hspec:∀ds:List (DataW H),ds.length=fn.params.size→s.fn H ds={ results:=[.lit (.bool true)],args:=ds })
 (witness:∃(w:World) (tape:Tape) (i:Input),w.os=os∧(w.forCall tape i).Shaped C.prog∧i.vars=[]∧Input.okWide C.prog (w.forCall tape i) .any w.heap.size f i ∧
  s.pre6 enc C.prog fn conds false (w.forCall tape i).memory i.args∧Assume.holds {} C.prog (lone (Frame.enter C.prog f i.args .normal) [] (w.forCall tape i)))
 (law:∀(W:World) (base:Nat) (args:Array Value) (ds:List (DataW H)) (p:List MemPlace),(∀(j:Nat) t v,fn.params[j]?=some t→args[j]?=some v→Value.okWide C.prog W .any base t v) →
  DataW.TrodAll enc C.prog W 0 (fun _=>true) true fn.params.toList args.toList ds p→W.ShapedOpen C.prog →
  Calls C.prog f args W fun e W'=>e=.returned (.bool true)∧Below W.heap.size W W'):
 ReturnsInHanded {} C os f .any (s.pre6 enc C.prog fn conds false) (s.post enc C.prog fn false true false false):=by
 refine returnsInHanded_of_change_shaped own started noInit hfn witness ?_
 intro W base args ds gs before hval hW _ _ hsh _
 have hW':=hW
 obtain⟨p,q,hA,hV,rfl,_,_⟩:=hW
 rw[hvars] at hV
 obtain⟨rfl,rfl⟩:=trodVars_none hV
 rw[List.append_nil] at hW'
 have hlt:∀x∈p,x.block<W.heap.size:=fun x hx=>hW'.lt x hx
 have hlen:∀(ts:List TypeId) (vs:List Value) (ds:List (DataW H)) (p:List MemPlace),DataW.TrodAll enc C.prog W 0 (fun _=>true) true ts vs ds p→ds.length=ts.length:=by
  intro ts
  induction ts with
  | nil=>intro vs ds p h;obtain⟨_,rfl,_⟩:=trodAll_nil h;rfl
  | cons t ts ih=>intro vs ds p h;obtain⟨v,vs',d,ds',q,r,rfl,rfl,rfl,h1,h2⟩:=trodAll_cons h;simp[ih _ _ _ h2]
 have hds:=hspec ds (by rw[hlen _ _ _ _ hA];simp)
 refine(law W base args ds p hval hA hsh).mono fun e W' ⟨he,hbel⟩=>?_
 subst he
 refine⟨_,rfl,ds,[],p,[],p,[],hW',?_,?_,?_,hbel.frame _,fun h=>by cases h⟩
 ·rw[List.append_nil,hds,hres]
  exact trodAll_mk1 (shut_bool hb _)
 ·rw[List.append_nil,hds]
  exact BQ hl hbel _ _ _ _ (fun t ht=>by simpa using List.all_eq_true.1 hread t ht) hA hlt
 ·rw[List.append_nil,hds,hvars];rfl
theorem Kt{H:Type}{enc:TypeId×Value→H}{P:Program}{W:World}{t e:TypeId}{v:Value}{d:DataW H}{p:List MemPlace}{r:Reach}{base:Nat}(ht:P.underlying t=some (.slice e))(he:P.underlying e=some (.int .i64))(hc:P.cellsOf e=1)
 (hval:Value.okWide P W r base t v) (h:DataW.Trod enc P W 0 (fun _=>true) true t v d p):∃zs:List Int,RdS W (fun _=>False) (fun _=>none) (.c (.t (.sl 1 (zs.map fun z=>T.v (.int .i64 z))))) v:=by
 obtain⟨a0,len,cap,rfl⟩:=okWide_slice ht hval
 obtain⟨fuel,hf⟩:=h
 rcases open_ints ht he hc hf with⟨hcs,hx⟩ | ⟨a,len',cap',zs,hcs,_,hl,hm,hz,hx,hcell,hwz⟩
 ·have hv:Value.slice a0 len cap=.slice none 0 0:=by simpa[Value.cells] using hcs
  rw[hv]
  exact⟨[],.inr ⟨.nil 1 (by decide),rfl⟩⟩
 ·have hv:Value.slice a0 len cap=.slice (some a) len' cap':=by simpa[Value.cells] using hcs
  rw[hv]
  have hzl:zs.length=cap':=by simpa using hz
  have hfl:∀l:List Int,flat (l.map fun z=>T.v (.int .i64 z))=l.map fun z=>T.v (.int .i64 z):=fun l=>by
   induction l with
   | nil=>rfl
   | cons z l ih=>rw[List.map_cons,iD,ih];rfl
  refine⟨zs.take len',.inr ⟨?_,rfl⟩⟩
  have key:=Rd.sl (w:=W) (X:=fun _=>False) 1 ((zs.take len').map fun z=>T.v (.int .i64 z)) a cap' ((zs.take len').map fun z=>.int .i64 z) (by decide) (by simp;omega) hm
   (fun t ht=>by obtain⟨z,_,rfl⟩:=List.mem_map.1 ht;rfl) (by rw[hfl];simp)
   (fun i y hi=>by
    rw[List.getElem?_map] at hi
    obtain⟨z,hz1,rfl⟩:=Option.map_eq_some_iff.1 hi
    rw[List.getElem?_take] at hz1
    split at hz1
    ·obtain⟨h1,rfl⟩:=List.getElem?_eq_some_iff.1 hz1
     refine⟨?_,fun h=>h,rfl⟩
     rw[hcell i h1,List.getD_eq_getElem?_getD,List.getElem?_eq_getElem h1];rfl
    ·cases hz1)
   (fun i t y h1 h2=>by
    rw[hfl,List.getElem?_map] at h1
    rw[List.getElem?_map] at h2
    obtain⟨z,hz1,rfl⟩:=Option.map_eq_some_iff.1 h1
    obtain⟨z',hz2,rfl⟩:=Option.map_eq_some_iff.1 h2
    rw[hz1] at hz2;cases hz2
    exact .v _)
  have hln:((zs.take len').map fun z=>T.v (.int .i64 z)).length=len':=by simp;omega
  rw[hln] at key
  exact key
theorem Fi{W:World}{X:Nat→Prop}{ρ:gJ}{s:S1}{v:Value}(h:RdS W X ρ s v):RdSs W X ρ [s] [v]:=RdSs.cons h ⟨rfl,fun i s y h=>by cases h⟩
section
variable (P:Program)
variable {H:Type}
end
theorem RdT.nil'{w:World}{X:Nat→Prop}:RdT w X [] []:=⟨rfl,fun i t y h=>by simp at h⟩
theorem RdT.one'{w:World}{X:Nat→Prop}{t:T}{y:Value}(h:Rd w X t y)(h1:y.oneCell'=true):RdT w X [t] [y]:=⟨rfl,fun i t' y' e1 e2=>by
 cases i with
 | zero=>simp at e1 e2;subst e1;subst e2;exact⟨h,h1⟩
 | succ i=>simp at e1⟩
section
variable {H:Type} {enc:TypeId×Value→H} {P:Program} {w:World}
end
open Go.RowKit Go.ChangeShapes Go.WideShapes
def Le{R:Type}(x y:Option R):Prop:=∀r,x=some r→y=some r
theorem cA{R:Type}{x:Option R}:Le x x:=fun _ h=>h
theorem eD{α R:Type}{m m':Option α}{k k':α→Option R}(h:Le m m')(hk:∀a,Le (k a) (k' a)):Le (ob m k) (ob m' k'):=fun r hr=>by
 obtain⟨a,h1,h2⟩:=aC hr
 rw[h a h1]
 exact hk a r h2
theorem a9{R:Type}{c:Bool}{a b a' b':Option R}(h:Le a a')(h':Le b b'):Le (bif c then a else b) (bif c then a' else b'):=by
 cases c
 ·exact h'
 ·exact h
theorem cC{α β R:Type}{q:α⊕β}{f f':α→Option R}{g g':β→Option R}(h:∀x,Le (f x) (f' x))(h':∀x,Le (g x) (g' x)):Le (cM q f g) (cM q f' g'):=by
 cases q with
 | inl x=>exact h x
 | inr x=>exact h' x
theorem XX{S E:Type}{F F':S→Option (S⊕E)}(h:∀s,Le (F s) (F' s)):∀(n:Nat) (s:S),Le (dU F n s) (dU F' n s)
 | 0,s=>fun r hr=>by simp[dU] at hr
 | n+1,s=>fun r hr=>by
  rw[dU] at hr ⊢
  cases hF:F s with
  | none=>rw[hF] at hr;cases hr
  | some q=>
   rw[hF] at hr
   rw[h s q hF]
   cases q with
   | inl s'=>exact XX h n s' r hr
   | inr e=>exact hr
theorem fY{S E:Type}{F F':S→Option (S⊕E)}(h:∀s,Le (F s) (F' s))(n:Nat)(s:S):Le (dU F n s) (aF F' s):=fun r hr=>mH.2 ⟨n,XX h n s r hr⟩
def Ql:Value→Value→Bool
 | .int k a,.int k' b=>decide (k=k')&&a==b
 | .bool a,.bool b=>a==b
 | .string a,.string b=>a==b
 | .slice none 0 0,.slice none 0 0=>true
 | _,_=>false
theorem Ku{x y:Value}(h:Ql x y=true):x=y:=by
 unfold Ql at h
 split at h
 ·simp only[Bool.and_eq_true,decide_eq_true_eq,beq_iff_eq] at h
  rw[h.1,h.2]
 ·rw[beq_iff_eq.1 h]
 ·rw[(MapKept.bytes_beq _ _).1 h]
 ·rfl
 ·cases h
mutual
def tB:T→T→Bool
 | .v a,.v b=>Ql a b
 | .agg l,.agg m=>Ny l m
 | .sl k l,.sl k' m=>k==k'&&Ny l m
 | _,_=>false
def Ny:List T→List T→Bool
 | [],[]=>true
 | a::l,b::m=>tB a b&&Ny l m
 | _,_=>false
end
mutual
theorem Nz:∀{x y:T},tB x y=true→x=y
 | .v a,.v b,h=>congrArg T.v (Ku (x:=a) (y:=b) (by simpa[tB] using h))
 | .agg l,.agg m,h=>congrArg T.agg (PN (x:=l) (y:=m) (by simpa[tB] using h))
 | .sl k l,.sl k' m,h=>by
  simp only[tB,Bool.and_eq_true,beq_iff_eq] at h
  rw[h.1,PN h.2]
 | .v _,.agg _,h=>by simp[tB] at h
 | .v _,.sl _ _,h=>by simp[tB] at h
 | .agg _,.v _,h=>by simp[tB] at h
 | .agg _,.sl _ _,h=>by simp[tB] at h
 | .sl _ _,.v _,h=>by simp[tB] at h
 | .sl _ _,.agg _,h=>by simp[tB] at h
theorem PN:∀{x y:List T},Ny x y=true→x=y
 | [],[],_=>rfl
 | a::l,b::m,h=>by
  simp only[Ny,Bool.and_eq_true] at h
  rw[Nz h.1,PN h.2]
 | [],_::_,h=>by simp[Ny] at h
 | _::_,[],h=>by simp[Ny] at h
end
class EqB (α:Type) where
 eqv:α→α→Bool
 ok:∀{x y:α},eqv x y=true→x=y
instance:EqB Int:=⟨fun a b=>a==b,fun h=>beq_iff_eq.1 h⟩
instance:EqB Bool:=⟨fun a b=>a==b,fun h=>beq_iff_eq.1 h⟩
instance:EqB ByteArray:=⟨fun a b=>a==b,fun h=>(MapKept.bytes_beq _ _).1 h⟩
instance:EqB T:=⟨tB,Nz⟩
instance:EqB (List T):=⟨Ny,PN⟩
instance:EqB Unit:=⟨fun _ _=>true,fun _=>rfl⟩
instance:EqB Empty:=⟨fun _ _=>true,fun {x _} _=>x.elim⟩
instance {α β:Type} [EqB α] [EqB β]:EqB (α×β):=⟨fun a b=>EqB.eqv a.1 b.1&&EqB.eqv a.2 b.2,fun {x y} h=>by
 simp only[Bool.and_eq_true] at h
 exact Prod.ext (EqB.ok h.1) (EqB.ok h.2)⟩
instance {α β:Type} [EqB α] [EqB β]:EqB (α⊕β):=⟨fun a b=>match a,b with
 | .inl x,.inl y=>EqB.eqv x y
 | .inr x,.inr y=>EqB.eqv x y
 | _,_=>false,fun {x y} h=>by
 cases x <;> cases y <;> first
  | (cases h;done)
  | exact congrArg _ (EqB.ok h)⟩
def Oa{R:Type}[EqB R](a b:Option R):Option R:=match a,b with
 | some x,some y=>if EqB.eqv x y=true then some x else none
 | _,_=>none
theorem bA{R:Type}[EqB R]{a b a' b':Option R}(h:Le a a')(h':Le b b'):Le (Oa a b) (I5 a' b'):=fun r hr=>by
 unfold Oa at hr
 split at hr
 ·rename_i x y
  split at hr
  ·rename_i he
   cases hr
   have:=EqB.ok he
   subst this
   exact RS (h _ rfl) (h' _ rfl)
  ·cases hr
 ·cases hr
structure Fr (n:Nat) (env:List (Nat×Value)) (a:Act):Prop where
 size:a.tmps.size=n
 defers:a.defers=[]
 get:∀t v,env.lookup t=some v→a.tmps.getD t undef=v
def qE(env:List (Nat×Value)):Operand→Option Value
 | .tmp t=>env.lookup t
 | .const v=>some v
 | .func f=>some (.func (.func f) #[] #[])
 | .global _=>none
def Fr.all(env:List (Nat×Value)):List (Nat×Value)→Prop
 | []=>True
 | p::l=>env.lookup p.1=some p.2∧Fr.all env l
theorem Fr.all_mem{env:List (Nat×Value)}:∀{l:List (Nat×Value)},Fr.all env l→∀p∈l,env.lookup p.1=some p.2
 | p::l,h,q,hq=>by
  rcases List.mem_cons.1 hq with rfl | hq
  ·exact h.1
  ·exact Fr.all_mem h.2 q hq
theorem VC{l:List (Nat×Value)}{t:Nat}{v:Value}(h:l.lookup t=some v):(t,v)∈l:=by
 induction l with
 | nil=>cases h
 | cons p l ih=>
  obtain⟨k,u⟩:=p
  rw[List.lookup_cons] at h
  by_cases hk:t=k
  ·subst hk;simp at h;subst h;exact List.mem_cons_self ..
  ·rw[beq_eq_false_iff_ne.2 hk] at h
   exact List.mem_cons_of_mem _ (ih h)
section
variable {P:Program} {n:Nat} {env:List (Nat×Value)} {a:Act} {w w':World} {Q:Exit→Act→World→Prop} {o:Oper} {next:Act→World→Prop}
theorem Fr.weak{e2:List (Nat×Value)}(h:Fr n env a)(hs:Fr.all env e2):Fr n e2 a:=
 ⟨h.size,h.defers,fun t v hl=>h.get t v (Fr.all_mem hs _ (VC hl))⟩
theorem Fr.ev(h:Fr n env a){x:Operand}{v:Value}(hx:qE env x=some v):a.eval x=v:=by
 cases x with
 | tmp t=>exact h.get t v hx
 | const u=>cases hx;rfl
 | func f=>cases hx;rfl
 | global g=>cases hx
theorem Fr.put(h:Fr n env a){d:Nat}(hd:d<n)(v:Value):Fr n ((d,v)::env) (a.put (some d) v):=by
 refine⟨by simp[Act.put,h.size],h.defers,fun t u hl=>?_⟩
 simp only[Act.put,Array.getD_eq_getD_getElem?,Array.getElem?_setIfInBounds]
 rw[List.lookup_cons] at hl
 by_cases ht:t=d
 ·subst ht
  simp at hl
  rw[if_pos rfl,if_pos (by rw[h.size];exact hd)]
  simp[hl]
 ·rw[beq_eq_false_iff_ne.2 ht] at hl
  rw[if_neg (fun e=>ht e.symm),←Array.getD_eq_getD_getElem?]
  exact h.get t u hl
def TK(P:Program)(Q:Exit→Act→World→Prop):List Oper→Act→World→Prop
 | [],a,w=>Q .normal a w
 | o::l,a,w=>o.wp P a w (fun a w=>TK P Q l a w) Q
theorem JZ{ops:Array Oper}(hg:ops.all (fun o=>o.guard.isNone)=true):∀(l:List Oper) (k:Nat),ops.toList.drop k=l→∀{a:Act} {w:World},TK P Q l a w→wpOps P ops Q (List.range' k l.length) a w
 | [],k,_,a,w,h=>h
 | o::l,k,hk,a,w,h=>by
  have hlt:k<ops.size:=by
   rcases Nat.lt_or_ge k ops.size with h' | h'
   ·exact h'
   ·rw[List.drop_of_length_le (by rw[Array.length_toList];exact h')] at hk;cases hk
  have ho:ops[k]?=some o:=by
   have:=congrArg (fun z=>z[0]?) hk
   simp only[List.getElem?_drop,Nat.add_zero,List.getElem?_cons_zero,Array.getElem?_toList] at this
   exact this
  have hg':o.guard=none:=by
   have:=Array.all_eq_true'.1 hg o (Array.mem_of_getElem? ho)
   cases hgo:o.guard with
   | none=>rfl
   | some x=>rw[hgo] at this;cases this
  have hw:Region.wanted o (yielded ops a.tmps)=true:=by simp[Region.wanted,hg']
  rw[List.length_cons,List.range'_succ]
  simp only[wpOps,ho]
  rw[if_pos hw]
  have hd:ops.toList.drop (k+1)=l:=by rw[←List.drop_drop,hk];rfl
  refine .inl ?_
  unfold TK at h
  exact Oper.wp_mono (fun a' w' h'=>JZ hg l (k+1) hd h') h
theorem bB{id:Nat}{ops:Array Oper}(hg:ops.all (fun o=>o.guard.isNone)=true)(h:TK P Q ops.toList a w):(Code.region id ops false).wp P Q a w:=by
 refine wp_region ?_
 have:=JZ (P:=P) (Q:=Q) hg ops.toList 0 (by simp) h
 rw[Array.length_toList] at this
 rw[List.range_eq_range']
 exact this
theorem yW{d:Nat}{v:Value}(hf:Fr n env a)(hd:o.dst=some d)(hlt:d<n)(hrun:(execOp a.eval o).run P w=.ok (.value v) w')(hn:∀a',Fr n ((d,v)::env) a'→next a' w'):o.wp P a w next Q:=by
 refine E5 hrun ?_
 rw[hd]
 exact hn _ (hf.put hlt v)
theorem Kv(hf:Fr n env a)(hd:o.dst=none)(hrun:(execOp a.eval o).run P w=.ok .skip w')(hn:∀a',Fr n env a'→next a' w'):o.wp P a w next Q:=by
 unfold Oper.wp
 rw[hrun]
 show next (a.put o.dst undef) w'
 rw[hd]
 exact hn _ hf
theorem iQ{x:Operand}{v:Value}(hf:Fr n env a)(hop:o.op=.move x)(hx:qE env x=some v):(execOp a.eval o).run P w=.ok (.value v) w:=by unfold execOp;rw[hop];simp only[hf.ev hx];rfl
theorem aI{d:Nat}{x:Operand}{v:Value}(hf:Fr n env a)(hop:o.op=.move x)(hd:o.dst=some d)(hlt:d<n)(hx:qE env x=some v)(hn:∀a',Fr n ((d,v)::env) a'→next a' w):o.wp P a w next Q:=
 yW hf hd hlt (iQ hf hop hx) hn
theorem aS{d:Nat}{x:Operand}{v:Value}(hf:Fr n env a)(hop:o.op=.assign x)(hd:o.dst=some d)(hlt:d<n)(hx:qE env x=some v)(hn:∀a',Fr n ((d,v)::env) a'→next a' w):o.wp P a w next Q:=
 yW hf hd hlt (by unfold execOp;rw[hop];simp only[hf.ev hx];rfl) hn
def dV(v:Value):D:=.s (.c (.t (.v v)))
theorem Fj{op:BinOp}{t yt:TypeId}{x y:Operand}{vx vy v:Value}(hf:Fr n env a)(hop:o.op=.binOp op t x y yt)(hx:qE env x=some vx)(hy:qE env y=some vy)
 (h1:vx.oneCell'=true) (h2:vy.oneCell'=true) (hk:A0 P op t yt (dV vx) (dV vy) some=some (dV v)):(execOp a.eval o).run P w=.ok (.value v) w:=by
 obtain⟨d',v',e1,e2,e3⟩:=WJ (P:=P) (w:=w) (X:=fun _=>False) (ρ:=fun _=>none) (xo:=x) (yo:=y) (.val h1) (.val h2) hk
 cases e3
 have e4:v'=v:=by
  rcases e2 with e2 | ⟨e2,_⟩
  ·cases e2
  ·exact Rd.inv_v e2
 subst e4
 unfold execOp;rw[hop];simp only[hf.ev hx,hf.ev hy,Sem.run_bind] at e1 ⊢;simp only[e1,Result.andThen_ok];rfl
theorem dC{d:Nat}{op:BinOp}{t yt:TypeId}{x y:Operand}{vx vy v:Value}(hf:Fr n env a)(hop:o.op=.binOp op t x y yt)(hd:o.dst=some d)(hlt:d<n)(hx:qE env x=some vx)(hy:qE env y=some vy)
 (h1:vx.oneCell'=true) (h2:vy.oneCell'=true) (hk:A0 P op t yt (dV vx) (dV vy) some=some (dV v)) (hn:∀a',Fr n ((d,v)::env) a'→next a' w):o.wp P a w next Q:=
 yW hf hd hlt (Fj hf hop hx hy h1 h2 hk) hn
theorem Qm{d:Nat}{x:Operand}{t e:TypeId}{p:Option Addr}{l c:Nat}(hf:Fr n env a)(hop:o.op=.call { callee:=.builtin .len,args:=#[x],argTypes:=#[t] })(hd:o.dst=some d)(hlt:d<n)(hu:P.underlying t=some (.slice e))
 (hx:qE env x=some (.slice p l c)) (hn:∀a',Fr n ((d,.int .i64 l)::env) a'→next a' w):o.wp P a w next Q:=by
 refine yW hf hd hlt ?_ hn
 have hexec:execOp a.eval o=builtin .len #[t] o.type (#[x].map fun | .const _=>true | _=>false) (#[x].map a.eval):=by
  unfold execOp;rw[hop];rfl
 rw[hexec]
 simp only[builtin,List.map_toArray,List.map_cons,List.map_nil,hf.ev hx,Sem.run_bind]
 unfold Builtin.len_
 simp only[List.getElem?_toArray,List.getElem?_cons_zero,Sem.run_bind,run_underlying hu,Result.andThen_ok]
 rfl
theorem yX{x ix:Operand}{t e:TypeId}{A:Addr}{l c m:Nat}{i:Int}(hf:Fr n env a)(hop:o.op=.indexAddr t x ix)(hu:P.underlying t=some (.slice e))(hm:pZ P e=some m)
 (hx:qE env x=some (.slice (some A) l c)) (hi:qE env ix=some (.int .i64 i)) (h0:0≤i) (h1:i<l):(execOp a.eval o).run P w=.ok (.value (.pointer (some (A.add (i.toNat*m))))) w:=by
 have h:(Instr.indexAt t (.slice (some A) l c) (.int .i64 i)).run P w=.ok (.pointer (some (A.add (i.toNat*m)))) w:=by
  unfold Instr.indexAt
  simp only[asIntOf,Sem.run_bind,Sem.run_pure,run_underlying hu,Result.andThen_ok]
  rw[Sem.run_ite,if_pos (by omega)]
  simp only[Sem.run_bind,bD hm,Result.andThen_ok,Sem.run_pure]
 unfold execOp;rw[hop];simp only[hf.ev hx,hf.ev hi,Sem.run_bind,h,Result.andThen_ok];rfl
theorem rW{d:Nat}{x ix:Operand}{t e:TypeId}{A:Addr}{l c m:Nat}{i:Int}(hf:Fr n env a)(hop:o.op=.indexAddr t x ix)(hd:o.dst=some d)(hlt:d<n)(hu:P.underlying t=some (.slice e))(hm:pZ P e=some m)
 (hx:qE env x=some (.slice (some A) l c)) (hi:qE env ix=some (.int .i64 i)) (h0:0≤i) (h1:i<l) (hn:∀a',Fr n ((d,.pointer (some (A.add (i.toNat*m))))::env) a'→next a' w):o.wp P a w next Q:=
 yW hf hd hlt (yX hf hop hu hm hx hi h0 h1) hn
theorem PO{x:Operand}{t:TypeId}{A:Addr}{y:Value}(hf:Fr n env a)(hop:o.op=.load t x)(hs:pZ P t=some 1)(hb:rI P t=some false)(hx:qE env x=some (.pointer (some A)))(hc:w.cell? A=some y):(execOp a.eval o).run P w=.ok (.value y) w:=by
 have h:(Instr.loadAt t (.pointer (some A))).run P w=.ok y w:=by
  simp only[Instr.loadAt,Instr.sureAddr,Sem.run_bind,Sem.run_pure,Result.andThen_ok]
  exact mE (ys:=[y]) hs hb (fun _=>rfl) rfl fun i u hi=>by
   cases i with
   | zero=>cases hi;exact hc
   | succ i=>simp at hi
 unfold execOp;rw[hop];simp only[hf.ev hx,Sem.run_bind,h,Result.andThen_ok];rfl
theorem wB{d:Nat}{x:Operand}{t:TypeId}{A:Addr}{y:Value}(hf:Fr n env a)(hop:o.op=.load t x)(hd:o.dst=some d)(hlt:d<n)(hs:pZ P t=some 1)(hb:rI P t=some false)(hx:qE env x=some (.pointer (some A)))
 (hc:w.cell? A=some y) (hn:∀a',Fr n ((d,y)::env) a'→next a' w):o.wp P a w next Q:=
 yW hf hd hlt (PO hf hop hs hb hx hc) hn
theorem J0{x y:Operand}{t ty:TypeId}{g j:Nat}{v:Value}{cur:Array Value}(hf:Fr n env a)(hop:o.op=.store t x y)(hd:o.dst=none)(hs:pZ P t=some 1)(hx:qE env x=some (.pointer (some ⟨g,j,none⟩)))(hy:qE env y=some v)
 (h1:v.oneCell'=true) (hg:w.heap[g]?=some (.cells cur ty (0,0))) (hj:j<cur.size)
 (hn:∀a',Fr n env a'→next a' (w.setRow g (cur.toList.set j v).toArray)):o.wp P a w next Q:=by
 refine Kv hf hd ?_ hn
 have hc:v.cells=#[v]:=AB h1
 have h:=qR (P:=P) (w:=w) (t:=t) (j:=j) (v:=v) hs (by rw[hc];rfl) hg (by omega) (by rw[hc];simpa using h1)
 have e:cur.toList.take j++v.cells.toList++cur.toList.drop (j+1)=cur.toList.set j v:=by
  rw[hc,List.set_eq_take_append_cons_drop,if_pos (by rw[Array.length_toList];exact hj)]
  simp
 rw[e] at h
 have h':(Instr.storeAt t (.pointer (some ⟨g,j,none⟩)) v).run P w=.ok () (w.setRow g (cur.toList.set j v).toArray):=by
  simp only[Instr.storeAt,Instr.sureAddr,Sem.run_bind,Sem.run_pure,Result.andThen_ok]
  exact h
 unfold execOp;rw[hop];simp only[hf.ev hx,hf.ev hy,Sem.run_bind,h',Result.andThen_ok];rfl
theorem J1{x lo:Operand}{t e:TypeId}{A:Addr}{l c m:Nat}{i:Int}(hf:Fr n env a)(hop:o.op=.slice t x (some lo) none none)(hu:P.underlying t=some (.slice e))(hm:pZ P e=some m)
 (hx:qE env x=some (.slice (some A) l c)) (hi:qE env lo=some (.int .i64 i)) (h0:0≤i) (h1:i≤l) (hc:l≤c):(execOp a.eval o).run P w=.ok (.value (.slice (if c=i.toNat then some A else some (A.add (i.toNat*m))) (l-i.toNat) (c-i.toNat))) w:=by
 have h:(Instr.sliceAt t (.slice (some A) l c) (some (.int .i64 i)) none none).run P w=.ok (.slice (if c=i.toNat then some A else some (A.add (i.toNat*m))) (l-i.toNat) (c-i.toNat)) w:=by
  unfold Instr.sliceAt
  simp only[Sem.run_bind,run_underlying hu,Result.andThen_ok]
  unfold Instr.slice
  simp only[Sem.run_bind,run_underlying hu,Result.andThen_ok]
  rw[rL (h:=(l:Int)) (.inr ⟨.i64,rfl⟩) (.inl ⟨rfl,rfl⟩) (by omega) (Int.le_refl _) hc h0 h1]
  simp only[Result.andThen_ok,bD hm,Sem.run_bind,Sem.run_pure,Int.toNat_natCast,Option.map_some]
 unfold execOp;rw[hop];simp only[hf.ev hx,Option.map_some,Option.map_none,hf.ev hi,Sem.run_bind,h,Result.andThen_ok];rfl
theorem Au{x hi mx:Operand}{t e:TypeId}{A:Addr}{l c m:Nat}{i:Int}(hf:Fr n env a)(hop:o.op=.slice t x none (some hi) (some mx))(hu:P.underlying t=some (.slice e))(hm:pZ P e=some m)
 (hx:qE env x=some (.slice (some A) l c)) (hh:qE env hi=some (.int .i64 i)) (hhm:qE env mx=some (.int .i64 i)) (h0:0≤i) (h1:i≤c):(execOp a.eval o).run P w=.ok (.value (.slice (if i.toNat=0 then some A else some (A.add (0*m))) i.toNat i.toNat)) w:=by
 have h:(Instr.sliceAt t (.slice (some A) l c) none (some (.int .i64 i)) (some (.int .i64 i))).run P w=.ok (.slice (if i.toNat=0 then some A else some (A.add (0*m))) i.toNat i.toNat) w:=by
  unfold Instr.sliceAt
  simp only[Sem.run_bind,run_underlying hu,Result.andThen_ok]
  unfold Instr.slice
  simp only[Sem.run_bind,run_underlying hu,Result.andThen_ok]
  rw[wY (l:=0) (.inl ⟨rfl,rfl⟩) h0 h1 h0 (Int.le_refl _) (Int.le_refl _) h0]
  simp only[Result.andThen_ok,bD hm,Sem.run_bind,Sem.run_pure,Int.toNat_zero,Option.map_some,Nat.sub_zero]
 unfold execOp;rw[hop];simp only[hf.ev hx,Option.map_some,Option.map_none,hf.ev hh,hf.ev hhm,Sem.run_bind,h,Result.andThen_ok];rfl
theorem FH{d:Nat}{x y:Operand}{t e:TypeId}{i:TypeInfo}{z v vy:Value}{m q:Nat}{xs news:List Value}(hf:Fr n env a)(hop:o.op=.call { callee:=.builtin .append,args:=#[x,y],argTypes:=#[t,t] })(hd:o.dst=some d)(hlt:d<n)
 (ht:P.underlying t=some (.slice e)) (hi:P.info? e=some i) (hz:i.zero=some z) (hzs:z.cells.size=i.size) (hsz:0<i.size)
 (hx:qE env x=some v) (hy:qE env y=some vy) (hown:rowAt w e i.size v m xs) (hs:Src P i.size t vy q news w) (h63:m+q≤maxLen) (hb:(m+q)*i.bytes≤140737488355328)
 (hn:∀a' v' w',Fr n ((d,v')::env) a'→rowAt w' e i.size v' (m+q) (xs++news)→w.grownBy w' (blk v)→(blk v'=blk v∨blk v'=some w.heap.size)→next a' w'):o.wp P a w next Q:=by
 obtain⟨v',w',e1,e2,e3,e4⟩:=mY (P:=P) (ty:=o.type) ht hi hz hzs hsz hown hs h63 hb
 refine yW (w':=w') (v:=v') hf hd hlt ?_ fun a' hf'=>hn a' v' w' hf' e2 e3 e4
 have hexec:execOp a.eval o=builtin .append #[t,t] o.type (#[x,y].map fun | .const _=>true | _=>false) (#[x,y].map a.eval):=by
  unfold execOp;rw[hop];rfl
 rw[hexec]
 simp only[builtin,List.map_toArray,List.map_cons,List.map_nil,hf.ev hx,hf.ev hy,Sem.run_bind,e1,Result.andThen_ok]
 rfl
def L8:Nat→List Value→List (Nat×Value)
 | _,[]=>[]
 | k,v::l=>(k,v)::L8 (k+1) l
theorem Fk(vs:List Value):∀(k:Nat) (cells:Array Value),(∀v∈vs,v.oneCell'=true)→k+vs.length≤cells.size →
 Instr.fill (fun i=>some (i*1,1)) cells (L8 k vs)=some (cells.toList.take k++vs++cells.toList.drop (k+vs.length)).toArray:=by
 induction vs with
 | nil=>intro k cells _ _;simp[L8,Instr.fill]
 | cons v vs ih=>
  intro k cells h1 hk
  simp only[List.length_cons] at hk
  have hc:v.cells=#[v]:=AB (h1 v (List.mem_cons_self ..))
  simp only[L8,Instr.fill,hc]
  rw[if_neg (by simp;omega)]
  have e1:(#[v].zipIdx.foldl (fun(cs:Array Value) (x:Value×Nat)=>match x with | (c,j)=>cs.setIfInBounds (k*1+j) c) cells)=cells.setIfInBounds k v:=by simp
  rw[e1,ih (k+1) _ (fun u hu=>h1 u (List.mem_cons_of_mem _ hu)) (by rw[Array.size_setIfInBounds];omega)]
  congr 2
  have hs:(cells.setIfInBounds k v).toList=cells.toList.take k++v::cells.toList.drop (k+1):=by
   rw[Array.toList_setIfInBounds,List.set_eq_take_append_cons_drop,if_pos (by rw[Array.length_toList];omega)]
  have hlo:(cells.toList.take k).length=k:=by rw[List.length_take,Array.length_toList];omega
  rw[hs]
  have e2:(cells.toList.take k++v::cells.toList.drop (k+1)).take (k+1)=cells.toList.take k++[v]:=by
   rw[List.take_append,hlo,List.take_of_length_le (by omega),Nat.add_sub_cancel_left];rfl
  have e3:(cells.toList.take k++v::cells.toList.drop (k+1)).drop (k+1+vs.length)=cells.toList.drop (k+(vs.length+1)):=by
   rw[List.drop_append,hlo,List.drop_of_length_le (by omega),List.nil_append,show k+1+vs.length-k=vs.length+1 by omega,List.drop_succ_cons,List.drop_drop]
   congr 1;omega
  rw[e2,e3,List.length_cons]
  simp
theorem SF(w:World)(e:TypeId)(vs:List Value)(hpos:0<vs.length)(hmax:vs.length≤maxLen):rowAt (w.alloc (.cells vs.toArray e)) e 1 (.slice (some ⟨w.heap.size,0,none⟩) vs.length vs.length) vs.length vs:=
 ⟨by omega,.inr ⟨w.heap.size,0,vs.length,vs.toArray,rfl,hpos,heap_alloc_new w _,Nat.le_refl _,hmax,by simp,by simp⟩⟩
theorem Uq{d len:Nat}{t e:TypeId}{i:TypeInfo}{z:Value}{parts:Array (Nat×Operand)}{vs:List Value}(hf:Fr n env a)(hop:o.op=.buildSlice t len parts)(hd:o.dst=some d)(hlt:d<n)
 (ht:P.underlying t=some (.slice e)) (hi:P.info? e=some i) (hz:i.zero=some z) (hzs:z.cells.size=1) (hsz:i.size=1)
 (hp:(parts.map fun(i,x)=>(i,a.eval x)).toList=L8 0 vs) (hl:vs.length=len) (hpos:0<len) (hmax:len≤1000) (h1:∀v∈vs,v.oneCell'=true)
 (hn:∀a',Fr n ((d,.slice (some ⟨w.heap.size,0,none⟩) len len)::env) a'→rowAt (w.alloc (.cells vs.toArray e)) e 1 (.slice (some ⟨w.heap.size,0,none⟩) len len) len vs→next a' (w.alloc (.cells vs.toArray e))):o.wp P a w next Q:=by
 subst hl
 refine yW hf hd hlt ?_ fun a' hf'=>hn a' hf' (SF w e vs hpos (by simp only[maxLen];omega))
 have hpp:(parts.map fun(i,x)=>(i,a.eval x))=(L8 0 vs).toArray:=by rw[←hp]
 have hsO:pZ P e=some 1:=by simp[pZ,hi,hsz]
 have h:(Instr.buildSlice t vs.length (parts.map fun(i,x)=>(i,a.eval x))).run P w=.ok (.slice (some ⟨w.heap.size,0,none⟩) vs.length vs.length) (w.alloc (.cells vs.toArray e)):=by
  rw[hpp]
  unfold Instr.buildSlice
  simp only[Sem.run_bind,run_underlying ht,Result.andThen_ok,bD hsO]
  rw[if_neg (by omega),if_neg (by omega)]
  simp only[Sem.run_bind,fP hi hz,Result.andThen_ok,Sem.run_pure]
  have hf:=Fk vs 0 ((Array.range (vs.length*1)).map (fun x=>z.cells[x%z.cells.size]!)) h1 (by simp)
  rw[hf]
  have e:(((Array.range (vs.length*1)).map (fun x=>z.cells[x%z.cells.size]!)).toList.take 0++vs++((Array.range (vs.length*1)).map (fun x=>z.cells[x%z.cells.size]!)).toList.drop (0+vs.length)).toArray=vs.toArray:=by
   simp
  rw[e]
  simp[newRow]
 unfold execOp;rw[hop]
 simp only[Sem.run_bind,h,Result.andThen_ok];rfl
def CM(env:List (Nat×Value)):List (Nat×Operand)→Option (List (Nat×Value))
 | []=>some []
 | p::l=>match qE env p.2,CM env l with
  | some v,some q=>some ((p.1,v)::q)
  | _,_=>none
theorem NQ(hf:Fr n env a):∀{l:List (Nat×Operand)} {q:List (Nat×Value)},CM env l=some q→(l.map fun(i,x)=>(i,a.eval x))=q
 | [],q,h=>by cases h;rfl
 | p::l,q,h=>by
  simp only[CM] at h
  split at h
  ·rename_i v q' h1 h2
   cases h
   rw[List.map_cons,NQ hf h2]
   show (p.1,a.eval p.2)::q'=_
   rw[hf.ev h1]
  ·cases h
theorem PP{d len:Nat}{t e:TypeId}{i:TypeInfo}{z:Value}{parts:Array (Nat×Operand)}{vs:List Value}(hf:Fr n env a)(hop:o.op=.buildSlice t len parts)(hd:o.dst=some d)(hlt:d<n)
 (ht:P.underlying t=some (.slice e)) (hi:P.info? e=some i) (hz:i.zero=some z) (hzs:z.cells.size=1) (hsz:i.size=1)
 (hp:CM env parts.toList=some (L8 0 vs)) (hl:vs.length=len) (hpos:0<len) (hmax:len≤1000) (h1:∀v∈vs,v.oneCell'=true)
 (hn:∀a',Fr n ((d,.slice (some ⟨w.heap.size,0,none⟩) len len)::env) a'→rowAt (w.alloc (.cells vs.toArray e)) e 1 (.slice (some ⟨w.heap.size,0,none⟩) len len) len vs→next a' (w.alloc (.cells vs.toArray e))):o.wp P a w next Q:=
 Uq hf hop hd hlt ht hi hz hzs hsz (by rw[Array.toList_map];exact NQ hf hp) hl hpos hmax h1 hn
theorem yY{c:Code}{m:Nat}(I:Nat→Act→World→Prop)(h0:∀(K:Act→World→Prop) a w,I 0 a w→c.wp P (Exit.then K Q) a w)(hs:∀m (K:Act→World→Prop),(∀a w,I m a w→K a w)→∀a w,I (m+1) a w→c.wp P (Exit.then K Q) a w)(hi:I m a w):(Code.loop c).wp P Q a w:=by
 refine wp_loop_rounds (m+1) ?_
 induction m generalizing a w with
 | zero=>rw[rounds_succ];exact h0 _ a w hi
 | succ m ih=>rw[rounds_succ];exact hs m _ (fun a w h=>ih h) a w hi
def Tj(env:List (Nat×Value)):List Operand→Option (List Value)
 | []=>some []
 | x::l=>match qE env x,Tj env l with
  | some v,some q=>some (v::q)
  | _,_=>none
theorem Fl(hf:Fr n env a):∀{l:List Operand} {q:List Value},Tj env l=some q→l.map a.eval=q
 | [],q,h=>by cases h;rfl
 | x::l,q,h=>by
  simp only[Tj] at h
  split at h
  ·rename_i v q' h1 h2
   cases h
   rw[List.map_cons,Fl hf h2,hf.ev h1]
  ·cases h
theorem PQ{d:Nat}{c:Call}{f:FuncId}{vals:List Value}{R':Ending→World→Prop}(hf:Fr n env a)(hop:o.op=.call c)(hc:c.callee=.value (.func f))(hd:o.dst=some d)(hlt:d<n)(hcall:rM P f)(hv:Tj env c.args.toList=some vals)
 (hC:Calls P f vals.toArray w R') (hn:∀e w',R' e w'→∃v,e=.returned v∧∀a',Fr n ((d,v)::env) a'→next a' w'):o.wp P a w next Q:=by
 have hexec:execOp a.eval o=(do let d ←resolve a.eval c o.type;invoke d.target d.args):=by
  unfold execOp;rw[hop]
 have hinv:(execOp a.eval o).run P w=(callFunc f vals.toArray).run P w:=by
  rw[hexec,←Fl hf hv]
  unfold resolve
  have hfv:a.eval (.func f)=.func (.func f) #[] #[]:=rfl
  simp only[hc,hfv,Deferred.ofValue,Sem.run_bind,Sem.run_pure,Result.andThen_ok,invoke]
  congr 2
  apply Array.ext'
  simp
 unfold Oper.wp
 rw[hinv,vU hcall]
 refine hC.mono fun e w' h=>?_
 obtain⟨v,rfl,hk⟩:=hn e w' h
 show next (a.put o.dst v) w'
 rw[hd]
 exact hk _ (hf.put hlt v)
theorem iV{d:Nat}{v:Value}{K:Act→Prop}(hf:Fr n env a)(hd:o.dst=some d)(hlt:d<n)(hrun:(execOp a.eval o).run P w=.ok (.value v) w)(hn:∀a',Fr n ((d,v)::env) a'→K a'):o.still P a w K:=by
 unfold Oper.still
 rw[hrun,Oper.stillUpon_value,hd]
 exact hn _ (hf.put hlt v)
theorem VD{ops:Array Oper}{K:Act→Prop}{l:List Oper}(hg:o.guard=none)(h:o.still P a w (wpStill P ops w K l)):wpStill P ops w K (o::l) a:=by
 unfold wpStill
 rw[if_pos (by simp[Region.wanted,hg])]
 exact h
theorem Av{ops:Array Oper}{l:List Oper}(hg:o.guard=none)(h:o.wp P a w (wpList P ops Q l) Q):wpList P ops Q (o::l) a w:=by
 unfold wpList
 rw[if_pos (by simp[Region.wanted,hg])]
 exact .inl h
theorem FI{ops:Array Oper}{i fuel:Nat}{listed:Array Bool}(hr:Region.ready .any ops listed=[i])(ho:ops[i]?=some o)(hg:o.guard=none)(h:o.wp P a w (wpAny P .any ops Q fuel (listed.setIfInBounds i true)) Q):wpAny P .any ops Q (fuel+1) listed a w:=by
 refine wpAny_all hr (by simp) fun j hj=>?_
 rw[List.mem_singleton] at hj
 subst hj
 unfold wpOp
 rw[ho]
 simp only[Region.wanted,hg,if_true]
 exact .inl h
theorem Kw{ops:Array Oper}{i j fuel:Nat}{o1 o2:Oper}{listed:Array Bool}(hr:Region.ready .any ops listed=[i,j])(ho:ops[i]?=some o1)(ho2:ops[j]?=some o2)(hg:o1.guard=none)(hg2:o2.guard=none)(h:o1.wp P a w (wpAny P .any ops Q fuel (listed.setIfInBounds i true)) Q)
 (h2:o2.wp P a w (wpAny P .any ops Q fuel (listed.setIfInBounds j true)) Q):wpAny P .any ops Q (fuel+1) listed a w:=by
 refine wpAny_all hr (by simp) fun q hq=>?_
 simp only[List.mem_cons,List.not_mem_nil,or_false] at hq
 rcases hq with rfl | rfl
 ·unfold wpOp
  rw[ho]
  simp only[Region.wanted,hg,if_true]
  exact .inl h
 ·unfold wpOp
  rw[ho2]
  simp only[Region.wanted,hg2,if_true]
  exact .inl h2
theorem uM{ops:Array Oper}{i d fuel:Nat}{v:Value}{listed:Array Bool}(hf:Fr n env a)(ho:ops[i]?=some o)(hs:Region.noSelect ops=true)(hfr:Region.free .any ops listed i=true)(hr:(Region.ready .any ops listed).contains i=true)(hQ:∀c a d v w,Q (.panic c) (a.put d v) w→Q (.panic c) a w)(hg:o.guard=none)
 (hd:o.dst=some d) (hlt:d<n) (hrun:∀w,(execOp a.eval o).run P w=.ok (.value v) w) (hn:∀a',Fr n ((d,v)::env) a'→wpAny P .any ops Q fuel (listed.setIfInBounds i true) a' w):wpAny P .any ops Q (fuel+1) listed a w:=by
 refine wpAny_take (v:=v) ho hs hfr hr (fun c a w h=>hQ c a _ _ w h) (.inl ⟨by simp[Region.wanted,hg],hrun⟩) ?_
 rw[hd]
 exact hn _ (hf.put hlt v)
def Wz(P:Program)(w:World)(K:Act→Prop):List Oper→Act→Prop
 | [],a=>K a
 | o::l,a=>o.still P a w (Wz P w K l)
theorem NR{ops:Array Oper}{K K':Act→Prop}(hk:∀a,K a→K' a):∀(l:List Oper) {a:Act},l.all (fun o=>o.guard.isNone)=true→Wz P w K l a→wpStill P ops w K' l a
 | [],a,_,h=>hk a h
 | o::l,a,hg,h=>by
  rw[List.all_cons,Bool.and_eq_true] at hg
  refine VD (Option.isNone_iff_eq_none.1 hg.1) (Oper.still_mono (fun a' h'=>NR hk l hg.2 h') h)
theorem SG{ops:Array Oper}:∀(l:List Oper) {a:Act} {w:World},l.all (fun o=>o.guard.isNone)=true→TK P Q l a w→wpList P ops Q l a w
 | [],a,w,_,h=>h
 | o::l,a,w,hg,h=>by
  rw[List.all_cons,Bool.and_eq_true] at hg
  exact Av (Option.isNone_iff_eq_none.1 hg.1) (Oper.wp_mono (fun a' w' h'=>SG l hg.2 h') h)
theorem PR{id:Nat}{l:List Oper}(k:Nat)(hm:P.follows .mixedOrders=true)(hB:Region.lexTailB .any l.toArray k=true)(hg:l.all (fun o=>o.guard.isNone)=true)
 (h:Wz P w.drew (fun a'=>TK P Q (l.drop k) a' w.drew) (l.take k) a):(Code.region id l.toArray true).wp P Q a w:=by
 rw[List.all_eq_true] at hg
 exact wp_region_still_tail k hm hB (NR (fun a' h'=>SG _ (List.all_eq_true.2 fun o ho=>hg o (List.mem_of_mem_drop ho)) h') _ (List.all_eq_true.2 fun o ho=>hg o (List.mem_of_mem_take ho)) h)
def n8(f:Func):Code:=f.body.getD .skip
end
section
variable {R:Type} (P:Program) (Γ:FuncId→Option Callee) (dok:Array Oper→Bool)
end
section
variable {R:Type} {P:Program} {Γ:FuncId→Option Callee} {dok:Array Oper→Bool}
theorem RdRes.res{w:World}{X:Nat→Prop}{ρ:gJ}{rs:List S1}{v:Value}(h:RdRes w X ρ rs v):RdD w X ρ (OI rs) v:=by
 match rs with
 | [s]=>exact h
 | []=>exact h
 | s1::s2::l=>exact h
end
end Go.Eng
/- One theorem for each function: what is proved of a printed function,in one line. -/
namespace Go.Eng
abbrev I6:Sh:=.int .i64
def HT.l(x:HT):HT:=.seq .leaf x
theorem TabOK.cs{P:Program}{pl:List Nat}{f:FuncId}{sg:Sig}{U:n7 sg.hin.shapes→Option (n7 sg.hout.shapes)}{fn:Func}{l:List (FuncId×Callee)}(hf:P.funcs[f]?=some fn)(hA:(aB sg U).OK P f)(hl:TabOK P pl l)
 (h1:fn.body.isSome=true:=by kernel_rfl) (h2:(fn.name == "runtime.NumGoroutine")=false:=by kernel_rfl) (h3:((!pl.contains f||PK sg)&&(!pl.contains (f+1000000)&&(!(f==2000000)&&!(f==2000002))))=true:=by kernel_rfl):TabOK P pl ((f,aB sg U)::l):=by
 simp only[Bool.and_eq_true,Bool.not_eq_true'] at h3
 obtain⟨a,b,c,d⟩:=h3
 refine TabOK.cons (fun _=>⟨fn,hf,h1,h2⟩) hA (eQ _ _) (fun h=>?_) b (fun _=>PE (eQ _ _) rfl rfl) c hl d
 rw[h] at a
 exact L7 (by simpa using a)
theorem qP{P:Program}(hm:P.follows .mixedOrders=true){l:List (FuncId×Callee)}(pl:List Nat){f:FuncId}{fn:Func}(t:HT){sg:Sig}{U:n7 sg.hin.shapes→Option (n7 sg.hout.shapes)}
 (hΓ:TabOK P pl l) (hf:P.funcs[f]?=some fn) (hU:∀x,BP P l pl t fn sg x=U x) (ht:HR t fn=true:=by kernel_rfl) (hs:sg.ok fn.ntmps=true:=by kernel_rfl):(aB sg U).OK P f:=
 VA hm hΓ hf ht hs hU
end Go.Eng
