/- An engine that turns the code of a function into a plain function on tuples, part 3: what it says of a function holds of every run; it has no conditions of its own. -/
import Derived.Shelf.Vars
import Derived.ProofKit
import Derived.HandedShaped
import Derived.OpenShut
import Derived.MapKept
import Derived.StillTail
import Derived.Laws.Externs
import Derived.Test.YtkkmmpncicdffaaEng2
set_option linter.unusedSimpArgs false
set_option linter.unusedVariables false
namespace Go.Eng
open Go.RowKit
def St.bare(st:St):St:={ st with env:=List.replicate st.env.length D.top }
section
variable {R:Type} {P:Program} {Γ:FuncId→Option Callee}
theorem LK(st:St)(dst:Option Nat)(o:O)(k:St→Nat→Option R):gC st dst o k=(gC st.bare dst o fun s key=>some (s.objs,key)).bind fun p=>k { st with objs:=p.1 } p.2:=by
 have hfi:gQ st.bare=gQ st:=by unfold gQ St.bare;simp only[List.length_replicate]
 have h1:st.bare.objs=st.objs:=rfl
 have h2:st.bare.np=st.np:=rfl
 have h3:st.bare.env.length=st.env.length:=by simp[St.bare]
 cases dst with
 | none=>rfl
 | some d=>
  simp only[gC,hfi,h1,h2,h3]
  split
  ·rfl
  ·split
   ·rfl
   ·split <;> rfl
theorem g8(st:St)(dst:Option Nat)(o:O)(f:Nat→D)(k:St→D→Option R):gC st dst o (fun s key=>k s (f key))=(gC st.bare dst o fun s key=>some (s.objs,f key)).bind fun p=>k { st with objs:=p.1 } p.2:=by
 have hfi:gQ st.bare=gQ st:=by unfold gQ St.bare;simp only[List.length_replicate]
 have h1:st.bare.objs=st.objs:=rfl
 have h2:st.bare.np=st.np:=rfl
 have h3:st.bare.env.length=st.env.length:=by simp[St.bare]
 cases dst with
 | none=>rfl
 | some d=>
  simp only[gC,hfi,h1,h2,h3]
  split
  ·rfl
  ·split
   ·rfl
   ·split <;> rfl
theorem H3(st:St)(objs:List O)(dst:Option Nat)(o:O)(f:Nat→D)(k:St→D→Option R):gC { st with objs:=objs } dst o (fun s key=>k s (f key))=(gC { st.bare with objs:=objs } dst o fun s key=>some (s.objs,f key)).bind fun p=>k { st with objs:=p.1 } p.2:=by
 have h:=g8 { st with objs:=objs } dst o f k
 exact h
theorem H4(st:St)(t:TypeId)(d:D)(k:D→Option R):mD P st t d k=(mD P st.bare t d some).bind k:=by
 unfold mD k8 St.bare
 repeat' (first | split | dsimp only)
 all_goals first
  | rfl
  | simp_all [aL]
theorem SU{R S:Type}(t:TypeId)(c:C)(f:T→Option R)(g:R→Option S):E8 P t c (fun x=>(f x).bind g)=(E8 P t c f).bind g:=by
 unfold E8
 split
 ·rw[aL]
 ·rw[aL]
 ·rw[aL]
 ·split
  ·split
   ·rw[aL]
   ·rfl
  ·rfl
 ·split <;> rfl
theorem gV{R S:Type}:∀(ts:List TypeId) (cs:List C) (f:List T→Option R) (g:R→Option S),f7 P ts cs (fun x=>(f x).bind g)=(f7 P ts cs f).bind g
 | [],[],_,_=>rfl
 | [],_::_,_,_=>rfl
 | _::_,[],_,_=>rfl
 | t::ts,c::cs,f,g=>by
  simp only[f7]
  rw[←SU]
  congr 1
  funext x
  exact gV ts cs _ g
theorem P1(st:St)(t:TypeId)(d v:D)(k:St→Option R):o6 P st t d v k=(o6 P st.bare t d v fun s=>some s.objs).bind fun p=>k { st with objs:=p }:=by
 have hb:st.bare.objs=st.objs:=rfl
 unfold o6 k8
 simp only[hb]
 repeat' (first | split | dsimp only)
 all_goals first
  | rfl
  | (rw[←gV];simp only[aL,Option.bind_some,Option.bind_none];done)
  | (rw[←gV];rfl)
  | simp_all [aL]
theorem NG(op:BinOp)(kd:IntKind)(a b:Int)(k:D→Option R):yX op kd a b k=(yX op kd a b some).bind k:=by
 unfold yX
 repeat' (first | split | dsimp only)
 all_goals first
  | rfl
  | simp_all [aL]
theorem SV(op:BinOp)(kd:IntKind)(a b:Int)(k:D→Option R):mC op kd a b k=(mC op kd a b some).bind k:=by
 unfold mC
 repeat' (first | split | dsimp only)
 all_goals first
  | rfl
  | simp_all [aL]
theorem SW(op:BinOp)(a b:ByteArray)(k:D→Option R):KX op a b k=(KX op a b some).bind k:=by
 unfold KX
 repeat' (first | split | dsimp only)
 all_goals first
  | rfl
  | simp_all [aL]
theorem Bn(op:UnOp)(t:TypeId)(x:D)(k:D→Option R):Mq (P:=P) op t x k=(Mq (P:=P) op t x some).bind k:=by
 unfold Mq GD J4 BY
 repeat' (first | split | dsimp only)
 all_goals first
  | rfl
  | simp_all [aL]
theorem YC(x:D)(k:D→Option R):XZ x k=(XZ x some).bind k:=by
 unfold XZ k8
 repeat' (first | split | dsimp only)
 all_goals first
  | rfl
  | simp_all [aL]
theorem P2(t:TypeId)(parts:List (Nat×D))(k:D→Option R):A1 P t parts k=(A1 P t parts some).bind k:=by
 unfold A1
 repeat' (first | split | dsimp only)
 all_goals first
  | rfl
  | simp_all [aL]
theorem KD(st:St)(s t:TypeId)(x:D)(k:D→Option R):sT P st s t x k=(sT P st.bare s t x some).bind k:=by
 unfold sT gK BZ k8 BY gJ St.bare
 repeat' (first | split | dsimp only)
 all_goals first
  | rfl
  | simp_all [aL]
theorem H5(fn:Fn)(f c:List D)(k:D→Option R):nP fn f c k=(nP fn f c some).bind k:=by
 unfold nP
 repeat' (first | split | dsimp only)
 all_goals first
  | rfl
  | simp_all [aL]
theorem lW(st:St)(t:TypeId)(x:D)(lo hi mx:Option D)(k:D→Option R):iS P st t x lo hi mx k=(iS P st.bare t x lo hi mx some).bind k:=by
 have hc:∀n c,O7 st.bare n c=O7 st n c:=fun _ _=>rfl
 unfold iS uO gK BZ k8 BY
 simp only[hc]
 repeat' (first | split | dsimp only)
 all_goals first
  | rfl
  | simp_all [aL]
theorem F4(t:TypeId)(x:D)(f:Nat)(k:D→Option R):lM P t x f k=(lM P t x f some).bind k:=by
 unfold lM k8
 repeat' (first | split | dsimp only)
 all_goals first
  | rfl
  | simp_all [aL]
theorem P3(t:TypeId)(x:D)(f:Nat)(k:D→Option R):A2 P t x f k=(A2 P t x f some).bind k:=by
 unfold A2
 repeat' (first | split | dsimp only)
 all_goals first
  | rfl
  | simp_all [aL]
theorem SX(st:St)(s t:TypeId)(x:D)(k:D→Option R):G6 P st s t x k=(G6 P st.bare s t x some).bind k:=by
 unfold G6
 split
 ·split
  ·unfold BZ BY
   repeat' (first | split | dsimp only)
   all_goals first
    | rfl
    | simp_all [aL]
  ·rfl
 ·exact KD st s t x k
theorem vX(st:St)(t:TypeId)(x ix:D)(k:D→Option R):eV P st t x ix k=(eV P st.bare t x ix some).bind k:=by
 unfold eV k8 gK BY St.bare
 repeat' (first | split | dsimp only)
 all_goals first
  | rfl
  | (simp_all [aL];done)
  | (simp only[aL];congr 1;funext i;refine Eq.trans ?_ (wX _ _);congr 1;funext j;split <;> rfl)
theorem P4(t:TypeId)(x ix:D)(k:D→Option R):A3 P t x ix k=(A3 P t x ix some).bind k:=by
 unfold A3 BZ gK BY
 repeat' (first | split | dsimp only)
 all_goals first
  | rfl
  | (simp_all [aL];done)
  | (simp only[aL];congr 1;funext i;refine Eq.trans ?_ (wX _ _);congr 1;funext j;split <;> rfl)
theorem KE(x:D)(i:Nat)(k:D→Option R):qA x i k=(qA x i some).bind k:=by
 unfold qA
 repeat' (first | split | dsimp only)
 all_goals first
  | rfl
  | simp_all [aL]
theorem YD(st:St)(t:TypeId)(x:D)(k:D→Option R):qX P st t x k=(qX P st.bare t x some).bind k:=by
 unfold qX BZ k8 BY St.bare
 repeat' (first | split | dsimp only)
 all_goals first
  | rfl
  | simp_all [aL]
theorem YE(op:BinOp)(t yt:TypeId)(x y:D)(k:D→Option R):zS P op t yt x y k=(zS P op t yt x y some).bind k:=by
 unfold zS GD BZ J4 BY
 repeat' (first | split | dsimp only)
 all_goals first
  | rfl
  | (simp only[aL,←SV,←NG,←SW];done)
  | simp_all [aL]
theorem EA{rc:∀{R:Type},TypeId→S1→S1→(Bool→Option R)→Option R}(hrc:∀{R:Type} (t:TypeId) (x y:S1) (k:Bool→Option R),rc t x y k=(rc t x y some).bind k)(cs ds:List C):
 ∀(fs:List Field) {R:Type} (k:Bool→Option R),MW P rc cs ds fs k=(MW P rc cs ds fs some).bind k
 | [],R,k=>rfl
 | f::fs,R,k=>by
  simp only[MW]
  split
  ·rfl
  split
  case h_2=>rfl
  split
  case h_2=>rfl
  rw[hrc,hrc (k:=fun b=>MW P rc cs ds fs fun r=>some (J8 b r)),Option.bind_assoc]
  congr 1;funext b
  rw[EA hrc cs ds fs,EA hrc cs ds fs (k:=fun r=>some (J8 b r)),Option.bind_assoc]
  rfl
theorem EB{rc:∀{R:Type},TypeId→S1→S1→(Bool→Option R)→Option R}(hrc:∀{R:Type} (t:TypeId) (x y:S1) (k:Bool→Option R),rc t x y k=(rc t x y some).bind k)(e:TypeId)(n:Nat)(ag:Bool)(cs ds:List C):
 ∀(is:List Nat) {R:Type} (k:Bool→Option R),MX rc e n ag cs ds is k=(MX rc e n ag cs ds is some).bind k
 | [],R,k=>rfl
 | i::is,R,k=>by
  simp only[MX]
  split
  case h_2=>rfl
  rw[hrc,hrc (k:=fun b=>MX rc e n ag cs ds is fun r=>some (J8 b r)),Option.bind_assoc]
  congr 1;funext b
  rw[EB hrc e n ag cs ds is,EB hrc e n ag cs ds is (k:=fun r=>some (J8 b r)),Option.bind_assoc]
  rfl
theorem pX:∀(d:Nat) {R:Type} (t:TypeId) (x y:S1) (k:Bool→Option R),BB P d t x y k=(BB P d t x y some).bind k
 | 0,R,t,x,y,k=>rfl
 | d+1,R,t,x,y,k=>by
  simp only[BB]
  split
  ·unfold GD BY;repeat' (first | split | dsimp only)
   all_goals first
    | rfl
    | (simp only[aL];done)
    | simp_all [aL]
  ·unfold J4 BY;repeat' (first | split | dsimp only)
   all_goals first
    | rfl
    | (simp only[aL];done)
    | simp_all [aL]
  ·unfold BZ BY;repeat' (first | split | dsimp only)
   all_goals first
    | rfl
    | (simp only[aL];done)
    | simp_all [aL]
  ·split
   ·rfl
   split
   case h_2=>rfl
   exact EA (pX d) _ _ _ k
  ·split
   case h_2=>rfl
   exact EB (pX d) _ _ _ _ _ _ k
  ·rfl
theorem YF(op:BinOp)(t yt:TypeId)(x y:D)(k:D→Option R):XS P op t yt x y k=(XS P op t yt x y some).bind k:=by
 unfold XS
 split
 ·split
  ·rfl
  unfold Gs
  split
  ·split
   ·split
    ·dsimp only;rw[pX,pX (k:=fun b=>some (dB b)),Option.bind_assoc];rfl
    ·split
     ·dsimp only;rw[pX,pX (k:=fun b=>some (dB (!b))),Option.bind_assoc];rfl
     ·rfl
   ·rfl
  ·rfl
 ·exact YE op t yt x y k
theorem LL(st:St)(eq:Bool)(c:C)(k:D→Option R):R6 st eq c k=(R6 st.bare eq c some).bind k:=by
 have hb:st.bare.objs=st.objs:=rfl
 have hbif:∀(q:Bool) (d d':D),(bif q then k d else k d')=(bif q then some d else some d').bind k:=fun q d d'=>by cases q <;> rfl
 unfold R6
 rw[hb]
 split
 ·rfl
 ·split
  ·exact hbif _ _ _
  ·rfl
 ·split
  ·exact hbif _ _ _
  ·rfl
 ·rfl
theorem YG(st:St)(op:BinOp)(t yt:TypeId)(x y:D)(k:D→Option R):J9 P st op t yt x y k=(J9 P st.bare op t yt x y some).bind k:=by
 unfold J9 k8
 split
 ·split
  ·split
   ·split
    ·exact LL _ _ _ _
    ·split
     ·exact LL _ _ _ _
     ·rfl
   ·rfl
  ·rfl
 ·exact YF op t yt x y k
theorem FL(st:St)(dst:Option Nat)(e:TypeId)(k:St→D→Option R):lL P st dst e k=(lL P st.bare dst e fun s d=>some (s.objs,d)).bind fun p=>k { st with objs:=p.1 } p.2:=by
 unfold lL
 repeat' (first | split | dsimp only)
 all_goals first
  | rfl
  | exact g8 st dst _ (fun key=>.s (.c (.box key 0))) k
  | simp_all
theorem YH(st:St)(dst:Option Nat)(v:D)(k:St→D→Option R):O6 st dst v k=(O6 st.bare dst v fun s d=>some (s.objs,d)).bind fun p=>k { st with objs:=p.1 } p.2:=by
 unfold O6
 repeat' (first | split | dsimp only)
 all_goals first
  | rfl
  | exact g8 st dst _ (fun key=>.s (.c (.box key 0))) k
  | simp_all
theorem F5(st:St)(dst:Option Nat)(t:TypeId)(l c:D)(k:St→D→Option R):jU P st dst t l c k=(jU P st.bare dst t l c fun s d=>some (s.objs,d)).bind fun p=>k { st with objs:=p.1 } p.2:=by
 unfold jU gK BY
 repeat' (first | split | dsimp only)
 all_goals first
  | rfl
  | (simp only[aL];congr 1;funext i;congr 1;funext j;congr 1;funext q;exact g8 st dst _ (fun key=>.s (.c (.row key))) k)
  | simp_all [aL]
theorem NH(st:St)(dst:Option Nat)(t:TypeId)(l c:D)(k:St→D→Option R):rF P st dst t l c k=(rF P st.bare dst t l c fun s d=>some (s.objs,d)).bind fun p=>k { st with objs:=p.1 } p.2:=by
 unfold rF gK BY
 repeat' (first | split | dsimp only)
 all_goals first
  | rfl
  | (simp only[aL];congr 1;funext i;congr 1;funext j;congr 1;funext q;exact g8 st dst _ (fun key=>.s (.c (.rk key))) k)
  | simp_all [aL]
theorem CJ(st:St)(dst:Option Nat)(t:TypeId)(n:Nat)(parts:List (Nat×D))(k:St→D→Option R):gU P st dst t n parts k=(gU P st.bare dst t n parts fun s d=>some (s.objs,d)).bind fun p=>k { st with objs:=p.1 } p.2:=by
 have hb:st.bare.objs=st.objs:=rfl
 unfold gU
 simp only[hb]
 repeat' (first | split | dsimp only)
 all_goals first
  | rfl
  | exact H3 st _ dst _ (fun key=>.s (.c (.row key))) k
  | (rw[←gV];congr 1;funext ts;exact H3 st _ dst _ (fun key=>.s (.c (.row key))) k)
  | simp_all [aL]
theorem EC(st:St)(dst:Option Nat)(t:TypeId)(n:Nat)(parts:List (Nat×D))(k:St→D→Option R):fC P st dst t n parts k=(fC P st.bare dst t n parts fun s d=>some (s.objs,d)).bind fun p=>k { st with objs:=p.1 } p.2:=by
 unfold fC
 split
 ·split
  ·split
   ·split
    ·exact g8 st dst _ (fun key=>.s (.c (.row key))) k
    ·rfl
   ·rfl
  ·rfl
 ·exact CJ st dst t n parts k
theorem lX(t:TypeId)(n:Nat)(parts:List (Nat×D))(k:D→Option R):XK P t n parts k=(XK P t n parts some).bind k:=by
 unfold XK
 repeat' (first | split | dsimp only)
 all_goals first
  | rfl
  | (refine Eq.trans ?_ (gV _ _ _ k);rfl)
  | simp_all [aL]
theorem lY(st:St)(n:Nat)(c:C)(k:List T→Option R):gJ st n c k=(gJ st.bare n c some).bind k:=by
 have hb:st.bare.objs=st.objs:=rfl
 cases c with
 | t x=>simp only[gJ,aL];rfl
 | row key=>
  simp only[gJ,hb]
  cases st.objs[key]? with
  | none=>rfl
  | some o=>cases o with
   | row fz e n' es=>by_cases h:n'=n <;> simp[h]
   | _=>rfl
 | cut key m lo len tg=>
  simp only[gJ,hb]
  cases st.objs[key]? with
  | none=>rfl
  | some o=>cases o with
   | row fz e n' es=>by_cases h:n'=n∧m=n <;> simp[h]
   | _=>rfl
 | _=>rfl
theorem LM(st:St)(e:TypeId)(n:Nat)(c:C)(k:St→List T→Option R):uN st e n c k=(uN st.bare e n c fun s l=>some (s.objs,l)).bind fun p=>k { st with objs:=p.1 } p.2:=by
 unfold uN St.bare
 repeat' (first | split | dsimp only)
 all_goals first
  | rfl
  | simp_all [aL]
theorem LN(mx:Bool)(t:TypeId)(x y:D)(k:D→Option R):HH P mx t x y k=(HH P mx t x y some).bind k:=by
 unfold HH GD BZ BY
 repeat' (first | split | dsimp only)
 all_goals first
  | rfl
  | simp_all [aL]
theorem SY(st:St)(t:TypeId)(s x:D)(k:St→D→Option R):G8 P st t s x k=(G8 P st.bare t s x fun s d=>some (s.objs,d)).bind fun p=>k { st with objs:=p.1 } p.2:=by
 have hb:st.bare.objs=st.objs:=rfl
 have hbb:st.bare.bare=st.bare:=by simp[St.bare]
 unfold G8
 split
 ·split
  ·unfold k8
   split
   ·dsimp only
    split
    ·refine(lY st _ _ _).trans (Eq.trans ?_ (congrArg (fun z:Option (List O×D)=>z.bind fun p=>k { st with objs:=p.1 } p.2) (lY st.bare _ _ _)).symm)
     rw[hbb,Option.bind_assoc]
     refine congrArg _ (funext fun m=>?_)
     simp only[hb]
     repeat' (first | rfl | split)
    ·rfl
   ·rfl
  ·rfl
 ·rfl
theorem NI(st:St)(dst:Option Nat)(t u:TypeId)(s x:D)(k:St→D→Option R):jM P st dst t u s x k=(jM P st.bare dst t u s x fun s d=>some (s.objs,d)).bind fun p=>k { st with objs:=p.1 } p.2:=by
 have fin:∀(e:TypeId) (n:Nat) (c:C) (m:List T) (b:Nat),(uN st e n c fun st' l=>ob (room l m b) fun q=>gC st' dst (.row false e n q) fun st key=>k st (.s (.c (.row key)))) =
  (uN st.bare e n c fun st' l=>ob (room l m b) fun q=>gC st' dst (.row false e n q) fun s key=>some (s.objs,.s (.c (.row key)))).bind fun p=>k { st with objs:=p.1 } p.2:=fun e n c m b=>by
  rw[LM,LM st.bare e n c (fun st' l=>ob (room l m b) fun q=>gC st' dst (.row false e n q) fun s key=>(some (s.objs,D.s (.c (.row key))):Option (List O×D)))]
  have hbb:st.bare.bare=st.bare:=by simp[St.bare]
  rw[hbb,Option.bind_assoc]
  congr 1
  funext p
  rw[aL]
  congr 1
  funext q
  rw[g8 { st with objs:=p.1 } dst _ (fun key=>.s (.c (.row key))) k,g8 { st.bare with objs:=p.1 } dst _ (fun key=>.s (.c (.row key))) (fun s d=>some (s.objs,d)),Option.bind_assoc]
  have h3:(St.bare { st.bare with objs:=p.1 })=St.bare { st with objs:=p.1 }:=by simp[St.bare]
  rw[h3]
  rfl
 unfold jM
 split
 ·split
  ·split
   ·split
    ·unfold k8
     split
     ·dsimp only
      split
      ·split
       ·have hbb:st.bare.bare=st.bare:=by simp[St.bare]
        refine(lY st _ _ _).trans (Eq.trans ?_ (congrArg (fun z:Option (List O×D)=>z.bind fun p=>k { st with objs:=p.1 } p.2) (lY st.bare _ _ _)).symm)
        rw[hbb,Option.bind_assoc]
        exact congrArg _ (funext fun m=>fin _ _ _ _ _)
       ·rfl
      ·split
       ·unfold BZ BY
        split
        ·simp only[aL]
         exact congrArg _ (funext fun m=>fin _ _ _ _ _)
        ·rfl
       ·rfl
     ·rfl
    ·rfl
   ·rfl
  ·rfl
 ·rfl
theorem SZ(st:St)(dst:Option Nat)(t u:TypeId)(key i:Nat)(x:D)(k:St→D→Option R):FB P st dst t u key i x k=(FB P st.bare dst t u key i x fun s d=>some (s.objs,d)).bind fun p=>k { st with objs:=p.1 } p.2:=by
 have hbo:st.bare.objs=st.objs:=rfl
 have hbb:st.bare.bare=st.bare:=by simp[St.bare]
 have fin:∀(o:O),(gC st dst o fun st' K=>k { st' with objs:=st'.objs.set key (.fwd K) } (.s (.c (.inn K i)))) =
  (gC st.bare dst o fun s K=>some (s.objs.set key (.fwd K),D.s (.c (.inn K i)))).bind fun p=>k { st with objs:=p.1 } p.2:=fun o=>by
  have e1:=LK st dst o fun st' K=>k { st' with objs:=st'.objs.set key (.fwd K) } (.s (.c (.inn K i)))
  have e2:=LK st.bare dst o fun s K=>(some (s.objs.set key (.fwd K),D.s (.c (.inn K i))):Option (List O×D))
  refine e1.trans (Eq.trans ?_ (congrArg (fun z:Option (List O×D)=>z.bind fun p=>k { st with objs:=p.1 } p.2) e2).symm)
  rw[hbb,Option.bind_assoc]
  rfl
 unfold FB
 split
 ·split
  ·split
   ·split
    ·unfold k8
     split
     ·dsimp only
      refine(lY st _ _ _).trans (Eq.trans ?_ (congrArg (fun z:Option (List O×D)=>z.bind fun p=>k { st with objs:=p.1 } p.2) (lY st.bare _ _ _)).symm)
      rw[hbb,Option.bind_assoc]
      refine congrArg _ (funext fun m=>?_)
      simp only[hbo]
      split
      ·split
       ·simp only[aL]
        refine congrArg _ (funext fun old=>congrArg _ (funext fun q=>?_))
        exact fin _
       ·rfl
      ·rfl
     ·rfl
    ·rfl
   ·rfl
  ·rfl
 ·rfl
theorem NJ(st:St)(dst:Option Nat)(t u:TypeId)(s x:D)(k:St→D→Option R):kG P st dst t u s x k=(kG P st.bare dst t u s x fun s d=>some (s.objs,d)).bind fun p=>k { st with objs:=p.1 } p.2:=by
 unfold kG
 split
 ·exact SZ _ _ _ _ _ _ _ _
 ·exact NI _ _ _ _ _ _ _
end
theorem P5{R:Type}{P:Program}(st:St)(t:TypeId)(x:D)(lo hi mx:Option D)(k:St→D→Option R):kY P st t x lo hi mx k=(kY P st.bare t x lo hi mx fun s d=>some (s.objs,d)).bind fun p=>k { st with objs:=p.1 } p.2:=by
 have hb:st.bare.objs=st.objs:=rfl
 unfold kY
 split
 ·split
  ·unfold sS
   simp only[hb]
   repeat' (first | split | dsimp only)
   all_goals first
    | rfl
    | (rw[←gV];rfl)
  ·rfl
 ·have hbb:st.bare.bare=st.bare:=by simp[St.bare]
  have e2:=lW (P:=P) st.bare t x lo hi mx (fun d=>(some (st.bare.objs,d):Option (List O×D)))
  rw[hbb] at e2
  refine(lW st t x lo hi mx fun d=>k st d).trans (Eq.trans ?_ (congrArg (fun z:Option (List O×D)=>z.bind fun p=>k { st with objs:=p.1 } p.2) e2).symm)
  rw[Option.bind_assoc]
  rfl
section
variable {R S:Type} {P:Program}
theorem Ql{α:Type}(m:Option α)(f:α→Option R)(g:R→Option S):(ob m f).bind g=ob m fun a=>(f a).bind g:=by cases m <;> rfl
theorem Bo(d:D)(f:C→Option R)(g:R→Option S):(k8 d f).bind g=k8 d fun c=>(f c).bind g:=by unfold k8;split <;> rfl
theorem P6(kd:IntKind)(d:D)(f:Int→Option R)(g:R→Option S):(GD kd d f).bind g=GD kd d fun c=>(f c).bind g:=by
 unfold GD BY
 split
 ·exact Ql _ _ _
 ·rfl
theorem Bp(d:D)(f:ByteArray→Option R)(g:R→Option S):(BZ d f).bind g=BZ d fun c=>(f c).bind g:=by
 unfold BZ BY
 split
 ·exact Ql _ _ _
 ·rfl
theorem H6:∀(cs:List C) (f:List T→Option R) (g:R→Option S),(sV cs f).bind g=sV cs fun c=>(f c).bind g
 | [],_,_=>rfl
 | c::cs,f,g=>by
  cases c with
  | t x=>
   simp only[sV]
   rw[Ql]
   congr 1
   funext a
   exact H6 cs _ _
  | _=>rfl
theorem tD(c:Nat)(d:D)(f:T→Option R)(g:R→Option S):(rZ c d f).bind g=rZ c d fun t=>(f t).bind g:=by
 match c with
 | 0=>exact P6 _ _ _ _
 | 1=>exact Bp _ _ _
 | m+2=>
  simp only[rZ]
  split
  ·split
   ·exact H6 _ _ _
   ·rfl
  ·rfl
theorem P7(st:St)(n:Nat)(c:C)(f:List T→Option R)(g:R→Option S):(r0 st n c f).bind g=r0 st n c fun l=>(f l).bind g:=by
 unfold r0
 split
 ·split <;> rfl
 ·split
  ·split <;> rfl
  ·rfl
 ·rfl
theorem ED(e:TypeId)(v:T)(f:S1→Option R)(g:R→Option S):(FY P e v f).bind g=FY P e v fun s=>(f s).bind g:=by
 unfold FY
 split
 ·exact Ql _ _ _
 ·split
  ·exact Ql _ _ _
  ·rfl
 ·rfl
theorem S0(e:TypeId)(v:T)(g:S1→Option S):FY P e v g=(FY P e v some).bind g:=by rw[ED];rfl
theorem FM(ts:List TypeId)(cs:List C)(f:List T→Option R)(g:R→Option S):(f7 P ts cs f).bind g=f7 P ts cs fun ts=>(f ts).bind g:=(gV ts cs f g).symm
theorem NK(st:St)(t:TypeId)(x ix:D)(ok:Bool)(k:D→Option R):oC P st t x ix ok k=(oC P st.bare t x ix ok some).bind k:=by
 have hb:∀n c (f:List T→Option R),r0 st.bare n c f=r0 st n c f:=fun _ _ _=>rfl
 unfold oC
 repeat' (first | split | dsimp only)
 all_goals first
  | rfl
  | (simp only[Bo,P7,tD,ED,hb];rfl)
theorem KF(st:St)(dst:Option Nat)(t:TypeId)(k:St→D→Option R):sW P st dst t k=(sW P st.bare dst t fun s d=>some (s.objs,d)).bind fun p=>k { st with objs:=p.1 } p.2:=by
 unfold sW
 repeat' (first | split | dsimp only)
 all_goals first
  | rfl
  | exact g8 st dst _ (fun key=>.s (.c (.row key))) k
theorem NL(st:St)(t:TypeId)(m q v:D)(k:St→Option R):uT P st t m q v k=(uT P st.bare t m q v fun s=>some s.objs).bind fun p=>k { st with objs:=p }:=by
 have hb:st.bare.objs=st.objs:=rfl
 unfold uT
 split
 ·split
  ·rw[tD]
   congr 1
   funext kk
   simp only[hb]
   split
   ·split
    ·split
     ·split
      ·rw[FM]
       congr 1
       funext ts
       split <;> rfl
      ·rfl
     ·rfl
    ·rfl
   ·rfl
  ·rfl
 ·rfl
theorem NM(st:St)(t:TypeId)(x ix:D)(ok:Bool)(k:D→Option R):mI P st t x ix ok k=(mI P st.bare t x ix ok some).bind k:=by
 unfold mI
 split
 ·have hb:st.bare.objs=st.objs:=rfl
  have hc:∀(b:Bool) (p q:Option D),(bif b then p else q).bind k=bif b then p.bind k else q.bind k:=fun b p q=>by cases b <;> rfl
  unfold UW
  rw[hb]
  repeat' (first | split | dsimp only)
  all_goals first
   | rfl
   | (rw[tD];congr 1;funext kk;rw[hc,aL];rfl)
 ·exact NK _ _ _ _ _ _
theorem CK(st:St)(t:TypeId)(m q v:D)(k:St→Option R):mJ P st t m q v k=(mJ P st.bare t m q v fun s=>some s.objs).bind fun p=>k { st with objs:=p }:=by
 unfold mJ
 split
 ·have hb:st.bare.objs=st.objs:=rfl
  have hf:gQ st.bare=gQ st:=by unfold gQ St.bare;simp only[List.length_replicate]
  unfold CC
  rw[hb,hf]
  repeat' (first | split | dsimp only)
  all_goals first
   | rfl
   | (rw[tD];congr 1;funext kk;simp only[aL];rfl)
 ·exact NL _ _ _ _ _ _
theorem KG(st:St)(dst:Option Nat)(t:TypeId)(k:St→D→Option R):sY P st dst t k=(sY P st.bare dst t fun s d=>some (s.objs,d)).bind fun p=>k { st with objs:=p.1 } p.2:=by
 unfold sY
 repeat' (first | split | dsimp only)
 all_goals first
  | rfl
  | exact g8 st dst _ (fun key=>.s (.c (.rk key))) k
theorem NN(st:St)(t:TypeId)(m q:D)(k:St→D→Option R):lF P st t m q k=(lF P st.bare t m q fun s d=>some (s.objs,d)).bind fun p=>k { st with objs:=p.1 } p.2:=by
 have hb:st.bare.objs=st.objs:=rfl
 unfold lF
 split
 ·split
  ·split
   ·split
    ·rw[tD]
     congr 1
     funext kk
     simp only[hb]
     split
     ·split
      ·split
       ·rw[ED]
        rfl
       ·rfl
      ·rfl
     ·rfl
    ·rfl
   ·rfl
  ·rfl
 ·rfl
theorem H7(st:St)(t:TypeId)(m q v:D)(k:St→Option R):nU P st t m q v k=(nU P st.bare t m q v fun s=>some s.objs).bind fun p=>k { st with objs:=p }:=by
 have hb:st.bare.objs=st.objs:=rfl
 unfold nU
 split
 ·rw[P6]
  congr 1
  funext kk
  simp only[hb]
  split
  ·split
   ·split
    ·rw[FM]
     congr 1
     funext ts
     split
     ·rw[Ql];rfl
     ·rfl
    ·rfl
   ·rfl
  ·rfl
 ·rfl
end
def Inl.Nat(I:Inl):Prop:=∀{R:Type} (st:St) (dst:Option _root_.Nat) (ds:List D) (k:St→D→Option R),I.go st dst ds k=(I.go st.bare dst ds fun s d=>some (s.objs,d)).bind fun p=>k { st with objs:=p.1 } p.2
def Callee.Nat0(A:Callee):Prop:=∀{R:Type} (args:List S1) (po:List O) (k:List S1→List O→Option R),A.call args po k=(A.call args po fun rs po'=>some (rs,po')).bind fun p=>k p.1 p.2
def Ext.Nat(I:Ext):Prop:=∀{R:Type} (ds:List D) (k:D→Option R),I.go ds k=(I.go ds some).bind k
def Callee.Nat(A:Callee):Prop:=A.Nat0∧(∀I,A.inl=some I→I.Nat)∧∀I,A.ext=some I→I.Nat
section
variable {R:Type} {P:Program} {Γ:FuncId→Option Callee}
theorem H8(st:St)(ks:List Nat):∀(cs:List C) (j:Nat) (ms:List (Option (TypeId×Nat))),jN st.bare ks j ms cs=jN st ks j ms cs
 | [],j,ms=>by cases ms <;> rfl
 | c::cs,j,ms=>by
  have h1:∀m,vV st.bare m c=vV st m c:=fun m=>rfl
  have h2:wY st.bare ks c=wY st ks c:=rfl
  simp only[jN,H8 st ks cs,h1,h2]
theorem P8(st:St)(objs:List O)(dst:Option Nat)(n:Nat):qD { st.bare with objs:=objs } dst n=qD { st with objs:=objs } dst n:=by
 unfold qD St.bare
 simp only[List.length_replicate]
theorem H9{A:Callee}(hA:A.Nat)(st:St)(dst:Option Nat)(ds:List D)(k:St→D→Option R):
 nD A st dst ds k=(nD A st.bare dst ds fun s d=>some (s.objs,d)).bind fun p=>k { st with objs:=p.1 } p.2:=by
 have hb:st.bare.objs=st.objs:=rfl
 obtain⟨hA,hAi,_⟩:=hA
 unfold nD
 cases hinl:A.inl with
 | some I=>exact hAi I hinl st dst ds k
 | none=>
 dsimp only
 unfold A5
 cases Gq ds with
 | none=>rfl
 | some ss=>
  dsimp only
  rw[hb]
  cases lJ ((lT A.deep st.objs ss).map (oI st.objs)) with
  | none=>rfl
  | some bl=>
   dsimp only
   rw[H8]
   cases jN st (lT A.deep st.objs ss) (lT A.deep st.objs ss).length A.rows (ss.flatMap S1.list++bl.flatten) with
   | none=>rfl
   | some q=>
    obtain⟨cs,rws⟩:=q
    dsimp only
    split
    ·refine(hA _ _ _).trans (Eq.trans ?_ (congrArg (fun z:Option (List O×D)=>z.bind fun p=>k { st with objs:=p.1 } p.2) (hA _ _ _)).symm)
     rw[Option.bind_assoc]
     refine congrArg _ (funext fun p=>?_)
     obtain⟨rs,po'⟩:=p
     dsimp only
     rw[P8]
     split
     ·rfl
     ·split
      ·rfl
      ·split
       ·split <;> rfl
       ·rfl
    ·rfl
theorem xM(hΓ:∀f A,Γ f=some A→A.Nat)(st:St)(dst:Option Nat)(f:D)(args:List D)(k:St→D→Option R):
 eW Γ st dst f args k=(eW Γ st.bare dst f args fun s d=>some (s.objs,d)).bind fun p=>k { st with objs:=p.1 } p.2:=by
 unfold eW k8
 split
 ·dsimp only
  split
  ·split
   ·split
    ·rename_i A hA
     split
     ·rename_i I hI
      refine((hΓ _ A hA).2.2 I hI _ _).trans (Eq.trans ?_ (congrArg (fun z:Option (List O×D)=>z.bind fun p=>k { st with objs:=p.1 } p.2) ((hΓ _ A hA).2.2 I hI _ _)).symm)
      rw[Option.bind_assoc]
      rfl
     ·exact H9 (hΓ _ A hA) st dst args k
    ·rfl
   ·rfl
  ·split
   ·rename_i A hA
    split
    ·rfl
    ·exact H9 (hΓ _ A hA) st dst _ k
   ·rfl
  ·rfl
 ·rfl
end
section
variable {R:Type} (P:Program) (Γ:FuncId→Option Callee)
def cO(b:St)(dst:Option Nat)(ty:TypeId)(bi:Builtin)(args:List D)(ts:List TypeId):Option (List O×D):=match bi,args,ts with
 | .len,[x],[t]=>(qX P b t x some).bind fun d=>some (b.objs,d)
 | .append,[s,x],[t,u]=>kG P b dst t u s x fun s d=>some (s.objs,d)
 | .copy,[s,x],[t,_]=>G8 P b t s x fun s d=>some (s.objs,d)
 | .min,[x,y],[t,_]=>(HH P false t x y some).bind fun d=>some (b.objs,d)
 | .max,[x,y],[t,_]=>(HH P true t x y some).bind fun d=>some (b.objs,d)
 | _,_,_=>none
def BH(b:St)(dst:Option Nat)(f:D)(args:List D):Option (List O×D):=match uU Γ with
 | []=>eW Γ b dst f args fun s d=>some (s.objs,d)
 | B=>if jO (bF Γ) dst=true then eW Γ b dst f args fun s d=>some (s.objs,d) else if SF B (f::args)=true then (eW Γ b dst f args fun s d=>some (s.objs,d)).bind fun p=>if OZ B b.objs p.1=true then some p else none else none
def xN(b:St)(dst:Option Nat)(f:D)(args:List D):Option (List O×D):=if (AG Γ b.objs dst (f::args)&&lU Γ b dst (f::args))=true then BH Γ b dst f args else none
def xO(Γ:FuncId→Option Callee)(P:Program)(b:St)(dst:Option Nat)(t:TypeId):Option (List O×D):=match uU Γ with
 | []=>lL P b dst t fun s d=>some (s.objs,d)
 | B=>if (D4 Γ b dst&&FE Γ b dst)=true then (lL P b dst t fun s d=>some (s.objs,d)).bind fun p=>if (OZ B b.objs p.1||jO (bF Γ) dst)=true then some p else none else none
def BI(o:Oper)(b:St)(e:Operand→D):Option (List O×D):=match o.op with
 | .move x=>some (b.objs,e x)
 | .assign x=>some (b.objs,e x)
 | .pick c x y=>(J4 (e c) some).bind fun q=>some (b.objs,bif q then e x else e y)
 | .alloc t=>xO Γ P b o.dst t
 | .box _ x=>O6 b o.dst (e x) fun s d=>some (s.objs,d)
 | .build t parts=>(A1 P t (parts.toList.map fun p=>(p.1,e p.2)) some).bind fun d=>some (b.objs,d)
 | .buildSlice t len parts=>Gy Γ P b o.dst t len (parts.toList.map fun p=>(p.1,e p.2)) fun s d=>some (s.objs,d)
 | .load t x=>if vW Γ o.dst (e x)=true then (kX Γ P b o.dst t (e x) some).bind fun d=>some (b.objs,d) else none
 | .store t x v=>if (Bb Γ t (e x)&&U1 Γ t (e x))=true then (o6 P b t (e x) (e v) fun s=>some s.objs).bind fun q=>some (q,D.top) else none
 | .nilCheck x=>(XZ (e x) some).bind fun d=>some (b.objs,d)
 | .binOp op t x y yt=>(J9 P b op t yt (e x) (e y) some).bind fun d=>some (b.objs,d)
 | .unOp op t x=>(Mq (P:=P) op t (e x) some).bind fun d=>some (b.objs,d)
 | .convert s t x=>(G6 P b s t (e x) some).bind fun d=>some (b.objs,d)
 | .makeFunc fn f c=>(nP fn (f.toList.map e) (c.toList.map e) some).bind fun d=>some (b.objs,d)
 | .makeSlice t l c=>gN Γ P b o.dst t (e l) (e c) fun s d=>some (s.objs,d)
 | .slice t x lo hi mx=>if (AH Γ o.dst (e x)&&HJ Γ o.dst (e x))=true then kY P b t (e x) (lo.map e) (hi.map e) (mx.map e) fun s d=>some (s.objs,d) else none
 | .fieldAddr t x f=>(lM P t (e x) f some).bind fun d=>some (b.objs,d)
 | .field t x f=>(A2 P t (e x) f some).bind fun d=>some (b.objs,d)
 | .indexAddr t x ix=>(mK Γ P b o.dst t (e x) (e ix) some).bind fun d=>some (b.objs,d)
 | .index t x ix=>(A3 P t (e x) (e ix) some).bind fun d=>some (b.objs,d)
 | .extract x i=>(qA (e x) i some).bind fun d=>some (b.objs,d)
 | .call { callee:=.builtin bi,args,argTypes }=>if oK Γ b o.dst bi (args.toList.map e)=true then cO P b o.dst o.type bi (args.toList.map e) argTypes.toList else none
 | .call { callee:=.value f,args,.. }=>xN Γ b o.dst (e f) (args.toList.map e)
 | .makeMap t none=>sZ Γ P b o.dst t fun s d=>some (s.objs,d)
 | .lookup t x ix ok=>(mI P b t (e x) (e ix) ok some).bind fun d=>some (b.objs,d)
 | .mapUpdate t m q v=>(mJ P b t (e m) (e q) (e v) fun s=>some s.objs).bind fun q=>some (q,D.top)
 | .insert t m q v=>(mJ P b t (e m) (e q) (e v) fun s=>some s.objs).bind fun q=>some (q,D.top)
 | .mapEntry t m q=>lF P b t (e m) (e q) fun s d=>some (s.objs,d)
 | .entryStore t m q v=>(nU P b t (e m) (e q) (e v) fun s=>some s.objs).bind fun q=>some (q,D.top)
 | _=>none
end
section
variable {R:Type} {P:Program} {Γ:FuncId→Option Callee}
theorem Bq(d:D)(k:Bool→Option R):J4 d k=(J4 d some).bind k:=by
 unfold J4 BY
 split
 ·simp only[aL];rfl
 ·rfl
theorem KH(st:St)(dst:Option Nat)(ty:TypeId)(bi:Builtin)(args:List D)(ts:List TypeId)(k:St→D→Option R):
 CD P st dst ty bi args ts k=(cO P st.bare dst ty bi args ts).bind fun p=>k { st with objs:=p.1 } p.2:=by
 unfold CD
 split
 ·dsimp only[cO]
  rw[YD,Option.bind_assoc];rfl
 ·exact NJ st dst _ _ _ _ k
 ·exact SY st _ _ _ k
 ·dsimp only[cO]
  rw[LN,Option.bind_assoc];rfl
 ·dsimp only[cO]
  rw[LN,Option.bind_assoc];rfl
 ·rename_i h1 h2 h3 h4 h5
  unfold cO
  split
  ·exact(h1 _ _ rfl rfl rfl).elim
  ·exact(h2 _ _ _ _ rfl rfl rfl).elim
  ·exact(h3 _ _ _ _ rfl rfl rfl).elim
  ·exact(h4 _ _ _ _ rfl rfl rfl).elim
  ·exact(h5 _ _ _ _ rfl rfl rfl).elim
  ·rfl
theorem S2(st:St)(dst:Option Nat)(t:TypeId)(d:D)(k:D→Option R):kX Γ P st dst t d k=(kX Γ P st.bare dst t d some).bind k:=by
 have hbx:nV st.bare d=nV st d:=rfl
 unfold kX
 rw[hbx]
 split
 ·exact H4 _ _ _ _
 ·split
  ·exact H4 _ _ _ _
  ·rfl
theorem P9(st:St)(dst:Option Nat)(t:TypeId)(x ix:D)(k:D→Option R):mK Γ P st dst t x ix k=(mK Γ P st.bare dst t x ix some).bind k:=by
 unfold mK
 split
 ·exact vX _ _ _ _ _
 ·split
  ·exact vX _ _ _ _ _
  ·rfl
theorem QA(st:St)(dst:Option Nat)(e:TypeId)(k:St→D→Option R):M6 Γ P st dst e k=(xO Γ P st.bare dst e).bind fun p=>k { st with objs:=p.1 } p.2:=by
 unfold M6 xO
 have ho:D4 Γ st.bare dst=D4 Γ st dst:=rfl
 have ho2:FE Γ st.bare dst=FE Γ st dst:=rfl
 rw[ho,ho2]
 generalize uU Γ=B
 cases B with
 | nil=>exact FL _ _ _ _
 | cons w B=>
  dsimp only
  split
  case isFalse=>rfl
  refine(FL _ _ _ _).trans ?_
  rw[Option.bind_assoc]
  refine congrArg _ (funext fun p=>?_)
  have hb:st.bare.objs=st.objs:=rfl
  rw[hb]
  split <;> rfl
theorem vY(Γ:FuncId→Option Callee)(st:St)(dst:Option Nat)(t:TypeId)(l c:D)(k:St→D→Option R):eH Γ P st dst t l c k=(eH Γ P st.bare dst t l c fun s d=>some (s.objs,d)).bind fun p=>k { st with objs:=p.1 } p.2:=by
 unfold eH
 split
 ·exact NH _ _ _ _ _ _
 ·exact F5 _ _ _ _ _ _
theorem F6(Γ:FuncId→Option Callee)(st:St)(dst:Option Nat)(t:TypeId)(l c:D)(k:St→D→Option R):gN Γ P st dst t l c k=(gN Γ P st.bare dst t l c fun s d=>some (s.objs,d)).bind fun p=>k { st with objs:=p.1 } p.2:=by
 have hown:D4 Γ st.bare dst=D4 Γ st dst:=rfl
 unfold gN
 cases uU Γ with
 | nil=>exact vY _ _ _ _ _ _ _
 | cons w B=>
  dsimp only
  rw[hown]
  split
  ·exact vY _ _ _ _ _ _ _
  ·rfl
theorem KI(Γ:FuncId→Option Callee)(st:St)(dst:Option Nat)(t:TypeId)(k:St→D→Option R):sZ Γ P st dst t k=(sZ Γ P st.bare dst t fun s d=>some (s.objs,d)).bind fun p=>k { st with objs:=p.1 } p.2:=by
 unfold sZ
 split
 ·exact KG _ _ _ _
 ·exact KF _ _ _ _
theorem Br(st:St)(dst:Option Nat)(d:D):(st.put dst d).objs=st.objs:=by cases dst <;> rfl
theorem IA(st:St)(dst:Option Nat)(ds:List D):lU Γ st.bare dst ds=lU Γ st dst ds:=by
 unfold lU St.bare
 simp only[List.length_replicate]
theorem IB(st:St)(dst:Option Nat)(b:Builtin)(ds:List D):oK Γ st.bare dst b ds=oK Γ st dst b ds:=by
 unfold oK UZ
 simp only[IA]
 rfl
theorem S3(hΓ:∀f A,Γ f=some A→A.Nat)(st:St)(dst:Option Nat)(f:D)(args:List D)(k:St→Option R):
 UY Γ st dst f args k=(xN Γ st.bare dst f args).bind fun p=>k (({ st with objs:=p.1 }:St).put dst p.2):=by
 unfold UY xN
 have hb0:st.bare.objs=st.objs:=rfl
 have hb1:lU Γ st.bare dst (f::args)=lU Γ st dst (f::args):=by
  unfold lU St.bare
  simp only[List.length_replicate]
 rw[hb0,hb1]
 split
 case isFalse=>rfl
 unfold SG BH
 generalize uU Γ=B
 cases B with
 | nil=>exact xM hΓ st dst _ _ fun st d=>k (st.put dst d)
 | cons q B=>
  dsimp only
  split
  ·exact xM hΓ st dst _ _ fun st d=>k (st.put dst d)
  split
  ·refine(xM hΓ st dst _ _ _).trans ?_
   rw[Option.bind_assoc]
   refine congrArg _ (funext fun p=>?_)
   rw[Br]
   have hb:st.bare.objs=st.objs:=rfl
   rw[hb]
   split <;> rfl
  ·rfl
theorem IC(hΓ:∀f A,Γ f=some A→A.Nat)(o:Oper)(st:St)(k:St→Option R):Nd P Γ o st k=(BI P Γ o st.bare (ev st)).bind fun p=>k (({ st with objs:=p.1 }:St).put o.dst p.2):=by
 obtain⟨dst,op,ty,pos,after,guard⟩:=o
 unfold Nd BI
 cases op with
 | move x=>rfl
 | assign x=>rfl
 | pick c x y=>
  dsimp only
  rw[Bq,Option.bind_assoc]
  exact congrArg _ (funext fun q=>by cases q <;> rfl)
 | alloc e=>exact QA st dst _ fun st d=>k (st.put dst d)
 | box e x=>exact YH st dst _ fun st d=>k (st.put dst d)
 | build t parts=>dsimp only;rw[P2,Option.bind_assoc];rfl
 | buildSlice t n parts=>
  dsimp only
  unfold Gy
  split
  ·rw[lX,lX (k:=fun d=>some (st.bare.objs,d)),Option.bind_assoc];rfl
  show (if FG Γ st.objs dst=true then _ else _)=Option.bind (if FG Γ st.objs dst=true then _ else _) _
  split
  ·exact EC st dst _ _ _ fun st d=>k (st.put dst d)
  ·rfl
 | load t x=>
  dsimp only
  split
  ·rw[S2,Option.bind_assoc];rfl
  ·rfl
 | store t x v=>
  dsimp only
  split
  ·rw[P1,Option.bind_assoc];rfl
  ·rfl
 | nilCheck x=>dsimp only;rw[YC,Option.bind_assoc];rfl
 | binOp op t x y yt=>dsimp only;rw[YG,Option.bind_assoc];rfl
 | unOp op t x=>dsimp only;rw[Bn,Option.bind_assoc];rfl
 | convert s t x=>dsimp only;rw[SX,Option.bind_assoc];rfl
 | makeFunc fn f c=>dsimp only;rw[H5,Option.bind_assoc];rfl
 | makeSlice t l c=>exact F6 Γ st dst _ _ _ fun st d=>k (st.put dst d)
 | slice t x lo hi mx=>
  dsimp only
  split
  ·exact P5 st t _ _ _ _ fun st d=>k (st.put dst d)
  ·rfl
 | fieldAddr t x f=>dsimp only;rw[F4,Option.bind_assoc];rfl
 | field t x f=>dsimp only;rw[P3,Option.bind_assoc];rfl
 | indexAddr t x ix=>dsimp only;rw[P9,Option.bind_assoc];rfl
 | index t x ix=>dsimp only;rw[P4,Option.bind_assoc];rfl
 | extract x i=>dsimp only;rw[KE,Option.bind_assoc];rfl
 | call c=>
  obtain⟨callee,args,argTypes⟩:=c
  cases callee with
  | builtin b=>
   dsimp only
   rw[IB]
   split
   ·exact KH st dst ty b _ _ fun st d=>k (st.put dst d)
   ·rfl
  | value f=>exact S3 hΓ st dst _ _ k
  | _=>rfl
 | makeMap t h=>
  cases h with
  | none=>exact KI Γ st dst t fun st d=>k (st.put dst d)
  | some x=>rfl
 | lookup t x ix ok=>dsimp only;rw[NM,Option.bind_assoc];rfl
 | mapUpdate t m q v=>dsimp only;rw[CK,Option.bind_assoc];rfl
 | insert t m q v=>dsimp only;rw[CK,Option.bind_assoc];rfl
 | mapEntry t m q=>exact NN st t _ _ fun st d=>k (st.put dst d)
 | entryStore t m q v=>dsimp only;rw[H7,Option.bind_assoc];rfl
 | _=>rfl
end
section
variable (P:Program) (Γ:FuncId→Option Callee) (ops:Array Oper)
def LO(d:D):Option Bool:=match d with
 | .s (.c (.t (.v (.bool b))))=>some b
 | _=>none
def VB(want:Bool)(d:D):Option Bool:=X1 d (some false) ((LO d).map (·==want))
def gd(o:Oper)(st:St):Option Bool:=match o.guard with
 | none=>some true
 | some (j,want)=>match (ops[j]?).bind (·.dst) with
  | none=>none
  | some t=>VB want (st.env.getD t D.top)
def fH(o:Oper)(st:St):Option (List O×D):=(gd ops o st).bind fun w=>bif w then BI P Γ o st.bare (ev st) else some (st.objs,KA)
def St.with(st:St)(dst:Option Nat)(p:List O×D):St:=({ st with objs:=p.1 }:St).put dst p.2
def pE(i:Nat)(st:St):Option St:=match ops[i]? with
 | none=>some st
 | some o=>(fH P Γ ops o st).map (st.with o.dst)
end
section
variable {R:Type} {P:Program} {Γ:FuncId→Option Callee} {ops:Array Oper}
theorem YI(d:D)(k:Bool→Option R):J4 d k=(LO d).bind k:=by
 cases d with
 | tup l=>rfl
 | s x=>cases x with
  | agg l=>rfl
  | c c=>cases c with
   | t x=>cases x with
    | v y=>cases y <;> rfl
    | _=>rfl
   | _=>rfl
theorem Bt{d:D}{b:Bool}(h:LO d=some b):d=dB b:=by
 unfold LO at h
 split at h
 ·cases h;rfl
 ·cases h
theorem Bu(st:St){t:Nat}{b:Bool}(h:st.env.getD t D.top=dB b):st.put (some t) (dB b)=st:=by
 unfold St.put
 have hlt:t<st.env.length:=by
  apply Classical.byContradiction
  intro hge
  rw[List.getD_eq_getElem?_getD,List.getElem?_eq_none (by omega)] at h
  cases h
 have:st.env[t]=dB b:=by rw[List.getD_eq_getElem?_getD,List.getElem?_eq_getElem hlt] at h;exact h
 have h2:st.env.set t (dB b)=st.env:=by rw[←this];exact List.set_getElem_self hlt
 dsimp only
 rw[h2]
theorem zE(hΓ:∀f A,Γ f=some A→A.Nat):∀(l:List Nat) (st:St) (k:St→Option R),xF P Γ ops l st k=(l.foldlM (fun st i=>pE P Γ ops i st) st).bind k
 | [],st,k=>rfl
 | i::l,st,k=>by
  rw[List.foldlM_cons]
  simp only[xF,pE]
  cases ho:ops[i]? with
  | none=>exact zE hΓ l st k
  | some o=>
   dsimp only
   have fin:∀(p:Option (List O×D)),(p.bind fun p=>xF P Γ ops l (({ st with objs:=p.1 }:St).put o.dst p.2) k)=((p.map (st.with o.dst)).bind fun s=>l.foldlM (fun st i=>pE P Γ ops i st) s).bind k:=fun p=>by
    cases p with
    | none=>rfl
    | some p=>exact zE hΓ l _ k
   cases hg:o.guard with
   | none=>
    dsimp only
    rw[IC hΓ]
    have:fH P Γ ops o st=BI P Γ o st.bare (ev st):=by simp[fH,gd,hg]
    rw[this]
    exact fin _
   | some g=>
    obtain⟨j,want⟩:=g
    dsimp only
    cases hd:(ops[j]?).bind (·.dst) with
    | none=>simp[fH,gd,hg,hd]
    | some t=>
     dsimp only
     rw[YI]
     unfold X1
     split
     ·rename_i hoff
      have he:fH P Γ ops o st=some (st.objs,KA):=by
       simp only[fH,gd,hg,hd,hoff,VB,X1,Option.bind_some,cond_false]
      rw[he]
      exact fin (some (st.objs,KA))
     rename_i hoff
     have hbw:VB want (st.env.getD t D.top)=(LO (st.env.getD t D.top)).map (·==want):=by
      unfold VB X1
      split
      ·rename_i h;exact(hoff h).elim
      ·rfl
     cases hb:LO (st.env.getD t D.top) with
     | none=>simp only[fH,gd,hg,hd,hbw,hb];rfl
     | some b=>
      have hs:=Bu st (Bt hb)
      have he:fH P Γ ops o st=bif b==want then BI P Γ o st.bare (ev st) else some (st.objs,KA):=by
       simp only[fH,gd,hg,hd,hbw,hb,Option.map_some,Option.bind_some]
      rw[he]
      cases b with
      | true=>
       simp only[Option.bind_some,cond_true]
       rw[hs]
       cases want with
       | true=>simp only[if_true];rw[IC hΓ];exact fin _
       | false=>exact fin (some (st.objs,KA))
      | false=>
       simp only[Option.bind_some,cond_false]
       rw[hs]
       cases want with
       | true=>exact fin (some (st.objs,KA))
       | false=>simp only[Bool.false_eq_true,if_false];rw[IC hΓ];exact fin _
theorem Nm{st:St}{t:Nat}{d:D}{x:Operand}(h:x≠.tmp t):ev (st.put (some t) d) x=ev st x:=by
 cases x with
 | tmp i=>
  have hne:t≠i:=fun e=>h (e▸rfl)
  simp only[ev,St.put,List.getD_eq_getElem?_getD]
  rw[List.getElem?_set_ne hne]
 | _=>rfl
theorem Bv(st:St)(dst:Option Nat)(d:D):(st.put dst d).bare=st.bare:=by
 cases dst with
 | none=>rfl
 | some i=>simp[St.put,St.bare]
theorem YJ{e e':Operand→D}(o:Oper)(b:St)(h:∀x∈o.op.operands,e x=e' x):BI P Γ o b e=BI P Γ o b e':=by
 obtain⟨dst,op,type,pos,after,guard⟩:=o
 have pairs:∀ps:Array (Nat×Operand),(∀x∈(ps.toList.map (·.2)).toArray,e x=e' x)→(ps.toList.map fun p=>(p.1,e p.2))=(ps.toList.map fun p=>(p.1,e' p.2)):=fun ps hp=>
  List.map_congr_left fun p hm=>by rw[hp p.2 (by simp only[List.mem_toArray,List.mem_map];exact⟨p,hm,rfl⟩)]
 have lst:∀l:Array Operand,(∀x∈l,e x=e' x)→l.toList.map e=l.toList.map e':=fun l hl=>List.map_congr_left fun x hx=>hl x (Array.mem_toList_iff.1 hx)
 cases op <;> simp only[Op.operands] at h <;> unfold BI <;> dsimp only
 case build t ps=>rw[pairs ps h]
 case buildSlice t n ps=>rw[pairs ps h]
 case makeFunc fn first captured=>rw[lst first fun x hx=>h x (by simp[hx]),lst captured fun x hx=>h x (by simp[hx])]
 case slice t x lo hi mx=>cases lo <;> cases hi <;> cases mx <;> simp_all
 case makeMap t q=>cases q <;> rfl
 case call c=>
  obtain⟨callee,args,ats⟩:=c
  have hargs:=lst args fun x hx=>h x (by simp[Call.operands,hx])
  cases callee with
  | builtin bi=>dsimp only;rw[hargs]
  | value f=>dsimp only;rw[hargs,h f (by simp[Call.operands])]
  | _=>rfl
 all_goals first
  | rfl
  | (simp_all;done)
theorem VC{o:Oper}{st:St}{dst:Option Nat}{d:D}(h:∀t,dst=some t→t∉o.looksAt ops):fH P Γ ops o (st.put dst d)=fH P Γ ops o st:=by
 cases dst with
 | none=>rfl
 | some t=>
  have ht:=h t rfl
  have h1:BI P Γ o (st.put (some t) d).bare (ev (st.put (some t) d))=BI P Γ o st.bare (ev st):=by
   rw[Bv]
   exact YJ o st.bare fun x hx=>Nm fun e=>ht (by
    subst e
    exact List.mem_append_left _ (List.mem_filterMap.2 ⟨.tmp t,by simpa using hx,rfl⟩))
  have h2:gd ops o (st.put (some t) d)=gd ops o st:=by
   unfold gd
   cases hg:o.guard with
   | none=>rfl
   | some g=>
    obtain⟨j,want⟩:=g
    dsimp only
    cases hd:(ops[j]?).bind (·.dst) with
    | none=>rfl
    | some i=>
     have hne:t≠i:=fun e=>ht (by
      subst e
      refine List.mem_append_right _ ?_
      simp[hg,hd])
     dsimp only[St.put]
     rw[List.getD_eq_getElem?_getD,List.getD_eq_getElem?_getD,List.getElem?_set_ne hne]
  unfold fH
  rw[h1,h2]
  rfl
end
def Nn(pl:List Nat):Option Nat→Bool
 | some s=>pl.contains (30000000+s)
 | none=>false
def Hm(pl:List Nat)(o:Oper):Bool:=match o.op with
 | .buildSlice _ _ _=>match o.dst with
  | some s=>pl.contains (90500000+s)
  | none=>false
 | .call { callee:=.value (.func f),.. }=>pl.contains (f+1000000)&&!Nn pl o.dst
 | .call { callee:=.builtin .min,.. }=>true
 | .call { callee:=.builtin .max,.. }=>true
 | .move _=>true
 | .assign _=>true
 | .pick _ _ _=>true
 | .build _ _=>true
 | .nilCheck _=>true
 | .unOp _ _ _=>true
 | .makeFunc _ _ _=>true
 | .fieldAddr _ _ _=>true
 | .field _ _ _=>true
 | .index _ _ _=>true
 | .extract _ _=>true
 | .binOp .eql _ _ _ _=>false
 | .binOp .neq _ _ _ _=>false
 | .binOp _ _ _ _ _=>true
 | _=>false
def Gf(pl:List Nat)(o:Oper):Bool:=match o.op with
 | .load _ _=>true
 | .convert _ _ _=>true
 | .indexAddr _ _ _=>true
 | .binOp _ _ _ _ _=>true
 | .lookup _ _ _ _=>true
 | .slice _ _ lo hi mx=>lo.isSome||hi.isSome||mx.isSome
 | .call { callee:=.builtin .len,.. }=>true
 | .call { callee:=.builtin .min,.. }=>true
 | .call { callee:=.builtin .max,.. }=>true
 | .call { callee:=.value (.func f),.. }=>pl.contains f||pl.contains (f+1000000)
 | _=>Hm pl o
def Callee.Pure0(A:Callee):Prop:=(A.inl=none∧A.ext=none)∧∀(args:List S1) (po:List O) (rs:List S1) (po':List O),A.call args po (fun rs po'=>some (rs,po'))=some (rs,po')→po=[]∧po'=[]∧rs.all (fun s=>s.list.all AC)=true
def Callee.Pure(A:Callee):Prop:=A.ext=none∧∀{b:St} {dst:Option _root_.Nat} {ds:List D} {p:List O×D},(nD A b dst ds fun s d=>some (s.objs,d))=some p→p.1=b.objs
def Callee.PureP(A:Callee):Prop:=A.ext=none∧∀(b:St) (q:List O) (dst:Option _root_.Nat) (ds:List D),(nD A { b with objs:=q } dst ds fun s d=>some (s.objs,d))=(nD A b dst ds fun s d=>some (s.objs,d)).map fun p=>(q,p.2)
def BoxSame(o o':List O)(k:Nat):Prop:=∀l,o[k]?=some (.box l)↔o'[k]?=some (.box l)
theorem jX{o:List O}{K:Nat}{x:O}{k:Nat}(h1:gM o[K]?=false)(h2:gM (some x)=false):BoxSame o (o.set K x) k:=fun l=>by
 by_cases hk:K=k
 ·subst hk
  constructor
  ·intro h;rw[h] at h1;cases h1
  ·intro h
   rw[List.getElem?_set] at h
   split at h
   ·split at h
    ·cases h;cases h2
    ·cases h
   ·exact h
 ·rw[List.getElem?_set_ne hk]
theorem BoxSame.trans{a b c:List O}{k:Nat}(h1:BoxSame a b k)(h2:BoxSame b c k):BoxSame a c k:=fun l=>(h1 l).trans (h2 l)
theorem BoxSame.refl(a:List O)(k:Nat):BoxSame a a k:=fun _=>Iff.rfl
theorem qJ{α:Type}{st:St}{dst:Option Nat}{o:O}{f:St→Nat→Option α}{r:α}(ho:gM (some o)=false)(h:gC st dst o f=some r):∃K,(∀k,BoxSame st.objs (st.objs.set K o) k)∧f { st with objs:=st.objs.set K o } K=some r:=by
 unfold gC at h
 split at h
 ·split at h
  ·rename_i d _ hf
   exact⟨_,fun k=>jX (by rw[hf];rfl) ho,h⟩
  ·split at h
   ·rename_i hf
    exact⟨_,fun k=>jX (by rw[hf];rfl) ho,h⟩
   ·split at h
    ·rename_i K hK
     have hm:K∈(List.range st.objs.length).filter fun i=>decide (st.np+st.env.length≤i)&&gP st.objs[i]?:=by
      unfold gQ at hK
      exact List.mem_of_mem_head? hK
     have h2:=(List.mem_filter.1 hm).2
     simp only[Bool.and_eq_true] at h2
     exact⟨_,fun k=>jX (by
      have:=h2.2
      unfold gP at this
      split at this
      ·rename_i e;rw[e];rfl
      ·cases this) ho,h⟩
    ·cases h
 ·cases h
theorem KJ{P:Program}{b:St}{dst:Option Nat}{t u:TypeId}{s x:D}{p:List O×D}(h:(jM P b dst t u s x fun s d=>some (s.objs,d))=some p)(k:Nat):BoxSame b.objs p.1 k:=by
 have own:∀{e:TypeId} {n:Nat} {c:C} {f:St→List T→Option (List O×D)},uN b e n c f=some p→(∀st l,BoxSame b.objs st.objs k→f st l=some p→BoxSame b.objs p.1 k)→BoxSame b.objs p.1 k:=fun {e n c f} h hf=>by
  unfold uN at h
  split at h
  ·exact hf _ _ (.refl _ _) h
  ·split at h
   ·rename_i hob
    split at h
    ·exact hf _ _ (jX (by rw[hob];rfl) rfl) h
    ·cases h
   ·cases h
  ·split at h
   ·rename_i hob
    split at h
    ·exact hf _ _ (jX (by rw[hob];rfl) rfl) h
    ·cases h
   ·cases h
  ·cases h
 have tail:∀{st:St} {e n:Nat} {q:List T},BoxSame b.objs st.objs k→(gC st dst (.row false e n q) fun st key=>some (st.objs,D.s (.c (.row key))))=some p→BoxSame b.objs p.1 k:=fun {st e n q} hb h=>by
  obtain⟨K,h1,h2⟩:=qJ rfl h
  cases h2
  exact hb.trans (h1 k)
 unfold jM at h
 split at h
 case h_2=>cases h
 split at h
 case h_2=>cases h
 split at h
 case h_2=>cases h
 split at h
 case isFalse=>cases h
 unfold k8 at h
 split at h
 case h_2=>cases h
 split at h
 ·split at h
  case h_2=>cases h
  unfold gJ at h
  dsimp only at h
  split at h
  ·obtain⟨l,_,h⟩:=aB h
   exact own h fun st l hb h=>by
    obtain⟨q,_,h⟩:=aB h
    exact tail hb h
  ·split at h
   ·split at h
    ·exact own h fun st l hb h=>by
      obtain⟨q,_,h⟩:=aB h
      exact tail hb h
    ·cases h
   ·cases h
  ·split at h
   ·split at h
    ·exact own h fun st l hb h=>by
      obtain⟨q,_,h⟩:=aB h
      exact tail hb h
    ·cases h
   ·cases h
  ·cases h
 ·split at h
  ·obtain⟨s',h⟩:∃s',(uN b _ 1 _ fun st l=>ob (room l (iD s') 1) fun q=>gC st dst (.row false _ 1 q) fun st key=>some (st.objs,D.s (.c (.row key))))=some p:=by
    cases x with
    | tup l=>cases h
    | s sx=>cases sx with
     | agg l=>cases h
     | c cx=>cases cx with
      | t tx=>
       obtain⟨s',_,h⟩:=aB (show ob tx.str? _=some p from h)
       exact⟨s',h⟩
      | _=>cases h
   exact own h fun st l hb h=>by
    obtain⟨q,_,h⟩:=aB h
    exact tail hb h
  ·cases h
theorem qK{R:Type}{ix:D}{f:Int→Option R}{r:R}(h:gK ix f=some r):∃i,f i=some r∧∀{S:Type} (g:Int→Option S),gK ix g=g i:=by
 unfold gK BY at h
 unfold gK BY
 cases ix with
 | tup l=>cases h
 | s s=>cases s with
  | agg l=>cases h
  | c c=>cases c with
   | t x=>
    dsimp only at h ⊢
    obtain⟨i,h1,h2⟩:=aB h
    exact⟨i,h2,fun g=>by rw[h1];rfl⟩
   | _=>cases h
theorem S4{R:Type}{st:St}{n:Nat}{c:C}{f:List T→Option R}{r:R}(h:gJ st n c f=some r):∃m,f m=some r:=by
 unfold gJ at h
 split at h
 ·obtain⟨l,_,h⟩:=aB h
  exact⟨l,h⟩
 ·split at h
  ·split at h
   ·exact⟨_,h⟩
   ·cases h
  ·cases h
 ·split at h
  ·split at h
   ·exact⟨_,h⟩
   ·cases h
  ·cases h
 ·cases h
theorem QB{P:Program}{b:St}{dst:Option Nat}{t u:TypeId}{key i:Nat}{x:D}{p:List O×D}(h:(FB P b dst t u key i x fun s d=>some (s.objs,d))=some p)(k:Nat):BoxSame b.objs p.1 k:=by
 unfold FB at h
 split at h
 case h_2=>cases h
 split at h
 case h_2=>cases h
 split at h
 case h_2=>cases h
 split at h
 case isFalse=>cases h
 unfold k8 at h
 split at h
 case h_2=>cases h
 obtain⟨m,h⟩:=S4 h
 split at h
 case h_2=>cases h
 rename_i hob
 split at h
 case isFalse=>cases h
 obtain⟨old,_,h⟩:=aB h
 obtain⟨q,_,h⟩:=aB h
 obtain⟨K,h1,h2⟩:=qJ rfl h
 cases h2
 refine(h1 k).trans (jX ?_ rfl)
 rw[List.getElem?_set]
 split
 ·split <;> rfl
 ·rw[hob];rfl
theorem KK{P:Program}{b:St}{dst:Option Nat}{t u:TypeId}{s x:D}{p:List O×D}(h:(kG P b dst t u s x fun s d=>some (s.objs,d))=some p)(k:Nat):BoxSame b.objs p.1 k:=by
 unfold kG at h
 split at h
 ·exact QB h k
 ·exact KJ h k
theorem sC(k:Nat):∀(ks:List Nat) (objs:List O),BoxSame objs (freezeL objs ks) k
 | [],objs=>.refl _ _
 | x::ks,objs=>by
  rw[freezeL_cons]
  split
  ·rename_i o ho
   refine BoxSame.trans (fun l=>?_) (sC k ks _)
   by_cases hk:x=k
   ·subst hk
    have hlt:x<objs.length:=by
     rw[List.getElem?_eq_some_iff] at ho
     exact ho.1
    rw[List.getElem?_set_self hlt,ho]
    cases o <;> simp[fI]
   ·rw[List.getElem?_set_ne hk]
  ·exact sC k ks objs
theorem YK{R:Type}{P:Program}{t:TypeId}{c:C}{k:T→Option R}{r:R}(h:E8 P t c k=some r):∃x,k x=some r:=by
 unfold E8 at h
 split at h
 ·obtain⟨n,_,h⟩:=aB h;exact⟨_,h⟩
 ·obtain⟨n,_,h⟩:=aB h;exact⟨_,h⟩
 ·obtain⟨n,_,h⟩:=aB h;exact⟨_,h⟩
 ·split at h
  ·split at h
   ·obtain⟨n,_,h⟩:=aB h;exact⟨_,h⟩
   ·cases h
  ·cases h
 ·split at h
  ·exact⟨_,h⟩
  ·cases h
theorem qL{R:Type}{P:Program}{r:R}:∀{ts:List TypeId} {cs:List C} {k:List T→Option R},f7 P ts cs k=some r→∃xs,k xs=some r
 | [],[],k,h=>⟨[],h⟩
 | [],_::_,k,h=>by simp[f7] at h
 | _::_,[],k,h=>by simp[f7] at h
 | t::ts,c::cs,k,h=>by
  simp only[f7] at h
  obtain⟨x,h⟩:=YK h
  obtain⟨xs,h⟩:=qL h
  exact⟨_,h⟩
theorem ID{objs:List O}{cs:List C}{q:List O×List C}(h:DX objs cs=some q)(k:Nat):BoxSame objs q.1 k:=by
 unfold DX at h
 obtain⟨l,_,h⟩:=Option.map_eq_some_iff.1 h
 subst h
 exact sC k _ _
theorem CL{P:Program}{b:St}{dst:Option Nat}{t:TypeId}{n:Nat}{parts:List (Nat×D)}{p:List O×D}(h:(fC P b dst t n parts fun s d=>some (s.objs,d))=some p)(k:Nat):BoxSame b.objs p.1 k:=by
 unfold fC at h
 split at h
 ·split at h
  case h_2=>cases h
  split at h
  case h_2=>cases h
  split at h
  case isFalse=>cases h
  obtain⟨K,h1,h2⟩:=qJ rfl h
  cases h2
  exact h1 k
 ·unfold gU at h
  split at h
  case h_2=>cases h
  split at h
  case h_2=>cases h
  split at h
  case h_2=>cases h
  split at h
  case h_2=>cases h
  split at h
  case isFalse=>cases h
  split at h
  case h_2=>cases h
  split at h
  case h_2=>cases h
  rename_i q hq
  split at h
  case h_2=>cases h
  have h:=h
  rw[show ∀(ts:List TypeId) (cs:List C) (f:List T→Option (List O×D)),f7 P ts cs f=(f7 P ts cs some).bind f from fun ts cs f=>gV ts cs some f] at h
  obtain⟨ts,_,h⟩:=Option.bind_eq_some_iff.1 h
  obtain⟨K,h1,h2⟩:=qJ rfl h
  cases h2
  exact(ID hq k).trans (h1 k)
theorem GH:∀(l acc:List Nat) (k:Nat),k∈Ge acc l→k∈acc∨k∈l
 | [],acc,k,h=>by simp only[Ge,List.mem_reverse] at h;exact .inl h
 | a::l,acc,k,h=>by
  simp only[Ge] at h
  split at h
  ·rcases GH l acc k h with h | h
   ·exact .inl h
   ·exact .inr (by simp[h])
  ·rcases GH l (a::acc) k h with h | h
   ·rcases List.mem_cons.1 h with h | h
    ·subst h;exact .inr (by simp)
    ·exact .inl h
   ·exact .inr (by simp[h])
def Bx(b:St)(dst:Option _root_.Nat)(k:_root_.Nat):Prop:=k<b.np+b.env.length∧∀s,dst=some s→k≠b.np+s
def Callee.Framed(A:Callee):Prop:=A.ext=none∧(∀{b:St} {dst:Option _root_.Nat} {ds:List D} {p:List O×D},(nD A b dst ds fun s d=>some (s.objs,d))=some p →
 ∀k l,(∀d∈ds,k∉LB d)→b.objs[k]?=some (.box l)→p.1[k]?=some (.box l)) ∧
 ∀{b:St} {dst:Option _root_.Nat} {ds:List D} {p:List O×D},(nD A b dst ds fun s d=>some (s.objs,d))=some p→(∀k,FZ b.objs[k]?=true→iT b.objs k ds=true→p.1[k]?=b.objs[k]?) ∧
  ∀k x,iT b.objs k ds=true→Bx b dst k→(nD A { b with objs:=b.objs.set k x } dst ds fun s d=>some (s.objs,d))=some (p.1.set k x,p.2)
theorem Callee.PureP.pure{A:Callee}(h:A.PureP):A.Pure:=⟨h.1,fun {b dst ds p} hp=>by
 have:=h.2 b b.objs dst ds
 have e:({ b with objs:=b.objs }:St)=b:=rfl
 rw[e,hp] at this
 simp only[Option.map_some,Option.some.injEq] at this
 rw[this]⟩
theorem NO{st:St}{dst:Option Nat}{n k:Nat}{x:O}(h:Bx st dst k):qD { st with objs:=st.objs.set k x } dst n=qD st dst n:=by
 obtain⟨h1,h2⟩:=h
 unfold qD
 split
 ·rfl
 ·rename_i n d
  have hne:∀i,i≠k→gP (st.objs.set k x)[i]?=gP st.objs[i]?:=fun i hi=>by rw[List.getElem?_set_ne (fun e=>hi e.symm)]
  have e1:(([0,1,2,3,4,5].map fun j=>st.np+(j*st.env.length+d)).filter fun i=>gP (st.objs.set k x)[i]?)=(([0,1,2,3,4,5].map fun j=>st.np+(j*st.env.length+d)).filter fun i=>gP st.objs[i]?):=by
   refine List.filter_congr fun i hi=>hne i ?_
   obtain⟨j,_,rfl⟩:=List.mem_map.1 hi
   have h3:=h2 d rfl
   cases j with
   | zero=>intro e;apply h3;rw[←e];simp
   | succ j=>
    have:(j+1)*st.env.length=j*st.env.length+st.env.length:=Nat.succ_mul _ _
    omega
  have e2:((List.range (st.objs.set k x).length).filter fun i=>decide (st.np+st.env.length≤i)&&gP (st.objs.set k x)[i]?)=((List.range st.objs.length).filter fun i=>decide (st.np+st.env.length≤i)&&gP st.objs[i]?):=by
   rw[List.length_set]
   refine List.filter_congr fun i _=>?_
   by_cases hi:st.np+st.env.length≤i
   ·rw[hne i (by omega)]
   ·rw[decide_eq_false hi];rfl
  dsimp only
  rw[e1,e2]
 ·rfl
theorem S5{st:St}{dst:Option Nat}{n k:Nat}{nk:List Nat}(h:qD st dst n=some nk)(hi:Bx st dst k):k∉nk:=by
 obtain⟨h1,h2⟩:=hi
 unfold qD at h
 split at h
 ·cases h;simp
 ·rename_i n d
  dsimp only at h
  split at h
  ·cases h
   intro hk
   obtain⟨hk2,hk3⟩:=List.mem_filter.1 (List.mem_of_mem_take hk)
   obtain⟨j,_,e⟩:=List.mem_map.1 hk2
   have h3:=h2 d rfl
   cases j with
   | zero=>apply h3;rw[←e];simp
   | succ j=>
    have:(j+1)*st.env.length=j*st.env.length+st.env.length:=Nat.succ_mul _ _
    omega
  ·split at h
   ·cases h
    intro hk
    obtain⟨hk2,hk3⟩:=List.mem_filter.1 (List.mem_of_mem_take hk)
    rw[Bool.and_eq_true,decide_eq_true_eq] at hk3
    omega
   ·cases h
 ·cases h
theorem QC{st:St}{ks:List Nat}{k:Nat}{x:O}:∀{c:C},k∉C.rs c→wY { st with objs:=st.objs.set k x } ks c=wY st ks c:=fun {c} h=>by
 unfold wY
 cases c with
 | row key=>dsimp only;rw[List.getElem?_set_ne (fun e=>h (by simp[C.rs,e]))]
 | cut key n lo len s=>dsimp only;rw[List.getElem?_set_ne (fun e=>h (by simp[C.rs,e]))]
 | _=>rfl
theorem QD{st:St}{m:TypeId×Nat}{k:Nat}{x:O}:∀{c:C},k∉C.rs c→vV { st with objs:=st.objs.set k x } m c=vV st m c:=fun {c} h=>by
 cases c with
 | row key=>simp only[vV];rw[List.getElem?_set_ne (fun e=>h (by simp[C.rs,e]))]
 | t v=>
  cases v with
  | v w=>
   cases w with
   | slice p l c=>cases p <;> cases l <;> cases c <;> rfl
   | _=>rfl
  | _=>rfl
 | _=>rfl
theorem FN{st:St}{ks:List Nat}{k:Nat}{x:O}:∀(cs:List C) (j:Nat) (ms:List (Option (TypeId×Nat))),(∀c∈cs,k∉C.rs c)→jN { st with objs:=st.objs.set k x } ks j ms cs=jN st ks j ms cs
 | [],j,ms,_=>by cases ms <;> rfl
 | c::cs,j,ms,h=>by
  have h1:∀m,vV { st with objs:=st.objs.set k x } m c=vV st m c:=fun m=>QD (h c (by simp))
  have h2:wY { st with objs:=st.objs.set k x } ks c=wY st ks c:=QC (h c (by simp))
  have h3:=fun j ms=>FN (st:=st) (ks:=ks) (k:=k) (x:=x) cs j ms fun c hc=>h c (List.mem_cons_of_mem _ hc)
  simp only[jN,h3,h1,h2]
theorem sD{k:Nat}{x:O}:∀(rows:List Nat) (objs:List O),k∉rows→freezeL (objs.set k x) rows=(freezeL objs rows).set k x
 | [],_,_=>rfl
 | q::rows,objs,h=>by
  simp only[List.mem_cons,not_or] at h
  simp only[freezeL_cons]
  rw[List.getElem?_set_ne h.1]
  split
  ·rw[List.set_comm _ _ h.1]
   exact sD rows _ h.2
  ·exact sD rows _ h.2
theorem BJ{k:Nat}{x:O}:∀(km:List (Option Nat)) (po:List O) (objs:List O),some k∉km→uP (objs.set k x) km po=(uP objs km po).set k x
 | [],po,objs,_=>by cases po <;> rfl
 | some q::km,[],objs,_=>rfl
 | none::km,[],objs,_=>rfl
 | some q::km,o::po,objs,h=>by
  simp only[List.mem_cons,not_or] at h
  simp only[uP]
  rw[List.set_comm _ _ (fun e=>h.1 (by rw[e]))]
  exact BJ km po _ h.2
 | none::km,o::po,objs,h=>by
  simp only[List.mem_cons,not_or] at h
  simp only[uP]
  exact BJ km po _ h.2
theorem pP:∀(cs:List C) (ms:List (Option (TypeId×Nat))) (k:Nat),k∈gL ms cs→∃c∈cs,k∈C.rs c
 | [],ms,k,h=>by cases ms <;> simp[gL] at h
 | c::cs,ms,k,h=>by
  simp only[gL] at h
  split at h
  ·obtain⟨c',h1,h2⟩:=pP cs ms.tail k h
   exact⟨c',List.mem_cons_of_mem _ h1,h2⟩
  ·rcases List.mem_append.1 h with h | h
   ·exact⟨c,List.mem_cons_self ..,h⟩
   ·obtain⟨c',h1,h2⟩:=pP cs ms.tail k h
    exact⟨c',List.mem_cons_of_mem _ h1,h2⟩
theorem YL{st:St}{m:TypeId×Nat}{c:C}{p:Option Nat×O}{k:Nat}(h:vV st m c=some p)(hk:p.1=some k):k∈C.rs c:=by
 unfold vV at h
 split at h
 ·split at h
  ·split at h
   case isFalse=>cases h
   cases h
   cases hk
   simp[C.rs]
  ·split at h
   case isFalse=>cases h
   cases h
   cases hk
   simp[C.rs]
  ·cases h
 ·split at h
  case isFalse=>cases h
  cases h
  cases hk
 ·cases h
theorem zF{st:St}{ks:List Nat}:∀(cs:List C) (j:Nat) (ms:List (Option (TypeId×Nat))) (cs':List C) (rws:List (Option Nat×O)),jN st ks j ms cs=some (cs',rws)→∀p∈rws,∀k,p.1=some k→∃c∈cs,k∈C.rs c
 | [],j,ms,cs',rws,hh,p,hp,k,hk=>by
  cases ms <;> (simp only[jN,Option.some.injEq,Prod.mk.injEq] at hh;obtain⟨_,rfl⟩:=hh;simp at hp)
 | c::cs,j,ms,cs',rws,hh,p,hp,k,hk=>by
  simp only[jN] at hh
  split at hh
  ·split at hh
   ·rename_i p' q hp' hq
    cases hh
    rcases List.mem_cons.1 hp with rfl | hp
    ·exact⟨c,List.mem_cons_self ..,YL hp' hk⟩
    ·obtain⟨c',h1,h2⟩:=zF cs (j+1) ms.tail _ _ hq p hp k hk
     exact⟨c',List.mem_cons_of_mem _ h1,h2⟩
   ·cases hh
  ·split at hh
   ·rename_i c' q hp' hq
    cases hh
    obtain⟨c',h1,h2⟩:=zF cs j ms.tail _ _ hq p hp k hk
    exact⟨c',List.mem_cons_of_mem _ h1,h2⟩
   ·cases hh
theorem CM{objs:List O}{k:Nat}{ss:List S1}{bl:List (List C)}(h:iT objs k (ss.map .s)=true)(hbl:lJ ((lT false objs ss).map (oI objs))=some bl):(∀c∈ss.flatMap S1.list++bl.flatten,k∉C.rs c)∧k∉lT false objs ss:=by
 have h0:∀s∈ss,∀c∈s.list,k∉C.rs c∧∀k'∈c.ks,k'≠k∧k∉Ks objs[k']?:=fun s hs c hc=>by
  have:=List.all_eq_true.1 (List.all_eq_true.1 h (.s s) (List.mem_map.2 ⟨s,hs,rfl⟩)) c hc
  rw[Bool.and_eq_true] at this
  refine⟨fun hm=>?_,fun k' hk'=>?_⟩
  ·have h1:=this.1
   rw[List.contains_iff_mem.2 hm] at h1;cases h1
  ·have:=List.all_eq_true.1 this.2 k' hk'
   rw[Bool.and_eq_true] at this
   refine⟨fun e=>?_,fun hm=>?_⟩
   ·subst e;have:=this.1;simp at this
   ·have h1:=this.2
    rw[List.contains_iff_mem.2 hm] at h1;cases h1
 have hk0:∀k'∈lT false objs ss,∃s∈ss,∃c∈s.list,k'∈c.ks:=fun k' hk'=>by
  unfold lT K5 at hk'
  dsimp only[cond_false] at hk'
  rcases GH _ _ _ hk' with h1 | h1
  ·cases h1
  ·obtain⟨s,hs,h1⟩:=List.mem_flatMap.1 h1
   obtain⟨c,hc,h1⟩:=List.mem_flatMap.1 h1
   exact⟨s,hs,c,hc,h1⟩
 refine⟨fun c hc=>?_,fun hm=>?_⟩
 ·rcases List.mem_append.1 hc with hc | hc
  ·obtain⟨s,hs,hc⟩:=List.mem_flatMap.1 hc
   exact(h0 s hs c hc).1
  ·obtain⟨l,hl,hc⟩:=List.mem_flatten.1 hc
   have h1:=MR hbl
   have h2:some l∈(lT false objs ss).map (oI objs):=by rw[h1];exact List.mem_map.2 ⟨l,hl,rfl⟩
   obtain⟨k',hk',h3⟩:=List.mem_map.1 h2
   obtain⟨s,hs,c',hc',h4⟩:=hk0 k' hk'
   have h5:=((h0 s hs c' hc').2 k' h4).2
   have h6:objs[k']?=some (.box l):=by
    unfold oI at h3
    split at h3
    ·rename_i l' he
     cases h3
     exact he
    ·cases h3
   rw[h6] at h5
   exact fun hm=>h5 (List.mem_flatMap.2 ⟨c,hc,hm⟩)
 ·obtain⟨s,hs,c,hc,h1⟩:=hk0 k hm
  exact((h0 s hs c hc).2 k h1).1 rfl
theorem NP{A:Callee}(hN:A.Nat)(hi:A.inl=none)(he:A.ext=none)(hd:A.deep=false:=by rfl):A.Framed:=by
 refine⟨he,?_,fun {b dst ds p} h=>⟨?_,?_⟩⟩
 rotate_left
 ·intro k ho hoff
  obtain⟨hN,_⟩:=hN
  unfold nD at h
  rw[hi] at h
  dsimp only at h
  unfold A5 at h
  split at h
  ·cases h
  rename_i ss hss
  have hds:=A6 hss
  rw[hd] at h
  rw[hds] at hoff
  split at h
  ·cases h
  rename_i bl hbl
  obtain⟨hc1,hc2⟩:=CM hoff hbl
  split at h
  ·cases h
  rename_i cs rws hhand
  dsimp only at h
  split at h
  case isFalse=>cases h
  rw[hN] at h
  obtain⟨q,hq,h2⟩:=Option.bind_eq_some_iff.1 h
  obtain⟨rs,po'⟩:=q
  dsimp only at h2
  split at h2
  ·cases h2;rfl
  split at h2
  ·cases h2
  rename_i nk hnk
  split at h2
  case isFalse=>cases h2
  split at h2
  case h_2=>cases h2
  cases h2
  dsimp only
  have hfz:(freezeL b.objs (gL A.rows (ss.flatMap S1.list++bl.flatten)))[k]?=b.objs[k]?:=oB _ _ _ fun hm=>by
   obtain⟨c,h1,h2⟩:=pP _ _ _ hm
   exact hc1 c h1 h2
  rw[lN]
  ·exact hfz
  ·intro hm
   rcases List.mem_append.1 hm with hm | hm
   ·rcases List.mem_append.1 hm with hm | hm
    ·obtain⟨k',hk',e⟩:=List.mem_map.1 hm
     cases e
     exact hc2 hk'
    ·obtain⟨r,hr,e⟩:=List.mem_map.1 hm
     obtain⟨c,h1,h2⟩:=zF _ _ _ _ _ hhand r hr k e
     exact hc1 c h1 h2
   ·obtain⟨k',hk',e⟩:=List.mem_map.1 hm
    cases e
    have:=((D2 hnk).2 k hk').1
    rw[hfz] at this
    rw[this] at ho
    cases ho
 ·intro k x hoff hib
  obtain⟨hN,_⟩:=hN
  unfold nD at h ⊢
  rw[hi] at h ⊢
  dsimp only at h ⊢
  unfold A5 at h ⊢
  split at h
  ·cases h
  rename_i ss hss
  have hds:=A6 hss
  rw[hd] at h ⊢
  rw[hds] at hoff
  split at h
  ·cases h
  rename_i bl hbl
  obtain⟨hc1,hc2⟩:=CM hoff hbl
  have hbl':lJ ((lT false (b.objs.set k x) ss).map (oI (b.objs.set k x)))=some bl:=by
   rw[←hbl]
   have:lT false (b.objs.set k x) ss=lT false b.objs ss:=rfl
   rw[this]
   refine congrArg lJ (List.map_congr_left fun k' hk'=>?_)
   unfold oI
   rw[List.getElem?_set_ne (fun e=>hc2 (by rw[e];exact hk'))]
  dsimp only
  rw[hbl']
  dsimp only
  have hkx:lT false (b.objs.set k x) ss=lT false b.objs ss:=rfl
  rw[hkx,FN _ _ _ hc1]
  split at h
  ·cases h
  rename_i cs rws hhand
  dsimp only at h ⊢
  split at h
  case isFalse=>cases h
  rename_i hcnd
  rw[if_pos hcnd]
  rw[hN] at h ⊢
  obtain⟨q,hq,h2⟩:=Option.bind_eq_some_iff.1 h
  rw[hq]
  obtain⟨rs,po'⟩:=q
  dsimp only[Option.bind_some] at h2 ⊢
  split at h2
  ·rename_i hemp
   rw[if_pos hemp]
   cases h2
   rfl
  rename_i hemp
  rw[if_neg hemp]
  have hkt:k∉gL A.rows (ss.flatMap S1.list++bl.flatten):=fun hm=>by
   obtain⟨c,h1,h2⟩:=pP _ _ _ hm
   exact hc1 c h1 h2
  rw[sD _ _ hkt]
  have hfi:=NO (st:={ b with objs:=freezeL b.objs (gL A.rows (ss.flatMap S1.list++bl.flatten)) }) (dst:=dst) (n:=po'.length-(fE bl (cs.drop (ss.flatMap S1.list).length)++rws.map (·.2)).length) (k:=k) (x:=x) hib
  dsimp only at hfi
  rw[hfi]
  split at h2
  ·cases h2
  rename_i nk hnk
  split at h2
  case isFalse=>cases h2
  rename_i hcnd2
  rw[if_pos hcnd2]
  split at h2
  case h_2=>cases h2
  rename_i po2 rs' hp2 hr2
  cases h2
  dsimp only
  rw[BJ]
  intro hm
  rcases List.mem_append.1 hm with hm | hm
  ·rcases List.mem_append.1 hm with hm | hm
   ·obtain⟨k',hk',e⟩:=List.mem_map.1 hm
    cases e
    exact hc2 hk'
   ·obtain⟨r,hr,e⟩:=List.mem_map.1 hm
    obtain⟨c,h1,h2⟩:=zF _ _ _ _ _ hhand r hr k e
    exact hc1 c h1 h2
  ·obtain⟨k',hk',e⟩:=List.mem_map.1 hm
   cases e
   exact S5 hnk hib hk'
 intro b dst ds p h k l hk hb
 obtain⟨hN,_⟩:=hN
 unfold nD at h
 rw[hi] at h
 dsimp only at h
 unfold A5 at h
 split at h
 ·cases h
 rename_i ss hss
 have hds:=A6 hss
 split at h
 ·cases h
 split at h
 ·cases h
 rename_i cs rws hhand
 dsimp only at h
 split at h
 case isFalse=>cases h
 rw[hN] at h
 obtain⟨q,hq,h2⟩:=Option.bind_eq_some_iff.1 h
 obtain⟨rs,po'⟩:=q
 dsimp only at h2
 split at h2
 ·cases h2;exact hb
 split at h2
 ·cases h2
 rename_i nk hnk
 split at h2
 case isFalse=>cases h2
 split at h2
 case h_2=>cases h2
 cases h2
 dsimp only
 rw[lN]
 ·exact jV _ _ _ _ hb
 ·intro hm
  rcases List.mem_append.1 hm with hm | hm
  ·rcases List.mem_append.1 hm with hm | hm
   ·obtain⟨k',hk',e⟩:=List.mem_map.1 hm
    cases e
    rw[hd] at hk'
    unfold lT K5 at hk'
    dsimp only[cond_false] at hk'
    rcases GH _ _ _ hk' with h0 | h0
    ·cases h0
    ·obtain⟨s,hs,h1⟩:=List.mem_flatMap.1 h0
     exact hk (.s s) (by rw[hds];exact List.mem_map.2 ⟨s,hs,rfl⟩) h1
   ·obtain⟨r,hr,e⟩:=List.mem_map.1 hm
    obtain⟨e',n,l',h1,h3,_⟩:=uQ _ _ _ _ _ hhand r hr
    have:=h3 k e
    rcases h1 with h1 | h1 <;> (rw[hb,h1] at this;cases this)
  ·obtain⟨k',hk',e⟩:=List.mem_map.1 hm
   cases e
   have:=((D2 hnk).2 k hk').1
   rw[jV _ _ _ _ hb] at this
   cases this
def Callee.Never(A:Callee):Prop:=∃I,A.ext=some I∧∀{R:Type} (ds:List D) (k:D→Option R),I.go ds k=none
def EE(fD:D)(g:FuncId):Prop:=(∃v,fD=.s (.c (.t (.v v)))∧kH v=some g)∨∃caps,fD=.s (.c (.fn g caps))
theorem NQ{Γ:FuncId→Option Callee}{b:St}{dst:Option Nat}{fD:D}{ds:List D}{p:List O×D}{k:Nat}(hall:∀g A,Γ g=some A→EE fD g→A.Framed∨A.Never)
 (h:(eW Γ b dst fD ds fun s d=>some (s.objs,d))=some p) (hk:∀d∈fD::ds,k∉LB d) {l:List C} (hl:b.objs[k]?=some (.box l)):p.1[k]?=some (.box l):=by
 unfold eW k8 at h
 split at h
 case h_2=>cases h
 rename_i cc
 dsimp only at h
 split at h
 ·rename_i v
  split at h
  case h_2=>cases h
  rename_i g hg
  split at h
  case h_2=>cases h
  rename_i A hA
  rcases hall g A hA (.inl ⟨v,rfl,hg⟩) with hF | ⟨I,hI,hn⟩
  ·rw[hF.1] at h
   exact hF.2.1 h k l (fun d hd=>hk d (List.mem_cons_of_mem _ hd)) hl
  ·rw[hI] at h
   dsimp only at h
   rw[hn] at h
   cases h
 ·rename_i g caps
  split at h
  case h_2=>cases h
  rename_i A hA
  rcases hall g A hA (.inr ⟨caps,rfl⟩) with hF | ⟨I,hI,hn⟩
  ·rw[hF.1] at h
   refine hF.2.1 h k l (fun d hd=>?_) hl
   rcases List.mem_append.1 hd with hd | hd
   ·exact hk d (List.mem_cons_of_mem _ hd)
   ·intro hkd
    unfold PP at hd
    obtain⟨q,hq,rfl⟩:=List.mem_map.1 hd
    have:k=q.1:=by simpa[LB,S1.list,C.ks] using hkd
    subst this
    refine hk _ (List.mem_cons_self ..) ?_
    simp only[LB,S1.list,List.flatMap_cons,List.flatMap_nil,List.append_nil,C.ks]
    exact List.mem_map.2 ⟨q,hq,rfl⟩
  ·rw[hI] at h
   cases h
 ·cases h
theorem AL{Γ:FuncId→Option Callee}{b:St}{dst:Option Nat}{fD:D}{ds:List D}{p:List O×D}{k:Nat}(hall:∀g A,Γ g=some A→EE fD g→A.Framed∨A.Never)
 (h:(eW Γ b dst fD ds fun s d=>some (s.objs,d))=some p) (ho:FZ b.objs[k]?=true) (hk:iT b.objs k (fD::ds)=true):p.1[k]?=b.objs[k]?:=by
 have hk2:iT b.objs k ds=true:=by
  unfold iT at hk ⊢
  rw[List.all_cons,Bool.and_eq_true] at hk
  exact hk.2
 unfold eW k8 at h
 split at h
 case h_2=>cases h
 rename_i cc
 dsimp only at h
 split at h
 ·rename_i v
  split at h
  case h_2=>cases h
  rename_i g hg
  split at h
  case h_2=>cases h
  rename_i A hA
  rcases hall g A hA (.inl ⟨v,rfl,hg⟩) with hF | ⟨I,hI,hn⟩
  ·rw[hF.1] at h
   exact(hF.2.2 h).1 k ho hk2
  ·rw[hI] at h
   dsimp only at h
   rw[hn] at h
   cases h
 ·rename_i g caps
  split at h
  case h_2=>cases h
  rename_i A hA
  rcases hall g A hA (.inr ⟨caps,rfl⟩) with hF | ⟨I,hI,hn⟩
  ·rw[hF.1] at h
   refine(hF.2.2 h).1 k ho ?_
   unfold iT at hk hk2 ⊢
   rw[List.all_append,Bool.and_eq_true]
   refine⟨hk2,?_⟩
   rw[List.all_cons,Bool.and_eq_true] at hk
   have hk1:=hk.1
   simp only[M7,S1.list,List.all_cons,List.all_nil,Bool.and_true,Bool.and_eq_true,C.ks] at hk1
   rw[List.all_eq_true]
   intro d hd
   unfold PP at hd
   obtain⟨q,hq,rfl⟩:=List.mem_map.1 hd
   have:=List.all_eq_true.1 hk1.2 q.1 (List.mem_map.2 ⟨q,hq,rfl⟩)
   simp only[M7,S1.list,List.all_cons,List.all_nil,Bool.and_true,C.ks,C.rs,this]
   rfl
  ·rw[hI] at h
   cases h
 ·cases h
def BK(pl:List Nat):Option Nat→Bool
 | some s=>pl.contains (20000000+s)
 | none=>true
def IE(pl:List Nat):Option Nat→Bool
 | some s=>pl.contains (20000000+s)
 | none=>false
def S6(pl:List Nat)(o:Oper):Bool:=match o.op with
 | .load _ _=>!BK pl o.dst
 | .indexAddr _ _ _=>!BK pl o.dst
 | .slice _ _ lo hi none=>(lo.isSome||hi.isSome)&&!BK pl o.dst
 | .call { callee:=.builtin .len,.. }=>!BK pl o.dst
 | _=>false
def Hn(pl:List Nat)(o:Oper):Bool:=match o.op with
 | .call { callee:=.builtin .append,.. }=>true
 | .call { callee:=.value (.func f),.. }=>pl.contains (f+4000000)&&!IE pl o.dst
 | .call { callee:=.value _,.. }=>pl.contains 9000002&&!IE pl o.dst
 | .alloc _=>!BK pl o.dst
 | .store t _ _=>!pl.contains 28999999&&!pl.contains (80000000+t)
 | .buildSlice _ _ _=>true
 | .makeSlice _ _ _=>true
 | _=>false
def kN(Γ:FuncId→Option Callee)(pl:List Nat):Prop:=(∀f A,pl.contains f=true→Γ f=some A→A.Pure)∧(∀f A,pl.contains (f+1000000)=true→Γ f=some A→A.PureP)∧(∀f A,pl.contains (f+4000000)=true→Γ f=some A→A.Framed)∧(pl.contains 9000000=true→uU Γ≠[])∧(∀s,(bF Γ).contains s=true→pl.contains (20000000+s)=true)∧(pl.contains 9000002=true→∀f A,(f==2000000)=false→Γ f=some A→A.Framed)∧(∀A,Γ 2000000=some A→A.Never) ∧
 (∀s,pl.contains (90000000+s)=true→(eU Γ).contains s=true)∧∀t,t<8000000→pl.contains (82000000+t)=true→(BE Γ).contains t=true
def GI:Operand→Operand→Bool
 | .tmp a,.tmp b=>a==b
 | _,_=>false
def No(x y:Oper):Bool:=x.guard.isNone&&y.guard.isNone&&match x.op,y.op with
 | .lookup t m k false,.mapEntry t' m' k'=>t==t'&&GI m m'&&GI k k'
 | _,_=>false
def VD(o:Oper):Bool:=match o.op with
 | .load _ _=>true
 | .indexAddr _ _ _=>true
 | .call { callee:=.builtin .len,.. }=>true
 | _=>false
def LP(pl:List Nat)(o:Oper):Bool:=match o.op with
 | .load _ _=>match o.dst with
  | some s=>pl.contains (90000000+s)
  | none=>false
 | _=>false
def VE(pl:List Nat)(o:Oper):Bool:=match o.op with
 | .store t _ _=>decide (t<8000000)&&pl.contains (82000000+t)
 | .buildSlice _ _ _=>true
 | .mapUpdate _ _ _ _=>true
 | .insert _ _ _ _=>true
 | _=>false
def LQ(pl:List Nat)(o:Oper):Bool:=match o.op with
 | .load _ _=>match o.dst with
  | some s=>pl.contains (91000000+s)
  | none=>false
 | _=>false
def VF(pl:List Nat)(o:Oper):Bool:=match o.op with
 | .store t _ _=>decide (t<1000000)&&pl.contains (84000000+t)
 | _=>false
def Ho(o:Oper):Bool:=match o.op with
 | .alloc _=>true
 | .box _ _=>true
 | _=>false
def By(o:Oper):Bool:=o.guard.isNone&&match o.op with
 | .alloc _=>true
 | _=>false
def Hp(o:Oper):Bool:=o.guard.isNone&&match o.op with
 | .makeSlice _ _ _=>true
 | _=>false
def VG(pl:List Nat)(o:Oper):Bool:=match o.op with
 | .store _ _ _=>pl==pl
 | _=>false
def FO(o:Oper):Bool:=match o.op with
 | .call { callee:=.builtin .len,.. }=>true
 | _=>false
def VH(pl:List Nat)(o:Oper):Bool:=(match o.dst with
 | some s=>pl.contains (92000000+s)
 | none=>false)&&match o.op with
 | .call { callee:=.value (.func f),.. }=>pl.contains (f+4000000)
 | .call { callee:=.value _,.. }=>pl.contains 9000002
 | _=>false
def QE(pl:List Nat)(o:Oper):Bool:=FO o&&match o.dst with
 | some s=>pl.contains (93000000+s)
 | none=>false
def Hq(pl:List Nat):Option Nat→Bool
 | some s=>pl.contains (94000000+s)
 | none=>false
def LR(pl:List Nat)(o:Oper):Bool:=Hq pl o.dst&&match o.op with
 | .slice _ _ lo hi none=>lo.isSome||hi.isSome
 | _=>false
def VI(pl:List Nat)(o:Oper):Bool:=Hq pl o.dst&&match o.op with
 | .call { callee:=.builtin .append,.. }=>true
 | .buildSlice _ n parts=>n==0&&parts.toList.isEmpty
 | _=>false
def Rk(pl:List Nat)(o:Oper):Bool:=By o&&match o.dst with
 | some s=>pl.contains (91600000+s)
 | none=>false
def Hr(pl:List Nat)(o:Oper):Bool:=o.guard.isNone&&(match o.dst with
 | some s=>pl.contains (92500000+s)
 | none=>false)&&match o.op with
 | .call { callee:=.value (.func f),.. }=>pl.contains (f+4000000)
 | .call { callee:=.builtin .append,.. }=>true
 | _=>false
def LS(ops:Array Oper)(pl:List Nat)(x y:Oper):Bool:=x.apart ops y&&(Hm pl x||Hm pl y||(Gf pl x&&Gf pl y)||No x y||(pl.contains 9000000&&((S6 pl x&&Hn pl y)||(Hn pl x&&S6 pl y)))||(VD x&&Ho y)||(pl.contains 9000000&&!pl.contains 28999999&&By x&&By y)||(pl.contains 9000000&&!pl.contains 28999999&&Hp x&&Hp y)||((LP pl x&&VE pl y)||(VE pl x&&LP pl y))||((FO x&&VG pl y)||(VG pl x&&FO y))||((LQ pl x&&VF pl y)||(VF pl x&&LQ pl y))||((QE pl x&&VH pl y)||(VH pl x&&QE pl y))||((LR pl x&&VI pl y)||(VI pl x&&LR pl y))||(pl.contains 9000000&&!pl.contains 28999999&&((Rk pl x&&Hr pl y)||(Hr pl x&&Rk pl y))))
def Hs(ops:Array Oper)(listed:Array Bool)(i:Nat):Nat→Nat→Bool
 | 0,_=>false
 | fuel+1,j=>match ops[j]? with
  | some oj=>oj.after.any fun e=>Region.binds .any e&&(e.on==i||(!listed.getD e.on true&&Hs ops listed i fuel e.on))
  | none=>false
def Bz(ops:Array Oper)(pl:List Nat)(listed:Array Bool)(i:Nat):Bool:=match ops[i]? with
 | none=>false
 | some oi=>(List.range ops.size).all fun j=>j==i||listed.getD j true||match ops[j]? with
  | some oj=>Hs ops listed i ops.size j||LS ops pl oi oj
  | none=>true
def Ca(ops:Array Oper)(pl:List Nat):Nat→Nat→Array Bool→Bool
 | 0,_,listed=>(Region.ready .any ops listed).isEmpty
 | fuel+1,k,listed=>(Region.ready .any ops listed).contains k&&Bz ops pl listed k&&Ca ops pl fuel (k+1) (listed.setIfInBounds k true)
def Kw(pl:List Nat)(ops:Array Oper):Bool:=Ca ops pl ops.size 0 (Array.replicate ops.size false)
section
variable {R:Type} {P:Program} {Γ:FuncId→Option Callee} {ops:Array Oper} {pl:List Nat}
theorem YM{op:BinOp}(h1:op≠.eql)(h2:op≠.neq)(b b':St)(t yt:TypeId)(x y:D)(k:D→Option R):J9 P b op t yt x y k=J9 P b' op t yt x y k:=by
 unfold J9
 split
 ·split
  ·unfold k8
   split
   ·first
    | rfl
    | (rw[if_neg h1,if_neg h2,if_neg h1,if_neg h2])
   ·rfl
  ·rfl
 ·rfl
theorem LT:∀{cs:List C} {k:List T→Option R} {r:R},sV cs k=some r→∃ts vs,wP ts=some vs∧ts.length=cs.length∧k ts=some r∧∀{S:Type} (g:List T→Option S),sV cs g=g ts
 | [],k,r,h=>⟨[],[],rfl,rfl,h,fun _=>rfl⟩
 | c::cs,k,r,h=>by
  cases c with
  | t x=>
   simp only[sV] at h
   obtain⟨n,hn,h1⟩:=aB h
   obtain⟨ts,vs,e1,e2,e3,e4⟩:=LT h1
   refine⟨_,_,by simp only[wP,e1];rfl,by simp[e2],e3,fun g=>?_⟩
   simp only[sV,hn]
   exact e4 _
  | _=>simp[sV] at h
theorem xP{c:Nat}{d:D}{k:T→Option R}{r:R}(h:rZ c d k=some r):∃t v,kE c t=some v∧k t=some r∧∀{S:Type} (g:T→Option S),rZ c d g=g t:=by
 match c with
 | 0=>
  simp only[rZ,GD,BY] at h
  split at h
  ·rename_i x
   obtain⟨n,hn,h1⟩:=aB h
   exact⟨_,_,rfl,h1,fun g=>by simp only[rZ,GD,BY,hn];rfl⟩
  ·cases h
 | 1=>
  simp only[rZ,BZ,BY] at h
  split at h
  ·rename_i x
   obtain⟨n,hn,h1⟩:=aB h
   exact⟨_,_,rfl,h1,fun g=>by simp only[rZ,BZ,BY,hn];rfl⟩
  ·cases h
 | m+2=>
  simp only[rZ] at h
  split at h
  ·rename_i cs
   split at h
   ·rename_i hl
    obtain⟨ts,vs,e1,e2,e3,e4⟩:=LT h
    exact⟨.agg ts,_,by simp only[kE,e2,hl,if_true,e1];rfl,e3,fun g=>by simp only[rZ,hl,if_true];exact e4 _⟩
   ·cases h
  ·cases h
theorem Cb{c:Nat}{kk z:T}{v:Value}{l:List T}(hk:kE c kk=some v):mapGetD kk (o7 kk z l) z=mapGetD kk l z:=by
 unfold o7 mapGetD
 cases hm:bP kk l with
 | some i=>dsimp only;rw[hm]
 | none=>
  dsimp only
  have hr:l8 kk kk=true:=(B6 hk hk).2 rfl
  have:bP kk (l++[.agg [kk,z]])=some l.length:=by
   unfold bP at hm ⊢
   rw[List.findIdx?_append,hm]
   simp[List.findIdx?_cons,jJ,hr]
  rw[this]
  simp[qE]
theorem YN{R:Type}(c:Nat)(d:D):rZ c d (fun _=>(none:Option R))=none:=by
 cases h:rZ c d (fun _=>(none:Option R)) with
 | none=>rfl
 | some r=>obtain⟨t,v,_,h3,_⟩:=xP h;cases h3
theorem NR{b:St}{t:TypeId}{m q:D}{d:D}{p:List O×D}(h1:oC P b t m q false some=some d)(h2:(lF P b t m q fun s d=>some (s.objs,d))=some p):
 oC P { b with objs:=p.1 } t m q false some=some d:=by
 unfold lF at h2
 unfold oC at h1 ⊢
 split at h2
 case h_2=>cases h2
 rename_i kt e hu
 try rw[hu] at h1
 try rw[hu]
 try dsimp only at h1
 try dsimp only
 split at h2
 case h_2=>cases h2
 rename_i c i hc hi
 try rw[hc,hi] at h1
 try rw[hc,hi]
 try dsimp only at h1
 try dsimp only
 split at h2
 case h_2=>cases h2
 rename_i z hz
 try rw[hz] at h1
 try rw[hz]
 try dsimp only at h1
 try dsimp only
 split at h2
 case isFalse=>cases h2
 rename_i hzk
 try rw[if_pos hzk] at h1
 try rw[if_pos hzk]
 obtain⟨kk,v,hkv,h3,hg⟩:=xP h2
 split at h3
 case h_2=>cases h3
 rename_i mk
 split at h3
 case h_2=>cases h3
 rename_i t' n l hob
 split at h3
 case isFalse=>cases h3
 rename_i hn
 subst hn
 rw[S0] at h3
 obtain⟨s,_,h4⟩:=Option.bind_eq_some_iff.1 h3
 simp only[Option.some.injEq] at h4
 subst h4
 simp only[k8,r0,hob,if_true,hg] at h1
 have hlt:mk<b.objs.length:=(List.getElem?_eq_some_iff.1 hob).1
 have hset:(b.objs.set mk (.mp false t' (c+1000000000) (o7 kk (mH z) l)))[mk]?=some (.mp false t' (c+1000000000) (o7 kk (mH z) l)):=List.getElem?_set_self hlt
 simp only[k8,r0,hset,if_true,hg,Cb hkv]
 exact h1
theorem Rl(hpl:kN Γ pl){o:Oper}(h:Hm pl o=true)(b s0:St)(q:List O):BI P Γ o { b with objs:=q } (ev s0)=(BI P Γ o b (ev s0)).map fun p=>(q,p.2):=by
 obtain⟨dst,op,type,pos,after,guard⟩:=o
 have bm:∀{α:Type} (x:Option α) (f:α→D),(x.bind fun d=>some (q,f d))=(x.bind fun d=>some (b.objs,f d)).map fun p=>(q,p.2):=fun x f=>by cases x <;> rfl
 unfold Hm at h
 unfold BI
 cases op with
 | call c=>
  obtain⟨callee,args,ats⟩:=c
  cases callee with
  | value f=>
   cases f with
   | func f=>
    dsimp only at h ⊢
    have hv:∀ds,(eW Γ { b with objs:=q } dst (ev s0 (.func f)) ds fun s d=>some (s.objs,d))=(eW Γ b dst (ev s0 (.func f)) ds fun s d=>some (s.objs,d)).map fun p=>(q,p.2):=fun ds=>by
     unfold eW k8
     dsimp only[ev]
     have hpf:kH (Value.func (.func f) #[] #[])=some f:=rfl
     rw[hpf]
     dsimp only
     cases hA:Γ f with
     | none=>rfl
     | some A=>
      dsimp only
      obtain⟨he,hq⟩:=hpl.2.1 f A (Bool.and_eq_true_iff.1 h).1 hA
      rw[he]
      exact hq b q dst _
    have hself:∀ds p,(eW Γ b dst (ev s0 (.func f)) ds fun s d=>some (s.objs,d))=some p→p.1=b.objs:=fun ds p hp=>by
     have h2:=hv ds
     have h3:∀q,(eW Γ { b with objs:=q } dst (ev s0 (.func f)) ds fun s d=>some (s.objs,d))=(eW Γ b dst (ev s0 (.func f)) ds fun s d=>some (s.objs,d)).map fun p=>(q,p.2):=fun q=>by
      unfold eW k8
      dsimp only[ev]
      have hpf:kH (Value.func (.func f) #[] #[])=some f:=rfl
      rw[hpf]
      dsimp only
      cases hA:Γ f with
      | none=>rfl
      | some A=>
       dsimp only
       obtain⟨he,hq⟩:=hpl.2.1 f A (Bool.and_eq_true_iff.1 h).1 hA
       rw[he]
       exact hq b q dst _
     have h4:=h3 b.objs
     have e:({ b with objs:=b.objs }:St)=b:=rfl
     rw[e,hp] at h4
     simp only[Option.map_some,Option.some.injEq] at h4
     rw[h4]
    have okself:∀(B:List Nat) (o:List O),OZ B o o=true:=fun B o=>by
     unfold OZ
     refine List.all_eq_true.2 fun k _=>?_
     cases gM o[k]? <;> rfl
    have hgt:∀o:List O,∀ds:List D,AG Γ o dst ds=AG Γ b.objs dst ds:=fun o ds=>by
     unfold AG
     cases dst with
     | none=>rfl
     | some s=>
      have h2:(!pl.contains (30000000+s))=true:=(Bool.and_eq_true_iff.1 h).2
      cases h4:(bF Γ).contains (10000000+s) with
      | false=>simp only[h4,Bool.false_and,Bool.or_false]
      | true=>
       have aux:∀n:Nat,20000000+(10000000+n)=30000000+n:=fun n=>by omega
       have h5:pl.contains (20000000+(10000000+s))=true:=hpl.2.2.2.2.1 _ h4
       rw[aux] at h5
       rw[h5] at h2;cases h2
    have hgi:∀o:List O,∀ds:List D,lU Γ { b with objs:=o } dst ds=lU Γ b dst ds:=fun o ds=>by
     unfold lU
     cases dst with
     | none=>rfl
     | some s=>
      have h2:(!pl.contains (30000000+s))=true:=(Bool.and_eq_true_iff.1 h).2
      cases h4:(bF Γ).contains (10000000+s) with
      | false=>simp only[h4,Bool.false_and,Bool.or_false]
      | true=>
       have aux:∀n:Nat,20000000+(10000000+n)=30000000+n:=fun n=>by omega
       have h5:pl.contains (20000000+(10000000+s))=true:=hpl.2.2.2.2.1 _ h4
       rw[aux] at h5
       rw[h5] at h2;cases h2
    unfold xN
    rw[hgt,hgi]
    split
    case isFalse=>rfl
    unfold BH
    generalize uU Γ=B
    cases B with
    | nil=>exact hv _
    | cons w B=>
     dsimp only
     split
     ·exact hv _
     split
     ·rw[hv]
      cases hp:(eW Γ b dst (ev s0 (.func f)) (List.map (ev s0) args.toList) fun s d=>some (s.objs,d)) with
      | none=>rfl
      | some p=>
       simp only[Option.map_some,Option.bind_some,hself _ p hp,okself,if_true]
     ·rfl
   | _=>cases h
  | builtin bi=>
   have hm:∀(mx:Bool) (as:List D) (ts:List TypeId),cO P { b with objs:=q } dst type (if mx=true then Builtin.max else Builtin.min) as ts=(cO P b dst type (if mx=true then Builtin.max else Builtin.min) as ts).map fun p=>(q,p.2):=fun mx as ts=>by
    have h0:∀(x y:D) (t:TypeId),((HH P mx t x y some).bind fun d=>some (q,d))=((HH P mx t x y some).bind fun d=>some (b.objs,d)).map fun p=>(q,p.2):=fun x y t=>bm _ _
    cases mx
    ·match as,ts with
     | [x,y],[t,u]=>exact h0 x y t
     | [],_=>rfl
     | [_],_=>rfl
     | _::_::_::_,_=>rfl
     | [_,_],[]=>rfl
     | [_,_],[_]=>rfl
     | [_,_],_::_::_::_=>rfl
    ·match as,ts with
     | [x,y],[t,u]=>exact h0 x y t
     | [],_=>rfl
     | [_],_=>rfl
     | _::_::_::_,_=>rfl
     | [_,_],[]=>rfl
     | [_,_],[_]=>rfl
     | [_,_],_::_::_::_=>rfl
   cases bi with
   | min=>exact hm false _ _
   | max=>exact hm true _ _
   | _=>cases h
  | _=>cases h
 | binOp op t x y yt=>
  have hop:op≠.eql∧op≠.neq:=by
   constructor <;> (intro e;subst e;cases h)
  dsimp only
  rw[YM hop.1 hop.2 { b with objs:=q } b]
  exact bm _ _
 | buildSlice t n parts=>
  dsimp only at h ⊢
  have hl:SJ Γ dst=true:=by
   cases dst with
   | none=>cases h
   | some s=>
    dsimp only at h
    exact hpl.2.2.2.2.2.2.2.1 (500000+s) (by rw[←Nat.add_assoc];exact h)
  unfold Gy
  rw[if_pos hl,if_pos hl]
  rw[lX (k:=fun d=>some (q,d)),lX (k:=fun d=>some (b.objs,d))]
  exact bm _ id
 | _=>first
  | rfl
  | exact bm _ _
  | (cases h;done)
theorem Kx(hpl:kN Γ pl){o:Oper}(h:Hm pl o=true)(st:St)(q:List O):fH P Γ ops o { st with objs:=q }=(fH P Γ ops o st).map fun p=>(q,p.2):=by
 have h1:gd ops o { st with objs:=q }=gd ops o st:=rfl
 have h2:BI P Γ o (St.bare { st with objs:=q }) (ev { st with objs:=q })=(BI P Γ o st.bare (ev st)).map fun p=>(q,p.2):=Rl hpl h st.bare st q
 unfold fH
 rw[h1,h2]
 cases gd ops o st with
 | none=>rfl
 | some w=>cases w <;> rfl
theorem S7{A:Callee}(hN:A.Nat)(hP:A.Pure0){b:St}{dst:Option Nat}{ds:List D}{p:List O×D}(h:(nD A b dst ds fun s d=>some (s.objs,d))=some p):p.1=b.objs:=by
 obtain⟨⟨hP0,_⟩,hP⟩:=hP
 obtain⟨hN,_⟩:=hN
 unfold nD at h
 rw[hP0] at h
 dsimp only at h
 unfold A5 at h
 split at h
 ·cases h
 ·split at h
  ·cases h
  ·split at h
   ·cases h
   ·dsimp only at h
    split at h
    ·rw[hN] at h
     obtain⟨q,hq,h2⟩:=Option.bind_eq_some_iff.1 h
     obtain⟨rs,po'⟩:=q
     obtain⟨e1,e2,e3⟩:=hP _ _ rs po' hq
     rw[e1,e2,e3] at h2
     cases h2
     rfl
    ·cases h
theorem Callee.Pure0.pure{A:Callee}(hN:A.Nat)(hP:A.Pure0):A.Pure:=⟨hP.1.2,fun h=>S7 hN hP h⟩
theorem Ht(hN:∀f A,Γ f=some A→A.Nat)(hpl:kN Γ pl){o:Oper}(h:Gf pl o=true){b st:St}{p:List O×D}(hp:BI P Γ o b (ev st)=some p):p.1=b.objs:=by
 obtain⟨dst,op,type,pos,after,guard⟩:=o
 have bm:∀{α:Type} (x:Option α) (f:α→D),(x.bind fun d=>some (b.objs,f d))=some p→p.1=b.objs:=fun x f hx=>by
  cases x with
  | none=>cases hx
  | some a=>cases hx;rfl
 unfold Gf at h
 unfold BI at hp
 cases op with
 | call c=>
  obtain⟨callee,args,ats⟩:=c
  cases callee with
  | builtin bi=>
   dsimp only at hp h
   split at hp
   case isFalse=>cases hp
   unfold cO at hp
   split at hp
   ·exact bm _ _ hp
   ·cases h
   ·cases h
   ·exact bm _ _ hp
   ·exact bm _ _ hp
   ·cases hp
  | value f=>
   cases f with
   | func f=>
    dsimp only at hp h
    have hp:(eW Γ b dst (ev st (.func f)) (List.map (ev st) args.toList) fun s d=>some (s.objs,d))=some p:=by
     unfold xN at hp
     split at hp
     case isFalse=>cases hp
     unfold BH at hp
     split at hp
     ·exact hp
     split at hp
     ·exact hp
     ·split at hp
      ·obtain⟨p',h1,h2⟩:=Option.bind_eq_some_iff.1 hp
       split at h2
       ·cases h2;exact h1
       ·cases h2
      ·cases hp
    unfold eW k8 at hp
    dsimp only[ev] at hp
    have hpf:kH (Value.func (.func f) #[] #[])=some f:=rfl
    rw[hpf] at hp
    dsimp only at hp
    split at hp
    ·rename_i A hA
     have hpp:A.Pure:=by
      rcases Bool.or_eq_true_iff.1 h with h | h
      ·exact hpl.1 f A h hA
      ·exact(hpl.2.1 f A h hA).pure
     rw[hpp.1] at hp
     exact hpp.2 hp
    ·cases hp
   | _=>cases h
  | _=>cases h
 | move x=>cases hp;rfl
 | assign x=>cases hp;rfl
 | slice t x lo hi mx=>
  dsimp only at hp h
  split at hp
  case isFalse=>cases hp
  unfold kY at hp
  split at hp
  ·split at hp
   ·rename_i hn
    obtain⟨h1,h2,h3⟩:=hn
    cases lo <;> cases hi <;> cases mx <;> first
     | (cases h;done)
     | (cases h1;done)
     | (cases h2;done)
     | (cases h3;done)
   ·cases hp
  ·rw[lW] at hp
   exact bm _ id hp
 | load t x=>
  dsimp only at hp
  split at hp
  ·exact bm _ _ hp
  ·cases hp
 | buildSlice t n parts=>
  dsimp only at h hp
  have hl:SJ Γ dst=true:=by
   cases dst with
   | none=>cases h
   | some s=>
    exact hpl.2.2.2.2.2.2.2.1 (500000+s) (by rw[←Nat.add_assoc];exact h)
  unfold Gy at hp
  rw[if_pos hl,lX] at hp
  exact bm _ id hp
 | _=>first
  | exact bm _ _ hp
  | (cases h;done)
theorem mR(hN:∀f A,Γ f=some A→A.Nat)(hpl:kN Γ pl){o:Oper}(h:Gf pl o=true){st:St}{p:List O×D}(hp:fH P Γ ops o st=some p):p.1=st.objs:=by
 unfold fH at hp
 cases hg:gd ops o st with
 | none=>rw[hg] at hp;cases hp
 | some w=>
  rw[hg] at hp
  cases w with
  | true=>exact Ht hN hpl h (b:=st.bare) hp
  | false=>cases hp;rfl
theorem IF{o:Oper}(h:Hm pl o=true):Gf pl o=true:=by
 obtain⟨dst,op,type,pos,after,guard⟩:=o
 unfold Hm at h
 unfold Gf Hm
 cases op with
 | buildSlice t n parts=>exact h
 | call c=>
  obtain⟨callee,args,ats⟩:=c
  cases callee with
  | value f=>
   cases f with
   | func f=>exact Bool.or_eq_true_iff.2 (.inr (Bool.and_eq_true_iff.1 h).1)
   | _=>cases h
  | builtin bi=>cases bi <;> first | rfl | (cases h;done)
  | _=>cases h
 | _=>first
  | rfl
  | (cases h;done)
theorem YO(st:St){x y:Option Nat}(d e:D)(h:∀t,x=some t→y≠some t):(st.put x d).put y e=(st.put y e).put x d:=by
 cases x with
 | none=>rfl
 | some i=>
  cases y with
  | none=>rfl
  | some j=>
   have hne:i≠j:=fun he=>h i rfl (he▸rfl)
   simp only[St.put,List.set_comm _ _ hne]
theorem YP{o:Oper}(h:S6 pl o=true):Gf pl o=true:=by
 obtain⟨dst,op,type,pos,after,guard⟩:=o
 unfold S6 at h
 unfold Gf
 split at h
 ·rename_i e;dsimp only at e;subst e;rfl
 ·rename_i e;dsimp only at e;subst e;rfl
 ·rename_i lo hi e
  dsimp only at e
  subst e
  dsimp only
  rw[Bool.and_eq_true] at h
  rw[h.1];rfl
 ·rename_i e;dsimp only at e;subst e;rfl
 ·cases h
theorem Cc(hN:∀f A,Γ f=some A→A.Nat)(hpl:kN Γ pl){o:Oper}(h:S6 pl o=true){st:St}{p:List O×D}(hp:fH P Γ ops o st=some p):p.1=st.objs:=mR hN hpl (YP h) hp
theorem zG(hpl:kN Γ pl){dst:Option Nat}(h:(!BK pl dst)=true):jO (bF Γ) dst=false:=by
 cases dst with
 | none=>rfl
 | some s=>
  have h':(!pl.contains (20000000+s))=true:=h
  show (bF Γ).contains s=false
  cases hc:(bF Γ).contains s with
  | false=>rfl
  | true=>rw[hpl.2.2.2.2.1 s hc] at h';cases h'
theorem F7{R:Type}{st:St}{q:List O}{t:TypeId}{x ix:D}{k:D→Option R}(h:M5 x=true):eV P { st with objs:=q } t x ix k=eV P st t x ix k:=by
 unfold M5 at h
 split at h
 ·rfl
 ·rfl
 ·rfl
 ·cases h
theorem IG{x:D}(h:HI x=true):∃y,x=.s (.c (.t y)):=by
 unfold HI at h
 split at h
 ·exact⟨_,rfl⟩
 ·cases h
theorem LU{R:Type}{st:St}{q:List O}{t:TypeId}{x:D}{k:D→Option R}(h:HI x=true):qX P { st with objs:=q } t x k=qX P st t x k:=by
 obtain⟨y,rfl⟩:=IG h
 unfold qX
 cases P.underlying t with
 | none=>rfl
 | some u=>cases u <;> first | rfl | (cases y <;> rfl)
theorem FP{R:Type}{st:St}{q:List O}{t:TypeId}{x:D}{lo hi:Option D}{k:D→Option R}(h:HI x=true):iS P { st with objs:=q } t x lo hi none k=iS P st t x lo hi none k:=by
 obtain⟨y,rfl⟩:=IG h
 unfold iS
 cases P.underlying t with
 | none=>rfl
 | some u=>cases u <;> rfl
theorem IH(hpl:kN Γ pl)(hq:uU Γ≠[]){dst:Option Nat}(h:(!BK pl dst)=true){x:D}(hg:AH Γ dst x=true):HI x=true:=by
 unfold AH at hg
 split at hg
 ·rename_i e;exact absurd e hq
 ·rwa[zG hpl h,Bool.or_false] at hg
theorem CN(hpl:kN Γ pl){o:Oper}(hq:uU Γ≠[])(h:S6 pl o=true){st:St}{q:List O}(hb:∀k∈uU Γ,BoxSame st.objs q k){d:D}(hp:fH P Γ ops o st=some (st.objs,d)):fH P Γ ops o { st with objs:=q }=some (q,d):=by
 obtain⟨dst,op,type,pos,after,guard⟩:=o
 unfold S6 at h
 unfold fH at hp ⊢
 have h1:gd ops (⟨dst,op,type,pos,after,guard⟩:Oper) { st with objs:=q }=gd ops (⟨dst,op,type,pos,after,guard⟩:Oper) st:=rfl
 rw[h1]
 cases hg:gd ops (⟨dst,op,type,pos,after,guard⟩:Oper) st with
 | none=>rw[hg] at hp;cases hp
 | some w=>
  rw[hg] at hp
  cases w with
  | false=>
   simp only[Option.bind_some,cond_false,Option.some.injEq,Prod.mk.injEq] at hp ⊢
   exact⟨trivial,hp.2⟩
  | true=>
   cases op with
   | slice t x lo hi mx=>
    cases mx with
    | some m=>cases h
    | none=>
     dsimp only at h
     rw[Bool.and_eq_true] at h
     have hp:(if (AH Γ dst (ev st x)&&HJ Γ dst (ev st x))=true then kY P st.bare t (ev st x) (lo.map (ev st)) (hi.map (ev st)) none fun s d=>some (s.objs,d) else none)=some (st.objs,d):=hp
     show (if (AH Γ dst (ev st x)&&HJ Γ dst (ev st x))=true then kY P { st.bare with objs:=q } t (ev st x) (lo.map (ev st)) (hi.map (ev st)) none fun s d=>some (s.objs,d) else none)=some (q,d)
     split at hp
     case isFalse=>cases hp
     rename_i hg2
     rw[if_pos hg2]
     have htr:=IH hpl hq h.2 (Bool.and_eq_true_iff.1 hg2).1
     unfold kY at hp ⊢
     split at hp
     ·rename_i hA
      exfalso
      split at hp
      ·obtain⟨y,hy⟩:=IG htr
       rw[hy] at hp
       unfold sS at hp
       split at hp
       ·split at hp
        ·rename_i e;cases e
        ·cases hp
       ·cases hp
      ·cases hp
     ·rename_i hA
      rw[if_neg hA,FP htr,lW]
      rw[lW] at hp
      obtain⟨d0,e1,e2⟩:=Option.bind_eq_some_iff.1 hp
      cases e2
      have e1':iS P st.bare.bare t (ev st x) (lo.map (ev st)) (hi.map (ev st)) none some=some d:=e1
      rw[e1']
      rfl
   | call c=>
    obtain⟨callee,args,ats⟩:=c
    cases callee with
    | builtin bi=>
     cases bi with
     | len=>
      dsimp only at h
      have hp:(if oK Γ st dst .len (args.toList.map (ev st))=true then cO P st.bare dst type .len (args.toList.map (ev st)) ats.toList else none)=some (st.objs,d):=hp
      show (if oK Γ st dst .len (args.toList.map (ev st))=true then cO P { st.bare with objs:=q } dst type .len (args.toList.map (ev st)) ats.toList else none)=some (q,d)
      split at hp
      case isFalse=>cases hp
      rename_i hg2
      rw[if_pos hg2]
      generalize args.toList.map (ev st)=as at *
      generalize ats.toList=ts at *
      unfold cO at hp ⊢
      match as,ts,hg2,hp with
      | [x],[t],hg2,hp=>
       dsimp only at hp ⊢
       have htr:HI x=true:=IH hpl hq h (by
        have:oK Γ st dst .len [x]=true:=hg2
        unfold oK at this
        simp only[List.all_cons,List.all_nil,Bool.and_true,Bool.and_eq_true] at this
        exact this.1)
       rw[LU htr]
       obtain⟨d0,e1,e2⟩:=Option.bind_eq_some_iff.1 hp
       cases e2
       rw[e1]
       rfl
      | [],_,hg2,hp=>cases hp
      | [x],[],hg2,hp=>cases hp
      | [x],_::_::_,hg2,hp=>cases hp
      | _::_::_,_,hg2,hp=>cases hp
     | _=>cases h
    | _=>cases h
   | indexAddr t x ix=>
    have hp:((mK Γ P st.bare dst t (ev st x) (ev st ix) some).bind fun d=>some (st.bare.objs,d))=some (st.objs,d):=hp
    obtain⟨d',h3,h2⟩:=Option.bind_eq_some_iff.1 hp
    cases h2
    show ((mK Γ P { st.bare with objs:=q } dst t (ev st x) (ev st ix) some).bind fun d=>some (q,d))=some (q,d)
    have key:mK Γ P { st.bare with objs:=q } dst t (ev st x) (ev st ix) some=some d:=by
     unfold mK at h3 ⊢
     cases hB:uU Γ with
     | nil=>exact absurd hB hq
     | cons w B=>
      rw[hB] at h3
      dsimp only at h3 ⊢
      rw[zG hpl h,Bool.or_false] at h3 ⊢
      split at h3
      case isFalse=>cases h3
      rename_i hi
      rw[if_pos hi,F7 hi]
      exact h3
    rw[key]
    rfl
   | load t x=>
    have hp:(if vW Γ dst (ev st x)=true then ((kX Γ P st.bare dst t (ev st x) some).bind fun d=>some (st.bare.objs,d)) else none)=some (st.objs,d):=hp
    split at hp
    case isFalse=>cases hp
    rename_i hgl
    obtain⟨d',h3,h2⟩:=Option.bind_eq_some_iff.1 hp
    cases h2
    show (if vW Γ dst (ev st x)=true then ((kX Γ P { st.bare with objs:=q } dst t (ev st x) some).bind fun d=>some (q,d)) else none)=some (q,d)
    rw[if_pos hgl]
    have key:kX Γ P { st.bare with objs:=q } dst t (ev st x) some=some d:=by
     unfold kX at h3 ⊢
     cases hB:uU Γ with
     | nil=>exact absurd hB hq
     | cons w B=>
      rw[hB] at h3 hb
      dsimp only at h3 ⊢
      rw[zG hpl h,Bool.or_false] at h3 ⊢
      split at h3
      case isFalse=>cases h3
      rename_i hqp0
      have hqp1:=hqp0
      rw[Bool.and_eq_true] at hqp1
      obtain⟨hqp,hbx⟩:=hqp1
      have hgoal:(xD (w::B) (ev st x)&&nV { st.bare with objs:=q } (ev st x))=true:=by
       rw[Bool.and_eq_true]
       refine⟨hqp,?_⟩
       unfold xD at hqp
       unfold nV at hbx ⊢
       split at hqp
       ·rename_i kk jj he
        rw[he] at hbx ⊢
        dsimp only at hbx ⊢
        have hk:kk∈w::B:=by simpa using hqp
        cases ho:st.objs[kk]? with
        | none=>
         have hbx':gM st.objs[kk]?=true:=hbx
         rw[ho] at hbx';cases hbx'
        | some o=>
         have hbx':gM st.objs[kk]?=true:=hbx
         rw[ho] at hbx'
         cases o with
         | box l=>rw[(hb kk hk l).1 ho];rfl
         | _=>cases hbx'
       ·rename_i he
        rw[he]
       ·cases hqp
      rw[if_pos hgoal]
      unfold mD at h3 ⊢
      split at h3
      case h_2=>cases h3
      rename_i n bb hn hbb
      split at h3
      ·cases h3
      rename_i hc
      rw[if_neg hc]
      unfold k8 at h3 ⊢
      unfold xD at hqp
      split at hqp
      ·rename_i kk jj he
       rw[he] at h3 ⊢
       dsimp only at h3 ⊢
       have hk:kk∈w::B:=by simpa using hqp
       split at h3
       ·rename_i cs hcs
        have hcs2:st.objs[kk]?=some (.box cs):=by
         have hbx':gM st.objs[kk]?=true:=by
          rw[he] at hbx
          exact hbx
         have hcs0:(st.objs[kk]?).bind O.cells?=some cs:=hcs
         cases ho:st.objs[kk]? with
         | none=>rw[ho] at hbx';cases hbx'
         | some o=>
          rw[ho] at hbx' hcs0
          cases o with
          | box l=>cases hcs0;rfl
          | _=>cases hbx'
        have hcs':q[kk]?=some (.box cs):=(hb kk hk cs).1 hcs2
        have hcs3:(q[kk]?).bind O.cells?=some cs:=by rw[hcs'];rfl
        rw[hcs3]
        exact h3
       ·cases h3
      ·rename_i he
       rw[he] at h3 ⊢
       exact h3
      ·cases hqp
    rw[key]
    rfl
   | _=>cases h
theorem CO{α:Type}{st:St}{dst:Option Nat}{o:O}{f:St→Nat→Option α}{r:α}(h:gC st dst o f=some r):∃K,st.objs[K]?=some .fresh∧f { st with objs:=st.objs.set K o } K=some r:=by
 unfold gC at h
 split at h
 ·split at h
  ·rename_i hf
   exact⟨_,hf,h⟩
  ·split at h
   ·rename_i hf
    exact⟨_,hf,h⟩
   ·split at h
    ·rename_i K hK
     have hm:K∈(List.range st.objs.length).filter fun i=>decide (st.np+st.env.length≤i)&&gP st.objs[i]?:=by
      unfold gQ at hK
      exact List.mem_of_mem_head? hK
     have h2:=(List.mem_filter.1 hm).2
     simp only[Bool.and_eq_true] at h2
     have h4:st.objs[K]?=some .fresh:=by
      have:=h2.2
      unfold gP at this
      split at this
      ·rename_i e;exact e
      ·cases this
     exact⟨_,h4,h⟩
    ·cases h
 ·cases h
theorem QF{B:List Nat}{o o':List O}(hok:OZ B o o'=true){k:Nat}(hk:k∈B)(fr:∀l,o[k]?=some (.box l)→o'[k]?=some (.box l)):BoxSame o o' k:=by
 intro l
 constructor
 ·exact fr l
 ·intro hl
  unfold OZ at hok
  have h5:=List.all_eq_true.1 hok k hk
  rw[hl] at h5
  simp only[gM,Bool.not_true,Bool.or_false] at h5
  cases ho:o[k]? with
  | none=>rw[ho] at h5;cases h5
  | some x=>
   rw[ho] at h5
   cases x with
   | box l0=>
    have:=fr l0 ho
    rw[hl] at this
    cases this
    rfl
   | _=>cases h5
theorem xQ{Γ:FuncId→Option Callee}{P:Program}{R:Type}{st:St}{dst:Option Nat}{t:TypeId}{l c:D}{k:St→D→Option R}{r:R}(h:eH Γ P st dst t l c k=some r):
 ∃(o:O) (f:Nat→D),gM (some o)=false∧o≠.fresh∧∀{S:Type} (st':St) (k':St→D→Option S),eH Γ P st' dst t l c k'=gC st' dst o fun s key=>k' s (f key):=by
 unfold eH at h
 by_cases hr:Nc Γ dst=true
 ·rw[if_pos hr] at h
  unfold rF at h
  split at h
  case h_2=>cases h
  rename_i e hu
  split at h
  case h_2=>cases h
  rename_i i e2 h1 h2
  split at h
  case h_2=>cases h
  rename_i n h3 h4
  split at h
  case isFalse=>cases h
  rename_i hc
  obtain⟨a,g1,g2⟩:=qK h
  obtain⟨b,g3,g4⟩:=qK g1
  obtain⟨p,g5,g6⟩:=aB g3
  refine⟨.rr none e e2 n (repL p.1 []),fun key=>.s (.c (.rk key)),rfl,by simp,fun st' k'=>?_⟩
  unfold eH
  rw[if_pos hr]
  unfold rF
  simp only[hu,h1,h2,h3,h4,if_pos hc,g2,g4,g5]
  rfl
 ·rw[if_neg hr] at h
  unfold jU at h
  split at h
  case h_2=>cases h
  rename_i e hu
  split at h
  case h_2=>cases h
  rename_i i h1
  split at h
  case h_2=>cases h
  rename_i z h2
  split at h
  case h_2=>cases h
  rename_i cs h3
  split at h
  case h_2=>cases h
  rename_i ts h4
  split at h
  case isFalse=>cases h
  rename_i hc
  obtain⟨a,g1,g2⟩:=qK h
  obtain⟨b,g3,g4⟩:=qK g1
  obtain⟨p,g5,g6⟩:=aB g3
  refine⟨.row false e i.size (repL p.1 (Qj i.size ts)),fun key=>.s (.c (.row key)),rfl,by simp,fun st' k'=>?_⟩
  unfold eH
  rw[if_neg hr]
  unfold jU
  simp only[hu,h1,h2,h3,h4,if_pos hc,g2,g4,g5]
  rfl
theorem Cd(hpl:kN Γ pl)(hq:uU Γ≠[]){o:Oper}(h:Hn pl o=true){st:St}{q:List O}{d:D}(hp:fH P Γ ops o st=some (q,d)):∀k∈uU Γ,BoxSame st.objs q k:=by
 intro k hk
 obtain⟨dst,op,type,pos,after,guard⟩:=o
 unfold Hn at h
 unfold fH at hp
 cases hg:gd ops (⟨dst,op,type,pos,after,guard⟩:Oper) st with
 | none=>rw[hg] at hp;cases hp
 | some w=>
  rw[hg] at hp
  cases w with
  | false=>cases hp;exact .refl _ _
  | true=>
   have hp:BI P Γ ⟨dst,op,type,pos,after,guard⟩ st.bare (ev st)=some (q,d):=hp
   unfold BI at hp
   cases op with
   | makeSlice t l c=>
    have hp:gN Γ P st.bare dst t (ev st l) (ev st c) (fun s d=>some (s.objs,d))=some (q,d):=hp
    have hr:eH Γ P st.bare dst t (ev st l) (ev st c) (fun s d=>some (s.objs,d))=some (q,d):=by
     unfold gN at hp
     split at hp
     ·exact hp
     ·split at hp
      ·exact hp
      ·cases hp
    obtain⟨o,f,hb,_,hn⟩:=xQ hr
    rw[hn] at hr
    obtain⟨K,h1,h2⟩:=qJ hb hr
    cases h2
    exact h1 k
   | call c=>
    obtain⟨callee,args,ats⟩:=c
    cases callee with
    | builtin bi=>
     cases bi with
     | append=>
      dsimp only at hp
      split at hp
      case isFalse=>cases hp
      unfold cO at hp
      split at hp
      ·cases ‹Builtin.append=_›
      ·exact KK hp k
      ·cases ‹Builtin.append=_›
      ·cases ‹Builtin.append=_›
      ·cases ‹Builtin.append=_›
      ·cases hp
     | _=>cases h
    | value f=>
     dsimp only at hp
     have hlc:jO (bF Γ) dst=false:=by
      have h2:IE pl dst=false:=by
       have h3:(!IE pl dst)=true:=by
        cases f <;> exact(Bool.and_eq_true_iff.1 h).2
       cases h4:IE pl dst with
       | false=>rfl
       | true=>rw[h4] at h3;cases h3
      cases dst with
      | none=>rfl
      | some s=>
       show (bF Γ).contains s=false
       cases h4:(bF Γ).contains s with
       | false=>rfl
       | true=>
        have h5:pl.contains (20000000+s)=true:=hpl.2.2.2.2.1 s h4
        have h6:pl.contains (20000000+s)=false:=h2
        rw[h5] at h6;cases h6
     have hall:∀g A,Γ g=some A→EE (ev st f) g→A.Framed∨A.Never:=fun g A hA hr=>by
      by_cases hflag:(g==2000000)=true
      ·have:g=2000000:=by simpa using hflag
       subst this
       exact .inr (hpl.2.2.2.2.2.2.1 A hA)
      ·have hflag:(g==2000000)=false:=by simpa using hflag
       left
       cases f with
       | func f'=>
        have:g=f':=by
         rcases hr with⟨v,h1,h2⟩ | ⟨caps,h1⟩
         ·simp only[ev] at h1
          cases h1
          have hpf:kH (Value.func (.func f') #[] #[])=some f':=rfl
          rw[hpf] at h2
          cases h2;rfl
         ·simp only[ev] at h1
          cases h1
        subst this
        exact hpl.2.2.1 g A (Bool.and_eq_true_iff.1 h).1 hA
       | _=>exact hpl.2.2.2.2.2.1 (Bool.and_eq_true_iff.1 h).1 g A hflag hA
     unfold xN at hp
     split at hp
     case isFalse=>cases hp
     unfold BH at hp
     cases hB:uU Γ with
     | nil=>exact absurd hB hq
     | cons w B=>
      rw[hB] at hp hk
      dsimp only at hp
      rw[hlc] at hp
      simp only[Bool.false_eq_true,if_false] at hp
      split at hp
      case isFalse=>cases hp
      rename_i hqd
      obtain⟨p',h1,h2⟩:=Option.bind_eq_some_iff.1 hp
      split at h2
      case isFalse=>cases h2
      rename_i hok
      cases h2
      have hkeys:∀d∈ev st f::args.toList.map (ev st),k∉LB d:=fun d hd hkd=>by
       unfold SF at hqd
       have h5:=List.all_eq_true.1 hqd d hd
       have h6:=List.all_eq_true.1 h5 k hkd
       have h7:(w::B).contains k=true:=by simpa using hk
       rw[h7] at h6
       cases h6
      have fr:∀l,st.objs[k]?=some (.box l)→q[k]?=some (.box l):=fun l hl=>NQ hall h1 hkeys hl
      exact QF hok hk fr
    | _=>cases h
   | buildSlice t n parts=>
    dsimp only at hp
    unfold Gy at hp
    split at hp
    ·rw[lX] at hp
     obtain⟨d,_,h2⟩:=Option.bind_eq_some_iff.1 hp
     cases h2
     exact fun l=>Iff.rfl
    split at hp
    case isFalse=>cases hp
    exact CL hp k
   | store t x v=>
    dsimp only at hp h
    split at hp
    case isFalse=>cases hp
    rename_i hgs
    rw[Bool.and_eq_true] at hgs
    replace hgs:=hgs.1
    unfold Bb at hgs
    cases hB:uU Γ with
    | nil=>exact absurd hB hq
    | cons w B=>
     rw[hB] at hgs hk
     dsimp only at hgs
     have hnl:(bF Γ).contains 8999999=false:=by
      cases hc:(bF Γ).contains 8999999 with
      | false=>rfl
      | true=>
       have:=hpl.2.2.2.2.1 _ hc
       rw[this] at h
       cases h
     have hnt:(bF Γ).contains (60000000+t)=false:=by
      cases hc:(bF Γ).contains (60000000+t) with
      | false=>rfl
      | true=>
       have h9:=hpl.2.2.2.2.1 _ hc
       have aux8:∀n:Nat,20000000+(60000000+n)=80000000+n:=fun n=>by omega
       rw[show 20000000+(60000000+t)=80000000+t from aux8 t] at h9
       rw[h9,Bool.and_comm] at h
       cases h
     rw[hnl,hnt,Bool.false_or,Bool.false_or] at hgs
     obtain⟨q',h1,h2⟩:=Option.bind_eq_some_iff.1 hp
     cases h2
     unfold o6 at h1
     split at h1
     case h_2=>cases h1
     split at h1
     case isFalse=>cases h1
     split at hgs
     case h_3=>cases hgs
     case h_2=>
      rename_i kk mm ii jj he
      rw[he] at h1
      unfold k8 at h1
      dsimp only at h1
      split at h1
      case h_2=>cases h1
      rename_i q2 hfz
      split at h1
      case h_2=>cases h1
      rename_i e m' es hob
      obtain⟨ts,h1⟩:=qL h1
      split at h1
      case isFalse=>cases h1
      obtain⟨x,_,h1⟩:=aB h1
      cases h1
      exact(ID hfz k).trans (jX (by rw[hob];rfl) rfl)
     rename_i kk jj he
     rw[he] at h1
     unfold k8 at h1
     dsimp only at h1
     split at h1
     ·split at h1
      ·cases h1
       have hne:kk≠k:=fun e=>by
        subst e
        have:(w::B).contains kk=true:=by simpa using hk
        rw[this] at hgs
        cases hgs
       intro l
       rw[List.getElem?_set_ne hne]
       exact Iff.rfl
      ·cases h1
     ·cases h1
   | alloc e=>
    dsimp only at hp
    unfold xO at hp
    cases hB:uU Γ with
    | nil=>exact absurd hB hq
    | cons w B=>
     rw[hB] at hp hk
     dsimp only at hp
     split at hp
     case isFalse=>cases hp
     obtain⟨p',h1,h2⟩:=Option.bind_eq_some_iff.1 hp
     rw[zG hpl h,Bool.or_false] at h2
     split at h2
     case isFalse=>cases h2
     rename_i hok
     cases h2
     refine QF hok hk fun l hl=>?_
     unfold lL at h1
     split at h1
     case h_2=>cases h1
     split at h1
     case h_2=>cases h1
     split at h1
     case h_2=>cases h1
     obtain⟨K,hK,h3⟩:=CO h1
     cases h3
     dsimp only
     rw[List.getElem?_set_ne (fun e=>by
      subst e
      have hl':st.bare.objs[K]?=some (.box l):=hl
      rw[hK] at hl'
      cases hl')]
     exact hl
   | _=>cases h
def LV(o o':List O):Prop:=∀(k:Nat) (x:O),o[k]?=some x→x≠O.fresh→o'[k]?=some x
theorem zH{o o':List O}(hg:LV o o'):∀{f k K:Nat},o5 o f k=some K→o5 o' f k=some K
 | 0,_,_,h=>by simp[o5] at h
 | f+1,k,K,h=>by
  simp only[o5] at h ⊢
  split at h
  ·rename_i ho;rw[hg k _ ho (by simp)];exact h
  ·rename_i ho;rw[hg k _ ho (by simp)];exact zH hg h
  ·cases h
theorem II{R:Type}{st:St}{q:List O}{t:TypeId}{d:D}{k:D→Option R}{r:R}(hg:LV st.objs q)(h:mD P st t d k=some r):mD P { st with objs:=q } t d k=some r:=by
 unfold mD at h ⊢
 cases hn:o4 P t with
 | none=>rw[hn] at h;cases h
 | some n=>
  cases hb:p8 P t with
  | none=>rw[hn,hb] at h;cases h
  | some b=>
   rw[hn,hb] at h
   dsimp only at h ⊢
   split at h
   ·cases h
   rename_i hc
   rw[if_neg hc]
   unfold k8 at h ⊢
   cases d with
   | tup l=>cases h
   | s s=>cases s with
    | agg l=>cases h
    | c c=>
     cases c with
     | box key j=>
      dsimp only at h ⊢
      cases ho:st.objs[key]? with
      | none=>rw[ho] at h;cases h
      | some o=>
       rw[ho] at h
       rw[hg key o ho (fun e=>by subst e;cases h)]
       exact h
     | elt key m i j=>
      dsimp only at h ⊢
      cases ho:st.objs[key]? with
      | none=>rw[ho] at h;cases h
      | some o=>
       rw[ho] at h
       rw[hg key o ho (fun e=>by subst e;cases h)]
       exact h
     | elr key i=>
      dsimp only at h ⊢
      cases hr:o5 st.objs 64 key with
      | none=>rw[hr] at h;cases h
      | some K=>
       rw[hr] at h
       rw[zH hg hr]
       dsimp only at h ⊢
       cases ho:st.objs[K]? with
       | none=>rw[ho] at h;cases h
       | some o=>
        rw[ho] at h
        rw[hg K o ho (fun e=>by subst e;cases h)]
        exact h
     | _=>exact h
theorem vZ{R:Type}{st:St}{q:List O}{t:TypeId}{x ix:D}{k:D→Option R}{r:R}(hg:LV st.objs q)(h:eV P st t x ix k=some r):eV P { st with objs:=q } t x ix k=some r:=by
 unfold eV at h ⊢
 cases hu:P.underlying t with
 | none=>rw[hu] at h;cases h
 | some u=>
  rw[hu] at h
  cases u with
  | slice e=>
   dsimp only at h ⊢
   cases hn:o4 P e with
   | none=>rw[hn] at h;cases h
   | some n=>
    rw[hn] at h
    dsimp only at h ⊢
    unfold k8 at h ⊢
    cases x with
    | tup l=>cases h
    | s s=>cases s with
     | agg l=>cases h
     | c c=>
      dsimp only at h ⊢
      obtain⟨i,h1,h2⟩:=qK h
      rw[h2]
      cases c with
      | row key=>
       dsimp only at h1 ⊢
       cases ho:st.objs[key]? with
       | none=>rw[ho] at h1;cases h1
       | some o=>
        rw[ho] at h1
        rw[hg key o ho (fun e=>by subst e;cases h1)]
        exact h1
      | cut key m lo len tg=>
       dsimp only at h1 ⊢
       cases ho:st.objs[key]? with
       | none=>rw[ho] at h1;cases h1
       | some o=>
        rw[ho] at h1
        rw[hg key o ho (fun e=>by subst e;cases h1)]
        exact h1
      | rk key=>
       dsimp only at h1 ⊢
       cases hr:o5 st.objs 64 key with
       | none=>rw[hr] at h1;cases h1
       | some K=>
        rw[hr] at h1
        rw[zH hg hr]
        dsimp only at h1 ⊢
        cases ho:st.objs[K]? with
        | none=>rw[ho] at h1;cases h1
        | some o=>
         rw[ho] at h1
         rw[hg K o ho (fun e=>by subst e;cases h1)]
         exact h1
      | _=>exact h1
  | _=>exact h
theorem YQ{R:Type}{st:St}{q:List O}{t:TypeId}{x:D}{k:D→Option R}{r:R}(hg:LV st.objs q)(h:qX P st t x k=some r):qX P { st with objs:=q } t x k=some r:=by
 unfold qX at h ⊢
 cases hu:P.underlying t with
 | none=>rw[hu] at h;cases h
 | some u=>
  rw[hu] at h
  cases u with
  | slice e=>
   dsimp only at h ⊢
   unfold k8 at h ⊢
   cases x with
   | tup l=>cases h
   | s s=>cases s with
    | agg l=>cases h
    | c c=>
     dsimp only at h ⊢
     cases c with
     | row key=>
      dsimp only at h ⊢
      cases ho:st.objs[key]? with
      | none=>rw[ho] at h;cases h
      | some o=>
       rw[ho] at h
       rw[hg key o ho (fun e=>by subst e;cases h)]
       exact h
     | rk key=>
      dsimp only at h ⊢
      cases hr:o5 st.objs 64 key with
      | none=>rw[hr] at h;cases h
      | some K=>
       rw[hr] at h
       rw[zH hg hr]
       dsimp only at h ⊢
       cases ho:st.objs[K]? with
       | none=>rw[ho] at h;cases h
       | some o=>
        rw[ho] at h
        rw[hg K o ho (fun e=>by subst e;cases h)]
        exact h
     | _=>exact h
  | map kt e=>
   dsimp only at h ⊢
   unfold k8 at h ⊢
   cases x with
   | tup l=>cases h
   | s s=>cases s with
    | agg l=>cases h
    | c c=>
     dsimp only at h ⊢
     cases c with
     | t y=>
      cases y <;> first | exact h | cases h
     | row key=>
      dsimp only at h ⊢
      cases ho:st.objs[key]? with
      | none=>rw[ho] at h;cases h
      | some o=>
       rw[ho] at h
       rw[hg key o ho (fun e=>by subst e;cases h)]
       exact h
     | _=>exact h
  | _=>exact h
theorem LW{o:List O}{K:Nat}{x:O}(h:o[K]?=some .fresh):LV o (o.set K x):=fun k y hy hn=>by
 have hne:K≠k:=fun e=>by subst e;rw[h] at hy;cases hy;exact hn rfl
 rw[List.getElem?_set_ne hne]
 exact hy
theorem QG{o:Oper}(h:Ho o=true){st:St}{q:List O}{d:D}(hp:fH P Γ ops o st=some (q,d)):LV st.objs q:=by
 obtain⟨dst,op,type,pos,after,guard⟩:=o
 unfold Ho at h
 unfold fH at hp
 cases hg:gd ops (⟨dst,op,type,pos,after,guard⟩:Oper) st with
 | none=>rw[hg] at hp;cases hp
 | some w=>
  rw[hg] at hp
  cases w with
  | false=>cases hp;exact fun k x h _=>h
  | true=>
   have hp:BI P Γ ⟨dst,op,type,pos,after,guard⟩ st.bare (ev st)=some (q,d):=hp
   unfold BI at hp
   cases op with
   | alloc t=>
    dsimp only at hp
    have hal:(lL P st.bare dst t fun s d=>some (s.objs,d))=some (q,d):=by
     unfold xO at hp
     split at hp
     ·exact hp
     ·split at hp
      case isFalse=>cases hp
      obtain⟨p',h1,h2⟩:=Option.bind_eq_some_iff.1 hp
      split at h2
      ·cases h2;exact h1
      ·cases h2
    unfold lL at hal
    split at hal
    case h_2=>cases hal
    split at hal
    case h_2=>cases hal
    split at hal
    case h_2=>cases hal
    obtain⟨K,h1,h2⟩:=CO hal
    cases h2
    exact LW h1
   | box t x=>
    dsimp only at hp
    unfold O6 at hp
    split at hp
    case h_2=>cases hp
    split at hp
    case isFalse=>cases hp
    obtain⟨K,h1,h2⟩:=CO hp
    cases h2
    exact LW h1
   | _=>cases h
theorem YR{oi oj:Oper}(hl:VD oi=true)(ha:Ho oj=true){st:St}{q2:List O}{d1 d2:D}(e1:fH P Γ ops oi st=some (st.objs,d1))(e2:fH P Γ ops oj st=some (q2,d2)):fH P Γ ops oi { st with objs:=q2 }=some (q2,d1):=by
 have hgr:=QG ha e2
 clear e2 ha
 obtain⟨dst,op,type,pos,after,guard⟩:=oi
 unfold VD at hl
 unfold fH at e1 ⊢
 have h1:gd ops (⟨dst,op,type,pos,after,guard⟩:Oper) { st with objs:=q2 }=gd ops (⟨dst,op,type,pos,after,guard⟩:Oper) st:=rfl
 rw[h1]
 cases hg:gd ops (⟨dst,op,type,pos,after,guard⟩:Oper) st with
 | none=>rw[hg] at e1;cases e1
 | some w=>
  rw[hg] at e1
  cases w with
  | false=>
   simp only[Option.bind_some,cond_false,Option.some.injEq,Prod.mk.injEq] at e1 ⊢
   exact⟨trivial,e1.2⟩
  | true=>
   cases op with
   | indexAddr t x ix=>
    have e1:((mK Γ P st.bare dst t (ev st x) (ev st ix) some).bind fun d=>some (st.bare.objs,d))=some (st.objs,d1):=e1
    obtain⟨d',h3,h2⟩:=Option.bind_eq_some_iff.1 e1
    cases h2
    show ((mK Γ P { st.bare with objs:=q2 } dst t (ev st x) (ev st ix) some).bind fun d=>some (q2,d))=some (q2,d1)
    have key:mK Γ P { st.bare with objs:=q2 } dst t (ev st x) (ev st ix) some=some d1:=by
     unfold mK at h3 ⊢
     cases hB:uU Γ with
     | nil=>
      rw[hB] at h3
      exact vZ (st:=st.bare) hgr h3
     | cons w B=>
      rw[hB] at h3
      dsimp only at h3 ⊢
      split at h3
      case isFalse=>cases h3
      rename_i hi
      rw[if_pos hi]
      exact vZ (st:=st.bare) hgr h3
    rw[key]
    rfl
   | load t x=>
    have e1:(if vW Γ dst (ev st x)=true then ((kX Γ P st.bare dst t (ev st x) some).bind fun d=>some (st.bare.objs,d)) else none)=some (st.objs,d1):=e1
    split at e1
    case isFalse=>cases e1
    rename_i hgl
    obtain⟨d',h3,h2⟩:=Option.bind_eq_some_iff.1 e1
    cases h2
    show (if vW Γ dst (ev st x)=true then ((kX Γ P { st.bare with objs:=q2 } dst t (ev st x) some).bind fun d=>some (q2,d)) else none)=some (q2,d1)
    rw[if_pos hgl]
    have key:kX Γ P { st.bare with objs:=q2 } dst t (ev st x) some=some d1:=by
     unfold kX at h3 ⊢
     cases hB:uU Γ with
     | nil=>
      rw[hB] at h3
      exact II (st:=st.bare) hgr h3
     | cons w B=>
      rw[hB] at h3
      dsimp only at h3 ⊢
      split at h3
      case isFalse=>cases h3
      rename_i hi
      have hbx:∀d,nV st.bare d=true→nV { st.bare with objs:=q2 } d=true:=fun d hd=>by
       unfold nV at hd ⊢
       split
       ·rename_i kk jj
        have hd:gM st.objs[kk]?=true:=hd
        show gM q2[kk]?=true
        cases ho:st.objs[kk]? with
        | none=>rw[ho] at hd;cases hd
        | some o=>
         rw[ho] at hd
         rw[hgr kk o ho (fun e=>by subst e;cases hd)]
         exact hd
       ·rfl
      have hi':((xD (w::B) (ev st x)&&nV { st.bare with objs:=q2 } (ev st x))||jO (bF Γ) dst)=true:=by
       rw[Bool.or_eq_true,Bool.and_eq_true] at hi ⊢
       exact hi.imp (fun h=>⟨h.1,hbx _ h.2⟩) id
      rw[if_pos hi']
      exact II (st:=st.bare) hgr h3
    rw[key]
    rfl
   | call c=>
    obtain⟨callee,args,ats⟩:=c
    cases callee with
    | builtin bi=>
     cases bi with
     | len=>
      have hev:∀x,ev { st with objs:=q2 } x=ev st x:=fun x=>by cases x <;> rfl
      have e1:(if oK Γ st dst .len (args.toList.map (ev st))=true then cO P st.bare dst type .len (args.toList.map (ev st)) ats.toList else none)=some (st.objs,d1):=e1
      show (if oK Γ st dst .len (args.toList.map (ev { st with objs:=q2 }))=true then cO P { st.bare with objs:=q2 } dst type .len (args.toList.map (ev { st with objs:=q2 })) ats.toList else none)=some (q2,d1)
      have hm:args.toList.map (ev { st with objs:=q2 })=args.toList.map (ev st):=List.map_congr_left fun x _=>hev x
      rw[hm]
      split at e1
      case isFalse=>cases e1
      rename_i hgb
      rw[if_pos hgb]
      unfold cO at e1 ⊢
      split at e1
      ·obtain⟨d',h3,h2⟩:=Option.bind_eq_some_iff.1 e1
       cases h2
       have:=YQ (st:=st.bare) hgr h3
       show ((qX P { st.bare with objs:=q2 } _ _ some).bind fun d=>some (q2,d))=_
       rw[this]
       rfl
      all_goals first
       | (cases ‹Builtin.len=_›;done)
       | (cases e1;done)
     | _=>cases hl
    | _=>cases hl
   | _=>cases hl
theorem EF(hpl:kN Γ pl)(h:(!pl.contains 28999999)=true):(bF Γ).contains 8999999=false:=by
 cases hc:(bF Γ).contains 8999999 with
 | false=>rfl
 | true=>
  have:=hpl.2.2.2.2.1 _ hc
  rw[this] at h
  cases h
theorem NS(hpl:kN Γ pl)(hq:uU Γ≠[])(hn:(!pl.contains 28999999)=true){o:Oper}(h:By o=true):∃(d:Nat) (x:O) (go:Bool),((∀t,o.dst=some t→t=d)∧(go=true→gM (some x)=true))∧∀(st:St) (q:List O) (v:D),
 fH P Γ ops o st=some (q,v)↔(o.dst=some d∧go=true∧st.objs[st.np+d]?=some .fresh∧q=st.objs.set (st.np+d) x∧v=.s (.c (.box (st.np+d) 0))∧(OZ (uU Γ) st.objs q||jO (bF Γ) o.dst)=true∧FE Γ st o.dst=true):=by
 obtain⟨dst,op,type,pos,after,guard⟩:=o
 unfold By at h
 rw[Bool.and_eq_true] at h
 obtain⟨hgd,h⟩:=h
 cases guard with
 | some g=>cases hgd
 | none=>
  cases op with
  | alloc t=>
   have key:∀st:St,fH P Γ ops ⟨dst,.alloc t,type,pos,after,none⟩ st=xO Γ P st.bare dst t:=fun st=>rfl
   cases dst with
   | none=>
    refine⟨0,.box [],true,⟨fun t ht=>(by cases ht),fun _=>rfl⟩,fun st q v=>⟨fun he=>?_,fun he=>(by cases he.1)⟩⟩
    rw[key] at he
    unfold xO at he
    split at he
    ·rename_i e;exact absurd e hq
    ·split at he
     case isFalse=>cases he
     rename_i ho
     have ho:=(Bool.and_eq_true_iff.1 ho).1
     unfold D4 at ho
     rw[EF hpl hn] at ho
     cases ho
   | some d=>
    have hz:∃(x:O) (go:Bool),(go=true→gM (some x)=true)∧∀(st:St) (f:St→D→Option (List O×D)),st.objs[st.np+d]?=some .fresh→lL P st (some d) t f=if go then f { st with objs:=st.objs.set (st.np+d) x } (.s (.c (.box (st.np+d) 0))) else none:=by
     unfold lL
     cases P.info? t with
     | none=>exact⟨.fresh,false,(fun h=>by cases h),fun st f _=>rfl⟩
     | some i=>
      dsimp only
      cases i.zero with
      | none=>exact⟨.fresh,false,(fun h=>by cases h),fun st f _=>rfl⟩
      | some z=>
       dsimp only
       cases p9 z with
       | none=>exact⟨.fresh,false,(fun h=>by cases h),fun st f _=>rfl⟩
       | some cs=>
        refine⟨.box (O5 P t cs),true,fun _=>rfl,fun st f hf=>?_⟩
        dsimp only
        unfold gC
        dsimp only
        rw[hf]
        rfl
    obtain⟨x,go,hbx,hz⟩:=hz
    refine⟨d,x,go,⟨fun t ht=>(by cases ht;rfl),hbx⟩,fun st q v=>?_⟩
    rw[key]
    unfold xO
    cases hB:uU Γ with
    | nil=>exact absurd hB hq
    | cons w B=>
     dsimp only
     have how:D4 Γ st.bare (some d)=true↔st.objs[st.np+d]?=some .fresh:=by
      unfold D4
      rw[EF hpl hn,Bool.false_or]
      show (match st.objs[st.np+d]? with | some .fresh=>true | _=>false)=true↔_
      constructor
      ·intro hh
       split at hh
       ·assumption
       ·cases hh
      ·intro hh
       rw[hh]
     constructor
     ·intro he
      split at he
      case isFalse=>cases he
      rename_i ho
      have ho:=Bool.and_eq_true_iff.1 ho
      have hf:=how.1 ho.1
      rw[hz st.bare _ hf] at he
      cases go with
      | false=>cases he
      | true=>
       simp only[if_true,Option.bind_some] at he
       split at he
       case isFalse=>cases he
       rename_i hk
       cases he
       exact⟨rfl,rfl,hf,rfl,rfl,hk,ho.2⟩
     ·rintro ⟨_,hgo,hf,rfl,rfl,hk,hga⟩
      rw[if_pos (show (D4 Γ st.bare (some d)&&FE Γ st.bare (some d))=true from Bool.and_eq_true_iff.2 ⟨how.2 hf,hga⟩),hz st.bare _ hf]
      subst hgo
      simp only[if_true,Option.bind_some]
      exact if_pos hk
  | _=>cases h
theorem Ce(hpl:kN Γ pl)(hq:uU Γ≠[])(hn:(!pl.contains 28999999)=true){o:Oper}(h:Hp o=true){st:St}{q:List O}{v:D}(hp:fH P Γ ops o st=some (q,v)):
 ∃(d:Nat) (x:O),x≠.fresh∧st.objs[st.np+d]?=some .fresh∧q=st.objs.set (st.np+d) x∧∀q':List O,q'[st.np+d]?=some .fresh→fH P Γ ops o { st with objs:=q' }=some (q'.set (st.np+d) x,v):=by
 obtain⟨dst,op,type,pos,after,guard⟩:=o
 unfold Hp at h
 rw[Bool.and_eq_true] at h
 obtain⟨hgd,h⟩:=h
 cases guard with
 | some g=>cases hgd
 | none=>
  cases op with
  | makeSlice t l c=>
   have key:∀st:St,fH P Γ ops ⟨dst,.makeSlice t l c,type,pos,after,none⟩ st=gN Γ P st.bare dst t (ev st l) (ev st c) fun s d=>some (s.objs,d):=fun st=>rfl
   have hev:∀(q':List O) (x:Operand),ev { st with objs:=q' } x=ev st x:=fun q' x=>by cases x <;> rfl
   rw[key] at hp
   unfold gN at hp
   cases hB:uU Γ with
   | nil=>exact absurd hB hq
   | cons w B=>
    rw[hB] at hp
    dsimp only at hp
    split at hp
    case isFalse=>cases hp
    rename_i ho
    have how:∀st:St,D4 Γ st dst=true↔∃d,dst=some d∧st.objs[st.np+d]?=some .fresh:=fun st=>by
     unfold D4
     rw[EF hpl hn,Bool.false_or]
     cases dst with
     | none=>exact⟨fun h=>(by cases h),fun⟨d,h,_⟩=>(by cases h)⟩
     | some d=>
      dsimp only
      constructor
      ·intro hh
       split at hh
       ·exact⟨d,rfl,by assumption⟩
       ·cases hh
      ·rintro ⟨d',e,hh⟩
       cases e
       rw[hh]
    obtain⟨d,rfl,hf⟩:=(how _).1 ho
    have hf:st.objs[st.np+d]?=some .fresh:=hf
    obtain⟨x,f,_,hx,hinv⟩:=xQ hp
    have hnew:∀(st':St),st'.objs[st'.np+d]?=some .fresh→eH Γ P st' (some d) t (ev st l) (ev st c) (fun s d=>some (s.objs,d))=some (st'.objs.set (st'.np+d) x,f (st'.np+d)):=fun st' hf'=>by
     rw[hinv]
     unfold gC
     dsimp only
     rw[hf']
    rw[hnew st.bare hf] at hp
    cases hp
    refine⟨d,x,hx,hf,rfl,fun q' hq'=>?_⟩
    rw[key]
    unfold gN
    rw[hB]
    dsimp only
    rw[if_pos ((how _).2 ⟨d,rfl,hq'⟩),hev,hev]
    exact hnew (St.bare { st with objs:=q' }) hq'
  | _=>cases h
theorem Cf{B:List Nat}{o:List O}{K1 K2:Nat}{x1 x2:O}(hne:K1≠K2)(hf:o[K2]?=some .fresh)(h:OZ B (o.set K1 x1) ((o.set K1 x1).set K2 x2)=true):OZ B o (o.set K2 x2)=true:=by
 unfold OZ at h ⊢
 refine List.all_eq_true.2 fun k hk=>?_
 have h5:=List.all_eq_true.1 h k hk
 by_cases e:k=K2
 ·subst e
  have hlt:k<o.length:=(List.getElem?_eq_some_iff.1 hf).1
  rw[List.getElem?_set_ne hne,hf,List.getElem?_set_self (by simpa using hlt)] at h5
  rw[hf,List.getElem?_set_self hlt]
  exact h5
 ·rw[List.getElem?_set_ne (fun e'=>e e'.symm)]
  cases gM o[k]? <;> rfl
theorem Cg{B:List Nat}{o:List O}{K1 K2:Nat}{x1 x2:O}(hne:K1≠K2)(hf:o[K1]?=some .fresh)(h:OZ B o (o.set K1 x1)=true):OZ B (o.set K2 x2) ((o.set K2 x2).set K1 x1)=true:=by
 unfold OZ at h ⊢
 refine List.all_eq_true.2 fun k hk=>?_
 have h5:=List.all_eq_true.1 h k hk
 by_cases e:k=K1
 ·subst e
  have hlt:k<o.length:=(List.getElem?_eq_some_iff.1 hf).1
  rw[hf,List.getElem?_set_self hlt] at h5
  rw[List.getElem?_set_ne hne.symm,hf,List.getElem?_set_self (by simpa using hlt)]
  exact h5
 ·rw[List.getElem?_set_ne (i:=K1) (fun e'=>e e'.symm)]
  cases gM (o.set K2 x2)[k]? <;> rfl
theorem YS{oi oj:Oper}(h:No oi oj=true){st:St}{q1 q2:List O}{d1 d2:D}(e1:fH P Γ ops oi st=some (q1,d1))(e2:fH P Γ ops oj { st with objs:=q1 }=some (q2,d2)){G:Prop}
 (caseq:q1=st.objs→(∀q,q=q2→fH P Γ ops oi { st with objs:=q }=some (q2,d1))→G):G:=by
 obtain⟨dst,op,type,pos,after,guard⟩:=oi
 obtain⟨dst',op',type',pos',after',guard'⟩:=oj
 unfold No at h
 simp only[Bool.and_eq_true,Option.isNone_iff_eq_none] at h
 obtain⟨⟨rfl,rfl⟩,h⟩:=h
 split at h
 case h_2=>cases h
 rename_i t m k t' m' k'
 simp only[Bool.and_eq_true,beq_iff_eq] at h
 obtain⟨⟨rfl,hm⟩,hk⟩:=h
 have hmm:m=m':=by
  unfold GI at hm
  split at hm
  ·have:=beq_iff_eq.1 hm;rw[this]
  ·cases hm
 have hkk:k=k':=by
  unfold GI at hk
  split at hk
  ·have:=beq_iff_eq.1 hk;rw[this]
  ·cases hk
 subst hmm;subst hkk
 have x1:((mI P st.bare t (ev st m) (ev st k) false some).bind fun d=>some (st.bare.objs,d))=some (q1,d1):=e1
 obtain⟨d,g1,g2⟩:=Option.bind_eq_some_iff.1 x1
 simp only[Option.some.injEq,Prod.mk.injEq] at g2
 obtain⟨g2,rfl⟩:=g2
 have hq:q1=st.objs:=g2.symm
 subst hq
 refine caseq rfl fun q hq=>?_
 subst hq
 have x2:(lF P st.bare t (ev st m) (ev st k) fun s d=>some (s.objs,d))=some (q,d2):=e2
 have hnr:∀d0:D,(∃key,d0=.s (.c (.rk key)))→(lF P st.bare t d0 (ev st k) fun s d=>some (s.objs,d))=some (q,d2)→False:=fun d0 hd0 hx=>by
  obtain⟨key,rfl⟩:=hd0
  unfold lF at hx
  dsimp only at hx
  simp only[YN] at hx
  repeat' (first | split at hx | dsimp only at hx)
  all_goals (cases hx;done)
 have hgk:∀(b:St),mI P b t (ev st m) (ev st k) false some=oC P b t (ev st m) (ev st k) false some:=fun b=>by
  unfold mI
  split
  ·rename_i key hd0
   exact(hnr _ ⟨key,hd0⟩ x2).elim
  ·rfl
 rw[hgk] at g1
 have x3:=NR g1 x2
 have x4:((mI P { st.bare with objs:=q } t (ev st m) (ev st k) false some).bind fun d=>some (q,d))=some (q,d):=by
  rw[hgk,x3];rfl
 exact x4
def O.isB:O→Bool
 | .box _=>true
 | .fbox _=>true
 | _=>false
def BF(o o':List O):Prop:=∀(k:Nat) (x:O),x.isB=true→(o[k]?=some x↔o'[k]?=some x)
theorem BF.symm{o o':List O}(h:BF o o'):BF o' o:=fun k x hx=>(h k x hx).symm
theorem BF.trans{a b c:List O}(h:BF a b)(h':BF b c):BF a c:=fun k x hx=>(h k x hx).trans (h' k x hx)
theorem BF.set{o:List O}{K:Nat}{x y:O}(h:o[K]?=some y)(hy:y.isB=false)(hx:x.isB=false):BF o (o.set K x):=fun k z hz=>by
 by_cases hk:K=k
 ·subst hk
  rw[List.getElem?_set_self (List.getElem?_eq_some_iff.1 h).1,h]
  constructor
  ·intro e;cases e;rw[hy] at hz;cases hz
  ·intro e;cases e;rw[hx] at hz;cases hz
 ·rw[List.getElem?_set_ne hk]
theorem BF.freezeL:∀(ks:List Nat) (objs:List O),BF objs (freezeL objs ks)
 | [],objs=>fun _ _ _=>Iff.rfl
 | x::ks,objs=>by
  rw[Eng.freezeL_cons]
  split
  ·rename_i o ho
   refine BF.trans ?_ (BF.freezeL ks _)
   cases hb:o.isB with
   | false=>exact BF.set ho hb (by cases o <;> first | rfl | cases hb)
   | true=>
    have e:fI o=o:=by cases o <;> first | rfl | cases hb
    rw[e]
    have e2:objs.set x o=objs:=by
     apply List.ext_getElem?
     intro j
     by_cases hj:x=j
     ·subst hj;rw[List.getElem?_set_self (List.getElem?_eq_some_iff.1 ho).1,ho]
     ·rw[List.getElem?_set_ne hj]
    rw[e2]
    exact fun _ _ _=>Iff.rfl
  ·exact BF.freezeL ks objs
theorem BF.cells{o o':List O}(h:BF o o')(k:Nat):(o[k]?).bind O.cells?=(o'[k]?).bind O.cells?∧gM o[k]?=gM o'[k]?:=by
 have none_of:∀(a:Option O),(∀x,a=some x→x.isB=false)→a.bind O.cells?=none∧gM a=false:=fun a ha=>by
  cases a with
  | none=>exact⟨rfl,rfl⟩
  | some x=>
   have:=ha x rfl
   cases x <;> first | exact⟨rfl,rfl⟩ | cases this
 by_cases hx:∃x,o[k]?=some x∧x.isB=true
 ·obtain⟨x,h1,h2⟩:=hx
  rw[h1,(h k x h2).1 h1]
  exact⟨rfl,rfl⟩
 ·have h1:∀x,o[k]?=some x→x.isB=false:=fun x e=>by
   cases hb:x.isB with
   | false=>rfl
   | true=>exact(hx ⟨x,e,hb⟩).elim
  have h2:∀x,o'[k]?=some x→x.isB=false:=fun x e=>by
   cases hb:x.isB with
   | false=>rfl
   | true=>exact(hx ⟨x,(h k x hb).2 e,hb⟩).elim
  rw[(none_of _ h1).1,(none_of _ h2).1,(none_of _ h1).2,(none_of _ h2).2]
  exact⟨rfl,rfl⟩
theorem VJ{α:Type}{st:St}{dst:Option Nat}{o:O}{f:St→Nat→Option α}{r:α}(ho:o.isB=false)(h:gC st dst o f=some r):∃K,BF st.objs (st.objs.set K o)∧f { st with objs:=st.objs.set K o } K=some r:=by
 unfold gC at h
 split at h
 ·split at h
  ·rename_i d _ hf
   exact⟨_,BF.set hf rfl ho,h⟩
  ·split at h
   ·rename_i hf
    exact⟨_,BF.set hf rfl ho,h⟩
   ·split at h
    ·rename_i K hK
     have hm:K∈(List.range st.objs.length).filter fun i=>decide (st.np+st.env.length≤i)&&gP st.objs[i]?:=by
      unfold gQ at hK
      exact List.mem_of_mem_head? hK
     have h2:=(List.mem_filter.1 hm).2
     simp only[Bool.and_eq_true] at h2
     have h3:st.objs[K]?=some .fresh:=by
      have:=h2.2
      unfold gP at this
      split at this
      ·assumption
      ·cases this
     exact⟨_,BF.set h3 rfl ho,h⟩
    ·cases h
 ·cases h
theorem VK{cs:List C}{objs:List O}{q:List O×List C}(h:DX objs cs=some q):BF objs q.1:=by
 unfold DX at h
 obtain⟨l,_,h⟩:=Option.map_eq_some_iff.1 h
 subst h
 exact BF.freezeL _ _
theorem IJ{P:Program}{b:St}{dst:Option Nat}{t:TypeId}{n:Nat}{parts:List (Nat×D)}{p:List O×D}(h:(fC P b dst t n parts fun s d=>some (s.objs,d))=some p):BF b.objs p.1:=by
 unfold fC at h
 split at h
 ·split at h
  case h_2=>cases h
  split at h
  case h_2=>cases h
  split at h
  case isFalse=>cases h
  obtain⟨K,h1,h2⟩:=VJ rfl h
  cases h2
  exact h1
 ·unfold gU at h
  split at h
  case h_2=>cases h
  split at h
  case h_2=>cases h
  split at h
  case h_2=>cases h
  split at h
  case h_2=>cases h
  split at h
  case isFalse=>cases h
  split at h
  case h_2=>cases h
  split at h
  case h_2=>cases h
  rename_i q hq
  split at h
  case h_2=>cases h
  have h:=h
  rw[show ∀(ts:List TypeId) (cs:List C) (f:List T→Option (List O×D)),f7 P ts cs f=(f7 P ts cs some).bind f from fun ts cs f=>gV ts cs some f] at h
  obtain⟨ts,_,h⟩:=Option.bind_eq_some_iff.1 h
  obtain⟨K,h1,h2⟩:=VJ rfl h
  cases h2
  exact(VK hq).trans h1
theorem IK{P:Program}{b:St}{t:TypeId}{m key v:D}{q:List O}(h:(mJ P b t m key v fun s=>some s.objs)=some q):BF b.objs q:=by
 unfold mJ at h
 split at h
 ·unfold CC at h
  split at h
  case h_2=>cases h
  split at h
  case h_2=>cases h
  split at h
  case h_2=>cases h
  split at h
  case h_3=>cases h
  case h_1=>
   split at h
   case h_2=>cases h
   rename_i hob
   split at h
   case isFalse=>cases h
   obtain⟨t,v,_,h,_⟩:=xP h
   obtain⟨_,_,h⟩:=aB h
   obtain⟨_,_,h⟩:=aB h
   obtain⟨_,_,h⟩:=aB h
   cases h
   exact BF.set hob rfl rfl
  case h_2=>
   split at h
   case h_2=>cases h
   rename_i hob
   split at h
   case h_2=>cases h
   rename_i hoq
   split at h
   case h_2=>cases h
   rename_i FF hF
   split at h
   case isFalse=>cases h
   obtain⟨t,v,_,h,_⟩:=xP h
   obtain⟨_,_,h⟩:=aB h
   cases h
   obtain⟨_,hf⟩:=rE hF
   refine(BF.set hf rfl rfl).trans (BF.trans (BF.set (y:=_) (by rw[List.getElem?_set_ne (fun e=>by rw[e,hob] at hf;cases hf)];exact hob) rfl rfl) (BF.set (y:=_) (by
    rw[List.getElem?_set_ne (fun e=>by rw[e,hoq] at hob;cases hob),List.getElem?_set_ne (fun e=>by rw[e,hoq] at hf;cases hf)];exact hoq) rfl rfl))
 ·unfold uT at h
  split at h
  case h_2=>cases h
  split at h
  case h_2=>cases h
  obtain⟨t,v,_,h,_⟩:=xP h
  split at h
  case h_2=>cases h
  split at h
  case h_2=>cases h
  rename_i hfz
  split at h
  case h_2=>cases h
  rename_i hob
  split at h
  case isFalse=>cases h
  obtain⟨ts,h⟩:=qL h
  split at h
  case h_2=>cases h
  cases h
  exact(VK hfz).trans (BF.set hob rfl rfl)
theorem VL(hpl:kN Γ pl){o:Oper}(h:VE pl o=true){st:St}{q:List O}{d:D}(hp:fH P Γ ops o st=some (q,d)):BF st.objs q:=by
 obtain⟨dst,op,type,pos,after,guard⟩:=o
 unfold VE at h
 unfold fH at hp
 cases hg:gd ops (⟨dst,op,type,pos,after,guard⟩:Oper) st with
 | none=>rw[hg] at hp;cases hp
 | some w=>
  rw[hg] at hp
  cases w with
  | false=>cases hp;exact fun _ _ _=>Iff.rfl
  | true=>
   have hp:BI P Γ ⟨dst,op,type,pos,after,guard⟩ st.bare (ev st)=some (q,d):=hp
   unfold BI at hp
   cases op with
   | store t x v=>
    dsimp only at hp h
    split at hp
    case isFalse=>cases hp
    rename_i hgs
    rw[Bool.and_eq_true] at hgs
    have hge:=hgs.2
    unfold U1 at hge
    rw[Bool.and_eq_true,Bool.and_eq_true] at hge
    replace hge:=hge.1.1
    rw[Bool.and_eq_true] at h
    rw[hpl.2.2.2.2.2.2.2.2 t (of_decide_eq_true h.1) h.2] at hge
    have hge:SH (ev st x)=true:=hge
    obtain⟨q',h1,h2⟩:=Option.bind_eq_some_iff.1 hp
    cases h2
    unfold o6 at h1
    split at h1
    case h_2=>cases h1
    split at h1
    case isFalse=>cases h1
    unfold SH at hge
    split at hge
    case h_2=>cases hge
    rename_i kk mm ii jj he
    rw[he] at h1
    unfold k8 at h1
    dsimp only at h1
    split at h1
    case h_2=>cases h1
    rename_i q2 hfz
    split at h1
    case h_2=>cases h1
    rename_i e m' es hob
    obtain⟨ts,h1⟩:=qL h1
    split at h1
    case isFalse=>cases h1
    obtain⟨x,_,h1⟩:=aB h1
    cases h1
    have hfz':BF st.objs q2.1:=by
     unfold DX at hfz
     obtain⟨l,_,hfz⟩:=Option.map_eq_some_iff.1 hfz
     subst hfz
     exact BF.freezeL _ _
    exact hfz'.trans (BF.set hob rfl rfl)
   | buildSlice t n parts=>
    dsimp only at hp
    unfold Gy at hp
    split at hp
    ·rw[lX] at hp
     obtain⟨d,_,h2⟩:=Option.bind_eq_some_iff.1 hp
     cases h2
     exact fun k x _=>Iff.rfl
    split at hp
    case isFalse=>cases hp
    exact IJ hp
   | mapUpdate t m q v=>
    dsimp only at hp
    obtain⟨q',h1,h2⟩:=Option.bind_eq_some_iff.1 hp
    cases h2
    exact IK (b:=st.bare) h1
   | insert t m q v=>
    dsimp only at hp
    obtain⟨q',h1,h2⟩:=Option.bind_eq_some_iff.1 hp
    cases h2
    exact IK (b:=st.bare) h1
   | _=>cases h
theorem VM(hN:∀f A,Γ f=some A→A.Nat)(hpl:kN Γ pl){o:Oper}(h:LP pl o=true){st:St}{p:List O×D}(hp:fH P Γ ops o st=some p):p.1=st.objs:=by
 refine mR hN hpl (pl:=pl) ?_ hp
 obtain⟨dst,op,type,pos,after,guard⟩:=o
 unfold LP at h
 cases op <;> first | rfl | (cases h;done)
theorem AM(hpl:kN Γ pl){o:Oper}(h:LP pl o=true){st:St}{q:List O}(hb:BF st.objs q){d:D}(hp:fH P Γ ops o st=some (st.objs,d)):fH P Γ ops o { st with objs:=q }=some (q,d):=by
 obtain⟨dst,op,type,pos,after,guard⟩:=o
 unfold LP at h
 unfold fH at hp ⊢
 have h1:gd ops (⟨dst,op,type,pos,after,guard⟩:Oper) { st with objs:=q }=gd ops (⟨dst,op,type,pos,after,guard⟩:Oper) st:=rfl
 rw[h1]
 cases hg:gd ops (⟨dst,op,type,pos,after,guard⟩:Oper) st with
 | none=>rw[hg] at hp;cases hp
 | some w=>
  rw[hg] at hp
  cases w with
  | false=>
   simp only[Option.bind_some,cond_false,Option.some.injEq,Prod.mk.injEq] at hp ⊢
   exact⟨trivial,hp.2⟩
  | true=>
   cases op with
   | load t x=>
    cases dst with
    | none=>cases h
    | some sl=>
     dsimp only at h
     have hp:(if vW Γ (some sl) (ev st x)=true then ((kX Γ P st.bare (some sl) t (ev st x) some).bind fun d=>some (st.bare.objs,d)) else none)=some (st.objs,d):=hp
     split at hp
     case isFalse=>cases hp
     rename_i hgl
     obtain⟨d',h3,h2⟩:=Option.bind_eq_some_iff.1 hp
     cases h2
     show (if vW Γ (some sl) (ev st x)=true then ((kX Γ P { st.bare with objs:=q } (some sl) t (ev st x) some).bind fun d=>some (q,d)) else none)=some (q,d)
     rw[if_pos hgl]
     have hbx:M9 (ev st x)=true:=by
      have:=hgl
      unfold vW at this
      dsimp only at this
      rw[Bool.and_eq_true] at this
      replace this:=this.1
      rw[hpl.2.2.2.2.2.2.2.1 sl h] at this
      exact this
     unfold M9 at hbx
     split at hbx
     case h_2=>cases hbx
     rename_i kk jj he
     rw[he] at h3 ⊢
     obtain⟨c1,c2⟩:=hb.cells kk
     have hlk:∀(f:D→Option D),mD P { st.bare with objs:=q } t (.s (.c (.box kk jj))) f=mD P st.bare t (.s (.c (.box kk jj))) f:=fun f=>by
      unfold mD k8
      have c1':(({ st.bare with objs:=q }:St).objs[kk]?).bind O.cells?=(st.bare.objs[kk]?).bind O.cells?:=c1.symm
      simp only[c1']
     have hbd:nV { st.bare with objs:=q } (.s (.c (.box kk jj)))=nV st.bare (.s (.c (.box kk jj))):=c2.symm
     have key:kX Γ P { st.bare with objs:=q } (some sl) t (.s (.c (.box kk jj))) some=some d:=by
      unfold kX at h3 ⊢
      rw[hbd]
      simp only[hlk]
      exact h3
     rw[key]
     rfl
   | _=>cases h
def RF(o o':List O):Prop:=∀(k:Nat) (x:O),x.isB=false→(o[k]?=some x↔o'[k]?=some x)
theorem RF.symm{o o':List O}(h:RF o o'):RF o' o:=fun k x hx=>(h k x hx).symm
theorem RF.set{o:List O}{K:Nat}{x y:O}(h:o[K]?=some y)(hy:y.isB=true)(hx:x.isB=true):RF o (o.set K x):=fun k z hz=>by
 by_cases hk:K=k
 ·subst hk
  rw[List.getElem?_set_self (List.getElem?_eq_some_iff.1 h).1,h]
  constructor
  ·intro e;cases e;rw[hy] at hz;cases hz
  ·intro e;cases e;rw[hx] at hz;cases hz
 ·rw[List.getElem?_set_ne hk]
def O.ln:O→Option (Nat×Nat)
 | .row _ _ _ l=>some (0,l.length)
 | .mp _ _ _ l=>some (1,l.length)
 | .rr _ e _ _ l=>some (e+2,l.length)
 | _=>none
def LnF(o o':List O):Prop:=∀k:Nat,(∀x:O,x.isB=false→x.ln=none→(o[k]?=some x↔o'[k]?=some x))∧(o[k]?).bind O.ln=(o'[k]?).bind O.ln
theorem LnF.symm{o o':List O}(h:LnF o o'):LnF o' o:=fun k=>⟨fun x a b=>((h k).1 x a b).symm,(h k).2.symm⟩
theorem LnF.trans{a b c:List O}(h:LnF a b)(h':LnF b c):LnF a c:=fun k=>⟨fun x p q=>((h k).1 x p q).trans ((h' k).1 x p q),(h k).2.trans (h' k).2⟩
theorem RF.ln{o o':List O}(h:RF o o'):LnF o o':=fun k=>by
 refine⟨fun x hb _=>h k x hb,?_⟩
 have aux:∀{a b:List O},RF a b→∀x,a[k]?=some x→x.isB=true→(b[k]?).bind O.ln=none:=fun {a b} hab x hx hb=>by
  cases hy:b[k]? with
  | none=>rfl
  | some y=>
   cases hyb:y.isB with
   | true=>cases y <;> first | rfl | cases hyb
   | false=>
    rw[(hab k y hyb).2 hy] at hx
    cases hx
    rw[hyb] at hb;cases hb
 cases hx:o[k]? with
 | none=>
  cases hy:o'[k]? with
  | none=>rfl
  | some y=>
   cases hyb:y.isB with
   | true=>cases y <;> first | rfl | cases hyb
   | false=>rw[(h k y hyb).2 hy] at hx;cases hx
 | some x=>
  cases hb:x.isB with
  | true=>
   rw[aux h x hx hb]
   cases x <;> first | rfl | cases hb
  | false=>rw[(h k x hb).1 hx]
theorem LnF.set{o:List O}{K:Nat}{x y:O}(h:o[K]?=some y)(hy:y.ln≠none)(hx:x.ln=y.ln):LnF o (o.set K x):=fun k=>by
 have hlt:=(List.getElem?_eq_some_iff.1 h).1
 by_cases hk:K=k
 ·subst hk
  rw[List.getElem?_set_self hlt,h]
  refine⟨fun z _ hz=>⟨fun e=>?_,fun e=>?_⟩,?_⟩
  ·cases e;exact(hy hz).elim
  ·cases e;rw[hx] at hz;exact(hy hz).elim
  ·simp only[Option.bind_some];exact hx.symm
 ·rw[List.getElem?_set_ne hk]
  exact⟨fun _ _ _=>Iff.rfl,rfl⟩
theorem LnF.freezeL:∀(ks:List Nat) (objs:List O),LnF objs (freezeL objs ks)
 | [],objs=>fun _=>⟨fun _ _ _=>Iff.rfl,rfl⟩
 | x::ks,objs=>by
  rw[Eng.freezeL_cons]
  split
  ·rename_i o ho
   refine LnF.trans ?_ (LnF.freezeL ks _)
   cases o with
   | row fz e n l=>exact LnF.set ho (by simp[O.ln]) rfl
   | mp fz e n l=>exact LnF.set ho (by simp[O.ln]) rfl
   | _=>
    have key:∀o:O,objs[x]?=some o→LnF objs (objs.set x o):=fun o ho k=>by
     by_cases hk:x=k
     ·subst hk
      rw[List.getElem?_set_self (List.getElem?_eq_some_iff.1 ho).1,ho]
      exact⟨fun _ _ _=>Iff.rfl,rfl⟩
     ·rw[List.getElem?_set_ne hk]
      exact⟨fun _ _ _=>Iff.rfl,rfl⟩
    exact key _ ho
  ·exact LnF.freezeL ks _
theorem LnF.rr{o o':List O}(hg:LnF o o'){k:Nat}{hole:Option Nat}{e e2:TypeId}{n:Nat}{l:List (List T)}(h:o[k]?=some (.rr hole e e2 n l)):∃hole' e2' n' l',o'[k]?=some (.rr hole' e e2' n' l')∧l'.length=l.length:=by
 have hl:=(hg k).2
 rw[h] at hl
 simp only[Option.bind_some,O.ln] at hl
 obtain⟨y,hy,hyl⟩:=Option.bind_eq_some_iff.1 hl.symm
 cases y with
 | rr hole' e' e2' n' l'=>
  simp only[O.ln,Option.some.injEq,Prod.mk.injEq] at hyl
  obtain⟨h1,h2⟩:=hyl
  have:e'=e:=Nat.add_right_cancel h1
  subst this
  exact⟨_,_,_,_,hy,h2⟩
 | row fz e' n' l'=>simp only[O.ln,Option.some.injEq,Prod.mk.injEq] at hyl;exact(Nat.succ_ne_zero _ hyl.1.symm).elim
 | mp fz e' n' l'=>simp only[O.ln,Option.some.injEq,Prod.mk.injEq] at hyl;exact(Nat.succ_ne_zero _ (Nat.succ.inj hyl.1).symm).elim
 | _=>simp[O.ln] at hyl
theorem VN{o o':List O}(hg:LnF o o'):∀{f k K:Nat},o5 o f k=some K→o5 o' f k=some K
 | 0,_,_,h=>by simp[o5] at h
 | f+1,k,K,h=>by
  simp only[o5] at h ⊢
  split at h
  ·rename_i ho;obtain⟨_,_,_,_,q,_⟩:=hg.rr ho;rw[q];exact h
  ·rename_i ho;rw[((hg k).1 _ rfl rfl).1 ho];exact VN hg h
  ·cases h
theorem Hu{R:Type}{st:St}{q:List O}{t:TypeId}{x:D}{k:D→Option R}{r:R}(hg:LnF st.objs q)(h:qX P st t x k=some r):qX P { st with objs:=q } t x k=some r:=by
 have get:∀(key:Nat) (o:O),st.objs[key]?=some o→o.isB=false→o.ln=none→q[key]?=some o:=fun key o ho hb hl=>((hg key).1 o hb hl).1 ho
 unfold qX at h ⊢
 cases hu:P.underlying t with
 | none=>rw[hu] at h;cases h
 | some u=>
  rw[hu] at h
  cases u with
  | slice e=>
   dsimp only at h ⊢
   unfold k8 at h ⊢
   cases x with
   | tup l=>cases h
   | s s=>cases s with
    | agg l=>cases h
    | c c=>
     dsimp only at h ⊢
     cases c with
     | row key=>
      dsimp only at h ⊢
      have hl:=(hg key).2
      cases ho:st.objs[key]? with
      | none=>rw[ho] at h;cases h
      | some o=>
       rw[ho] at h hl
       cases o with
       | row fz e n l=>
        simp only[Option.bind_some,O.ln] at hl
        obtain⟨y,hy,hyl⟩:=Option.bind_eq_some_iff.1 hl.symm
        rw[hy]
        cases y with
        | row fz' e' n' l'=>
         simp only[O.ln,Option.some.injEq,Prod.mk.injEq,true_and] at hyl
         have e1:lenL l'=lenL l:=by unfold lenL;rw[hyl]
         show k (dI .i64 (lenL l'))=some r
         rw[e1]
         exact h
        | rr hole' e' e2' n' l'=>simp only[O.ln,Option.some.injEq,Prod.mk.injEq] at hyl;exact(Nat.succ_ne_zero _ hyl.1).elim
        | mp fz' e' n' l'=>simp[O.ln] at hyl
        | _=>simp[O.ln] at hyl
       | _=>cases h
     | rk key=>
      dsimp only at h ⊢
      cases hr:o5 st.objs 64 key with
      | none=>rw[hr] at h;cases h
      | some K=>
       rw[hr] at h
       rw[VN hg hr]
       dsimp only at h ⊢
       cases ho:st.objs[K]? with
       | none=>rw[ho] at h;cases h
       | some o=>
        rw[ho] at h
        cases o with
        | rr hole e1 e2 n l=>
         obtain⟨_,_,_,l',q,ql⟩:=hg.rr ho
         rw[q]
         have e1:lenL l'=lenL l:=by unfold lenL;rw[ql]
         dsimp only at h ⊢
         rw[e1]
         exact h
        | _=>cases h
     | _=>exact h
  | map kt e=>
   dsimp only at h ⊢
   unfold k8 at h ⊢
   cases x with
   | tup l=>cases h
   | s s=>cases s with
    | agg l=>cases h
    | c c=>
     dsimp only at h ⊢
     cases c with
     | t y=>
      cases y <;> first | exact h | cases h
     | row key=>
      dsimp only at h ⊢
      have hl:=(hg key).2
      cases ho:st.objs[key]? with
      | none=>rw[ho] at h;cases h
      | some o=>
       rw[ho] at h hl
       cases o with
       | mp fz e n l=>
        simp only[Option.bind_some,O.ln] at hl
        obtain⟨y,hy,hyl⟩:=Option.bind_eq_some_iff.1 hl.symm
        rw[hy]
        cases y with
        | mp fz' e' n' l'=>
         simp only[O.ln,Option.some.injEq,Prod.mk.injEq,true_and] at hyl
         have e1:lenL l'=lenL l:=by unfold lenL;rw[hyl]
         show k (dI .i64 (lenL l'))=some r
         rw[e1]
         exact h
        | rr hole' e' e2' n' l'=>simp only[O.ln,Option.some.injEq,Prod.mk.injEq] at hyl;exact(Nat.succ_ne_zero _ (Nat.succ.inj hyl.1)).elim
        | row fz' e' n' l'=>simp[O.ln] at hyl
        | _=>simp[O.ln] at hyl
       | _=>cases h
     | _=>exact h
  | _=>exact h
theorem YT{P:Program}{b:St}{t:TypeId}{x v:D}{q:List O}(h:(o6 P b t x v fun s=>some s.objs)=some q):LnF b.objs q:=by
 unfold o6 at h
 split at h
 case h_2=>cases h
 split at h
 case isFalse=>cases h
 unfold k8 at h
 split at h
 case h_2=>cases h
 rename_i c
 cases c
 all_goals dsimp only at h
 all_goals try (cases h;done)
 ·split at h
  case h_2=>cases h
  rename_i hob
  split at h
  case isFalse=>cases h
  cases h
  exact(RF.set hob rfl rfl).ln
 ·split at h
  case h_2=>cases h
  rename_i q2 hfz
  split at h
  case h_2=>cases h
  rename_i e m' es hob
  obtain⟨ts,h⟩:=qL h
  split at h
  case isFalse=>cases h
  obtain⟨x,_,h⟩:=aB h
  cases h
  have hfz':LnF b.objs q2.1:=by
   unfold DX at hfz
   obtain⟨l,_,hfz⟩:=Option.map_eq_some_iff.1 hfz
   subst hfz
   exact LnF.freezeL _ _
  exact hfz'.trans (LnF.set hob (by simp[O.ln]) (by simp[O.ln]))
 ·split at h
  case h_2=>cases h
  split at h
  case h_2=>cases h
  rename_i hob
  split at h
  case isFalse=>cases h
  obtain⟨_,_,h⟩:=aB h
  obtain⟨_,_,h⟩:=aB h
  obtain⟨_,_,h⟩:=aB h
  cases h
  exact LnF.set hob (by simp[O.ln]) (by simp[O.ln])
theorem VO{o:Oper}(h:VG pl o=true){st:St}{q:List O}{d:D}(hp:fH P Γ ops o st=some (q,d)):LnF st.objs q:=by
 obtain⟨dst,op,type,pos,after,guard⟩:=o
 unfold VG at h
 unfold fH at hp
 cases hg:gd ops (⟨dst,op,type,pos,after,guard⟩:Oper) st with
 | none=>rw[hg] at hp;cases hp
 | some w=>
  rw[hg] at hp
  cases w with
  | false=>cases hp;exact fun _=>⟨fun _ _ _=>Iff.rfl,rfl⟩
  | true=>
   have hp:BI P Γ ⟨dst,op,type,pos,after,guard⟩ st.bare (ev st)=some (q,d):=hp
   unfold BI at hp
   cases op with
   | store t x v=>
    dsimp only at hp h
    split at hp
    case isFalse=>cases hp
    obtain⟨q',h1,h2⟩:=Option.bind_eq_some_iff.1 hp
    cases h2
    exact YT (b:=st.bare) h1
   | _=>cases h
def AS(Γ:FuncId→Option Callee)(o o':List O):Prop:=∀k,(eU Γ).contains (5000000+k)=true→o[k]?=o'[k]?
theorem AS.symm{o o':List O}(h:AS Γ o o'):AS Γ o' o:=fun k hk=>(h k hk).symm
theorem VP(hpl:kN Γ pl){o:Oper}(h:VF pl o=true){st:St}{q:List O}{d:D}(hp:fH P Γ ops o st=some (q,d)):AS Γ st.objs q:=by
 obtain⟨dst,op,type,pos,after,guard⟩:=o
 unfold VF at h
 unfold fH at hp
 cases hg:gd ops (⟨dst,op,type,pos,after,guard⟩:Oper) st with
 | none=>rw[hg] at hp;cases hp
 | some w=>
  rw[hg] at hp
  cases w with
  | false=>cases hp;exact fun _ _=>rfl
  | true=>
   have hp:BI P Γ ⟨dst,op,type,pos,after,guard⟩ st.bare (ev st)=some (q,d):=hp
   unfold BI at hp
   cases op with
   | store t x v=>
    dsimp only at hp h
    split at hp
    case isFalse=>cases hp
    rename_i hgs
    rw[Bool.and_eq_true] at hgs
    have hge:=hgs.2
    unfold U1 at hge
    rw[Bool.and_eq_true,Bool.and_eq_true] at hge
    replace hge:=hge.2
    rw[Bool.and_eq_true] at h
    have ht:=of_decide_eq_true h.1
    have aux9:∀n:Nat,82000000+(2000000+n)=84000000+n:=fun n=>by omega
    have aux7:∀n:Nat,n<1000000→2000000+n<8000000:=fun n hn=>by omega
    rw[hpl.2.2.2.2.2.2.2.2 (2000000+t) (aux7 t ht) (by rw[show 82000000+(2000000+t)=84000000+t from aux9 t];exact h.2)] at hge
    have hge:SI Γ (ev st x)=true:=hge
    obtain⟨q',h1,h2⟩:=Option.bind_eq_some_iff.1 hp
    cases h2
    unfold o6 at h1
    split at h1
    case h_2=>cases h1
    split at h1
    case isFalse=>cases h1
    unfold SI at hge
    split at hge
    case h_2=>cases hge
    rename_i kk jj he
    rw[he] at h1
    unfold k8 at h1
    dsimp only at h1
    split at h1
    case h_2=>cases h1
    rename_i l hob
    split at h1
    case isFalse=>cases h1
    cases h1
    exact fun k hk=>by
     by_cases e:kk=k
     ·subst e;rw[hk] at hge;cases hge
     ·exact(List.getElem?_set_ne e).symm
   | _=>cases h
theorem VQ(hN:∀f A,Γ f=some A→A.Nat)(hpl:kN Γ pl){o:Oper}(h:LQ pl o=true){st:St}{p:List O×D}(hp:fH P Γ ops o st=some p):p.1=st.objs:=by
 refine mR hN hpl (pl:=pl) ?_ hp
 obtain⟨dst,op,type,pos,after,guard⟩:=o
 unfold LQ at h
 cases op <;> first | rfl | (cases h;done)
theorem AN(hpl:kN Γ pl){o:Oper}(h:LQ pl o=true){st:St}{q:List O}(hb:AS Γ st.objs q){d:D}(hp:fH P Γ ops o st=some (st.objs,d)):fH P Γ ops o { st with objs:=q }=some (q,d):=by
 obtain⟨dst,op,type,pos,after,guard⟩:=o
 unfold LQ at h
 unfold fH at hp ⊢
 have h1:gd ops (⟨dst,op,type,pos,after,guard⟩:Oper) { st with objs:=q }=gd ops (⟨dst,op,type,pos,after,guard⟩:Oper) st:=rfl
 rw[h1]
 cases hg:gd ops (⟨dst,op,type,pos,after,guard⟩:Oper) st with
 | none=>rw[hg] at hp;cases hp
 | some w=>
  rw[hg] at hp
  cases w with
  | false=>
   simp only[Option.bind_some,cond_false,Option.some.injEq,Prod.mk.injEq] at hp ⊢
   exact⟨trivial,hp.2⟩
  | true=>
   cases op with
   | load t x=>
    cases dst with
    | none=>cases h
    | some sl=>
     dsimp only at h
     have hp:(if vW Γ (some sl) (ev st x)=true then ((kX Γ P st.bare (some sl) t (ev st x) some).bind fun d=>some (st.bare.objs,d)) else none)=some (st.objs,d):=hp
     split at hp
     case isFalse=>cases hp
     rename_i hgl
     obtain⟨d',h3,h2⟩:=Option.bind_eq_some_iff.1 hp
     cases h2
     show (if vW Γ (some sl) (ev st x)=true then ((kX Γ P { st.bare with objs:=q } (some sl) t (ev st x) some).bind fun d=>some (q,d)) else none)=some (q,d)
     rw[if_pos hgl]
     have hbx:Bc Γ (ev st x)=true:=by
      have:=hgl
      unfold vW at this
      dsimp only at this
      rw[Bool.and_eq_true] at this
      replace this:=this.2
      have aux:∀n:Nat,90000000+(1000000+n)=91000000+n:=fun n=>by omega
      rw[hpl.2.2.2.2.2.2.2.1 (1000000+sl) (by rw[aux];exact h)] at this
      exact this
     unfold Bc at hbx
     split at hbx
     case h_2=>cases hbx
     rename_i kk jj he
     rw[he] at h3 ⊢
     have ck:=hb kk hbx
     have c1:(st.objs[kk]?).bind O.cells?=(q[kk]?).bind O.cells?:=by rw[ck]
     have c2:gM st.objs[kk]?=gM q[kk]?:=by rw[ck]
     have hlk:∀(f:D→Option D),mD P { st.bare with objs:=q } t (.s (.c (.box kk jj))) f=mD P st.bare t (.s (.c (.box kk jj))) f:=fun f=>by
      unfold mD k8
      have c1':(({ st.bare with objs:=q }:St).objs[kk]?).bind O.cells?=(st.bare.objs[kk]?).bind O.cells?:=c1.symm
      simp only[c1']
     have hbd:nV { st.bare with objs:=q } (.s (.c (.box kk jj)))=nV st.bare (.s (.c (.box kk jj))):=c2.symm
     have key:kX Γ P { st.bare with objs:=q } (some sl) t (.s (.c (.box kk jj))) some=some d:=by
      unfold kX at h3 ⊢
      rw[hbd]
      simp only[hlk]
      exact h3
     rw[key]
     rfl
   | _=>cases h
theorem NT(hN:∀f A,Γ f=some A→A.Nat)(hpl:kN Γ pl){o:Oper}(h:FO o=true){st:St}{p:List O×D}(hp:fH P Γ ops o st=some p):p.1=st.objs:=by
 refine mR hN hpl (pl:=pl) ?_ hp
 obtain⟨dst,op,type,pos,after,guard⟩:=o
 unfold FO at h
 cases op with
 | call c=>
  obtain⟨callee,args,ats⟩:=c
  cases callee with
  | builtin bi=>cases bi <;> first | rfl | (cases h;done)
  | _=>cases h
 | _=>cases h
theorem AO{o:Oper}(h:FO o=true){st:St}{q:List O}(hb:LnF st.objs q){d:D}(hp:fH P Γ ops o st=some (st.objs,d)):fH P Γ ops o { st with objs:=q }=some (q,d):=by
 obtain⟨dst,op,type,pos,after,guard⟩:=o
 unfold FO at h
 unfold fH at hp ⊢
 have h1:gd ops (⟨dst,op,type,pos,after,guard⟩:Oper) { st with objs:=q }=gd ops (⟨dst,op,type,pos,after,guard⟩:Oper) st:=rfl
 rw[h1]
 cases hg:gd ops (⟨dst,op,type,pos,after,guard⟩:Oper) st with
 | none=>rw[hg] at hp;cases hp
 | some w=>
  rw[hg] at hp
  cases w with
  | false=>
   simp only[Option.bind_some,cond_false,Option.some.injEq,Prod.mk.injEq] at hp ⊢
   exact⟨trivial,hp.2⟩
  | true=>
   cases op with
   | call c=>
    obtain⟨callee,args,ats⟩:=c
    cases callee with
    | builtin bi=>
     cases bi with
     | len=>
      have hev:∀x,ev { st with objs:=q } x=ev st x:=fun x=>by cases x <;> rfl
      have hp:(if oK Γ st dst .len (args.toList.map (ev st))=true then cO P st.bare dst type .len (args.toList.map (ev st)) ats.toList else none)=some (st.objs,d):=hp
      show (if oK Γ st dst .len (args.toList.map (ev { st with objs:=q }))=true then cO P { st.bare with objs:=q } dst type .len (args.toList.map (ev { st with objs:=q })) ats.toList else none)=some (q,d)
      have hm:args.toList.map (ev { st with objs:=q })=args.toList.map (ev st):=List.map_congr_left fun x _=>hev x
      rw[hm]
      split at hp
      case isFalse=>cases hp
      rename_i hgb
      rw[if_pos hgb]
      unfold cO at hp ⊢
      split at hp
      ·obtain⟨d',h3,h2⟩:=Option.bind_eq_some_iff.1 hp
       cases h2
       have:=Hu (st:=st.bare) hb h3
       show ((qX P { st.bare with objs:=q } _ _ some).bind fun d=>some (q,d))=_
       rw[this]
       rfl
      all_goals first
       | (cases ‹Builtin.len=_›;done)
       | (cases hp;done)
     | _=>cases h
    | _=>cases h
   | _=>cases h
theorem CP(hpl:kN Γ pl){f:Operand}{st:St}(h:(match f with | .func f'=>pl.contains (f'+4000000) | _=>pl.contains 9000002)=true):∀g A,Γ g=some A→EE (ev st f) g→A.Framed∨A.Never:=fun g A hA hr=>by
 by_cases hflag:(g==2000000)=true
 ·have:g=2000000:=by simpa using hflag
  subst this
  exact .inr (hpl.2.2.2.2.2.2.1 A hA)
 ·have hflag:(g==2000000)=false:=by simpa using hflag
  left
  cases f with
  | func f'=>
   have:g=f':=by
    rcases hr with⟨v,h1,h2⟩ | ⟨caps,h1⟩
    ·simp only[ev] at h1
     cases h1
     have hpf:kH (Value.func (.func f') #[] #[])=some f':=rfl
     rw[hpf] at h2
     cases h2;rfl
    ·simp only[ev] at h1
     cases h1
   subst this
   exact hpl.2.2.1 g A h hA
  | _=>exact hpl.2.2.2.2.2.1 h g A hflag hA
theorem LX{b:St}{dst:Option Nat}{f:D}{args:List D}{p:List O×D}(h:xN Γ b dst f args=some p):(AG Γ b.objs dst (f::args)=true∧lU Γ b dst (f::args)=true)∧(eW Γ b dst f args fun s d=>some (s.objs,d))=some p:=by
 unfold xN at h
 split at h
 case isFalse=>cases h
 rename_i hg
 refine⟨Bool.and_eq_true_iff.1 hg,?_⟩
 unfold BH at h
 split at h
 ·exact h
 ·split at h
  ·exact h
  ·split at h
   case isFalse=>cases h
   obtain⟨p',h1,h2⟩:=Option.bind_eq_some_iff.1 h
   split at h2
   case isFalse=>cases h2
   cases h2
   exact h1
theorem IL{objs:List O}{K:Nat}{x:O}{ds:List D}(h:iT objs K ds=true)(k:Nat):iT (objs.set K x) k ds=iT objs k ds:=by
 have hall:∀{α:Type} (l:List α) (f g:α→Bool),(∀a∈l,f a=g a)→l.all f=l.all g:=by
  intro α l f g
  induction l with
  | nil=>intro _;rfl
  | cons a l ih=>intro h;rw[List.all_cons,List.all_cons,h a (by simp),ih fun b hb=>h b (by simp[hb])]
 unfold iT at h ⊢
 refine hall _ _ _ fun d hd=>hall _ _ _ fun c hc=>?_
 have h1:=List.all_eq_true.1 (List.all_eq_true.1 h d hd) c hc
 rw[Bool.and_eq_true] at h1
 congr 1
 refine hall _ _ _ fun k' hk'=>?_
 have h2:=List.all_eq_true.1 h1.2 k' hk'
 rw[Bool.and_eq_true] at h2
 have hne:K≠k':=fun e=>by subst e;have:=h2.1;simp at this
 rw[List.getElem?_set_ne hne]
theorem LY{s:Nat}{st:St}{ds:List D}(h:lU Γ st (some s) ds=true)(hg:(eU Γ).contains (2500000+s)=true):
 (bF Γ).contains (10000000+s)=true∧(bF Γ).contains s=true∧(eU Γ).contains (2000000+s)=false∧∀k∈Qk Γ,iT st.objs k ds=true∧k<st.np+st.env.length∧k≠st.np+s∧k<st.objs.length:=by
 unfold lU at h
 dsimp only at h
 rw[hg] at h
 simp only[Bool.not_true,Bool.false_or,Bool.and_eq_true,Bool.not_eq_true'] at h
 obtain⟨h1,⟨h2,h3⟩,h4⟩:=h
 refine⟨h1,h2,h3,fun k hk=>?_⟩
 have:=List.all_eq_true.1 h4 k hk
 simp only[Bool.and_eq_true,decide_eq_true_eq,bne_iff_ne,ne_eq] at this
 exact⟨this.1,this.2.1,this.2.2.1,this.2.2.2⟩
theorem S8{st:St}{dst:Option Nat}{o:O}{f:Nat→D}{k:Nat}{x:O}{p:List O×D}(hi:Bx st dst k)(h:(gC st dst o fun s key=>some (s.objs,f key))=some p):
 (gC { st with objs:=st.objs.set k x } dst o fun s key=>some (s.objs,f key))=some (p.1.set k x,p.2):=by
 obtain⟨h1,h2⟩:=hi
 cases dst with
 | none=>cases h
 | some d=>
  have h3:=h2 d rfl
  have e1:(st.objs.set k x)[st.np+d]?=st.objs[st.np+d]?:=List.getElem?_set_ne h3
  have e2:(st.objs.set k x)[st.np+(st.env.length+d)]?=st.objs[st.np+(st.env.length+d)]?:=List.getElem?_set_ne (by omega)
  have e3:gQ { st with objs:=st.objs.set k x }=gQ st:=by
   unfold gQ
   dsimp only
   rw[List.length_set]
   refine congrArg List.head? (List.filter_congr fun i _=>?_)
   by_cases hi:st.np+st.env.length≤i
   ·rw[List.getElem?_set_ne (by omega)]
   ·rw[decide_eq_false hi];rfl
  have hK:∀{K},gQ st=some K→K≠k:=fun {K} hK=>by
   unfold gQ at hK
   have hm:=List.mem_of_mem_head? hK
   have h4:=(List.mem_filter.1 hm).2
   rw[Bool.and_eq_true,decide_eq_true_eq] at h4
   omega
  unfold gC at h ⊢
  dsimp only at h ⊢
  rw[e1,e2,e3]
  split at h
  ·cases h
   dsimp only
   rw[List.set_comm _ _ h3]
  ·split at h
   ·cases h
    dsimp only
    rw[List.set_comm _ _ (show k≠st.np+(st.env.length+d) by omega)]
   ·split at h
    ·rename_i K hK'
     cases h
     dsimp only
     rw[List.set_comm _ _ (Ne.symm (hK hK'))]
    ·cases h
theorem NU{α:Type}{b:St}{n:Nat}{c:C}{f:List T→Option α}{k:Nat}{x:O}(hc:k∉C.rs c):gJ { b with objs:=b.objs.set k x } n c f=gJ b n c f:=by
 cases c with
 | row key=>simp only[gJ];rw[List.getElem?_set_ne (fun e=>hc (by simp[C.rs,e]))]
 | cut key m lo len s=>simp only[gJ];rw[List.getElem?_set_ne (fun e=>hc (by simp[C.rs,e]))]
 | _=>rfl
theorem IM{α:Type}{b:St}{e:TypeId}{n:Nat}{c:C}{f g:St→List T→Option α}{k:Nat}{x:O}{r r':α}(hc:k∉C.rs c)(hf:∀(o:List O) l,f { b with objs:=o } l=some r→g { b with objs:=o.set k x } l=some r')(h:uN b e n c f=some r):
 uN { b with objs:=b.objs.set k x } e n c g=some r':=by
 cases c with
 | t v=>
  cases v with
  | v w=>
   cases w with
   | slice p l c=>
    cases p with
    | none=>
     cases l with
     | zero=>
      cases c with
      | zero=>exact hf b.objs [] h
      | succ c=>cases h
     | succ l=>cases h
    | some p=>cases h
   | _=>cases h
  | _=>cases h
 | row key=>
  have hne:k≠key:=fun e=>hc (by simp[C.rs,e])
  simp only[uN] at h ⊢
  rw[List.getElem?_set_ne hne]
  split at h
  ·rename_i e' n' es ho
   split at h
   ·rename_i hcd
    rw[if_pos hcd,List.set_comm _ _ hne]
    exact hf _ _ h
   ·cases h
  ·cases h
 | cut key m lo len s=>
  have hne:k≠key:=fun e=>hc (by simp[C.rs,e])
  simp only[uN] at h ⊢
  rw[List.getElem?_set_ne hne]
  split at h
  ·rename_i e' n' es ho
   split at h
   ·rename_i hcd
    rw[if_pos hcd,List.set_comm _ _ hne]
    exact hf _ _ h
   ·cases h
  ·cases h
 | _=>cases h
theorem KL{b:St}{dst:Option Nat}{t u:TypeId}{cs cx:C}{p:List O×D}{k:Nat}{x:O}(hs:k∉C.rs cs)(hx:k∉C.rs cx)(hi:Bx b dst k)
 (h:(jM P b dst t u (.s (.c cs)) (.s (.c cx)) fun s d=>some (s.objs,d))=some p):(jM P { b with objs:=b.objs.set k x } dst t u (.s (.c cs)) (.s (.c cx)) fun s d=>some (s.objs,d))=some (p.1.set k x,p.2):=by
 have tail:∀{e n:Nat} {q:List T} (o:List O),(gC { b with objs:=o } dst (.row false e n q) fun st key=>some (st.objs,D.s (.c (.row key))))=some p→(gC { b with objs:=o.set k x } dst (.row false e n q) fun st key=>some (st.objs,D.s (.c (.row key))))=some (p.1.set k x,p.2):=fun {e n q} o h=>
  S8 (st:={ b with objs:=o }) (f:=fun key=>D.s (.c (.row key))) hi h
 unfold jM at h ⊢
 split at h
 case h_2=>cases h
 split at h
 case h_2=>cases h
 split at h
 case h_2=>cases h
 split at h
 case isFalse=>cases h
 rename_i hcd
 rw[if_pos hcd]
 unfold k8 at h ⊢
 dsimp only at h ⊢
 split at h
 ·rename_i hut
  rw[if_pos hut]
  rw[NU hx]
  have hm:∀(n:Nat) (c:C) (f g:List T→Option (List O×D)),(∀m,f m=some p→g m=some (p.1.set k x,p.2))→gJ b n c f=some p→gJ b n c g=some (p.1.set k x,p.2):=fun n c f g hfg h=>by
   unfold gJ at h ⊢
   split at h
   ·obtain⟨l,hl,h⟩:=aB h
    rw[hl]
    exact hfg l h
   ·split at h
    ·split at h
     ·rename_i h1
      rw[if_pos h1]
      exact hfg _ h
     ·cases h
    ·cases h
   ·split at h
    ·split at h
     ·rename_i h1
      rw[if_pos h1]
      exact hfg _ h
     ·cases h
    ·cases h
   ·cases h
  refine hm _ _ _ _ (fun m h=>IM hs (fun o l h=>?_) h) h
  obtain⟨q,hq,h⟩:=aB h
  rw[hq]
  exact tail o h
 ·rename_i hut
  rw[if_neg hut]
  split at h
  ·cases cx with
   | t tx=>
    obtain⟨s',hs',h⟩:=aB (show ob tx.str? _=some p from h)
    show ob tx.str? _=_
    rw[hs']
    have e9:∀(f:ByteArray→Option (List O×D)),ob (some s') f=f s':=fun f=>by unfold ob;rfl
    rw[e9]
    refine IM hs (fun o l h=>?_) h
    obtain⟨q,hq,h⟩:=aB h
    rw[hq]
    exact tail o h
   | _=>cases h
  ·cases h
theorem QH{α:Type}{st:St}{dst:Option Nat}{o:O}{f:St→Nat→Option α}{r:α}{k:Nat}(ho:FZ st.objs[k]?=true)(h:gC st dst o f=some r):∃K,(st.objs.set K o)[k]?=st.objs[k]?∧f { st with objs:=st.objs.set K o } K=some r:=by
 obtain⟨K,h1,h2⟩:=CO h
 refine⟨K,List.getElem?_set_ne (fun e=>?_),h2⟩
 subst e
 rw[h1] at ho
 cases ho
theorem xR{P:Program}{b:St}{dst:Option Nat}{t u:TypeId}{s x:D}{p:List O×D}{k:Nat}(hs:(∃y,s=.s (.c (.t y)))∨∃key,s=.s (.c (.row key))∧key≠k)(ho:FZ b.objs[k]?=true)
 (h:(jM P b dst t u s x fun s d=>some (s.objs,d))=some p):p.1[k]?=b.objs[k]?:=by
 have own:∀{e:TypeId} {n:Nat} {c:C} {f:St→List T→Option (List O×D)},s=.s (.c c)→uN b e n c f=some p→(∀st l,st.objs[k]?=b.objs[k]?→f st l=some p→p.1[k]?=b.objs[k]?)→p.1[k]?=b.objs[k]?:=fun {e n c f} hc h hf=>by
  unfold uN at h
  split at h
  ·exact hf _ _ rfl h
  ·rename_i key
   split at h
   ·split at h
    ·refine hf _ _ (List.getElem?_set_ne fun e=>?_) h
     rcases hs with⟨y,hy⟩ | ⟨key',hy,hne⟩
     ·rw[hc] at hy;cases hy
     ·rw[hc] at hy;cases hy;exact hne e
    ·cases h
   ·cases h
  ·rename_i key m lo len tg
   rcases hs with⟨y,hy⟩ | ⟨key',hy,hne⟩ <;> (rw[hc] at hy;cases hy)
  ·cases h
 have tail:∀{st:St} {e n:Nat} {q:List T},st.objs[k]?=b.objs[k]?→(gC st dst (.row false e n q) fun st key=>some (st.objs,D.s (.c (.row key))))=some p→p.1[k]?=b.objs[k]?:=fun {st e n q} hb h=>by
  obtain⟨K,h1,h2⟩:=QH (by rw[hb];exact ho) h
  cases h2
  exact h1.trans hb
 unfold jM at h
 split at h
 case h_2=>cases h
 split at h
 case h_2=>cases h
 split at h
 case h_2=>cases h
 split at h
 case isFalse=>cases h
 unfold k8 at h
 split at h
 case h_2=>cases h
 split at h
 ·split at h
  case h_2=>cases h
  unfold gJ at h
  dsimp only at h
  split at h
  ·obtain⟨l,_,h⟩:=aB h
   exact own rfl h fun st l hb h=>by
    obtain⟨q,_,h⟩:=aB h
    exact tail hb h
  ·split at h
   ·split at h
    ·exact own rfl h fun st l hb h=>by
      obtain⟨q,_,h⟩:=aB h
      exact tail hb h
    ·cases h
   ·cases h
  ·split at h
   ·split at h
    ·exact own rfl h fun st l hb h=>by
      obtain⟨q,_,h⟩:=aB h
      exact tail hb h
    ·cases h
   ·cases h
  ·cases h
 ·split at h
  ·obtain⟨s',h⟩:∃s',(uN b _ 1 _ fun st l=>ob (room l (iD s') 1) fun q=>gC st dst (.row false _ 1 q) fun st key=>some (st.objs,D.s (.c (.row key))))=some p:=by
    cases x with
    | tup l=>cases h
    | s sx=>cases sx with
     | agg l=>cases h
     | c cx=>cases cx with
      | t tx=>
       obtain⟨s',_,h⟩:=aB (show ob tx.str? _=some p from h)
       exact⟨s',h⟩
      | _=>cases h
   exact own rfl h fun st l hb h=>by
    obtain⟨q,_,h⟩:=aB h
    exact tail hb h
  ·cases h
theorem Ch(hq:uU Γ≠[])(hpl:kN Γ pl){o:Oper}(h:Hr pl o=true){st:St}{q:List O}{d:D}(hp:fH P Γ ops o st=some (q,d)){K:Nat}(hK:K∈Qk Γ):
 K<st.objs.length∧(FZ st.objs[K]?=true→q[K]?=st.objs[K]?)∧(∀x,fH P Γ ops o { st with objs:=st.objs.set K x }=some (q.set K x,d)):=by
 obtain⟨dst,op,type,pos,after,guard⟩:=o
 unfold Hr at h
 rw[Bool.and_eq_true,Bool.and_eq_true] at h
 obtain⟨⟨hgd,h1⟩,h2⟩:=h
 cases guard with
 | some g=>cases hgd
 | none=>
  cases dst with
  | none=>cases h1
  | some sl=>
   cases op with
   | call c=>
    obtain⟨callee,args,ats⟩:=c
    cases callee with
    | value fo=>
     cases fo with
     | func f=>
      have hgs:(eU Γ).contains (2500000+sl)=true:=by
       have aux:∀n:Nat,90000000+(2500000+n)=92500000+n:=fun n=>by omega
       exact hpl.2.2.2.2.2.2.2.1 (2500000+sl) (by rw[aux];exact h1)
      have key:∀st':St,fH P Γ ops ⟨some sl,.call ⟨.value (.func f),args,ats⟩,type,pos,after,none⟩ st'=xN Γ st'.bare (some sl) (ev st' (.func f)) (args.toList.map (ev st')):=fun st'=>rfl
      rw[key] at hp
      obtain⟨⟨_,hgi⟩,hv⟩:=LX hp
      obtain⟨l1,l2,l3,l4⟩:=LY hgi hgs
      obtain⟨m1,m2,m3,m4⟩:=l4 K hK
      have hall:∀g A,Γ g=some A→EE (ev st (.func f)) g→A.Framed∨A.Never:=CP hpl (f:=.func f) h2
      refine⟨m4,fun ho=>AL (b:=st.bare) hall hv ho m1,fun x=>?_⟩
      rw[key]
      have hev:∀y,ev ({ st with objs:=st.objs.set K x }:St) y=ev st y:=fun y=>rfl
      have hargs:args.toList.map (ev ({ st with objs:=st.objs.set K x }:St))=args.toList.map (ev st):=rfl
      rw[hargs,hev]
      unfold xN
      have hgc':AG Γ (st.objs.set K x) (some sl) (ev st (.func f)::args.toList.map (ev st))=true:=by
       unfold AG
       dsimp only
       rw[l3]
       rfl
      have hgi':lU Γ (St.bare { st with objs:=st.objs.set K x }) (some sl) (ev st (.func f)::args.toList.map (ev st))=true:=by
       unfold lU at hgi ⊢
       dsimp only at hgi ⊢
       have e1:(St.bare { st with objs:=st.objs.set K x }).objs=st.objs.set K x:=rfl
       have e2:(St.bare { st with objs:=st.objs.set K x }).np=st.bare.np:=rfl
       have e3:(St.bare { st with objs:=st.objs.set K x }).env=st.bare.env:=rfl
       rw[e1,e2,e3]
       have m1':iT st.objs K (ev st (.func f)::args.toList.map (ev st))=true:=m1
       simp only[IL m1',List.length_set]
       exact hgi
      rw[if_pos (show (AG Γ (St.bare { st with objs:=st.objs.set K x }).objs (some sl) (ev st (.func f)::args.toList.map (ev st))&&lU Γ (St.bare { st with objs:=st.objs.set K x }) (some sl) (ev st (.func f)::args.toList.map (ev st)))=true from Bool.and_eq_true_iff.2 ⟨hgc',hgi'⟩)]
      unfold BH
      cases hB:uU Γ with
      | nil=>exact absurd hB hq
      | cons w B=>
       dsimp only
       rw[if_pos (show jO (bF Γ) (some sl)=true from l2)]
       unfold eW k8 at hv ⊢
       dsimp only[ev] at hv ⊢
       have hpf:kH (Value.func (.func f) #[] #[])=some f:=rfl
       rw[hpf] at hv ⊢
       dsimp only at hv ⊢
       cases hA:Γ f with
       | none=>rw[hA] at hv;cases hv
       | some A=>
        rw[hA] at hv
        dsimp only at hv ⊢
        have hF:=hpl.2.2.1 f A h2 hA
        rw[hF.1] at hv ⊢
        have m5:iT st.bare.objs K (args.toList.map (ev st))=true:=by
         have m1':iT st.objs K (ev st (.func f)::args.toList.map (ev st))=true:=m1
         unfold iT at m1' ⊢
         rw[List.all_cons,Bool.and_eq_true] at m1'
         exact m1'.2
        exact(hF.2.2 hv).2 K x m5 ⟨m2,fun s hs=>by cases hs;exact m3⟩
     | _=>cases h2
    | builtin bi=>
     cases bi with
     | append=>
      have hgs:(eU Γ).contains (2500000+sl)=true:=by
       have aux:∀n:Nat,90000000+(2500000+n)=92500000+n:=fun n=>by omega
       exact hpl.2.2.2.2.2.2.2.1 (2500000+sl) (by rw[aux];exact h1)
      have key:∀st':St,fH P Γ ops ⟨some sl,.call ⟨.builtin .append,args,ats⟩,type,pos,after,none⟩ st'=if oK Γ st'.bare (some sl) .append (args.toList.map (ev st'))=true then cO P st'.bare (some sl) type .append (args.toList.map (ev st')) ats.toList else none:=fun st'=>rfl
      rw[key] at hp
      split at hp
      case isFalse=>cases hp
      rename_i hgb
      rw[IB] at hgb
      unfold cO at hp
      split at hp
      any_goals (first | (cases ‹Builtin.append=_›;done) | (cases hp;done))
      rename_i s x t u hbi ha hats
      rw[ha] at hgb
      have hgb2:=Bool.and_eq_true_iff.1 hgb
      have hgj:=hgb2.2
      unfold UZ at hgj
      dsimp only at hgj
      rw[hgs] at hgj
      simp only[Bool.not_true,Bool.false_or,Bool.and_eq_true] at hgj
      obtain⟨hgi,hra,hX⟩:=hgj
      have hX:Nb Γ (some sl)=false:=by simpa using hX
      obtain⟨l1,l2,l3,l4⟩:=LY hgi hgs
      obtain⟨m1,m2,m3,m4⟩:=l4 K hK
      obtain⟨cs,cx,rfl,rfl,hcs⟩:∃cs cx,s=.s (.c cs)∧x=.s (.c cx)∧((∃y,cs=.t y)∨∃key,cs=.row key):=by
       unfold Kt at hra
       split at hra
       ·rename_i e;cases e;exact⟨_,_,rfl,rfl,.inl ⟨_,rfl⟩⟩
       ·rename_i e;cases e;exact⟨_,_,rfl,rfl,.inr ⟨_,rfl⟩⟩
       ·rename_i e;cases e;exact⟨_,_,rfl,rfl,.inl ⟨_,rfl⟩⟩
       ·rename_i e;cases e;exact⟨_,_,rfl,rfl,.inr ⟨_,rfl⟩⟩
       ·cases hra
      have hrs:K∉C.rs cs∧K∉C.rs cx:=by
       unfold iT at m1
       simp only[M7,S1.list,List.all_cons,List.all_nil,Bool.and_true,Bool.and_eq_true,Bool.not_eq_true'] at m1
       refine⟨fun hm=>?_,fun hm=>?_⟩
       ·have:=m1.1.1
        rw[List.contains_iff_mem.2 hm] at this
        cases this
       ·have:=m1.2.1
        rw[List.contains_iff_mem.2 hm] at this
        cases this
      have hp:(kG P st.bare (some sl) t u (.s (.c cs)) (.s (.c cx)) fun s d=>some (s.objs,d))=some (q,d):=hp
      have hgk:∀b:St,kG P b (some sl) t u (.s (.c cs)) (.s (.c cx)) (fun s d=>some (s.objs,d))=jM P b (some sl) t u (.s (.c cs)) (.s (.c cx)) fun s d=>some (s.objs,d):=fun b=>by
       rcases hcs with⟨y,rfl⟩ | ⟨key,rfl⟩ <;> rfl
      rw[hgk] at hp
      refine⟨m4,fun ho=>xR (b:=st.bare) (by
       rcases hcs with⟨y,rfl⟩ | ⟨key,rfl⟩
       ·exact .inl ⟨y,rfl⟩
       ·exact .inr ⟨key,rfl,fun e=>hrs.1 (by subst e;simp[C.rs])⟩) ho hp,fun x=>?_⟩
      rw[key]
      have hargs:args.toList.map (ev ({ st with objs:=st.objs.set K x }:St))=[.s (.c cs),.s (.c cx)]:=ha
      rw[hargs,hats]
      have hgi':lU Γ (St.bare { st with objs:=st.objs.set K x }) (some sl) [.s (.c cs),.s (.c cx)]=true:=by
       rw[IA]
       unfold lU at hgi ⊢
       dsimp only at hgi ⊢
       simp only[IL m1,List.length_set]
       exact hgi
      have hgP:Ba Γ (St.bare { st with objs:=st.objs.set K x }).objs (some sl) (.s (.c cs))=true:=by
       unfold Ba FG
       rw[hX]
       rfl
      rw[if_pos (show oK Γ (St.bare { st with objs:=st.objs.set K x }) (some sl) .append [.s (.c cs),.s (.c cx)]=true from Bool.and_eq_true_iff.2 ⟨hgP,by
       unfold UZ
       dsimp only
       rw[hgs,hgi',hra,hX]
       rfl⟩)]
      show (kG P (St.bare { st with objs:=st.objs.set K x }) (some sl) t u (.s (.c cs)) (.s (.c cx)) fun s d=>some (s.objs,d))=_
      rw[hgk]
      exact KL (b:=st.bare) hrs.1 hrs.2 ⟨by simpa[St.bare] using m2,fun s hs=>by cases hs;exact m3⟩ hp
     | _=>cases h2
    | _=>cases h2
   | _=>cases h2
theorem VR(hpl:kN Γ pl){o:Oper}(h:VH pl o=true){st:St}{q:List O}{d:D}(hp:fH P Γ ops o st=some (q,d)):AS Γ st.objs q:=by
 obtain⟨dst,op,type,pos,after,guard⟩:=o
 unfold VH at h
 unfold fH at hp
 cases hg:gd ops (⟨dst,op,type,pos,after,guard⟩:Oper) st with
 | none=>rw[hg] at hp;cases hp
 | some w=>
  rw[hg] at hp
  cases w with
  | false=>cases hp;exact fun _ _=>rfl
  | true=>
   have hp:BI P Γ ⟨dst,op,type,pos,after,guard⟩ st.bare (ev st)=some (q,d):=hp
   unfold BI at hp
   rw[Bool.and_eq_true] at h
   obtain⟨h1,h2⟩:=h
   cases dst with
   | none=>cases h1
   | some sl=>
    cases op with
    | call c=>
     obtain⟨callee,args,ats⟩:=c
     cases callee with
     | value f=>
      have hp:xN Γ st.bare (some sl) (ev st f) (args.toList.map (ev st))=some (q,d):=hp
      obtain⟨⟨hgc,_⟩,hv⟩:=LX hp
      have hall:∀g A,Γ g=some A→EE (ev st f) g→A.Framed∨A.Never:=CP hpl (by cases f <;> exact h2)
      unfold AG at hgc
      dsimp only at hgc h1
      have aux:∀n:Nat,90000000+(2000000+n)=92000000+n:=fun n=>by omega
      rw[hpl.2.2.2.2.2.2.2.1 (2000000+sl) (by rw[aux];exact h1)] at hgc
      have hgc:Rf Γ st.objs (ev st f::args.toList.map (ev st))=true:=(Bool.and_eq_true_iff.1 hgc).2
      intro k hk
      have hm:k∈Tr Γ:=List.mem_filterMap.2 ⟨5000000+k,List.contains_iff_mem.1 hk,by rw[if_pos (Nat.le_add_right _ _),Nat.add_sub_cancel_left]⟩
      have:=List.all_eq_true.1 hgc k hm
      rw[Bool.and_eq_true] at this
      exact(AL (b:=st.bare) hall hv this.1 this.2).symm
     | _=>cases h2
    | _=>cases h2
theorem Hv{R:Type}{st:St}{q:List O}{t:TypeId}{x:D}{k:D→Option R}(hb:AS Γ st.objs q)(hx:xE Γ x=true):qX P { st with objs:=q } t x k=qX P st t x k:=by
 unfold xE at hx
 split at hx
 ·exact LU rfl
 ·rename_i kk
  have ck:=hb kk hx
  unfold qX k8
  dsimp only
  rw[ck]
 ·cases hx
theorem VS(hN:∀f A,Γ f=some A→A.Nat)(hpl:kN Γ pl){o:Oper}(h:QE pl o=true){st:St}{p:List O×D}(hp:fH P Γ ops o st=some p):p.1=st.objs:=NT hN hpl (Bool.and_eq_true_iff.1 h).1 hp
theorem AP(hpl:kN Γ pl){o:Oper}(h:QE pl o=true){st:St}{q:List O}(hb:AS Γ st.objs q){d:D}(hp:fH P Γ ops o st=some (st.objs,d)):fH P Γ ops o { st with objs:=q }=some (q,d):=by
 obtain⟨dst,op,type,pos,after,guard⟩:=o
 unfold QE at h
 rw[Bool.and_eq_true] at h
 obtain⟨h,hsl⟩:=h
 unfold FO at h
 unfold fH at hp ⊢
 have h1:gd ops (⟨dst,op,type,pos,after,guard⟩:Oper) { st with objs:=q }=gd ops (⟨dst,op,type,pos,after,guard⟩:Oper) st:=rfl
 rw[h1]
 cases hg:gd ops (⟨dst,op,type,pos,after,guard⟩:Oper) st with
 | none=>rw[hg] at hp;cases hp
 | some w=>
  rw[hg] at hp
  cases w with
  | false=>
   simp only[Option.bind_some,cond_false,Option.some.injEq,Prod.mk.injEq] at hp ⊢
   exact⟨trivial,hp.2⟩
  | true=>
   cases dst with
   | none=>cases hsl
   | some sl=>
   cases op with
   | call c=>
    obtain⟨callee,args,ats⟩:=c
    cases callee with
    | builtin bi=>
     cases bi with
     | len=>
      have hev:∀x,ev { st with objs:=q } x=ev st x:=fun x=>by cases x <;> rfl
      have hp:(if oK Γ st (some sl) .len (args.toList.map (ev st))=true then cO P st.bare (some sl) type .len (args.toList.map (ev st)) ats.toList else none)=some (st.objs,d):=hp
      show (if oK Γ st (some sl) .len (args.toList.map (ev { st with objs:=q }))=true then cO P { st.bare with objs:=q } (some sl) type .len (args.toList.map (ev { st with objs:=q })) ats.toList else none)=some (q,d)
      have hm:args.toList.map (ev { st with objs:=q })=args.toList.map (ev st):=List.map_congr_left fun x _=>hev x
      rw[hm]
      split at hp
      case isFalse=>cases hp
      rename_i hgb
      rw[if_pos hgb]
      unfold cO at hp ⊢
      split at hp
      ·rename_i x t _ hargs hats
       rw[hargs] at hgb
       have hgb:([x].all fun x=>AH Γ (some sl) x&&Az Γ (some sl) x)=true:=hgb
       simp only[List.all_cons,List.all_nil,Bool.and_true,Bool.and_eq_true] at hgb
       have hgn:=hgb.2
       unfold Az at hgn
       dsimp only at hgn hsl
       have aux:∀n:Nat,90000000+(3000000+n)=93000000+n:=fun n=>by omega
       rw[hpl.2.2.2.2.2.2.2.1 (3000000+sl) (by rw[aux];exact hsl)] at hgn
       have hgn:xE Γ x=true:=hgn
       obtain⟨d',h3,h2⟩:=Option.bind_eq_some_iff.1 hp
       cases h2
       have:=Hv (P:=P) (st:=st.bare) (q:=q) (t:=t) (k:=some) hb hgn
       show ((qX P { st.bare with objs:=q } _ _ some).bind fun d=>some (q,d))=_
       rw[this,h3]
       rfl
      all_goals first
       | (cases ‹Builtin.len=_›;done)
       | (cases hp;done)
     | _=>cases h
    | _=>cases h
   | _=>cases h
theorem S9(hpl:kN Γ pl){dst:Option Nat}(h:Hq pl dst=true):Nb Γ dst=true:=by
 cases dst with
 | none=>cases h
 | some s=>
  have aux:∀n:Nat,90000000+(4000000+n)=94000000+n:=fun n=>by omega
  exact hpl.2.2.2.2.2.2.2.1 (4000000+s) (by rw[aux];exact h)
theorem LZ(hpl:kN Γ pl){dst:Option Nat}(h:Hq pl dst=true){objs:List O}(hg:FG Γ objs dst=true){k:Nat}(hk:(eU Γ).contains (5000000+k)=true):FZ objs[k]?=true:=by
 unfold FG at hg
 rw[S9 hpl h] at hg
 have hm:k∈Tr Γ:=List.mem_filterMap.2 ⟨5000000+k,List.contains_iff_mem.1 hk,by rw[if_pos (Nat.le_add_right _ _),Nat.add_sub_cancel_left]⟩
 exact List.all_eq_true.1 hg k hm
theorem VT(hpl:kN Γ pl){o:Oper}(h:VI pl o=true){st:St}{q:List O}{d:D}(hp:fH P Γ ops o st=some (q,d)):AS Γ st.objs q:=by
 obtain⟨dst,op,type,pos,after,guard⟩:=o
 unfold VI at h
 unfold fH at hp
 cases hg:gd ops (⟨dst,op,type,pos,after,guard⟩:Oper) st with
 | none=>rw[hg] at hp;cases hp
 | some w=>
  rw[hg] at hp
  cases w with
  | false=>cases hp;exact fun _ _=>rfl
  | true=>
   have hp:BI P Γ ⟨dst,op,type,pos,after,guard⟩ st.bare (ev st)=some (q,d):=hp
   unfold BI at hp
   rw[Bool.and_eq_true] at h
   obtain⟨hx,h2⟩:=h
   cases op with
   | buildSlice t n parts=>
    dsimp only at hp h2
    unfold Gy at hp
    split at hp
    ·rw[lX] at hp
     obtain⟨d,_,h2⟩:=Option.bind_eq_some_iff.1 hp
     cases h2
     exact fun _ _=>rfl
    split at hp
    case isFalse=>cases hp
    rename_i hgf
    rw[Bool.and_eq_true] at h2
    obtain⟨hn,hps⟩:=h2
    have hn:n=0:=by simpa using hn
    have hps:parts.toList=[]:=by simpa using hps
    rw[hps,hn] at hp
    intro k hk
    have ho:FZ st.bare.objs[k]?=true:=LZ hpl hx hgf hk
    unfold fC at hp
    rw[if_pos ⟨rfl,rfl⟩] at hp
    split at hp
    case h_2=>cases hp
    split at hp
    case h_2=>cases hp
    split at hp
    case isFalse=>cases hp
    obtain⟨K,h1,h3⟩:=QH ho hp
    cases h3
    exact h1.symm
   | call c=>
    obtain⟨callee,args,ats⟩:=c
    cases callee with
    | builtin bi=>
     cases bi with
     | append=>
      dsimp only at hp
      split at hp
      case isFalse=>cases hp
      rename_i hgb
      unfold cO at hp
      split at hp
      any_goals (first | (cases ‹Builtin.append=_›;done) | (cases hp;done))
      rename_i s x t u hbi hargs hats
      rw[hargs] at hgb
      have hgb:=(Bool.and_eq_true_iff.1 hgb).1
      have hgb:(FG Γ st.bare.objs dst&&(!Nb Γ dst||M8 Γ s))=true:=hgb
      rw[Bool.and_eq_true,S9 hpl hx] at hgb
      obtain⟨g1,g2⟩:=hgb
      have g2:M8 Γ s=true:=g2
      intro k hk
      have ho:FZ st.bare.objs[k]?=true:=LZ hpl hx g1 hk
      have hs:(∃y,s=.s (.c (.t y)))∨∃key,s=.s (.c (.row key))∧key≠k:=by
       unfold M8 at g2
       split at g2
       ·exact .inl ⟨_,rfl⟩
       ·refine .inr ⟨_,rfl,fun e=>?_⟩
        subst e
        rw[hk] at g2
        cases g2
       ·cases g2
      unfold kG at hp
      split at hp
      ·rcases hs with⟨y,hy⟩ | ⟨key,hy,_⟩ <;> cases hy
      ·exact(xR hs ho hp).symm
     | _=>cases h2
    | _=>cases h2
   | _=>cases h2
theorem VU(hN:∀f A,Γ f=some A→A.Nat)(hpl:kN Γ pl){o:Oper}(h:LR pl o=true){st:St}{p:List O×D}(hp:fH P Γ ops o st=some p):p.1=st.objs:=by
 refine mR hN hpl (pl:=pl) ?_ hp
 obtain⟨dst,op,type,pos,after,guard⟩:=o
 unfold LR at h
 rw[Bool.and_eq_true] at h
 obtain⟨_,h⟩:=h
 cases op with
 | slice t x lo hi mx=>
  cases mx with
  | some m=>cases h
  | none=>
   show (lo.isSome||hi.isSome||false)=true
   rw[Bool.or_false]
   exact h
 | _=>cases h
theorem YU{st:St}{q:List O}{t:TypeId}{x:D}{lo hi:Option D}{d:D}(hb:AS Γ st.objs q)(hx:xE Γ x=true)(hlh:¬(lo.isNone=true∧hi.isNone=true∧(none:Option D).isNone=true))
 (h:(kY P st t x lo hi none fun s d=>some (s.objs,d))=some (st.objs,d)):(kY P { st with objs:=q } t x lo hi none fun s d=>some (s.objs,d))=some (q,d):=by
 have hk:∀(f:D→Option (List O×D)),iS P { st with objs:=q } t x lo hi none f=iS P st t x lo hi none f:=fun f=>by
  unfold xE at hx
  split at hx
  ·exact FP rfl
  ·rename_i kk
   have ck:=hb kk hx
   unfold iS k8 O7
   dsimp only
   rw[ck]
  ·cases hx
 unfold kY at h ⊢
 split at h
 ·cases h
 ·rename_i hA
  rw[if_neg hA]
  rw[hk]
  have e:∀o:List O,(iS P st t x lo hi none fun d=>some (o,d))=(iS P st.bare t x lo hi none some).map fun d=>(o,d):=fun o=>by
   rw[lW]
   cases iS P st.bare t x lo hi none some <;> rfl
  have h:(iS P st t x lo hi none fun d=>some (st.objs,d))=some (st.objs,d):=h
  show (iS P st t x lo hi none fun d=>some (q,d))=some (q,d)
  rw[e] at h ⊢
  cases hs:iS P st.bare t x lo hi none some with
  | none=>rw[hs] at h;cases h
  | some d'=>rw[hs] at h;simp only[Option.map_some,Option.some.injEq,Prod.mk.injEq,true_and] at h;rw[h];rfl
theorem AQ(hpl:kN Γ pl){o:Oper}(h:LR pl o=true){st:St}{q:List O}(hb:AS Γ st.objs q){d:D}(hp:fH P Γ ops o st=some (st.objs,d)):fH P Γ ops o { st with objs:=q }=some (q,d):=by
 obtain⟨dst,op,type,pos,after,guard⟩:=o
 unfold LR at h
 rw[Bool.and_eq_true] at h
 obtain⟨hx,h⟩:=h
 unfold fH at hp ⊢
 have h1:gd ops (⟨dst,op,type,pos,after,guard⟩:Oper) { st with objs:=q }=gd ops (⟨dst,op,type,pos,after,guard⟩:Oper) st:=rfl
 rw[h1]
 cases hg:gd ops (⟨dst,op,type,pos,after,guard⟩:Oper) st with
 | none=>rw[hg] at hp;cases hp
 | some w=>
  rw[hg] at hp
  cases w with
  | false=>
   simp only[Option.bind_some,cond_false,Option.some.injEq,Prod.mk.injEq] at hp ⊢
   exact⟨trivial,hp.2⟩
  | true=>
   cases op with
   | slice t x lo hi mx=>
    cases mx with
    | some m=>cases h
    | none=>
     dsimp only at h
     have hp:(if (AH Γ dst (ev st x)&&HJ Γ dst (ev st x))=true then kY P st.bare t (ev st x) (lo.map (ev st)) (hi.map (ev st)) none fun s d=>some (s.objs,d) else none)=some (st.objs,d):=hp
     show (if (AH Γ dst (ev st x)&&HJ Γ dst (ev st x))=true then kY P { st.bare with objs:=q } t (ev st x) (lo.map (ev st)) (hi.map (ev st)) none fun s d=>some (s.objs,d) else none)=some (q,d)
     split at hp
     case isFalse=>cases hp
     rename_i hg2
     rw[if_pos hg2]
     have hgx:=(Bool.and_eq_true_iff.1 hg2).2
     unfold HJ at hgx
     rw[S9 hpl hx] at hgx
     have hgx:xE Γ (ev st x)=true:=hgx
     refine YU (st:=st.bare) hb hgx ?_ hp
     rintro ⟨n1,n2,_⟩
     rw[Option.isNone_map] at n1 n2
     cases lo <;> cases hi <;> simp_all
   | _=>cases h
theorem YV(hN:∀f A,Γ f=some A→A.Nat)(hpl:kN Γ pl){i j:Nat}{oi oj:Oper}(hi:ops[i]?=some oi)(hj:ops[j]?=some oj)(hc:LS ops pl oi oj=true){st s1 s2:St}
 (h1:pE P Γ ops i st=some s1) (h2:pE P Γ ops j s1=some s2):∃s1',pE P Γ ops j st=some s1'∧pE P Γ ops i s1'=some s2:=by
 simp only[LS,Bool.and_eq_true,Bool.or_eq_true] at hc
 obtain⟨hap,hcls⟩:=hc
 obtain⟨a1,a2,a3⟩:=Oper.apart_spec hap
 simp only[pE,hi,hj] at *
 cases e1:fH P Γ ops oi st with
 | none=>simp[e1] at h1
 | some p1=>
  obtain⟨q1,d1⟩:=p1
  simp only[e1,Option.map_some,Option.some.injEq] at h1
  subst h1
  have w2:fH P Γ ops oj (st.with oi.dst (q1,d1))=fH P Γ ops oj { st with objs:=q1 }:=VC (st:={ st with objs:=q1 }) a1
  rw[w2] at h2
  have back:∀q2 d2,fH P Γ ops oi (st.with oj.dst (q2,d2))=fH P Γ ops oi { st with objs:=q2 }:=fun q2 d2=>VC (st:={ st with objs:=q2 }) a3
  have fin:∀q d2,((st.with oj.dst (q,d2)).with oi.dst (q,d1))=(st.with oi.dst (q1,d1)).with oj.dst (q,d2):=fun q d2=>by
   have hp:=YO ({ st with objs:=q }:St) d1 d2 a2
   unfold St.with
   have r1:∀(s:St) (x:Option Nat) (d:D) (q:List O),({ s.put x d with objs:=q }:St)=({ s with objs:=q }:St).put x d:=fun s x d q=>by cases x <;> rfl
   simp only[r1]
   exact hp.symm
  cases e2:fH P Γ ops oj { st with objs:=q1 } with
  | none=>simp[e2] at h2
  | some p2=>
   obtain⟨q2,d2⟩:=p2
   simp only[e2,Option.map_some,Option.some.injEq] at h2
   subst h2
   have caseq:q1=st.objs→(∀q,q=q2→fH P Γ ops oi { st with objs:=q }=some (q2,d1))→∃s1',(fH P Γ ops oj st).map (st.with oj.dst)=some s1'∧(fH P Γ ops oi s1').map (s1'.with oi.dst)=some ((st.with oi.dst (q1,d1)).with oj.dst (q2,d2)):=fun hq hoi=>by
    subst hq
    have e3:fH P Γ ops oj st=some (q2,d2):=e2
    refine⟨st.with oj.dst (q2,d2),by rw[e3];rfl,?_⟩
    rw[back,hoi q2 rfl]
    simp only[Option.map_some]
    rw[fin]
   rcases hcls with((((((((((((hP | hP) | ⟨hn1,hn2⟩) | hle) | ⟨hq0,⟨hl,hf⟩ | ⟨hf,hl⟩⟩) | ⟨hla,hal⟩) | ⟨⟨⟨hq0,hnl⟩,hx1⟩,hx2⟩) | ⟨⟨⟨hq0,hnl⟩,hx1⟩,hx2⟩) | (⟨hlb,hfe⟩ | ⟨hfe,hlb⟩)) | (⟨hln,hfb⟩ | ⟨hfb,hln⟩)) | (⟨hlc,hfc⟩ | ⟨hfc,hlc⟩)) | (⟨hlg,hfg⟩ | ⟨hfg,hlg⟩)) | (⟨hlh,hfh⟩ | ⟨hfh,hlh⟩)) | ⟨⟨hq0,hnl⟩,⟨hli,hfi⟩ | ⟨hfi,hli⟩⟩
   ·have hq:q1=st.objs:=mR hN hpl (pl:=pl) (IF hP) e1
    exact caseq hq fun q hqq=>by subst hqq;rw[Kx hpl hP,e1];rfl
   ·have hq2:q2=q1:=mR hN hpl (pl:=pl) (IF hP) e2
    subst hq2
    have e3:(fH P Γ ops oj st).map (fun p=>(q2,p.2))=some (q2,d2):=by rw[←Kx hpl hP];exact e2
    cases e4:fH P Γ ops oj st with
    | none=>rw[e4] at e3;cases e3
    | some p=>
     obtain⟨q0,d0⟩:=p
     rw[e4] at e3
     simp only[Option.map_some,Option.some.injEq,Prod.mk.injEq,true_and] at e3
     subst e3
     have hq0:q0=st.objs:=mR hN hpl (pl:=pl) (IF hP) e4
     subst hq0
     refine⟨st.with oj.dst (st.objs,d0),rfl,?_⟩
     rw[back]
     have e5:fH P Γ ops oi { st with objs:=st.objs }=some (q2,d1):=e1
     rw[e5]
     simp only[Option.map_some]
     have:=fin q2 d0
     have r2:((st.with oj.dst (st.objs,d0)).with oi.dst (q2,d1))=((st.with oj.dst (q2,d0)).with oi.dst (q2,d1)):=by
      unfold St.with
      cases oj.dst <;> rfl
     rw[r2,this]
   ·have hq:q1=st.objs:=mR hN hpl hn1 e1
    have hq2:q2=q1:=mR hN hpl hn2 e2
    exact caseq hq fun q hqq=>by rw[hqq,hq2,hq];have:fH P Γ ops oi { st with objs:=st.objs }=some (q1,d1):=e1;rw[this,hq]
   ·exact YS hle e1 e2 caseq
   ·-- a load,then a call
    have hq:q1=st.objs:=Cc hN hpl hl e1
    subst hq
    exact caseq rfl fun q hqq=>by
     subst hqq
     exact CN hpl (hpl.2.2.2.1 hq0) hl (fun k hk=>Cd hpl (hpl.2.2.2.1 hq0) hf e2 k hk) e1
   ·-- a call,then a load
    have hq2:q2=q1:=Cc hN hpl hl e2
    subst hq2
    have e3:fH P Γ ops oj st=some (st.objs,d2):=by
     have:=CN (st:={ st with objs:=q2 }) (q:=st.objs) hpl (hpl.2.2.2.1 hq0) hl (fun k hk l=>(Cd hpl (hpl.2.2.2.1 hq0) hf e1 k hk l).symm) e2
     exact this
    refine⟨st.with oj.dst (st.objs,d2),by rw[e3];rfl,?_⟩
    rw[back]
    have e5:fH P Γ ops oi { st with objs:=st.objs }=some (q2,d1):=e1
    rw[e5]
    simp only[Option.map_some]
    have:=fin q2 d2
    have r2:((st.with oj.dst (st.objs,d2)).with oi.dst (q2,d1))=((st.with oj.dst (q2,d2)).with oi.dst (q2,d1)):=by
     unfold St.with
     cases oj.dst <;> rfl
    rw[r2,this]
   ·have hw:Gf pl oi=true:=by
     obtain⟨dst,op,type,pos,after,guard⟩:=oi
     unfold VD at hla
     cases op with
     | call c=>
      obtain⟨callee,args,ats⟩:=c
      cases callee with
      | builtin bi=>cases bi <;> first | rfl | (cases hla;done)
      | _=>cases hla
     | _=>first | rfl | (cases hla;done)
    have hq:q1=st.objs:=mR hN hpl hw e1
    subst hq
    exact caseq rfl fun q hqq=>by
     subst hqq
     exact YR hla hal e1 e2
   ·have hq:=hpl.2.2.2.1 hq0
    have hnl':(!pl.contains 28999999)=true:=by simpa using hnl
    obtain⟨d1',x1,g1,hd1,E1⟩:=NS (P:=P) (ops:=ops) hpl hq hnl' hx1
    obtain⟨d2',x2,g2,hd2,E2⟩:=NS (P:=P) (ops:=ops) hpl hq hnl' hx2
    obtain⟨i1,i2,i3,i4,i5,i6,i7⟩:=(E1 st q1 d1).1 e1
    obtain⟨j1,j2,j3,j4,j5,j6,j7⟩:=(E2 { st with objs:=q1 } q2 d2).1 e2
    have hne:st.np+d1'≠st.np+d2':=fun e=>a2 d1' i1 (by rw[j1];congr 1;omega)
    have j3':q1[st.np+d2']?=some .fresh:=j3
    have j4':q2=q1.set (st.np+d2') x2:=j4
    subst i4
    have hf2:st.objs[st.np+d2']?=some .fresh:=by rw[List.getElem?_set_ne hne] at j3';exact j3'
    have e3:fH P Γ ops oj st=some (st.objs.set (st.np+d2') x2,d2):=(E2 st _ _).2 ⟨j1,j2,hf2,rfl,j5,by
     rw[Bool.or_eq_true] at j6 ⊢
     refine j6.imp (fun h=>?_) id
     have h:OZ (uU Γ) (st.objs.set (st.np+d1') x1) q2=true:=h
     rw[j4'] at h
     exact Cf hne hf2 h,j7⟩
    refine⟨st.with oj.dst (st.objs.set (st.np+d2') x2,d2),by rw[e3];rfl,?_⟩
    rw[back]
    have e5:fH P Γ ops oi { st with objs:=st.objs.set (st.np+d2') x2 }=some (q2,d1):=(E1 _ _ _).2 ⟨i1,i2,by
     show (st.objs.set (st.np+d2') x2)[st.np+d1']?=_
     rw[List.getElem?_set_ne hne.symm];exact i3,by
     rw[j4']
     exact List.set_comm _ _ hne,i5,by
     rw[Bool.or_eq_true] at i6 ⊢
     refine i6.imp (fun h=>?_) id
     show OZ (uU Γ) (st.objs.set (st.np+d2') x2) q2=true
     rw[j4',List.set_comm _ _ hne]
     exact Cg hne i3 h,i7⟩
    rw[e5]
    simp only[Option.map_some]
    have:=fin q2 d2
    have r2:((st.with oj.dst (st.objs.set (st.np+d2') x2,d2)).with oi.dst (q2,d1))=((st.with oj.dst (q2,d2)).with oi.dst (q2,d1)):=by
     unfold St.with
     cases oj.dst <;> rfl
    rw[r2,this]
   ·have hq:=hpl.2.2.2.1 hq0
    have hnl':(!pl.contains 28999999)=true:=by simpa using hnl
    obtain⟨k1,x1,n1,f1,g1,E1⟩:=Ce (P:=P) (ops:=ops) hpl hq hnl' hx1 e1
    obtain⟨k2,x2,n2,f2,g2,E2⟩:=Ce (P:=P) (ops:=ops) hpl hq hnl' hx2 e2
    subst g1
    have f2':(st.objs.set (st.np+k1) x1)[st.np+k2]?=some .fresh:=f2
    have g2':q2=(st.objs.set (st.np+k1) x1).set (st.np+k2) x2:=g2
    have hlt:st.np+k1<st.objs.length:=(List.getElem?_eq_some_iff.1 f1).1
    have hne:st.np+k1≠st.np+k2:=fun e=>by
     rw[←e,List.getElem?_set_self hlt] at f2'
     cases f2'
     exact n1 rfl
    have hf2:st.objs[st.np+k2]?=some .fresh:=by rw[List.getElem?_set_ne hne] at f2';exact f2'
    have e3:fH P Γ ops oj st=some (st.objs.set (st.np+k2) x2,d2):=E2 st.objs hf2
    refine⟨st.with oj.dst (st.objs.set (st.np+k2) x2,d2),by rw[e3];rfl,?_⟩
    rw[back]
    have e5:fH P Γ ops oi { st with objs:=st.objs.set (st.np+k2) x2 }=some (q2,d1):=by
     rw[E1 (st.objs.set (st.np+k2) x2) (by rw[List.getElem?_set_ne hne.symm];exact f1),g2',List.set_comm _ _ hne]
    rw[e5]
    simp only[Option.map_some]
    have:=fin q2 d2
    have r2:((st.with oj.dst (st.objs.set (st.np+k2) x2,d2)).with oi.dst (q2,d1))=((st.with oj.dst (q2,d2)).with oi.dst (q2,d1)):=by
     unfold St.with
     cases oj.dst <;> rfl
    rw[r2,this]
   ·-- a load from a box,then a store into an element
    have hq:q1=st.objs:=VM hN hpl hlb e1
    subst hq
    exact caseq rfl fun q hqq=>by
     subst hqq
     exact AM hpl hlb (VL hpl hfe e2) e1
   ·have hq2:q2=q1:=VM (st:={ st with objs:=q1 }) hN hpl hlb e2
    subst hq2
    have e3:fH P Γ ops oj st=some (st.objs,d2):=AM (st:={ st with objs:=q2 }) (q:=st.objs) hpl hlb (VL hpl hfe e1).symm e2
    refine⟨st.with oj.dst (st.objs,d2),by rw[e3];rfl,?_⟩
    rw[back]
    have e5:fH P Γ ops oi { st with objs:=st.objs }=some (q2,d1):=e1
    rw[e5]
    simp only[Option.map_some]
    have:=fin q2 d2
    have r2:((st.with oj.dst (st.objs,d2)).with oi.dst (q2,d1))=((st.with oj.dst (q2,d2)).with oi.dst (q2,d1)):=by
     unfold St.with
     cases oj.dst <;> rfl
    rw[r2,this]
   ·-- a length,then a store into a box
    have hq:q1=st.objs:=NT hN hpl hln e1
    subst hq
    exact caseq rfl fun q hqq=>by
     subst hqq
     exact AO hln (VO (pl:=pl) hfb e2) e1
   ·have hq2:q2=q1:=NT (st:={ st with objs:=q1 }) hN hpl hln e2
    subst hq2
    have e3:fH P Γ ops oj st=some (st.objs,d2):=AO (st:={ st with objs:=q2 }) (q:=st.objs) hln (VO (pl:=pl) hfb e1).symm e2
    refine⟨st.with oj.dst (st.objs,d2),by rw[e3];rfl,?_⟩
    rw[back]
    have e5:fH P Γ ops oi { st with objs:=st.objs }=some (q2,d1):=e1
    rw[e5]
    simp only[Option.map_some]
    have:=fin q2 d2
    have r2:((st.with oj.dst (st.objs,d2)).with oi.dst (q2,d1))=((st.with oj.dst (q2,d2)).with oi.dst (q2,d1)):=by
     unfold St.with
     cases oj.dst <;> rfl
    rw[r2,this]
   ·-- a load from a box,then a store off the list A
    have hq:q1=st.objs:=VQ hN hpl hlc e1
    subst hq
    exact caseq rfl fun q hqq=>by
     subst hqq
     exact AN hpl hlc (VP hpl hfc e2) e1
   ·have hq2:q2=q1:=VQ (st:={ st with objs:=q1 }) hN hpl hlc e2
    subst hq2
    have e3:fH P Γ ops oj st=some (st.objs,d2):=AN (st:={ st with objs:=q2 }) (q:=st.objs) hpl hlc (VP hpl hfc e1).symm e2
    refine⟨st.with oj.dst (st.objs,d2),by rw[e3];rfl,?_⟩
    rw[back]
    have e5:fH P Γ ops oi { st with objs:=st.objs }=some (q2,d1):=e1
    rw[e5]
    simp only[Option.map_some]
    have:=fin q2 d2
    have r2:((st.with oj.dst (st.objs,d2)).with oi.dst (q2,d1))=((st.with oj.dst (q2,d2)).with oi.dst (q2,d1)):=by
     unfold St.with
     cases oj.dst <;> rfl
    rw[r2,this]
   ·-- a length,then a call
    have hq:q1=st.objs:=VS hN hpl hlg e1
    subst hq
    exact caseq rfl fun q hqq=>by
     subst hqq
     exact AP hpl hlg (VR hpl hfg e2) e1
   ·have hq2:q2=q1:=VS (st:={ st with objs:=q1 }) hN hpl hlg e2
    subst hq2
    have e3:fH P Γ ops oj st=some (st.objs,d2):=AP (st:={ st with objs:=q2 }) (q:=st.objs) hpl hlg (VR hpl hfg e1).symm e2
    refine⟨st.with oj.dst (st.objs,d2),by rw[e3];rfl,?_⟩
    rw[back]
    have e5:fH P Γ ops oi { st with objs:=st.objs }=some (q2,d1):=e1
    rw[e5]
    simp only[Option.map_some]
    have:=fin q2 d2
    have r2:((st.with oj.dst (st.objs,d2)).with oi.dst (q2,d1))=((st.with oj.dst (q2,d2)).with oi.dst (q2,d1)):=by
     unfold St.with
     cases oj.dst <;> rfl
    rw[r2,this]
   ·-- a cut,then an append
    have hq:q1=st.objs:=VU hN hpl hlh e1
    subst hq
    exact caseq rfl fun q hqq=>by
     subst hqq
     exact AQ hpl hlh (VT hpl hfh e2) e1
   ·have hq2:q2=q1:=VU (st:={ st with objs:=q1 }) hN hpl hlh e2
    subst hq2
    have e3:fH P Γ ops oj st=some (st.objs,d2):=AQ (st:={ st with objs:=q2 }) (q:=st.objs) hpl hlh (VT hpl hfh e1).symm e2
    refine⟨st.with oj.dst (st.objs,d2),by rw[e3];rfl,?_⟩
    rw[back]
    have e5:fH P Γ ops oi { st with objs:=st.objs }=some (q2,d1):=e1
    rw[e5]
    simp only[Option.map_some]
    have:=fin q2 d2
    have r2:((st.with oj.dst (st.objs,d2)).with oi.dst (q2,d1))=((st.with oj.dst (q2,d2)).with oi.dst (q2,d1)):=by
     unfold St.with
     cases oj.dst <;> rfl
    rw[r2,this]
   ·-- a new variable,then a call
    have hq:=hpl.2.2.2.1 hq0
    have hnl':(!pl.contains 28999999)=true:=by simpa using hnl
    obtain⟨x1,x2⟩:=Bool.and_eq_true_iff.1 hli
    obtain⟨d1',x,g1,hd1,E1⟩:=NS (P:=P) (ops:=ops) hpl hq hnl' x1
    obtain⟨i1,i2,i3,i4,i5,i6,i7⟩:=(E1 st q1 d1).1 e1
    obtain⟨hKi,hls⟩:(st.np+d1')∈Qk Γ∧jO (bF Γ) oi.dst=true:=by
     rw[i1] at i7 x2 ⊢
     have aux:∀n:Nat,90000000+(1600000+n)=91600000+n:=fun n=>by omega
     have hgs:(eU Γ).contains (1600000+d1')=true:=hpl.2.2.2.2.2.2.2.1 (1600000+d1') (by rw[aux];exact x2)
     unfold FE at i7
     dsimp only at i7
     rw[hgs] at i7
     simp only[Bool.not_true,Bool.false_or,Bool.and_eq_true] at i7
     exact⟨by simpa using i7.1,i7.2⟩
    subst i4
    have hlt:st.np+d1'<st.objs.length:=(List.getElem?_eq_some_iff.1 i3).1
    obtain⟨c1,c2,c3⟩:=Ch hq hpl hfi e2 hKi
    have hbx:=hd1.2 i2
    have hset:(st.objs.set (st.np+d1') x).set (st.np+d1') .fresh=st.objs:=by
     rw[List.set_set]
     refine List.ext_getElem? fun j=>?_
     by_cases hj:st.np+d1'=j
     ·subst hj
      rw[List.getElem?_set_self hlt,i3]
     ·rw[List.getElem?_set_ne hj]
    have e3:fH P Γ ops oj st=some (q2.set (st.np+d1') .fresh,d2):=by
     have:=c3 .fresh
     dsimp only at this
     rw[hset] at this
     exact this
    have hqx:q2[st.np+d1']?=some x:=by
     rw[c2 (by
      show FZ (st.objs.set (st.np+d1') x)[st.np+d1']?=true
      rw[List.getElem?_set_self hlt]
      cases x <;> first | rfl | (cases hbx;done))]
     exact List.getElem?_set_self hlt
    have hlt2:st.np+d1'<q2.length:=(List.getElem?_eq_some_iff.1 hqx).1
    have hset2:(q2.set (st.np+d1') .fresh).set (st.np+d1') x=q2:=by
     rw[List.set_set]
     refine List.ext_getElem? fun j=>?_
     by_cases hj:st.np+d1'=j
     ·subst hj
      rw[List.getElem?_set_self hlt2,hqx]
     ·rw[List.getElem?_set_ne hj]
    refine⟨st.with oj.dst (q2.set (st.np+d1') .fresh,d2),by rw[e3];rfl,?_⟩
    rw[back]
    have e5:fH P Γ ops oi { st with objs:=q2.set (st.np+d1') .fresh }=some (q2,d1):=(E1 _ _ _).2 ⟨i1,i2,List.getElem?_set_self hlt2,hset2.symm,i5,by
     rw[hls,Bool.or_true],i7⟩
    rw[e5]
    simp only[Option.map_some]
    have:=fin q2 d2
    have r2:((st.with oj.dst (q2.set (st.np+d1') .fresh,d2)).with oi.dst (q2,d1))=((st.with oj.dst (q2,d2)).with oi.dst (q2,d1)):=by
     unfold St.with
     cases oj.dst <;> rfl
    rw[r2,this]
   ·-- a call,then a new variable
    have hq:=hpl.2.2.2.1 hq0
    have hnl':(!pl.contains 28999999)=true:=by simpa using hnl
    obtain⟨x1,x2⟩:=Bool.and_eq_true_iff.1 hli
    obtain⟨d1',x,g1,hd1,E1⟩:=NS (P:=P) (ops:=ops) hpl hq hnl' x1
    obtain⟨i1,i2,i3,i4,i5,i6,i7⟩:=(E1 { st with objs:=q1 } q2 d2).1 e2
    obtain⟨hKi,hls⟩:(st.np+d1')∈Qk Γ∧jO (bF Γ) oj.dst=true:=by
     rw[i1] at i7 x2 ⊢
     have aux:∀n:Nat,90000000+(1600000+n)=91600000+n:=fun n=>by omega
     have hgs:(eU Γ).contains (1600000+d1')=true:=hpl.2.2.2.2.2.2.2.1 (1600000+d1') (by rw[aux];exact x2)
     unfold FE at i7
     dsimp only at i7
     rw[hgs] at i7
     simp only[Bool.not_true,Bool.false_or,Bool.and_eq_true] at i7
     exact⟨by simpa using i7.1,i7.2⟩
    obtain⟨c1,c2,c3⟩:=Ch hq hpl hfi e1 hKi
    have i3':q1[st.np+d1']?=some .fresh:=i3
    have i4':q2=q1.set (st.np+d1') x:=i4
    have hfr:st.objs[st.np+d1']?=some .fresh:=by
     cases ho:FZ st.objs[st.np+d1']? with
     | true=>
      have:=c2 ho
      rw[i3'] at this
      rw[←this] at ho
      cases ho
     | false=>
      rw[List.getElem?_eq_getElem c1] at ho ⊢
      cases hx:st.objs[st.np+d1'] <;> rw[hx] at ho <;> first | rfl | (cases ho;done)
    have e3:fH P Γ ops oj st=some (st.objs.set (st.np+d1') x,d2):=(E1 st _ _).2 ⟨i1,i2,hfr,rfl,i5,by
     rw[hls,Bool.or_true],i7⟩
    refine⟨st.with oj.dst (st.objs.set (st.np+d1') x,d2),by rw[e3];rfl,?_⟩
    rw[back]
    have e5:fH P Γ ops oi { st with objs:=st.objs.set (st.np+d1') x }=some (q2,d1):=by rw[c3 x,i4']
    rw[e5]
    simp only[Option.map_some]
    have:=fin q2 d2
    have r2:((st.with oj.dst (st.objs.set (st.np+d1') x,d2)).with oi.dst (q2,d1))=((st.with oj.dst (q2,d2)).with oi.dst (q2,d1)):=by
     unfold St.with
     cases oj.dst <;> rfl
    rw[r2,this]
end
section
variable {P:Program} {Γ:FuncId→Option Callee} {ops:Array Oper} {pl:List Nat}
def Ci(P:Program)(Γ:FuncId→Option Callee)(ops:Array Oper)(e:St→Prop):Nat→Array Bool→St→Prop
 | 0,listed,st=>Region.ready .any ops listed=[]∧e st
 | fuel+1,listed,st=>(Region.ready .any ops listed=[]→e st)∧∀i∈Region.ready .any ops listed,∃st',pE P Γ ops i st=some st'∧Ci P Γ ops e fuel (listed.setIfInBounds i true) st'
inductive Blk (ops:Array Oper) (listed:Array Bool) (i:Nat):Nat→Prop
 | one {j:Nat} {oj:Oper} {e:Edge} (hj:ops[j]?=some oj) (he:e∈oj.after) (hb:Region.binds .any e=true) (hi:e.on=i):Blk ops listed i j
 | via {j:Nat} {oj:Oper} {e:Edge} (hj:ops[j]?=some oj) (he:e∈oj.after) (hb:Region.binds .any e=true) (hu:listed.getD e.on true=false) (h:Blk ops listed i e.on):Blk ops listed i j
theorem VV{listed:Array Bool}{i:Nat}:∀(fuel j:Nat),Hs ops listed i fuel j=true→Blk ops listed i j
 | 0,_,h=>by cases h
 | fuel+1,j,h=>by
  unfold Hs at h
  cases hj:ops[j]? with
  | none=>rw[hj] at h;cases h
  | some oj=>
   rw[hj] at h
   obtain⟨e,he,h2⟩:=Array.any_eq_true'.1 h
   simp only[Bool.and_eq_true,Bool.or_eq_true,beq_iff_eq,Bool.not_eq_true'] at h2
   obtain⟨hb,h3 | ⟨h3,h4⟩⟩:=h2
   ·exact .one hj he hb h3
   ·exact .via hj he hb h3 (VV fuel e.on h4)
theorem TA{i:Nat}{oi:Oper}{listed:Array Bool}(hi:ops[i]?=some oi)(h:Bz ops pl listed i=true)(j:Nat)(oj:Oper)(hj:ops[j]?=some oj)(hne:j≠i)(hun:listed.getD j true=false)
 (hno:¬Blk ops listed i j):LS ops pl oi oj=true:=by
 simp only[Bz,hi,List.all_eq_true,List.mem_range] at h
 have h1:=h j (Array.getElem?_eq_some_iff.1 hj).1
 simp only[hj,Bool.or_eq_true,beq_iff_eq,hne,false_or,hun,Bool.false_eq_true] at h1
 rcases h1 with h1 | h1
 ·exact absurd (VV _ _ h1) hno
 ·exact h1
theorem Hw{listed:Array Bool}{i j:Nat}(hi:listed.getD i true=false)(hr:j∈Region.ready .any ops listed):¬Blk ops listed i j:=by
 intro h
 obtain⟨_,oj,hoj,hall⟩:=mem_ready.1 hr
 have key:∀(m:Nat),listed.getD m true=false→listed.getD m false=true→False:=fun m h1 h0=>by
  rcases Nat.lt_or_ge m listed.size with h' | h'
  ·simp[h'] at h0 h1;rw[h0] at h1;cases h1
  ·simp[Array.getElem?_eq_none h'] at h1
 cases h with
 | one hj he hb hie=>
  rw[hoj] at hj
  cases hj
  have:=hall _ he hb
  rw[hie] at this
  exact key i hi this
 | via hj he hb hu h=>
  rw[hoj] at hj
  cases hj
  exact key _ hu (hall _ he hb)
theorem Blk.grow{listed:Array Bool}{i j':Nat}(hj':¬Blk ops listed i j'):∀{k:Nat},Blk ops listed i k→Blk ops (listed.setIfInBounds j' true) i k:=by
 intro k h
 induction h with
 | one hj he hb hi=>exact .one hj he hb hi
 | via hj he hb hu h ih=>
  refine .via hj he hb ?_ ih
  rw[getD_set_ne true (fun e=>hj' (by rw[e];exact h))]
  exact hu
theorem TB{e:St→Prop}(hN:∀f A,Γ f=some A→A.Nat)(hpl:kN Γ pl){i:Nat}{oi:Oper}(hi:ops[i]?=some oi):
 ∀(fuel:Nat) (listed:Array Bool) (st st1:St),
  (∀j oj,ops[j]?=some oj→j≠i→listed.getD j true=false→¬Blk ops listed i j→LS ops pl oi oj=true) →
  i∈Region.ready .any ops listed→pE P Γ ops i st=some st1→Ci P Γ ops e fuel (listed.setIfInBounds i true) st1→Ci P Γ ops e (fuel+1) listed st:=by
 intro fuel
 induction fuel with
 | zero=>
  intro listed st st1 _ hr hy H
  refine⟨fun h=>(by rw[h] at hr;cases hr),fun j hj=>?_⟩
  by_cases hji:j=i
  ·subst hji;exact⟨st1,hy,H⟩
  ·have:=ready_mono hj hji
   rw[H.1] at this
   cases this
 | succ fuel ih=>
  intro listed st st1 hfree hr hy H
  refine⟨fun h=>(by rw[h] at hr;cases hr),fun j hj=>?_⟩
  by_cases hji:j=i
  ·subst hji;exact⟨st1,hy,H⟩
  ·obtain⟨st2,h1,h2⟩:=H.2 j (ready_mono hj hji)
   obtain⟨hjun,oj,hoj,hall⟩:=mem_ready.1 hj
   have hnb:¬Blk ops listed i j:=Hw (mem_ready.1 hr).1 hj
   obtain⟨st1',g1,g2⟩:=YV hN hpl hi hoj (hfree j oj hoj hji hjun hnb) hy h1
   have hfree':∀k ok,ops[k]?=some ok→k≠i→(listed.setIfInBounds j true).getD k true=false →
    ¬Blk ops (listed.setIfInBounds j true) i k→LS ops pl oi ok=true:=fun k ok hk hki hun hno=>by
    refine hfree k ok hk hki ?_ (fun hb=>hno (hb.grow hnb))
    by_cases hjk:j=k
    ·subst hjk;exact hjun
    ·rw[getD_set_ne true hjk] at hun;exact hun
   refine⟨st1',g1,ih (listed.setIfInBounds j true) st1' st2 hfree' (ready_mono hr (Ne.symm hji)) g2 ?_⟩
   rw[Array.setIfInBounds_comm _ _ hji]
   exact h2
theorem QI{e:St→Prop}(hN:∀f A,Γ f=some A→A.Nat)(hpl:kN Γ pl):∀(n k:Nat) (listed:Array Bool) (st st':St),k+n=ops.size →
 Ca ops pl n k listed=true→(List.range' k n).foldlM (fun st i=>pE P Γ ops i st) st=some st'→e st'→Ci P Γ ops e n listed st
 | 0,k,listed,st,st',_,hB,h,he=>by
  cases h
  exact⟨by simpa[Ca] using hB,he⟩
 | n+1,k,listed,st,st',hk,hB,h,he=>by
  have hlt:k<ops.size:=by omega
  have h0:ops[k]?=some ops[k]:=Array.getElem?_eq_getElem hlt
  simp only[Ca,Bool.and_eq_true] at hB
  obtain⟨⟨hr,hf⟩,hB'⟩:=hB
  rw[List.range'_succ,List.foldlM_cons] at h
  cases hs:pE P Γ ops k st with
  | none=>rw[hs] at h;cases h
  | some st1=>
   rw[hs] at h
   exact TB hN hpl h0 n listed st st1 (TA h0 hf) (by simpa using hr) hs (QI hN hpl n (k+1) _ st1 st' (by omega) hB' h he)
theorem TC{e:St→Prop}:∀(fuel t:Nat) (listed:Array Bool) (st:St),Ci P Γ ops e fuel listed st →
 ∃st',(Region.linearise.go .any ops fuel t listed []).foldlM (fun st i=>pE P Γ ops i st) st=some st'∧e st':=by
 intro fuel
 induction fuel with
 | zero=>intro t listed st h;exact⟨st,by simp[Region.linearise.go],h.2⟩
 | succ fuel ih=>
  intro t listed st h
  obtain⟨h₀,h₁⟩:=h
  simp only[Region.linearise.go]
  change ∃st',(match (Region.ready .any ops listed)[t%(Region.ready .any ops listed).length]? with
   | some i=>Region.linearise.go .any ops fuel (t/(Region.ready .any ops listed).length) (listed.setIfInBounds i true) [i]
   | none=>[].reverse).foldlM (fun st i=>pE P Γ ops i st) st=some st'∧e st'
  cases hi:(Region.ready .any ops listed)[t%(Region.ready .any ops listed).length]? with
  | none=>
   have hnil:Region.ready .any ops listed=[]:=by
    cases hr:Region.ready .any ops listed with
    | nil=>rfl
    | cons x xs=>
     rw[hr] at hi
     have hlt:t%(x::xs).length<(x::xs).length:=Nat.mod_lt _ (by simp)
     simp at hi
     simp at hlt
     omega
   exact⟨st,rfl,h₀ hnil⟩
  | some i=>
   simp only[]
   rw[linearise_go_acc,List.reverse_singleton,List.singleton_append,List.foldlM_cons]
   obtain⟨st1,g1,g2⟩:=h₁ i (List.mem_of_getElem? hi)
   obtain⟨st',g3,g4⟩:=ih (t/(Region.ready .any ops listed).length) _ st1 g2
   exact⟨st',by rw[g1];exact g3,g4⟩
theorem Cj(hm:P.follows .mixedOrders=true)(hΓ:GOK P Γ)(hN:∀f A,Γ f=some A→A.Nat)(hpl:kN Γ pl):SQ P Γ (Kw pl):=by
 intro ops hd R w0 F Xc ρ0 ρ st a w k r Q t hG h hk hn
 simp only[Region.schedule,hm,Bool.true_or,if_true]
 rw[zE hN,List.range_eq_range'] at hk
 cases hs:(List.range' 0 ops.size).foldlM (fun st i=>pE P Γ ops i st) st with
 | none=>rw[hs] at hk;cases hk
 | some st1=>
  rw[hs] at hk
  have ha:=QI (e:=fun st'=>k st'=some r) hN hpl ops.size 0 (Array.replicate ops.size false) st st1 (by omega) hd hs hk
  obtain⟨st',g1,g2⟩:=TC ops.size t _ st ha
  refine NA hΓ hG (Region.linearise .any ops t) h (k:=k) ?_ hn
  rw[zE hN]
  show ((Region.linearise.go .any ops ops.size t (Array.replicate ops.size false) []).foldlM (fun st i=>pE P Γ ops i st) st).bind k=some r
  rw[g1]
  exact g2
end
theorem CQ(sg:Sig)(U:m9 sg.hin.shapes→Option (m9 sg.hout.shapes)):(aD sg U).Nat:=by
 refine⟨?_,fun I h=>(by cases h),fun I h=>(by cases h)⟩
 intro R args po k
 simp only[aD]
 split
 ·refine(zD _).trans (Eq.trans ?_ (congrArg (fun z:Option (List S1×List O)=>z.bind fun p=>k p.1 p.2) (zD _)).symm)
  rw[Option.bind_assoc]
  refine congrArg _ (funext fun p=>?_)
  rw[aL]
  refine congrArg _ (funext fun q=>?_)
  split <;> rfl
 ·rfl
def TD:Sh→Bool
 | .int _=>true
 | .bool=>true
 | .str=>true
 | _=>false
def oO:Nat→List It→Bool
 | _,[]=>true
 | i,.slot j::l=>j==i&&oO (i+1) l
 | i,.aggs j _::l=>j==i&&oO (i+1) l
 | _,_=>false
def uZ:List It→Nat
 | []=>0
 | .slot _::l=>1+uZ l
 | .aggs _ n::l=>n+uZ l
 | .box _ n::l=>n+uZ l
 | .boxr _ _ n::l=>n+uZ l
def NV(sg:Sig):Bool:=decide (sg.np=0)&&decide (sg.nnew=0)&&sg.hout.shapes.all TD&&oO 0 sg.hout.items&&decide (sg.hout.items.length=sg.nres)&&decide (uZ sg.hout.items≤sg.hout.shapes.length)&&sg.kept.isEmpty
theorem L0:∀(l:List Sh) (t:m9 l),l.all TD=true→(sA l t).all AC=true∧(sA l t).length=l.length
 | [],_,_=>⟨rfl,rfl⟩
 | s::l,t,h=>by
  simp only[List.all_cons,Bool.and_eq_true] at h
  obtain⟨h1,h2⟩:=L0 l t.2 h.2
  refine⟨?_,by simp[sA,h2]⟩
  simp only[sA,List.all_cons,Bool.and_eq_true]
  refine⟨?_,h1⟩
  cases s <;> first
   | rfl
   | (cases h.1;done)
theorem u0:∀(l:List It) (i:Nat) (cs:List C) (st:St),oO i l=true→cs.all AC=true→uZ l≤cs.length→i+l.length≤st.env.length →
 (∀j,j<i→∃s,st.env[j]?=some (.s s)∧s.list.all AC=true)→(b6 l cs st).objs=st.objs∧∀j,j<i+l.length→∃s,(b6 l cs st).env[j]?=some (.s s)∧s.list.all AC=true
 | [],i,cs,st,h1,h2,h3,h4,h5=>⟨rfl,h5⟩
 | .slot k::l,i,cs,st,h1,h2,h3,h4,h5=>by
  simp only[oO,Bool.and_eq_true,beq_iff_eq] at h1
  obtain⟨rfl,h1⟩:=h1
  simp only[List.length_cons] at h4
  cases cs with
  | nil=>simp[uZ] at h3
  | cons c cs=>
   simp only[List.all_cons,Bool.and_eq_true] at h2
   simp only[uZ,List.length_cons] at h3
   obtain⟨e1,e2⟩:=u0 l (k+1) cs { st with env:=st.env.set k (.s (.c c)) } h1 h2.2 (by omega) (by simp;omega) (fun j hj=>by
    by_cases hjk:k=j
    ·subst hjk
     exact⟨.c c,by rw[List.getElem?_set_self (by omega)],by simp[S1.list,h2.1]⟩
    ·obtain⟨s,q1,q2⟩:=h5 j (by omega)
     exact⟨s,by simp only[];rw[List.getElem?_set_ne hjk];exact q1,q2⟩)
   simp only[b6,List.tail_cons,List.headD_cons]
   refine⟨e1,fun j hj=>e2 j (by simp only[List.length_cons] at hj;omega)⟩
 | .aggs k n::l,i,cs,st,h1,h2,h3,h4,h5=>by
  simp only[oO,Bool.and_eq_true,beq_iff_eq] at h1
  obtain⟨rfl,h1⟩:=h1
  simp only[List.length_cons] at h4
  simp only[uZ] at h3
  obtain⟨e1,e2⟩:=u0 l (k+1) (cs.drop n) { st with env:=st.env.set k (.s (.agg (cs.take n))) } h1 (List.all_eq_true.2 fun x hx=>List.all_eq_true.1 h2 x (List.mem_of_mem_drop hx)) (by rw[List.length_drop];omega) (by simp;omega) (fun j hj=>by
   by_cases hjk:k=j
   ·subst hjk
    exact⟨.agg (cs.take n),by rw[List.getElem?_set_self (by omega)],List.all_eq_true.2 fun x hx=>List.all_eq_true.1 h2 x (List.mem_of_mem_take hx)⟩
   ·obtain⟨s,q1,q2⟩:=h5 j (by omega)
    exact⟨s,by simp only[];rw[List.getElem?_set_ne hjk];exact q1,q2⟩)
  simp only[b6]
  refine⟨e1,fun j hj=>e2 j (by simp only[List.length_cons] at hj;omega)⟩
 | .box _ _::_,i,cs,st,h1,_,_,_,_=>by simp[oO] at h1
 | .boxr _ _ _::_,i,cs,st,h1,_,_,_,_=>by simp[oO] at h1
theorem FQ:∀(l:List Sh) (t:m9 l),l.all TD=true→eI l t=[]
 | [],_,_=>rfl
 | s::l,t,h=>by
  simp only[List.all_cons,Bool.and_eq_true] at h
  cases s <;> first
   | exact FQ l t.2 h.2
   | (cases h.1;done)
theorem KM{sg:Sig}{U:m9 sg.hin.shapes→Option (m9 sg.hout.shapes)}(h:NV sg=true):(aD sg U).Pure0:=by
 unfold NV at h
 simp only[Bool.and_eq_true,decide_eq_true_eq,List.isEmpty_iff] at h
 obtain⟨⟨⟨⟨⟨⟨h1,h2⟩,h3⟩,h4⟩,h5⟩,h6⟩,h7⟩:=h
 refine⟨⟨rfl,rfl⟩,?_⟩
 intro args po rs po' hc
 simp only[aD] at hc
 split at hc
 ·rename_i hlen
  have hpo:po=[]:=List.eq_nil_of_length_eq_zero (by omega)
  rw[zD] at hc
  obtain⟨t,_,hc⟩:=Option.bind_eq_some_iff.1 hc
  obtain⟨q,_,hq⟩:=aB hc
  split at hq
  ·rename_i V6 hrs
   simp only[Option.some.injEq,Prod.mk.injEq] at hq
   obtain⟨e1,e2⟩:=hq
   obtain⟨g1,g2⟩:=L0 sg.hout.shapes q h3
   have hno:sg.no=sg.nres:=by simp[Sig.no,h7]
   obtain⟨s1,s2⟩:=u0 sg.hout.items 0 (sA sg.hout.shapes q) (gA sg.np sg.no (sg.np+sg.nnew)) h4 g1 (by rw[g2];exact h6) (by simp[gA,hno,h5]) (fun j hj=>by omega)
   have hob:(bU sg.hout sg.np sg.no (sg.np+sg.nnew) q).objs=[]:=by
    unfold bU
    simp only[FQ _ _ h3,iU,s1]
    simp[gA,h1,h2]
   refine⟨hpo,by rw[←e2,hob],?_⟩
   rw[←e1]
   have hs:=A6 hrs
   refine List.all_eq_true.2 fun s hs'=>?_
   obtain⟨j,hj⟩:=List.mem_iff_getElem?.1 hs'
   have h8:=congrArg (fun z=>z[j]?) hs
   simp only[List.getElem?_map,hj,Option.map_some,List.getElem?_take] at h8
   split at h8
   ·rename_i hjl
    obtain⟨s',q1,q2⟩:=s2 j (by omega)
    have h9:(bU sg.hout sg.np sg.no (sg.np+sg.nnew) q).env[j]?=some (.s s'):=q1
    rw[h9] at h8
    cases h8
    exact q2
   ·cases h8
  ·cases hq
 ·cases hc
structure TabOK (P:Program) (pl:List Nat) (l:List (FuncId×Callee)):Prop where
 gok:GOK P (kM l)
 nat:∀f A,kM l f=some A→A.Nat
 pure:kN (kM l) pl
theorem NW{pl:List Nat}(h:pl.all (fun n=>decide (n<82000000))=true){m:Nat}(hm:82000000≤m)(hc:pl.contains m=true):False:=by
 have:=List.all_eq_true.1 h m (by simpa using hc)
 have:=of_decide_eq_true this
 omega
theorem TabOK.nil{P:Program}{pl:List Nat}(h:pl.contains 9000000=false:=by kernel_rfl)(h2:pl.contains 9000002=false:=by kernel_rfl)(h3:pl.all (fun n=>decide (n<82000000))=true:=by kernel_rfl):TabOK P pl []:=
 ⟨.nil,fun _ _ h=>(by cases h),fun _ _ _ h=>(by cases h),fun _ _ _ h=>(by cases h),fun _ _ _ h=>(by cases h),fun h'=>(by rw[h] at h';cases h'),fun _ h=>(by cases h),fun h'=>(by rw[h2] at h';cases h'),fun _ h=>(by cases h),fun s hs=>(NW h3 (by omega) hs).elim,fun s _ hs=>(NW h3 (by omega) hs).elim⟩
def jG(B L:List Nat):Callee where
 call:=fun _ _ _=>none
 ext:=some ⟨fun _ _=>none⟩
 quiet:=B
 loose:=L
theorem Ck{P:Program}{B L:List Nat}:(jG B L).OK P 2000000:=⟨fun _ _ _ _ h=>(by cases h),fun I h=>(by cases h),fun I h=>(by
 cases h
 intro R w X ρ r ds vals k _ _ hk
 cases hk)⟩
theorem zI{B L:List Nat}:(jG B L).Nat:=⟨fun _ _ _=>rfl,fun I h=>(by cases h),fun I h=>(by
 cases h
 intro R ds k
 rfl)⟩
theorem TabOK.flag{P:Program}{pl:List Nat}{B L:List Nat}(hB:B.isEmpty=false)(h1:pl.contains 2000000=false)(h2:pl.contains 3000000=false)(h3:pl.contains 6000000=false)(h4:L.all (fun s=>pl.contains (20000000+s))=true)(h5:pl.all (fun n=>decide (n<82000000))=true:=by kernel_rfl):TabOK P pl [(2000000,jG B L)]:=by
 have hl:∀f A,kM [(2000000,jG B L)] f=some A→f=2000000∧A=jG B L:=fun f A h=>by
  simp only[kM] at h
  split at h
  ·rename_i e;cases h;exact⟨e.symm,rfl⟩
  ·cases h
 refine⟨fun f A h=>?_,fun f A h=>?_,fun f A hc h=>?_,fun f A hc h=>?_,fun f A hc h=>?_,fun _ h=>?_,fun s hs=>?_,fun _ f A hf h=>?_,fun A h=>?_,fun s hs=>(NW h5 (by omega) hs).elim,fun s _ hs=>(NW h5 (by omega) hs).elim⟩
 ·obtain⟨rfl,rfl⟩:=hl f A h;exact⟨fun he=>(by cases he),Ck⟩
 ·obtain⟨rfl,rfl⟩:=hl f A h;exact zI
 ·obtain⟨rfl,rfl⟩:=hl f A h;rw[h1] at hc;cases hc
 ·obtain⟨rfl,rfl⟩:=hl f A h;rw[h2] at hc;cases hc
 ·obtain⟨rfl,rfl⟩:=hl f A h;rw[h3] at hc;cases hc
 ·have h:B=[]:=h
  subst h
  cases hB
 ·have hs:L.contains s=true:=hs
  exact List.all_eq_true.1 h4 s (by simpa using hs)
 ·obtain⟨rfl,rfl⟩:=hl f A h;cases hf
 ·obtain⟨_,rfl⟩:=hl 2000000 A h
  exact⟨_,rfl,fun _ _=>rfl⟩
theorem TabOK.flagG0{P:Program}{pl:List Nat}{G S:List Nat}(h1:(pl.contains 2000002||pl.contains 3000002||pl.contains 6000002||pl.contains 9000002||pl.contains 9000000)=false)
 (h5:pl.all (fun n=>decide (n<82000000)||(decide (n<90000000)&&G.contains (n-82000000))||(decide (90000000≤n)&&S.contains (n-90000000)))=true):TabOK P pl [(2000002,jG G S)]:=by
 simp only[Bool.or_eq_false_iff] at h1
 obtain⟨⟨⟨⟨a4,a5⟩,a6⟩,a7⟩,a8⟩:=h1
 have hl:∀f A,kM [(2000002,jG G S)] f=some A→(f=2000002∧A=jG G S):=fun f A h=>by
  simp only[kM] at h
  split at h
  ·rename_i e;cases h;exact⟨e.symm,rfl⟩
  ·cases h
 have hok:∀{B L:List Nat} {f:FuncId},(jG B L).OK P f:=fun {B L f}=>⟨fun _ _ _ _ h=>(by cases h),fun I h=>(by cases h),fun I h=>(by
  cases h
  intro R w X ρ r ds vals k _ _ hk
  cases hk)⟩
 refine⟨fun f A h=>?_,fun f A h=>?_,fun f A hc h=>?_,fun f A hc h=>?_,fun f A hc h=>?_,fun h _=>?_,fun s hs=>?_,fun hf=>?_,fun A h=>?_,fun s hs=>?_,fun t ht0 ht=>?_⟩
 ·obtain⟨rfl,rfl⟩:=hl f A h;exact⟨fun he=>(by cases he),hok⟩
 ·obtain⟨rfl,rfl⟩:=hl f A h;exact zI
 ·obtain⟨rfl,rfl⟩:=hl f A h
  rw[a4] at hc;cases hc
 ·obtain⟨rfl,rfl⟩:=hl f A h
  rw[a5] at hc;cases hc
 ·obtain⟨rfl,rfl⟩:=hl f A h
  rw[a6] at hc;cases hc
 ·rw[a8] at h;cases h
 ·have hs:([]:List Nat).contains s=true:=hs
  cases hs
 ·rw[a7] at hf;cases hf
 ·obtain⟨e,_⟩:=hl 2000000 A h
  cases e
 ·have:=List.all_eq_true.1 h5 (90000000+s) (by simpa using hs)
  rw[Bool.or_eq_true,Bool.or_eq_true,Bool.and_eq_true,Bool.and_eq_true] at this
  rcases this with(h | ⟨h,_⟩) | ⟨_,h⟩
  ·have:=of_decide_eq_true h;omega
  ·have:=of_decide_eq_true h;omega
  ·have e:90000000+s-90000000=s:=by omega
   rw[e] at h
   exact h
 ·have:=List.all_eq_true.1 h5 (82000000+t) (by simpa using ht)
  rw[Bool.or_eq_true,Bool.or_eq_true,Bool.and_eq_true,Bool.and_eq_true] at this
  rcases this with(h | ⟨_,h⟩) | ⟨h,_⟩
  ·have:=of_decide_eq_true h;omega
  ·have e:82000000+t-82000000=t:=by omega
   rw[e] at h
   exact h
  ·have:=of_decide_eq_true h;omega
theorem TabOK.flagG{P:Program}{pl:List Nat}{B L G S:List Nat}(hB:B.isEmpty=false)(h1:(pl.contains 2000000||pl.contains 3000000||pl.contains 6000000||pl.contains 2000002||pl.contains 3000002||pl.contains 6000002||pl.contains 9000002)=false)(h4:L.all (fun s=>pl.contains (20000000+s))=true)
 (h5:pl.all (fun n=>decide (n<82000000)||(decide (n<90000000)&&G.contains (n-82000000))||(decide (90000000≤n)&&S.contains (n-90000000)))=true):TabOK P pl [(2000000,jG B L),(2000002,jG G S)]:=by
 simp only[Bool.or_eq_false_iff] at h1
 obtain⟨⟨⟨⟨⟨⟨a1,a2⟩,a3⟩,a4⟩,a5⟩,a6⟩,a7⟩:=h1
 have hl:∀f A,kM [(2000000,jG B L),(2000002,jG G S)] f=some A→(f=2000000∧A=jG B L)∨(f=2000002∧A=jG G S):=fun f A h=>by
  simp only[kM] at h
  split at h
  ·rename_i e;cases h;exact .inl ⟨e.symm,rfl⟩
  ·split at h
   ·rename_i e;cases h;exact .inr ⟨e.symm,rfl⟩
   ·cases h
 have hok:∀{B L:List Nat} {f:FuncId},(jG B L).OK P f:=fun {B L f}=>⟨fun _ _ _ _ h=>(by cases h),fun I h=>(by cases h),fun I h=>(by
  cases h
  intro R w X ρ r ds vals k _ _ hk
  cases hk)⟩
 refine⟨fun f A h=>?_,fun f A h=>?_,fun f A hc h=>?_,fun f A hc h=>?_,fun f A hc h=>?_,fun _ h=>?_,fun s hs=>?_,fun hf=>?_,fun A h=>?_,fun s hs=>?_,fun t ht0 ht=>?_⟩
 ·rcases hl f A h with⟨rfl,rfl⟩ | ⟨rfl,rfl⟩ <;> exact⟨fun he=>(by cases he),hok⟩
 ·rcases hl f A h with⟨rfl,rfl⟩ | ⟨rfl,rfl⟩ <;> exact zI
 ·rcases hl f A h with⟨rfl,rfl⟩ | ⟨rfl,rfl⟩
  ·rw[a1] at hc;cases hc
  ·rw[a4] at hc;cases hc
 ·rcases hl f A h with⟨rfl,rfl⟩ | ⟨rfl,rfl⟩
  ·rw[a2] at hc;cases hc
  ·rw[a5] at hc;cases hc
 ·rcases hl f A h with⟨rfl,rfl⟩ | ⟨rfl,rfl⟩
  ·rw[a3] at hc;cases hc
  ·rw[a6] at hc;cases hc
 ·have h:B=[]:=h
  subst h
  cases hB
 ·have hs:L.contains s=true:=hs
  exact List.all_eq_true.1 h4 s (by simpa using hs)
 ·rw[a7] at hf;cases hf
 ·rcases hl 2000000 A h with⟨_,rfl⟩ | ⟨e,_⟩
  ·exact⟨_,rfl,fun _ _=>rfl⟩
  ·cases e
 ·have:=List.all_eq_true.1 h5 (90000000+s) (by simpa using hs)
  rw[Bool.or_eq_true,Bool.or_eq_true,Bool.and_eq_true,Bool.and_eq_true] at this
  rcases this with(h | ⟨h,_⟩) | ⟨_,h⟩
  ·have:=of_decide_eq_true h;omega
  ·have:=of_decide_eq_true h;omega
  ·have e:90000000+s-90000000=s:=by omega
   rw[e] at h
   exact h
 ·have:=List.all_eq_true.1 h5 (82000000+t) (by simpa using ht)
  rw[Bool.or_eq_true,Bool.or_eq_true,Bool.and_eq_true,Bool.and_eq_true] at this
  rcases this with(h | ⟨_,h⟩) | ⟨h,_⟩
  ·have:=of_decide_eq_true h;omega
  ·have e:82000000+t-82000000=t:=by omega
   rw[e] at h
   exact h
  ·have:=of_decide_eq_true h;omega
theorem TabOK.consP{P:Program}{pl:List Nat}{f:FuncId}{A:Callee}{l:List (FuncId×Callee)}(hc:A.ext=none→qC P f)(hA:A.OK P f)(hn:A.Nat)(hp:pl.contains f=true→A.Pure)(hq:pl.contains (f+1000000)=true→A.PureP)
 (hF:(pl.contains (f+4000000)||pl.contains 9000002)=true→A.Framed) (hne:(f==2000000)=false) (hl:TabOK P pl l) (hne2:(f==2000002)=false:=by kernel_rfl):TabOK P pl ((f,A)::l):=by
 have hlk:kM ((f,A)::l) 2000000=kM l 2000000:=by
  simp only[kM]
  rw[if_neg (by intro h;subst h;cases hne)]
 have hqo:uU (kM ((f,A)::l))=uU (kM l):=by
  unfold uU
  rw[hlk]
 have hlo:bF (kM ((f,A)::l))=bF (kM l):=by
  unfold bF
  rw[hlk]
 have hlk2:kM ((f,A)::l) 2000002=kM l 2000002:=by
  simp only[kM]
  rw[if_neg (by intro h;subst h;cases hne2)]
 have hgs:eU (kM ((f,A)::l))=eU (kM l):=by
  unfold eU
  rw[hlk2]
 have hgt:BE (kM ((f,A)::l))=BE (kM l):=by
  unfold BE
  rw[hlk2]
 refine⟨.cons hc hA hl.gok,fun g B h=>?_,fun g B hg h=>?_,fun g B hg h=>?_,fun g B hg h=>?_,fun hg=>(by rw[hqo];exact hl.pure.2.2.2.1 hg),fun s hs=>(by rw[hlo] at hs;exact hl.pure.2.2.2.2.1 s hs),fun hg g B hg2 h=>?_,fun B h=>?_,fun s hs=>(by rw[hgs];exact hl.pure.2.2.2.2.2.2.2.1 s hs),fun s hs2 hs=>(by rw[hgt];exact hl.pure.2.2.2.2.2.2.2.2 s hs2 hs)⟩
 ·simp only[kM] at h
  split at h
  ·cases h;exact hn
  ·exact hl.nat g B h
 ·simp only[kM] at h
  split at h
  ·rename_i e;cases h;subst e;exact hp hg
  ·exact hl.pure.1 g B hg h
 ·simp only[kM] at h
  split at h
  ·rename_i e;cases h;subst e;exact hq hg
  ·exact hl.pure.2.1 g B hg h
 ·simp only[kM] at h
  split at h
  ·rename_i e;cases h;subst e;exact hF (by rw[hg];rfl)
  ·exact hl.pure.2.2.1 g B hg h
 ·simp only[kM] at h
  split at h
  ·rename_i e;cases h;subst e;exact hF (by rw[hg];exact Bool.or_true _)
  ·exact hl.pure.2.2.2.2.2.1 hg g B hg2 h
 ·rw[hlk] at h
  exact hl.pure.2.2.2.2.2.2.1 B h
theorem TabOK.cons{P:Program}{pl:List Nat}{f:FuncId}{A:Callee}{l:List (FuncId×Callee)}(hc:A.ext=none→qC P f)(hA:A.OK P f)(hn:A.Nat)(hp:pl.contains f=true→A.Pure0)(hq:pl.contains (f+1000000)=false)
 (hF:(pl.contains (f+4000000)||pl.contains 9000002)=true→A.Framed) (hne:(f==2000000)=false) (hl:TabOK P pl l) (hne2:(f==2000002)=false:=by kernel_rfl):TabOK P pl ((f,A)::l):=
 hl.consP hc hA hn (fun h=>(hp h).pure hn) (fun h=>by rw[hq] at h;cases h) hF hne hne2
theorem TabOK.rrs{P:Program}{pl:List Nat}{L:List Nat}{l:List (FuncId×Callee)}(h1:(pl.contains 2000001||pl.contains 3000001||pl.contains 6000001||pl.contains 9000002)=false)(hl:TabOK P pl l):TabOK P pl ((2000001,jG [] L)::l):=by
 simp only[Bool.or_eq_false_iff] at h1
 obtain⟨⟨⟨h1,h2⟩,h3⟩,h4⟩:=h1
 refine hl.consP (fun he=>by cases he) ⟨fun _ _ _ _ h=>(by cases h),fun I h=>(by cases h),fun I h=>(by
  cases h
  intro R w X ρ r ds vals k _ _ hk
  cases hk)⟩ zI (fun h=>by rw[h1] at h;cases h) (fun h=>by rw[h2] at h;cases h) (fun h=>by rw[h3,h4] at h;cases h) rfl
noncomputable abbrev FR(P:Program)(l:List (FuncId×Callee))(pl:List Nat)(t:HT)(fn:Func)(sg:Sig):m9 sg.hin.shapes→Option (m9 sg.hout.shapes):=
 Kv P (kM l) (Kw pl) (ST t fn) fn.results.toList fn.ntmps sg
theorem TE{P:Program}{l:List (FuncId×Callee)}{pl:List Nat}{f:FuncId}{fn:Func}{t:HT}{sg:Sig}{U:m9 sg.hin.shapes→Option (m9 sg.hout.shapes)}(hm:P.follows .mixedOrders=true)
 (hΓ:TabOK P pl l) (hf:P.funcs[f]?=some fn) (ht:GG t fn=true) (hs:sg.ok fn.ntmps=true) (hU:∀x,FR P l pl t fn sg x=U x):(aD sg U).OK P f:=
 PZ hΓ.gok (Cj hm hΓ.gok hΓ.nat hΓ.pure) hf (YB ht) rfl rfl hs fun x q h=>by rw[←hU x] at h;exact h
open Go.RowKit
theorem YW{P:Program}{f:FuncId}{A:Callee}(hA:A.OK P f){args:List S1}{b:Bool}(hcall:(A.call args [] fun rs po=>some (rs,po))=some ([.c (.t (.v (.bool b)))],[])){W:World}(hG:Good P W (fun _=>False)){vals:List Value}
 (hargs:RdSs W (fun _=>False) (fun _=>none) args vals):Calls P f vals.toArray W fun e W'=>e=.returned (.bool b)∧Below W.heap.size W W':=by
 obtain⟨rs,po',h1,h2⟩:=hA.1 args [] _ _ hcall
 simp only[Option.some.injEq,Prod.mk.injEq] at h1
 obtain⟨e1,e2⟩:=h1
 subst e1;subst e2
 have hX:∀b,¬XB [] (fun _=>none) (fun _=>False) b:=fun b hh=>hh.elim (fun⟨k,o,v,h1,_⟩=>by simp at h1) id
 have hm:∀b,¬nI [] (fun _=>none) b:=fun b ⟨k,o,v,h1,_⟩=>by simp at h1
 refine(h2 W (fun _=>False) (fun _=>none) vals (fun k o h=>by simp at h) (fun k k' b ⟨o,v,h1,_⟩=>by simp at h1) (fun _ h=>h.elim) (fun _ _ h=>h)
  (fun g k hg=>⟨fun hh=>hm g hh,(hG g k hg).2⟩) (hargs.step (Stp.refl (fun _=>False) W) (fun _ h=>h.elim) (fun b hb=>(hX b hb).elim) (.refl _))).mono fun e w' ⟨v,ρ',he,hs,_,_,_,_,_,hr⟩=>?_
 have hv:v=.bool b:=by
  rcases hr with hr | ⟨hr,_⟩
  ·cases hr
  ·exact Rd.inv_v hr
 subst hv
 exact⟨he,hs.below hm⟩
theorem IN{P:Program}{W:World}(h:W.ShapedOpen P)(F:Nat→Prop)(hF:∀b,¬F b):Good P W F:=fun g k ⟨t,zero,h1,h2,h3,h4,h5,h6⟩=>
 ⟨hF g,Go.Proofs.cell_of_shapedOpen_int h h1 h2 h3 h4 h5 h6⟩
open Go.RowKit Go.ChangeShapes Go.WideShapes
theorem AR{H:Type}{enc:TypeId×Value→H}{P:Program}(hl:laidOutB P=true){W W':World}(hb:Below W.heap.size W W'):∀(ts:List TypeId) (vs:List Value) (ds:List (DataW H)) (p:List MemPlace),
 (∀t∈ts,P.readableRec t=true∧t<P.types.size)→DataW.TrodAll enc P W 0 (fun _=>true) true ts vs ds p→(∀x∈p,x.block<W.heap.size) →
 DataW.TrodAll enc P W' 0 (fun b=>decide (b<W.heap.size)) true ts vs ds p
 | [],vs,ds,p,_,h,_=>by
  obtain⟨rfl,rfl,rfl⟩:=trodAll_nil h
  exact trodAll_mk0
 | t::ts,vs,ds,p,hr,h,hp=>by
  obtain⟨v,vs',d,ds',q,r,rfl,rfl,rfl,h1,h2⟩:=trodAll_cons h
  obtain⟨r1,r2⟩:=hr t (by simp)
  exact⟨q,r,Below.trod hl r1 r2 h1 hb fun x hx=>hp x (List.mem_append.2 (.inl hx)),AR hl hb ts vs' ds' r (fun t' ht=>hr t' (by simp[ht])) h2 fun x hx=>hp x (List.mem_append.2 (.inr hx)),rfl⟩
theorem TF{C:Checked}{os:Os}{f:FuncId}{fn:Func}{s:ChangeSpec}{conds:List PathCond}{tb:TypeId}{H:Type}{enc:TypeId×Value→H}
 (own:ownKnob C.prog.godebug=none) (started:os.Started) (noInit:C.prog.inits.idxOf? f=none) (hfn:C.prog.funcs[f]?=some fn) (hl:laidOutB C.prog=true)
 (hread:fn.params.toList.all (fun t=>C.prog.readableRec t&&decide (t<C.prog.types.size))=true) (hres:fn.resultTypes=#[tb]) (hb:C.prog.underlying tb=some .bool)
 (hvars:s.vars=[]) (hspec:∀ds:List (DataW H),ds.length=fn.params.size→s.fn H ds={ results:=[.lit (.bool true)],args:=ds })
 (witness:∃(w:World) (tape:Tape) (i:Input),w.os=os∧(w.forCall tape i).Shaped C.prog∧i.vars=[]∧Input.okWide C.prog (w.forCall tape i) .any w.heap.size f i ∧
  s.pre6 enc C.prog fn conds false (w.forCall tape i).memory i.args∧Assume.holds {} C.prog (lone (Frame.enter C.prog f i.args .normal) [] (w.forCall tape i)))
 (law:∀(W:World) (base:Nat) (args:Array Value) (ds:List (DataW H)) (p:List MemPlace),(∀(j:Nat) t v,fn.params[j]?=some t→args[j]?=some v→Value.okWide C.prog W .any base t v) →
  DataW.TrodAll enc C.prog W 0 (fun _=>true) true fn.params.toList args.toList ds p→W.ShapedOpen C.prog →
  Calls C.prog f args W fun e W'=>e=.returned (.bool true)∧Below W.heap.size W W'):
 ReturnsInHanded {} C os f .any (s.pre6 enc C.prog fn conds false) (s.post enc C.prog fn false true false false):=by
 refine returnsInHanded_of_change_shaped own started noInit hfn witness ?_
 intro W base args ds gs before hval hW _ _ hsh _
 have hW':=hW
 obtain⟨p,q,hA,hV,rfl,_,_⟩:=hW
 rw[hvars] at hV
 obtain⟨rfl,rfl⟩:=trodVars_none hV
 rw[List.append_nil] at hW'
 have hlt:∀x∈p,x.block<W.heap.size:=fun x hx=>hW'.lt x hx
 have hlen:∀(ts:List TypeId) (vs:List Value) (ds:List (DataW H)) (p:List MemPlace),DataW.TrodAll enc C.prog W 0 (fun _=>true) true ts vs ds p→ds.length=ts.length:=by
  intro ts
  induction ts with
  | nil=>intro vs ds p h;obtain⟨_,rfl,_⟩:=trodAll_nil h;rfl
  | cons t ts ih=>intro vs ds p h;obtain⟨v,vs',d,ds',q,r,rfl,rfl,rfl,h1,h2⟩:=trodAll_cons h;simp[ih _ _ _ h2]
 have hds:=hspec ds (by rw[hlen _ _ _ _ hA];simp)
 refine(law W base args ds p hval hA hsh).mono fun e W' ⟨he,hbel⟩=>?_
 subst he
 refine⟨_,rfl,ds,[],p,[],p,[],hW',?_,?_,?_,hbel.frame _,fun h=>by cases h⟩
 ·rw[List.append_nil,hds,hres]
  exact trodAll_mk1 (shut_bool hb _)
 ·rw[List.append_nil,hds]
  exact AR hl hbel _ _ _ _ (fun t ht=>by simpa using List.all_eq_true.1 hread t ht) hA hlt
 ·rw[List.append_nil,hds,hvars];rfl
theorem Hx{H:Type}{enc:TypeId×Value→H}{P:Program}{W:World}{t e:TypeId}{v:Value}{d:DataW H}{p:List MemPlace}{r:Reach}{base:Nat}(ht:P.underlying t=some (.slice e))(he:P.underlying e=some (.int .i64))(hc:P.cellsOf e=1)
 (hval:Value.okWide P W r base t v) (h:DataW.Trod enc P W 0 (fun _=>true) true t v d p):∃zs:List Int,RdS W (fun _=>False) (fun _=>none) (.c (.t (.sl 1 (zs.map fun z=>T.v (.int .i64 z))))) v:=by
 obtain⟨a0,len,cap,rfl⟩:=okWide_slice ht hval
 obtain⟨fuel,hf⟩:=h
 rcases open_ints ht he hc hf with⟨hcs,hx⟩ | ⟨a,len',cap',zs,hcs,_,hl,hm,hz,hx,hcell,hwz⟩
 ·have hv:Value.slice a0 len cap=.slice none 0 0:=by simpa[Value.cells] using hcs
  rw[hv]
  exact⟨[],.inr ⟨.nil 1 (by decide),rfl⟩⟩
 ·have hv:Value.slice a0 len cap=.slice (some a) len' cap':=by simpa[Value.cells] using hcs
  rw[hv]
  have hzl:zs.length=cap':=by simpa using hz
  have hfl:∀l:List Int,flat (l.map fun z=>T.v (.int .i64 z))=l.map fun z=>T.v (.int .i64 z):=fun l=>by
   induction l with
   | nil=>rfl
   | cons z l ih=>rw[List.map_cons,gS,ih];rfl
  refine⟨zs.take len',.inr ⟨?_,rfl⟩⟩
  have key:=Rd.sl (w:=W) (X:=fun _=>False) 1 ((zs.take len').map fun z=>T.v (.int .i64 z)) a cap' ((zs.take len').map fun z=>.int .i64 z) (by decide) (by simp;omega) hm
   (fun t ht=>by obtain⟨z,_,rfl⟩:=List.mem_map.1 ht;rfl) (by rw[hfl];simp)
   (fun i y hi=>by
    rw[List.getElem?_map] at hi
    obtain⟨z,hz1,rfl⟩:=Option.map_eq_some_iff.1 hi
    rw[List.getElem?_take] at hz1
    split at hz1
    ·obtain⟨h1,rfl⟩:=List.getElem?_eq_some_iff.1 hz1
     refine⟨?_,fun h=>h,rfl⟩
     rw[hcell i h1,List.getD_eq_getElem?_getD,List.getElem?_eq_getElem h1];rfl
    ·cases hz1)
   (fun i t y h1 h2=>by
    rw[hfl,List.getElem?_map] at h1
    rw[List.getElem?_map] at h2
    obtain⟨z,hz1,rfl⟩:=Option.map_eq_some_iff.1 h1
    obtain⟨z',hz2,rfl⟩:=Option.map_eq_some_iff.1 h2
    rw[hz1] at hz2;cases hz2
    exact .v _)
  have hln:((zs.take len').map fun z=>T.v (.int .i64 z)).length=len':=by simp;omega
  rw[hln] at key
  exact key
theorem Np{W:World}{v:Value}(h:v.oneCell'=true):RdS W (fun _=>False) (fun _=>none) (.c (.t (.v v))) v:=.inr ⟨.v _,h⟩
theorem Cl{W:World}{X:Nat→Prop}{ρ:fU}{s:S1}{v:Value}(h:RdS W X ρ s v):RdSs W X ρ [s] [v]:=RdSs.cons h ⟨rfl,fun i s y h=>by cases h⟩
theorem Cn{W:World}{X:Nat→Prop}{ρ:fU}{s s':S1}{v v':Value}(h:RdS W X ρ s v)(h':RdS W X ρ s' v'):RdSs W X ρ [s,s'] [v,v']:=RdSs.cons h (Cl h')
section
variable (P:Program)
variable {H:Type}
end
theorem RdT.nil'{w:World}{X:Nat→Prop}:RdT w X [] []:=⟨rfl,fun i t y h=>by simp at h⟩
theorem RdT.one'{w:World}{X:Nat→Prop}{t:T}{y:Value}(h:Rd w X t y)(h1:y.oneCell'=true):RdT w X [t] [y]:=⟨rfl,fun i t' y' e1 e2=>by
 cases i with
 | zero=>simp at e1 e2;subst e1;subst e2;exact⟨h,h1⟩
 | succ i=>simp at e1⟩
section
variable {H:Type} {enc:TypeId×Value→H} {P:Program} {w:World}
end
open Go.RowKit Go.ChangeShapes Go.WideShapes
def Le{R:Type}(x y:Option R):Prop:=∀r,x=some r→y=some r
theorem cA{R:Type}{x:Option R}:Le x x:=fun _ h=>h
theorem dZ{α R:Type}{m m':Option α}{k k':α→Option R}(h:Le m m')(hk:∀a,Le (k a) (k' a)):Le (ob m k) (ob m' k'):=fun r hr=>by
 obtain⟨a,h1,h2⟩:=aB hr
 rw[h a h1]
 exact hk a r h2
theorem aX{R:Type}{c:Bool}{a b a' b':Option R}(h:Le a a')(h':Le b b'):Le (bif c then a else b) (bif c then a' else b'):=by
 cases c
 ·exact h'
 ·exact h
theorem cC{α β R:Type}{q:α⊕β}{f f':α→Option R}{g g':β→Option R}(h:∀x,Le (f x) (f' x))(h':∀x,Le (g x) (g' x)):Le (cP q f g) (cP q f' g'):=by
 cases q with
 | inl x=>exact h x
 | inr x=>exact h' x
theorem VW{S E:Type}{F F':S→Option (S⊕E)}(h:∀s,Le (F s) (F' s)):∀(n:Nat) (s:S),Le (dO F n s) (dO F' n s)
 | 0,s=>fun r hr=>by simp[dO] at hr
 | n+1,s=>fun r hr=>by
  rw[dO] at hr ⊢
  cases hF:F s with
  | none=>rw[hF] at hr;cases hr
  | some q=>
   rw[hF] at hr
   rw[h s q hF]
   cases q with
   | inl s'=>exact VW h n s' r hr
   | inr e=>exact hr
theorem fJ{S E:Type}{F F':S→Option (S⊕E)}(h:∀s,Le (F s) (F' s))(n:Nat)(s:S):Le (dO F n s) (aF F' s):=fun r hr=>lV.2 ⟨n,VW h n s r hr⟩
def Nq:Value→Value→Bool
 | .int k a,.int k' b=>decide (k=k')&&a==b
 | .bool a,.bool b=>a==b
 | .string a,.string b=>a==b
 | .slice none 0 0,.slice none 0 0=>true
 | _,_=>false
theorem Hy{x y:Value}(h:Nq x y=true):x=y:=by
 unfold Nq at h
 split at h
 ·simp only[Bool.and_eq_true,decide_eq_true_eq,beq_iff_eq] at h
  rw[h.1,h.2]
 ·rw[beq_iff_eq.1 h]
 ·rw[(MapKept.bytes_beq _ _).1 h]
 ·rfl
 ·cases h
mutual
def tB:T→T→Bool
 | .v a,.v b=>Nq a b
 | .agg l,.agg m=>Ky l m
 | .sl k l,.sl k' m=>k==k'&&Ky l m
 | _,_=>false
def Ky:List T→List T→Bool
 | [],[]=>true
 | a::l,b::m=>tB a b&&Ky l m
 | _,_=>false
end
mutual
theorem Kz:∀{x y:T},tB x y=true→x=y
 | .v a,.v b,h=>congrArg T.v (Hy (x:=a) (y:=b) (by simpa[tB] using h))
 | .agg l,.agg m,h=>congrArg T.agg (NX (x:=l) (y:=m) (by simpa[tB] using h))
 | .sl k l,.sl k' m,h=>by
  simp only[tB,Bool.and_eq_true,beq_iff_eq] at h
  rw[h.1,NX h.2]
 | .v _,.agg _,h=>by simp[tB] at h
 | .v _,.sl _ _,h=>by simp[tB] at h
 | .agg _,.v _,h=>by simp[tB] at h
 | .agg _,.sl _ _,h=>by simp[tB] at h
 | .sl _ _,.v _,h=>by simp[tB] at h
 | .sl _ _,.agg _,h=>by simp[tB] at h
theorem NX:∀{x y:List T},Ky x y=true→x=y
 | [],[],_=>rfl
 | a::l,b::m,h=>by
  simp only[Ky,Bool.and_eq_true] at h
  rw[Kz h.1,NX h.2]
 | [],_::_,h=>by simp[Ky] at h
 | _::_,[],h=>by simp[Ky] at h
end
class EqB (α:Type) where
 eqv:α→α→Bool
 ok:∀{x y:α},eqv x y=true→x=y
instance:EqB Int:=⟨fun a b=>a==b,fun h=>beq_iff_eq.1 h⟩
instance:EqB Bool:=⟨fun a b=>a==b,fun h=>beq_iff_eq.1 h⟩
instance:EqB ByteArray:=⟨fun a b=>a==b,fun h=>(MapKept.bytes_beq _ _).1 h⟩
instance:EqB T:=⟨tB,Kz⟩
instance:EqB (List T):=⟨Ky,NX⟩
instance:EqB Unit:=⟨fun _ _=>true,fun _=>rfl⟩
instance:EqB Empty:=⟨fun _ _=>true,fun {x _} _=>x.elim⟩
instance {α β:Type} [EqB α] [EqB β]:EqB (α×β):=⟨fun a b=>EqB.eqv a.1 b.1&&EqB.eqv a.2 b.2,fun {x y} h=>by
 simp only[Bool.and_eq_true] at h
 exact Prod.ext (EqB.ok h.1) (EqB.ok h.2)⟩
instance {α β:Type} [EqB α] [EqB β]:EqB (α⊕β):=⟨fun a b=>match a,b with
 | .inl x,.inl y=>EqB.eqv x y
 | .inr x,.inr y=>EqB.eqv x y
 | _,_=>false,fun {x y} h=>by
 cases x <;> cases y <;> first
  | (cases h;done)
  | exact congrArg _ (EqB.ok h)⟩
def La{R:Type}[EqB R](a b:Option R):Option R:=match a,b with
 | some x,some y=>if EqB.eqv x y=true then some x else none
 | _,_=>none
theorem aY{R:Type}[EqB R]{a b a' b':Option R}(h:Le a a')(h':Le b b'):Le (La a b) (HR a' b'):=fun r hr=>by
 unfold La at hr
 split at hr
 ·rename_i x y
  split at hr
  ·rename_i he
   cases hr
   have:=EqB.ok he
   subst this
   exact PX (h _ rfl) (h' _ rfl)
  ·cases hr
 ·cases hr
structure Fr (n:Nat) (env:List (Nat×Value)) (a:Act):Prop where
 size:a.tmps.size=n
 defers:a.defers=[]
 get:∀t v,env.lookup t=some v→a.tmps.getD t undef=v
def o8(env:List (Nat×Value)):Operand→Option Value
 | .tmp t=>env.lookup t
 | .const v=>some v
 | .func f=>some (.func (.func f) #[] #[])
 | .global _=>none
def Fr.all(env:List (Nat×Value)):List (Nat×Value)→Prop
 | []=>True
 | p::l=>env.lookup p.1=some p.2∧Fr.all env l
theorem Fr.all_mem{env:List (Nat×Value)}:∀{l:List (Nat×Value)},Fr.all env l→∀p∈l,env.lookup p.1=some p.2
 | p::l,h,q,hq=>by
  rcases List.mem_cons.1 hq with rfl | hq
  ·exact h.1
  ·exact Fr.all_mem h.2 q hq
theorem TG{l:List (Nat×Value)}{t:Nat}{v:Value}(h:l.lookup t=some v):(t,v)∈l:=by
 induction l with
 | nil=>cases h
 | cons p l ih=>
  obtain⟨k,u⟩:=p
  rw[List.lookup_cons] at h
  by_cases hk:t=k
  ·subst hk;simp at h;subst h;exact List.mem_cons_self ..
  ·rw[beq_eq_false_iff_ne.2 hk] at h
   exact List.mem_cons_of_mem _ (ih h)
section
variable {P:Program} {n:Nat} {env:List (Nat×Value)} {a:Act} {w w':World} {Q:Exit→Act→World→Prop} {o:Oper} {next:Act→World→Prop}
theorem Fr.weak{e2:List (Nat×Value)}(h:Fr n env a)(hs:Fr.all env e2):Fr n e2 a:=
 ⟨h.size,h.defers,fun t v hl=>h.get t v (Fr.all_mem hs _ (TG hl))⟩
theorem Fr.ev(h:Fr n env a){x:Operand}{v:Value}(hx:o8 env x=some v):a.eval x=v:=by
 cases x with
 | tmp t=>exact h.get t v hx
 | const u=>cases hx;rfl
 | func f=>cases hx;rfl
 | global g=>cases hx
theorem Fr.put(h:Fr n env a){d:Nat}(hd:d<n)(v:Value):Fr n ((d,v)::env) (a.put (some d) v):=by
 refine⟨by simp[Act.put,h.size],h.defers,fun t u hl=>?_⟩
 simp only[Act.put,Array.getD_eq_getD_getElem?,Array.getElem?_setIfInBounds]
 rw[List.lookup_cons] at hl
 by_cases ht:t=d
 ·subst ht
  simp at hl
  rw[if_pos rfl,if_pos (by rw[h.size];exact hd)]
  simp[hl]
 ·rw[beq_eq_false_iff_ne.2 ht] at hl
  rw[if_neg (fun e=>ht e.symm),←Array.getD_eq_getD_getElem?]
  exact h.get t u hl
def RP(P:Program)(Q:Exit→Act→World→Prop):List Oper→Act→World→Prop
 | [],a,w=>Q .normal a w
 | o::l,a,w=>o.wp P a w (fun a w=>RP P Q l a w) Q
theorem IP{ops:Array Oper}(hg:ops.all (fun o=>o.guard.isNone)=true):∀(l:List Oper) (k:Nat),ops.toList.drop k=l→∀{a:Act} {w:World},RP P Q l a w→wpOps P ops Q (List.range' k l.length) a w
 | [],k,_,a,w,h=>h
 | o::l,k,hk,a,w,h=>by
  have hlt:k<ops.size:=by
   rcases Nat.lt_or_ge k ops.size with h' | h'
   ·exact h'
   ·rw[List.drop_of_length_le (by rw[Array.length_toList];exact h')] at hk;cases hk
  have ho:ops[k]?=some o:=by
   have:=congrArg (fun z=>z[0]?) hk
   simp only[List.getElem?_drop,Nat.add_zero,List.getElem?_cons_zero,Array.getElem?_toList] at this
   exact this
  have hg':o.guard=none:=by
   have:=Array.all_eq_true'.1 hg o (Array.mem_of_getElem? ho)
   cases hgo:o.guard with
   | none=>rfl
   | some x=>rw[hgo] at this;cases this
  have hw:Region.wanted o (yielded ops a.tmps)=true:=by simp[Region.wanted,hg']
  rw[List.length_cons,List.range'_succ]
  simp only[wpOps,ho]
  rw[if_pos hw]
  have hd:ops.toList.drop (k+1)=l:=by rw[←List.drop_drop,hk];rfl
  refine .inl ?_
  unfold RP at h
  exact Oper.wp_mono (fun a' w' h'=>IP hg l (k+1) hd h') h
theorem a9{id:Nat}{ops:Array Oper}(hg:ops.all (fun o=>o.guard.isNone)=true)(h:RP P Q ops.toList a w):(Code.region id ops false).wp P Q a w:=by
 refine wp_region ?_
 have:=IP (P:=P) (Q:=Q) hg ops.toList 0 (by simp) h
 rw[Array.length_toList] at this
 rw[List.range_eq_range']
 exact this
theorem xS{d:Nat}{v:Value}(hf:Fr n env a)(hd:o.dst=some d)(hlt:d<n)(hrun:(execOp a.eval o).run P w=.ok (.value v) w')(hn:∀a',Fr n ((d,v)::env) a'→next a' w'):o.wp P a w next Q:=by
 refine D5 hrun ?_
 rw[hd]
 exact hn _ (hf.put hlt v)
theorem Hz(hf:Fr n env a)(hd:o.dst=none)(hrun:(execOp a.eval o).run P w=.ok .skip w')(hn:∀a',Fr n env a'→next a' w'):o.wp P a w next Q:=by
 unfold Oper.wp
 rw[hrun]
 show next (a.put o.dst undef) w'
 rw[hd]
 exact hn _ hf
theorem iA{x:Operand}{v:Value}(hf:Fr n env a)(hop:o.op=.move x)(hx:o8 env x=some v):(execOp a.eval o).run P w=.ok (.value v) w:=by unfold execOp;rw[hop];simp only[hf.ev hx];rfl
theorem aI{d:Nat}{x:Operand}{v:Value}(hf:Fr n env a)(hop:o.op=.move x)(hd:o.dst=some d)(hlt:d<n)(hx:o8 env x=some v)(hn:∀a',Fr n ((d,v)::env) a'→next a' w):o.wp P a w next Q:=
 xS hf hd hlt (iA hf hop hx) hn
theorem aQ{d:Nat}{x:Operand}{v:Value}(hf:Fr n env a)(hop:o.op=.assign x)(hd:o.dst=some d)(hlt:d<n)(hx:o8 env x=some v)(hn:∀a',Fr n ((d,v)::env) a'→next a' w):o.wp P a w next Q:=
 xS hf hd hlt (by unfold execOp;rw[hop];simp only[hf.ev hx];rfl) hn
def dV(v:Value):D:=.s (.c (.t (.v v)))
theorem Co{op:BinOp}{t yt:TypeId}{x y:Operand}{vx vy v:Value}(hf:Fr n env a)(hop:o.op=.binOp op t x y yt)(hx:o8 env x=some vx)(hy:o8 env y=some vy)
 (h1:vx.oneCell'=true) (h2:vy.oneCell'=true) (hk:zS P op t yt (dV vx) (dV vy) some=some (dV v)):(execOp a.eval o).run P w=.ok (.value v) w:=by
 obtain⟨d',v',e1,e2,e3⟩:=UK (P:=P) (w:=w) (X:=fun _=>False) (ρ:=fun _=>none) (xo:=x) (yo:=y) (.val h1) (.val h2) hk
 cases e3
 have e4:v'=v:=by
  rcases e2 with e2 | ⟨e2,_⟩
  ·cases e2
  ·exact Rd.inv_v e2
 subst e4
 unfold execOp;rw[hop];simp only[hf.ev hx,hf.ev hy,Sem.run_bind] at e1 ⊢;simp only[e1,Result.andThen_ok];rfl
theorem dA{d:Nat}{op:BinOp}{t yt:TypeId}{x y:Operand}{vx vy v:Value}(hf:Fr n env a)(hop:o.op=.binOp op t x y yt)(hd:o.dst=some d)(hlt:d<n)(hx:o8 env x=some vx)(hy:o8 env y=some vy)
 (h1:vx.oneCell'=true) (h2:vy.oneCell'=true) (hk:zS P op t yt (dV vx) (dV vy) some=some (dV v)) (hn:∀a',Fr n ((d,v)::env) a'→next a' w):o.wp P a w next Q:=
 xS hf hd hlt (Co hf hop hx hy h1 h2 hk) hn
theorem Nr{d:Nat}{x:Operand}{t e:TypeId}{p:Option Addr}{l c:Nat}(hf:Fr n env a)(hop:o.op=.call { callee:=.builtin .len,args:=#[x],argTypes:=#[t] })(hd:o.dst=some d)(hlt:d<n)(hu:P.underlying t=some (.slice e))
 (hx:o8 env x=some (.slice p l c)) (hn:∀a',Fr n ((d,.int .i64 l)::env) a'→next a' w):o.wp P a w next Q:=by
 refine xS hf hd hlt ?_ hn
 have hexec:execOp a.eval o=builtin .len #[t] o.type (#[x].map fun | .const _=>true | _=>false) (#[x].map a.eval):=by
  unfold execOp;rw[hop];rfl
 rw[hexec]
 simp only[builtin,List.map_toArray,List.map_cons,List.map_nil,hf.ev hx,Sem.run_bind]
 unfold Builtin.len_
 simp only[List.getElem?_toArray,List.getElem?_cons_zero,Sem.run_bind,run_underlying hu,Result.andThen_ok]
 rfl
theorem xT{x ix:Operand}{t e:TypeId}{A:Addr}{l c m:Nat}{i:Int}(hf:Fr n env a)(hop:o.op=.indexAddr t x ix)(hu:P.underlying t=some (.slice e))(hm:o4 P e=some m)
 (hx:o8 env x=some (.slice (some A) l c)) (hi:o8 env ix=some (.int .i64 i)) (h0:0≤i) (h1:i<l):(execOp a.eval o).run P w=.ok (.value (.pointer (some (A.add (i.toNat*m))))) w:=by
 have h:(Instr.indexAt t (.slice (some A) l c) (.int .i64 i)).run P w=.ok (.pointer (some (A.add (i.toNat*m)))) w:=by
  unfold Instr.indexAt
  simp only[asIntOf,Sem.run_bind,Sem.run_pure,run_underlying hu,Result.andThen_ok]
  rw[Sem.run_ite,if_pos (by omega)]
  simp only[Sem.run_bind,bE hm,Result.andThen_ok,Sem.run_pure]
 unfold execOp;rw[hop];simp only[hf.ev hx,hf.ev hi,Sem.run_bind,h,Result.andThen_ok];rfl
theorem qM{d:Nat}{x ix:Operand}{t e:TypeId}{A:Addr}{l c m:Nat}{i:Int}(hf:Fr n env a)(hop:o.op=.indexAddr t x ix)(hd:o.dst=some d)(hlt:d<n)(hu:P.underlying t=some (.slice e))(hm:o4 P e=some m)
 (hx:o8 env x=some (.slice (some A) l c)) (hi:o8 env ix=some (.int .i64 i)) (h0:0≤i) (h1:i<l) (hn:∀a',Fr n ((d,.pointer (some (A.add (i.toNat*m))))::env) a'→next a' w):o.wp P a w next Q:=
 xS hf hd hlt (xT hf hop hu hm hx hi h0 h1) hn
theorem NY{x:Operand}{t:TypeId}{A:Addr}{y:Value}(hf:Fr n env a)(hop:o.op=.load t x)(hs:o4 P t=some 1)(hb:p8 P t=some false)(hx:o8 env x=some (.pointer (some A)))(hc:w.cell? A=some y):(execOp a.eval o).run P w=.ok (.value y) w:=by
 have h:(Instr.loadAt t (.pointer (some A))).run P w=.ok y w:=by
  simp only[Instr.loadAt,Instr.sureAddr,Sem.run_bind,Sem.run_pure,Result.andThen_ok]
  exact lR (ys:=[y]) hs hb (fun _=>rfl) rfl fun i u hi=>by
   cases i with
   | zero=>cases hi;exact hc
   | succ i=>simp at hi
 unfold execOp;rw[hop];simp only[hf.ev hx,Sem.run_bind,h,Result.andThen_ok];rfl
theorem u3{d:Nat}{x:Operand}{t:TypeId}{A:Addr}{y:Value}(hf:Fr n env a)(hop:o.op=.load t x)(hd:o.dst=some d)(hlt:d<n)(hs:o4 P t=some 1)(hb:p8 P t=some false)(hx:o8 env x=some (.pointer (some A)))
 (hc:w.cell? A=some y) (hn:∀a',Fr n ((d,y)::env) a'→next a' w):o.wp P a w next Q:=
 xS hf hd hlt (NY hf hop hs hb hx hc) hn
theorem IQ{x y:Operand}{t ty:TypeId}{g j:Nat}{v:Value}{cur:Array Value}(hf:Fr n env a)(hop:o.op=.store t x y)(hd:o.dst=none)(hs:o4 P t=some 1)(hx:o8 env x=some (.pointer (some ⟨g,j,none⟩)))(hy:o8 env y=some v)
 (h1:v.oneCell'=true) (hg:w.heap[g]?=some (.cells cur ty (0,0))) (hj:j<cur.size)
 (hn:∀a',Fr n env a'→next a' (w.setRow g (cur.toList.set j v).toArray)):o.wp P a w next Q:=by
 refine Hz hf hd ?_ hn
 have hc:v.cells=#[v]:=yY h1
 have h:=pN (P:=P) (w:=w) (t:=t) (j:=j) (v:=v) hs (by rw[hc];rfl) hg (by omega) (by rw[hc];simpa using h1)
 have e:cur.toList.take j++v.cells.toList++cur.toList.drop (j+1)=cur.toList.set j v:=by
  rw[hc,List.set_eq_take_append_cons_drop,if_pos (by rw[Array.length_toList];exact hj)]
  simp
 rw[e] at h
 have h':(Instr.storeAt t (.pointer (some ⟨g,j,none⟩)) v).run P w=.ok () (w.setRow g (cur.toList.set j v).toArray):=by
  simp only[Instr.storeAt,Instr.sureAddr,Sem.run_bind,Sem.run_pure,Result.andThen_ok]
  exact h
 unfold execOp;rw[hop];simp only[hf.ev hx,hf.ev hy,Sem.run_bind,h',Result.andThen_ok];rfl
theorem IR{x lo:Operand}{t e:TypeId}{A:Addr}{l c m:Nat}{i:Int}(hf:Fr n env a)(hop:o.op=.slice t x (some lo) none none)(hu:P.underlying t=some (.slice e))(hm:o4 P e=some m)
 (hx:o8 env x=some (.slice (some A) l c)) (hi:o8 env lo=some (.int .i64 i)) (h0:0≤i) (h1:i≤l) (hc:l≤c):(execOp a.eval o).run P w=.ok (.value (.slice (if c=i.toNat then some A else some (A.add (i.toNat*m))) (l-i.toNat) (c-i.toNat))) w:=by
 have h:(Instr.sliceAt t (.slice (some A) l c) (some (.int .i64 i)) none none).run P w=.ok (.slice (if c=i.toNat then some A else some (A.add (i.toNat*m))) (l-i.toNat) (c-i.toNat)) w:=by
  unfold Instr.sliceAt
  simp only[Sem.run_bind,run_underlying hu,Result.andThen_ok]
  unfold Instr.slice
  simp only[Sem.run_bind,run_underlying hu,Result.andThen_ok]
  rw[qB (h:=(l:Int)) (.inr ⟨.i64,rfl⟩) (.inl ⟨rfl,rfl⟩) (by omega) (Int.le_refl _) hc h0 h1]
  simp only[Result.andThen_ok,bE hm,Sem.run_bind,Sem.run_pure,Int.toNat_natCast,Option.map_some]
 unfold execOp;rw[hop];simp only[hf.ev hx,Option.map_some,Option.map_none,hf.ev hi,Sem.run_bind,h,Result.andThen_ok];rfl
theorem YX{x hi mx:Operand}{t e:TypeId}{A:Addr}{l c m:Nat}{i:Int}(hf:Fr n env a)(hop:o.op=.slice t x none (some hi) (some mx))(hu:P.underlying t=some (.slice e))(hm:o4 P e=some m)
 (hx:o8 env x=some (.slice (some A) l c)) (hh:o8 env hi=some (.int .i64 i)) (hhm:o8 env mx=some (.int .i64 i)) (h0:0≤i) (h1:i≤c):(execOp a.eval o).run P w=.ok (.value (.slice (if i.toNat=0 then some A else some (A.add (0*m))) i.toNat i.toNat)) w:=by
 have h:(Instr.sliceAt t (.slice (some A) l c) none (some (.int .i64 i)) (some (.int .i64 i))).run P w=.ok (.slice (if i.toNat=0 then some A else some (A.add (0*m))) i.toNat i.toNat) w:=by
  unfold Instr.sliceAt
  simp only[Sem.run_bind,run_underlying hu,Result.andThen_ok]
  unfold Instr.slice
  simp only[Sem.run_bind,run_underlying hu,Result.andThen_ok]
  rw[vU (l:=0) (.inl ⟨rfl,rfl⟩) h0 h1 h0 (Int.le_refl _) (Int.le_refl _) h0]
  simp only[Result.andThen_ok,bE hm,Sem.run_bind,Sem.run_pure,Int.toNat_zero,Option.map_some,Nat.sub_zero]
 unfold execOp;rw[hop];simp only[hf.ev hx,Option.map_some,Option.map_none,hf.ev hh,hf.ev hhm,Sem.run_bind,h,Result.andThen_ok];rfl
theorem EG{d:Nat}{x y:Operand}{t e:TypeId}{i:TypeInfo}{z v vy:Value}{m q:Nat}{xs news:List Value}(hf:Fr n env a)(hop:o.op=.call { callee:=.builtin .append,args:=#[x,y],argTypes:=#[t,t] })(hd:o.dst=some d)(hlt:d<n)
 (ht:P.underlying t=some (.slice e)) (hi:P.info? e=some i) (hz:i.zero=some z) (hzs:z.cells.size=i.size) (hsz:0<i.size)
 (hx:o8 env x=some v) (hy:o8 env y=some vy) (hown:rowAt w e i.size v m xs) (hs:Src P i.size t vy q news w) (h63:m+q≤maxLen) (hb:(m+q)*i.bytes≤140737488355328)
 (hn:∀a' v' w',Fr n ((d,v')::env) a'→rowAt w' e i.size v' (m+q) (xs++news)→w.grownBy w' (blk v)→(blk v'=blk v∨blk v'=some w.heap.size)→next a' w'):o.wp P a w next Q:=by
 obtain⟨v',w',e1,e2,e3,e4⟩:=mE (P:=P) (ty:=o.type) ht hi hz hzs hsz hown hs h63 hb
 refine xS (w':=w') (v:=v') hf hd hlt ?_ fun a' hf'=>hn a' v' w' hf' e2 e3 e4
 have hexec:execOp a.eval o=builtin .append #[t,t] o.type (#[x,y].map fun | .const _=>true | _=>false) (#[x,y].map a.eval):=by
  unfold execOp;rw[hop];rfl
 rw[hexec]
 simp only[builtin,List.map_toArray,List.map_cons,List.map_nil,hf.ev hx,hf.ev hy,Sem.run_bind,e1,Result.andThen_ok]
 rfl
def KN:Nat→List Value→List (Nat×Value)
 | _,[]=>[]
 | k,v::l=>(k,v)::KN (k+1) l
theorem Cp(vs:List Value):∀(k:Nat) (cells:Array Value),(∀v∈vs,v.oneCell'=true)→k+vs.length≤cells.size →
 Instr.fill (fun i=>some (i*1,1)) cells (KN k vs)=some (cells.toList.take k++vs++cells.toList.drop (k+vs.length)).toArray:=by
 induction vs with
 | nil=>intro k cells _ _;simp[KN,Instr.fill]
 | cons v vs ih=>
  intro k cells h1 hk
  simp only[List.length_cons] at hk
  have hc:v.cells=#[v]:=yY (h1 v (List.mem_cons_self ..))
  simp only[KN,Instr.fill,hc]
  rw[if_neg (by simp;omega)]
  have e1:(#[v].zipIdx.foldl (fun(cs:Array Value) (x:Value×Nat)=>match x with | (c,j)=>cs.setIfInBounds (k*1+j) c) cells)=cells.setIfInBounds k v:=by simp
  rw[e1,ih (k+1) _ (fun u hu=>h1 u (List.mem_cons_of_mem _ hu)) (by rw[Array.size_setIfInBounds];omega)]
  congr 2
  have hs:(cells.setIfInBounds k v).toList=cells.toList.take k++v::cells.toList.drop (k+1):=by
   rw[Array.toList_setIfInBounds,List.set_eq_take_append_cons_drop,if_pos (by rw[Array.length_toList];omega)]
  have hlo:(cells.toList.take k).length=k:=by rw[List.length_take,Array.length_toList];omega
  rw[hs]
  have e2:(cells.toList.take k++v::cells.toList.drop (k+1)).take (k+1)=cells.toList.take k++[v]:=by
   rw[List.take_append,hlo,List.take_of_length_le (by omega),Nat.add_sub_cancel_left];rfl
  have e3:(cells.toList.take k++v::cells.toList.drop (k+1)).drop (k+1+vs.length)=cells.toList.drop (k+(vs.length+1)):=by
   rw[List.drop_append,hlo,List.drop_of_length_le (by omega),List.nil_append,show k+1+vs.length-k=vs.length+1 by omega,List.drop_succ_cons,List.drop_drop]
   congr 1;omega
  rw[e2,e3,List.length_cons]
  simp
theorem QJ(w:World)(e:TypeId)(vs:List Value)(hpos:0<vs.length)(hmax:vs.length≤maxLen):rowAt (w.alloc (.cells vs.toArray e)) e 1 (.slice (some ⟨w.heap.size,0,none⟩) vs.length vs.length) vs.length vs:=
 ⟨by omega,.inr ⟨w.heap.size,0,vs.length,vs.toArray,rfl,hpos,heap_alloc_new w _,Nat.le_refl _,hmax,by simp,by simp⟩⟩
theorem Rm{d len:Nat}{t e:TypeId}{i:TypeInfo}{z:Value}{parts:Array (Nat×Operand)}{vs:List Value}(hf:Fr n env a)(hop:o.op=.buildSlice t len parts)(hd:o.dst=some d)(hlt:d<n)
 (ht:P.underlying t=some (.slice e)) (hi:P.info? e=some i) (hz:i.zero=some z) (hzs:z.cells.size=1) (hsz:i.size=1)
 (hp:(parts.map fun(i,x)=>(i,a.eval x)).toList=KN 0 vs) (hl:vs.length=len) (hpos:0<len) (hmax:len≤1000) (h1:∀v∈vs,v.oneCell'=true)
 (hn:∀a',Fr n ((d,.slice (some ⟨w.heap.size,0,none⟩) len len)::env) a'→rowAt (w.alloc (.cells vs.toArray e)) e 1 (.slice (some ⟨w.heap.size,0,none⟩) len len) len vs→next a' (w.alloc (.cells vs.toArray e))):o.wp P a w next Q:=by
 subst hl
 refine xS hf hd hlt ?_ fun a' hf'=>hn a' hf' (QJ w e vs hpos (by simp only[maxLen];omega))
 have hpp:(parts.map fun(i,x)=>(i,a.eval x))=(KN 0 vs).toArray:=by rw[←hp]
 have hsO:o4 P e=some 1:=by simp[o4,hi,hsz]
 have h:(Instr.buildSlice t vs.length (parts.map fun(i,x)=>(i,a.eval x))).run P w=.ok (.slice (some ⟨w.heap.size,0,none⟩) vs.length vs.length) (w.alloc (.cells vs.toArray e)):=by
  rw[hpp]
  unfold Instr.buildSlice
  simp only[Sem.run_bind,run_underlying ht,Result.andThen_ok,bE hsO]
  rw[if_neg (by omega),if_neg (by omega)]
  simp only[Sem.run_bind,e8 hi hz,Result.andThen_ok,Sem.run_pure]
  have hf:=Cp vs 0 ((Array.range (vs.length*1)).map (fun x=>z.cells[x%z.cells.size]!)) h1 (by simp)
  rw[hf]
  have e:(((Array.range (vs.length*1)).map (fun x=>z.cells[x%z.cells.size]!)).toList.take 0++vs++((Array.range (vs.length*1)).map (fun x=>z.cells[x%z.cells.size]!)).toList.drop (0+vs.length)).toArray=vs.toArray:=by
   simp
  rw[e]
  simp[newRow]
 unfold execOp;rw[hop]
 simp only[Sem.run_bind,h,Result.andThen_ok];rfl
def BL(env:List (Nat×Value)):List (Nat×Operand)→Option (List (Nat×Value))
 | []=>some []
 | p::l=>match o8 env p.2,BL env l with
  | some v,some q=>some ((p.1,v)::q)
  | _,_=>none
theorem L4(hf:Fr n env a):∀{l:List (Nat×Operand)} {q:List (Nat×Value)},BL env l=some q→(l.map fun(i,x)=>(i,a.eval x))=q
 | [],q,h=>by cases h;rfl
 | p::l,q,h=>by
  simp only[BL] at h
  split at h
  ·rename_i v q' h1 h2
   cases h
   rw[List.map_cons,L4 hf h2]
   show (p.1,a.eval p.2)::q'=_
   rw[hf.ev h1]
  ·cases h
theorem NZ{d len:Nat}{t e:TypeId}{i:TypeInfo}{z:Value}{parts:Array (Nat×Operand)}{vs:List Value}(hf:Fr n env a)(hop:o.op=.buildSlice t len parts)(hd:o.dst=some d)(hlt:d<n)
 (ht:P.underlying t=some (.slice e)) (hi:P.info? e=some i) (hz:i.zero=some z) (hzs:z.cells.size=1) (hsz:i.size=1)
 (hp:BL env parts.toList=some (KN 0 vs)) (hl:vs.length=len) (hpos:0<len) (hmax:len≤1000) (h1:∀v∈vs,v.oneCell'=true)
 (hn:∀a',Fr n ((d,.slice (some ⟨w.heap.size,0,none⟩) len len)::env) a'→rowAt (w.alloc (.cells vs.toArray e)) e 1 (.slice (some ⟨w.heap.size,0,none⟩) len len) len vs→next a' (w.alloc (.cells vs.toArray e))):o.wp P a w next Q:=
 Rm hf hop hd hlt ht hi hz hzs hsz (by rw[Array.toList_map];exact L4 hf hp) hl hpos hmax h1 hn
theorem xU{c:Code}{m:Nat}(I:Nat→Act→World→Prop)(h0:∀(K:Act→World→Prop) a w,I 0 a w→c.wp P (Exit.then K Q) a w)(hs:∀m (K:Act→World→Prop),(∀a w,I m a w→K a w)→∀a w,I (m+1) a w→c.wp P (Exit.then K Q) a w)(hi:I m a w):(Code.loop c).wp P Q a w:=by
 refine wp_loop_rounds (m+1) ?_
 induction m generalizing a w with
 | zero=>rw[rounds_succ];exact h0 _ a w hi
 | succ m ih=>rw[rounds_succ];exact hs m _ (fun a w h=>ih h) a w hi
def Qm(env:List (Nat×Value)):List Operand→Option (List Value)
 | []=>some []
 | x::l=>match o8 env x,Qm env l with
  | some v,some q=>some (v::q)
  | _,_=>none
theorem Cq(hf:Fr n env a):∀{l:List Operand} {q:List Value},Qm env l=some q→l.map a.eval=q
 | [],q,h=>by cases h;rfl
 | x::l,q,h=>by
  simp only[Qm] at h
  split at h
  ·rename_i v q' h1 h2
   cases h
   rw[List.map_cons,Cq hf h2,hf.ev h1]
  ·cases h
theorem N0{d:Nat}{c:Call}{f:FuncId}{vals:List Value}{R':Ending→World→Prop}(hf:Fr n env a)(hop:o.op=.call c)(hc:c.callee=.value (.func f))(hd:o.dst=some d)(hlt:d<n)(hcall:qC P f)(hv:Qm env c.args.toList=some vals)
 (hC:Calls P f vals.toArray w R') (hn:∀e w',R' e w'→∃v,e=.returned v∧∀a',Fr n ((d,v)::env) a'→next a' w'):o.wp P a w next Q:=by
 have hexec:execOp a.eval o=(do let d ←resolve a.eval c o.type;invoke d.target d.args):=by
  unfold execOp;rw[hop]
 have hinv:(execOp a.eval o).run P w=(callFunc f vals.toArray).run P w:=by
  rw[hexec,←Cq hf hv]
  unfold resolve
  have hfv:a.eval (.func f)=.func (.func f) #[] #[]:=rfl
  simp only[hc,hfv,Deferred.ofValue,Sem.run_bind,Sem.run_pure,Result.andThen_ok,invoke]
  congr 2
  apply Array.ext'
  simp
 unfold Oper.wp
 rw[hinv,uV hcall]
 refine hC.mono fun e w' h=>?_
 obtain⟨v,rfl,hk⟩:=hn e w' h
 show next (a.put o.dst v) w'
 rw[hd]
 exact hk _ (hf.put hlt v)
theorem iF{d:Nat}{v:Value}{K:Act→Prop}(hf:Fr n env a)(hd:o.dst=some d)(hlt:d<n)(hrun:(execOp a.eval o).run P w=.ok (.value v) w)(hn:∀a',Fr n ((d,v)::env) a'→K a'):o.still P a w K:=by
 unfold Oper.still
 rw[hrun,Oper.stillUpon_value,hd]
 exact hn _ (hf.put hlt v)
theorem TH{ops:Array Oper}{K:Act→Prop}{l:List Oper}(hg:o.guard=none)(h:o.still P a w (wpStill P ops w K l)):wpStill P ops w K (o::l) a:=by
 unfold wpStill
 rw[if_pos (by simp[Region.wanted,hg])]
 exact h
theorem YY{ops:Array Oper}{l:List Oper}(hg:o.guard=none)(h:o.wp P a w (wpList P ops Q l) Q):wpList P ops Q (o::l) a w:=by
 unfold wpList
 rw[if_pos (by simp[Region.wanted,hg])]
 exact .inl h
theorem EH{ops:Array Oper}{i fuel:Nat}{listed:Array Bool}(hr:Region.ready .any ops listed=[i])(ho:ops[i]?=some o)(hg:o.guard=none)(h:o.wp P a w (wpAny P .any ops Q fuel (listed.setIfInBounds i true)) Q):wpAny P .any ops Q (fuel+1) listed a w:=by
 refine wpAny_all hr (by simp) fun j hj=>?_
 rw[List.mem_singleton] at hj
 subst hj
 unfold wpOp
 rw[ho]
 simp only[Region.wanted,hg,if_true]
 exact .inl h
theorem Ia{ops:Array Oper}{i j fuel:Nat}{o1 o2:Oper}{listed:Array Bool}(hr:Region.ready .any ops listed=[i,j])(ho:ops[i]?=some o1)(ho2:ops[j]?=some o2)(hg:o1.guard=none)(hg2:o2.guard=none)(h:o1.wp P a w (wpAny P .any ops Q fuel (listed.setIfInBounds i true)) Q)
 (h2:o2.wp P a w (wpAny P .any ops Q fuel (listed.setIfInBounds j true)) Q):wpAny P .any ops Q (fuel+1) listed a w:=by
 refine wpAny_all hr (by simp) fun q hq=>?_
 simp only[List.mem_cons,List.not_mem_nil,or_false] at hq
 rcases hq with rfl | rfl
 ·unfold wpOp
  rw[ho]
  simp only[Region.wanted,hg,if_true]
  exact .inl h
 ·unfold wpOp
  rw[ho2]
  simp only[Region.wanted,hg2,if_true]
  exact .inl h2
theorem tE{ops:Array Oper}{i d fuel:Nat}{v:Value}{listed:Array Bool}(hf:Fr n env a)(ho:ops[i]?=some o)(hs:Region.noSelect ops=true)(hfr:Region.free .any ops listed i=true)(hr:(Region.ready .any ops listed).contains i=true)(hQ:∀c a d v w,Q (.panic c) (a.put d v) w→Q (.panic c) a w)(hg:o.guard=none)
 (hd:o.dst=some d) (hlt:d<n) (hrun:∀w,(execOp a.eval o).run P w=.ok (.value v) w) (hn:∀a',Fr n ((d,v)::env) a'→wpAny P .any ops Q fuel (listed.setIfInBounds i true) a' w):wpAny P .any ops Q (fuel+1) listed a w:=by
 refine wpAny_take (v:=v) ho hs hfr hr (fun c a w h=>hQ c a _ _ w h) (.inl ⟨by simp[Region.wanted,hg],hrun⟩) ?_
 rw[hd]
 exact hn _ (hf.put hlt v)
def Tz(P:Program)(w:World)(K:Act→Prop):List Oper→Act→Prop
 | [],a=>K a
 | o::l,a=>o.still P a w (Tz P w K l)
theorem L5{ops:Array Oper}{K K':Act→Prop}(hk:∀a,K a→K' a):∀(l:List Oper) {a:Act},l.all (fun o=>o.guard.isNone)=true→Tz P w K l a→wpStill P ops w K' l a
 | [],a,_,h=>hk a h
 | o::l,a,hg,h=>by
  rw[List.all_cons,Bool.and_eq_true] at hg
  refine TH (Option.isNone_iff_eq_none.1 hg.1) (Oper.still_mono (fun a' h'=>L5 hk l hg.2 h') h)
theorem QK{ops:Array Oper}:∀(l:List Oper) {a:Act} {w:World},l.all (fun o=>o.guard.isNone)=true→RP P Q l a w→wpList P ops Q l a w
 | [],a,w,_,h=>h
 | o::l,a,w,hg,h=>by
  rw[List.all_cons,Bool.and_eq_true] at hg
  exact YY (Option.isNone_iff_eq_none.1 hg.1) (Oper.wp_mono (fun a' w' h'=>QK l hg.2 h') h)
theorem N1{id:Nat}{l:List Oper}(k:Nat)(hm:P.follows .mixedOrders=true)(hB:Region.lexTailB .any l.toArray k=true)(hg:l.all (fun o=>o.guard.isNone)=true)
 (h:Tz P w.drew (fun a'=>RP P Q (l.drop k) a' w.drew) (l.take k) a):(Code.region id l.toArray true).wp P Q a w:=by
 rw[List.all_eq_true] at hg
 exact wp_region_still_tail k hm hB (L5 (fun a' h'=>QK _ (List.all_eq_true.2 fun o ho=>hg o (List.mem_of_mem_drop ho)) h') _ (List.all_eq_true.2 fun o ho=>hg o (List.mem_of_mem_take ho)) h)
def nA(f:Func):Code:=f.body.getD .skip
end
section
variable {R:Type} (P:Program) (Γ:FuncId→Option Callee) (dok:Array Oper→Bool)
end
section
variable {R:Type} {P:Program} {Γ:FuncId→Option Callee} {dok:Array Oper→Bool}
theorem RdRes.res{w:World}{X:Nat→Prop}{ρ:fU}{rs:List S1}{v:Value}(h:RdRes w X ρ rs v):RdD w X ρ (R1 rs) v:=by
 match rs with
 | [s]=>exact h
 | []=>exact h
 | s1::s2::l=>exact h
end
end Go.Eng
/- One theorem for each function: what is proved of a printed function,in one line. -/
namespace Go.Eng
abbrev I6:Sh:=.int .i64
def HT.l(x:HT):HT:=.seq .leaf x
theorem TabOK.cs{P:Program}{pl:List Nat}{f:FuncId}{sg:Sig}{U:m9 sg.hin.shapes→Option (m9 sg.hout.shapes)}{fn:Func}{l:List (FuncId×Callee)}(hf:P.funcs[f]?=some fn)(hA:(aD sg U).OK P f)(hl:TabOK P pl l)
 (h1:fn.body.isSome=true:=by kernel_rfl) (h2:(fn.name == "runtime.NumGoroutine")=false:=by kernel_rfl) (h3:((!pl.contains f||NV sg)&&(!pl.contains (f+1000000)&&(!(f==2000000)&&!(f==2000002))))=true:=by kernel_rfl):TabOK P pl ((f,aD sg U)::l):=by
 simp only[Bool.and_eq_true,Bool.not_eq_true'] at h3
 obtain⟨a,b,c,d⟩:=h3
 refine TabOK.cons (fun _=>⟨fn,hf,h1,h2⟩) hA (CQ _ _) (fun h=>?_) b (fun _=>NP (CQ _ _) rfl rfl) c hl d
 rw[h] at a
 exact KM (by simpa using a)
theorem vS{P:Program}(hm:P.follows .mixedOrders=true){l:List (FuncId×Callee)}(pl:List Nat){f:FuncId}{fn:Func}(t:HT){sg:Sig}{U:m9 sg.hin.shapes→Option (m9 sg.hout.shapes)}
 (hΓ:TabOK P pl l) (hf:P.funcs[f]?=some fn) (hU:∀x,FR P l pl t fn sg x=U x) (ht:GG t fn=true:=by kernel_rfl) (hs:sg.ok fn.ntmps=true:=by kernel_rfl):(aD sg U).OK P f:=
 TE hm hΓ hf ht hs hU
end Go.Eng
