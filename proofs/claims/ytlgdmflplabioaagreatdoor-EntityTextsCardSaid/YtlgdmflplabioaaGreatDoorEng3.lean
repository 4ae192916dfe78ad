/- An engine that turns the code of a function into a plain function on tuples, part 3: what it says of a function holds of every run; it has no conditions of its own. -/
import Derived.Shelf.Vars
import Derived.ProofKit
import Derived.HandedShaped
import Derived.OpenShut
import Derived.MapKept
import Derived.StillTail
import Derived.RangeFuncNested
import Derived.RangeFuncLeaves
import Derived.TacticsIn
import Derived.OrdersIn
import Derived.Laws.Externs
import Derived.Test.YtlgdmflplabioaaGreatDoorEng2
set_option linter.unusedSimpArgs false
set_option linter.unusedVariables false
namespace Go.Eng
open Go.RowKit
def Inl.Nat(I:Inl):Prop:=∀{R:Type} (st:St) (dst:Option _root_.Nat) (ds:List D) (k:St→D→Option R),I.go st dst ds k=(I.go st.bare dst ds fun s d=>some (s.objs,d)).bind fun p=>k { st with objs:=p.1 } p.2
def Callee.Nat0(A:Callee):Prop:=∀{R:Type} (args:List S1) (po:List O) (k:List S1→List O→Option R),A.call args po k=(A.call args po fun rs po'=>some (rs,po')).bind fun p=>k p.1 p.2
def Ext.Nat(I:Ext):Prop:=∀{R:Type} (ds:List D) (k:D→Option R),I.go ds k=(I.go ds some).bind k
def Callee.Nat(A:Callee):Prop:=A.Nat0∧(∀I,A.inl=some I→I.Nat)∧∀I,A.ext=some I→I.Nat
section
variable {R:Type} {P:Program} {Γ:FuncId→Option Callee}
theorem LT(st:St)(ks:List Nat):∀(cs:List C) (j:Nat) (ms:List (Option (TypeId×Nat))),iS st.bare ks j ms cs=iS st ks j ms cs
 | [],j,ms=>by cases ms <;> rfl
 | c::cs,j,ms=>by
  have h1:∀m,yC st.bare m c=yC st m c:=fun m=>rfl
  have h2:yB st.bare ks c=yB st ks c:=rfl
  simp only[iS,LT st ks cs,h1,h2]
theorem TO(st:St)(objs:List O)(dst:Option Nat)(n:Nat):rN { st.bare with objs:=objs } dst n=rN { st with objs:=objs } dst n:=by
 unfold rN St.bare
 simp only[List.length_replicate]
theorem D9{A:Callee}(hA:A.Nat)(st:St)(dst:Option Nat)(ds:List D)(k:St→D→Option R):
 pG A st dst ds k=(pG A st.bare dst ds fun s d=>some (s.objs,d)).bind fun p=>k { st with objs:=p.1 } p.2:=by
 have hb:st.bare.objs=st.objs:=rfl
 obtain⟨hA,hAi,_⟩:=hA
 unfold pG
 cases hinl:A.inl with
 | some I=>exact hAi I hinl st dst ds k
 | none=>
 dsimp only
 unfold rO
 cases UY ds with
 | none=>rfl
 | some ss=>
  dsimp only
  rw[hb]
  cases kE ((l6 A.deep st.objs ss).map (qS st.objs)) with
  | none=>rfl
  | some bl=>
   dsimp only
   rw[LT]
   cases iS st (l6 A.deep st.objs ss) (l6 A.deep st.objs ss).length A.rows (ss.flatMap S1.list++bl.flatten) with
   | none=>rfl
   | some q=>
    obtain⟨cs,rws⟩:=q
    dsimp only
    split
    ·refine(hA _ _ _).trans (Eq.trans ?_ (congrArg (fun z:Option (List O×D)=>z.bind fun p=>k { st with objs:=p.1 } p.2) (hA _ _ _)).symm)
     rw[Option.bind_assoc]
     refine congrArg _ (funext fun p=>?_)
     obtain⟨rs,po'⟩:=p
     dsimp only
     rw[TO]
     split
     ·rfl
     ·split
      ·rfl
      ·split
       ·split <;> rfl
       ·rfl
    ·rfl
theorem AG(hΓ:∀f A,Γ f=some A→A.Nat)(st:St)(dst:Option Nat)(f:D)(args:List D)(k:St→D→Option R):
 eP Γ st dst f args k=(eP Γ st.bare dst f args fun s d=>some (s.objs,d)).bind fun p=>k { st with objs:=p.1 } p.2:=by
 unfold eP mE
 split
 ·dsimp only
  split
  ·split
   ·split
    ·rename_i A hA
     split
     ·rename_i I hI
      refine((hΓ _ A hA).2.2 I hI _ _).trans (Eq.trans ?_ (congrArg (fun z:Option (List O×D)=>z.bind fun p=>k { st with objs:=p.1 } p.2) ((hΓ _ A hA).2.2 I hI _ _)).symm)
      rw[Option.bind_assoc]
      rfl
     ·exact D9 (hΓ _ A hA) st dst args k
    ·rfl
   ·rfl
  ·split
   ·rename_i A hA
    split
    ·rfl
    ·exact D9 (hΓ _ A hA) st dst _ k
   ·rfl
  ·rfl
 ·rfl
end
section
variable {R:Type} (P:Program) (Γ:FuncId→Option Callee)
def cM(b:St)(dst:Option Nat)(ty:TypeId)(bi:Builtin)(args:List D)(ts:List TypeId):Option (List O×D):=match bi,args,ts with
 | .len,[x],[t]=>(uC P b t x some).bind fun d=>some (b.objs,d)
 | .append,[s,x],[t,u]=>lK P b dst t u s x fun s d=>some (s.objs,d)
 | .copy,[s,x],[t,_]=>KV P b t s x fun s d=>some (s.objs,d)
 | .min,[x,y],[t,_]=>(K7 P false t x y some).bind fun d=>some (b.objs,d)
 | .max,[x,y],[t,_]=>(K7 P true t x y some).bind fun d=>some (b.objs,d)
 | _,_,_=>none
def EA(b:St)(dst:Option Nat)(f:D)(args:List D):Option (List O×D):=match xN Γ with
 | []=>eP Γ b dst f args fun s d=>some (s.objs,d)
 | B=>if kI (bL Γ) dst=true then eP Γ b dst f args fun s d=>some (s.objs,d) else if VM B (f::args)=true then (eP Γ b dst f args fun s d=>some (s.objs,d)).bind fun p=>if SI B b.objs p.1=true then some p else none else none
def AH(b:St)(dst:Option Nat)(f:D)(args:List D):Option (List O×D):=if (CQ Γ b.objs dst (f::args)&&nE Γ b dst (f::args))=true then EA Γ b dst f args else none
def AI(Γ:FuncId→Option Callee)(P:Program)(b:St)(dst:Option Nat)(t:TypeId):Option (List O×D):=match xN Γ with
 | []=>mU P b dst t fun s d=>some (s.objs,d)
 | B=>if (G4 Γ b dst&&ID Γ b dst)=true then (mU P b dst t fun s d=>some (s.objs,d)).bind fun p=>if (SI B b.objs p.1||kI (bL Γ) dst)=true then some p else none else none
def EC(o:Oper)(b:St)(e:Operand→D):Option (List O×D):=match o.op with
 | .move x=>some (b.objs,e x)
 | .assign x=>some (b.objs,e x)
 | .pick c x y=>(NF (e c) some).bind fun q=>some (b.objs,bif q then e x else e y)
 | .alloc t=>AI Γ P b o.dst t
 | .box _ x=>SO b o.dst (e x) fun s d=>some (s.objs,d)
 | .build t parts=>(zP P t (parts.toList.map fun p=>(p.1,e p.2)) some).bind fun d=>some (b.objs,d)
 | .buildSlice t len parts=>Gx Γ P b o.dst t len (parts.toList.map fun p=>(p.1,e p.2)) fun s d=>some (s.objs,d)
 | .load t x=>if yD Γ o.dst (e x)=true then (l7 Γ P b o.dst t (e x) some).bind fun d=>some (b.objs,d) else none
 | .store t x v=>if (Ct Γ t (e x)&&XR Γ t (e x))=true then (rM P b t (e x) (e v) fun s=>some s.objs).bind fun q=>some (q,D.top) else none
 | .nilCheck x=>(ZV (e x) some).bind fun d=>some (b.objs,d)
 | .binOp op t x y yt=>(NK P b op t yt (e x) (e y) some).bind fun d=>some (b.objs,d)
 | .unOp op t x=>(Ki (P:=P) op t (e x) some).bind fun d=>some (b.objs,d)
 | .convert s t x=>(KT P b s t (e x) some).bind fun d=>some (b.objs,d)
 | .makeFunc fn f c=>(pN fn (f.toList.map e) (c.toList.map e) some).bind fun d=>some (b.objs,d)
 | .makeSlice t l c=>gF Γ P b o.dst t (e l) (e c) fun s d=>some (s.objs,d)
 | .slice t x lo hi mx=>if (CR Γ o.dst (e x)&&K9 Γ o.dst (e x))=true then l9 P b t (e x) (lo.map e) (hi.map e) (mx.map e) fun s d=>some (s.objs,d) else none
 | .fieldAddr t x f=>(mV P t (e x) f some).bind fun d=>some (b.objs,d)
 | .field t x f=>(DR P t (e x) f some).bind fun d=>some (b.objs,d)
 | .indexAddr t x ix=>(n5 Γ P b o.dst t (e x) (e ix) some).bind fun d=>some (b.objs,d)
 | .index t x ix=>(DS P t (e x) (e ix) some).bind fun d=>some (b.objs,d)
 | .extract x i=>(sT (e x) i some).bind fun d=>some (b.objs,d)
 | .call { callee:=.builtin bi,args,argTypes }=>if qT Γ b o.dst bi (args.toList.map e)=true then cM P b o.dst o.type bi (args.toList.map e) argTypes.toList else none
 | .call { callee:=.value f,args,.. }=>AH Γ b o.dst (e f) (args.toList.map e)
 | .makeMap t none=>wB Γ P b o.dst t fun s d=>some (s.objs,d)
 | .lookup t x ix ok=>(n3 P b t (e x) (e ix) ok some).bind fun d=>some (b.objs,d)
 | .mapUpdate t m q v=>(n4 P b t (e m) (e q) (e v) fun s=>some s.objs).bind fun q=>some (q,D.top)
 | .insert t m q v=>(n4 P b t (e m) (e q) (e v) fun s=>some s.objs).bind fun q=>some (q,D.top)
 | .mapEntry t m q=>mR P b t (e m) (e q) fun s d=>some (s.objs,d)
 | .entryStore t m q v=>(pR P b t (e m) (e q) (e v) fun s=>some s.objs).bind fun q=>some (q,D.top)
 | _=>none
end
section
variable {R:Type} {P:Program} {Γ:FuncId→Option Callee}
theorem Dg(d:D)(k:Bool→Option R):NF d k=(NF d some).bind k:=by
 unfold NF EW
 split
 ·simp only[aW];rfl
 ·rfl
theorem NS(st:St)(dst:Option Nat)(ty:TypeId)(bi:Builtin)(args:List D)(ts:List TypeId)(k:St→D→Option R):
 FD P st dst ty bi args ts k=(cM P st.bare dst ty bi args ts).bind fun p=>k { st with objs:=p.1 } p.2:=by
 unfold FD
 split
 ·dsimp only[cM]
  rw[Z8,Option.bind_assoc];rfl
 ·exact QZ st dst _ _ _ _ k
 ·exact V5 st _ _ _ k
 ·dsimp only[cM]
  rw[PA,Option.bind_assoc];rfl
 ·dsimp only[cM]
  rw[PA,Option.bind_assoc];rfl
 ·rename_i h1 h2 h3 h4 h5
  unfold cM
  split
  ·exact(h1 _ _ rfl rfl rfl).elim
  ·exact(h2 _ _ _ _ rfl rfl rfl).elim
  ·exact(h3 _ _ _ _ rfl rfl rfl).elim
  ·exact(h4 _ _ _ _ rfl rfl rfl).elim
  ·exact(h5 _ _ _ _ rfl rfl rfl).elim
  ·rfl
theorem V8(st:St)(dst:Option Nat)(t:TypeId)(d:D)(k:D→Option R):l7 Γ P st dst t d k=(l7 Γ P st.bare dst t d some).bind k:=by
 have hbx:pS st.bare d=pS st d:=rfl
 unfold l7
 rw[hbx]
 split
 ·exact LP _ _ _ _
 ·split
  ·exact LP _ _ _ _
  ·rfl
theorem TP(st:St)(dst:Option Nat)(t:TypeId)(x ix:D)(k:D→Option R):n5 Γ P st dst t x ix k=(n5 Γ P st.bare dst t x ix some).bind k:=by
 unfold n5
 split
 ·exact yF _ _ _ _ _
 ·split
  ·exact yF _ _ _ _ _
  ·rfl
theorem TQ(st:St)(dst:Option Nat)(e:TypeId)(k:St→D→Option R):QM Γ P st dst e k=(AI Γ P st.bare dst e).bind fun p=>k { st with objs:=p.1 } p.2:=by
 unfold QM AI
 have ho:G4 Γ st.bare dst=G4 Γ st dst:=rfl
 have ho2:ID Γ st.bare dst=ID Γ st dst:=rfl
 rw[ho,ho2]
 generalize xN Γ=B
 cases B with
 | nil=>exact IJ _ _ _ _
 | cons w B=>
  dsimp only
  split
  case isFalse=>rfl
  refine(IJ _ _ _ _).trans ?_
  rw[Option.bind_assoc]
  refine congrArg _ (funext fun p=>?_)
  have hb:st.bare.objs=st.objs:=rfl
  rw[hb]
  split <;> rfl
theorem yG(Γ:FuncId→Option Callee)(st:St)(dst:Option Nat)(t:TypeId)(l c:D)(k:St→D→Option R):d6 Γ P st dst t l c k=(d6 Γ P st.bare dst t l c fun s d=>some (s.objs,d)).bind fun p=>k { st with objs:=p.1 } p.2:=by
 unfold d6
 split
 ·exact QX _ _ _ _ _ _
 ·exact I8 _ _ _ _ _ _
theorem I9(Γ:FuncId→Option Callee)(st:St)(dst:Option Nat)(t:TypeId)(l c:D)(k:St→D→Option R):gF Γ P st dst t l c k=(gF Γ P st.bare dst t l c fun s d=>some (s.objs,d)).bind fun p=>k { st with objs:=p.1 } p.2:=by
 have hown:G4 Γ st.bare dst=G4 Γ st dst:=rfl
 unfold gF
 cases xN Γ with
 | nil=>exact yG _ _ _ _ _ _ _
 | cons w B=>
  dsimp only
  rw[hown]
  split
  ·exact yG _ _ _ _ _ _ _
  ·rfl
theorem NT(Γ:FuncId→Option Callee)(st:St)(dst:Option Nat)(t:TypeId)(k:St→D→Option R):wB Γ P st dst t k=(wB Γ P st.bare dst t fun s d=>some (s.objs,d)).bind fun p=>k { st with objs:=p.1 } p.2:=by
 unfold wB
 split
 ·exact NR _ _ _ _
 ·exact NQ _ _ _ _
theorem Dh(st:St)(dst:Option Nat)(d:D):(st.put dst d).objs=st.objs:=by cases dst <;> rfl
theorem LU(st:St)(dst:Option Nat)(ds:List D):nE Γ st.bare dst ds=nE Γ st dst ds:=by
 unfold nE St.bare
 simp only[List.length_replicate]
theorem LV(st:St)(dst:Option Nat)(b:Builtin)(ds:List D):qT Γ st.bare dst b ds=qT Γ st dst b ds:=by
 unfold qT XQ
 simp only[LU]
 rfl
theorem V9(hΓ:∀f A,Γ f=some A→A.Nat)(st:St)(dst:Option Nat)(f:D)(args:List D)(k:St→Option R):
 XP Γ st dst f args k=(AH Γ st.bare dst f args).bind fun p=>k (({ st with objs:=p.1 }:St).put dst p.2):=by
 unfold XP AH
 have hb0:st.bare.objs=st.objs:=rfl
 have hb1:nE Γ st.bare dst (f::args)=nE Γ st dst (f::args):=by
  unfold nE St.bare
  simp only[List.length_replicate]
 rw[hb0,hb1]
 split
 case isFalse=>rfl
 unfold VN EA
 generalize xN Γ=B
 cases B with
 | nil=>exact AG hΓ st dst _ _ fun st d=>k (st.put dst d)
 | cons q B=>
  dsimp only
  split
  ·exact AG hΓ st dst _ _ fun st d=>k (st.put dst d)
  split
  ·refine(AG hΓ st dst _ _ _).trans ?_
   rw[Option.bind_assoc]
   refine congrArg _ (funext fun p=>?_)
   rw[Dh]
   have hb:st.bare.objs=st.objs:=rfl
   rw[hb]
   split <;> rfl
  ·rfl
theorem LW(hΓ:∀f A,Γ f=some A→A.Nat)(o:Oper)(st:St)(k:St→Option R):Kw P Γ o st k=(EC P Γ o st.bare (ev st)).bind fun p=>k (({ st with objs:=p.1 }:St).put o.dst p.2):=by
 obtain⟨dst,op,ty,pos,after,guard⟩:=o
 unfold Kw EC
 cases op with
 | move x=>rfl
 | assign x=>rfl
 | pick c x y=>
  dsimp only
  rw[Dg,Option.bind_assoc]
  exact congrArg _ (funext fun q=>by cases q <;> rfl)
 | alloc e=>exact TQ st dst _ fun st d=>k (st.put dst d)
 | box e x=>exact Ac st dst _ fun st d=>k (st.put dst d)
 | build t parts=>dsimp only;rw[TI,Option.bind_assoc];rfl
 | buildSlice t n parts=>
  dsimp only
  unfold Gx
  split
  ·rw[nH,nH (k:=fun d=>some (st.bare.objs,d)),Option.bind_assoc];rfl
  show (if IE Γ st.objs dst=true then _ else _)=Option.bind (if IE Γ st.objs dst=true then _ else _) _
  split
  ·exact HA st dst _ _ _ fun st d=>k (st.put dst d)
  ·rfl
 | load t x=>
  dsimp only
  split
  ·rw[V8,Option.bind_assoc];rfl
  ·rfl
 | store t x v=>
  dsimp only
  split
  ·rw[TH,Option.bind_assoc];rfl
  ·rfl
 | nilCheck x=>dsimp only;rw[Z7,Option.bind_assoc];rfl
 | binOp op t x y yt=>dsimp only;rw[Ab,Option.bind_assoc];rfl
 | unOp op t x=>dsimp only;rw[Dc,Option.bind_assoc];rfl
 | convert s t x=>dsimp only;rw[V4,Option.bind_assoc];rfl
 | makeFunc fn f c=>dsimp only;rw[LQ,Option.bind_assoc];rfl
 | makeSlice t l c=>exact I9 Γ st dst _ _ _ fun st d=>k (st.put dst d)
 | slice t x lo hi mx=>
  dsimp only
  split
  ·exact TL st t _ _ _ _ fun st d=>k (st.put dst d)
  ·rfl
 | fieldAddr t x f=>dsimp only;rw[I7,Option.bind_assoc];rfl
 | field t x f=>dsimp only;rw[TJ,Option.bind_assoc];rfl
 | indexAddr t x ix=>dsimp only;rw[TP,Option.bind_assoc];rfl
 | index t x ix=>dsimp only;rw[TK,Option.bind_assoc];rfl
 | extract x i=>dsimp only;rw[NP,Option.bind_assoc];rfl
 | call c=>
  obtain⟨callee,args,argTypes⟩:=c
  cases callee with
  | builtin b=>
   dsimp only
   rw[LV]
   split
   ·exact NS st dst ty b _ _ fun st d=>k (st.put dst d)
   ·rfl
  | value f=>exact V9 hΓ st dst _ _ k
  | _=>rfl
 | makeMap t h=>
  cases h with
  | none=>exact NT Γ st dst t fun st d=>k (st.put dst d)
  | some x=>rfl
 | lookup t x ix ok=>dsimp only;rw[Q2,Option.bind_assoc];rfl
 | mapUpdate t m q v=>dsimp only;rw[FJ,Option.bind_assoc];rfl
 | insert t m q v=>dsimp only;rw[FJ,Option.bind_assoc];rfl
 | mapEntry t m q=>exact Q3 st t _ _ fun st d=>k (st.put dst d)
 | entryStore t m q v=>dsimp only;rw[LS,Option.bind_assoc];rfl
 | _=>rfl
end
section
variable (P:Program) (Γ:FuncId→Option Callee) (ops:Array Oper)
def PB(d:D):Option Bool:=match d with
 | .s (.c (.t (.v (.bool b))))=>some b
 | _=>none
def X1(want:Bool)(d:D):Option Bool:=ZW d (some false) ((PB d).map (·==want))
def gd(o:Oper)(st:St):Option Bool:=match o.guard with
 | none=>some true
 | some (j,want)=>match (ops[j]?).bind (·.dst) with
  | none=>none
  | some t=>X1 want (st.env.getD t D.top)
def e7(o:Oper)(st:St):Option (List O×D):=(gd ops o st).bind fun w=>bif w then EC P Γ o st.bare (ev st) else some (st.objs,NL)
def St.with(st:St)(dst:Option Nat)(p:List O×D):St:=({ st with objs:=p.1 }:St).put dst p.2
def rZ(i:Nat)(st:St):Option St:=match ops[i]? with
 | none=>some st
 | some o=>(e7 P Γ ops o st).map (st.with o.dst)
end
section
variable {R:Type} {P:Program} {Γ:FuncId→Option Callee} {ops:Array Oper}
theorem Ad(d:D)(k:Bool→Option R):NF d k=(PB d).bind k:=by
 cases d with
 | tup l=>rfl
 | s x=>cases x with
  | agg l=>rfl
  | c c=>cases c with
   | t x=>cases x with
    | v y=>cases y <;> rfl
    | _=>rfl
   | _=>rfl
theorem Di{d:D}{b:Bool}(h:PB d=some b):d=dB b:=by
 unfold PB at h
 split at h
 ·cases h;rfl
 ·cases h
theorem Dj(st:St){t:Nat}{b:Bool}(h:st.env.getD t D.top=dB b):st.put (some t) (dB b)=st:=by
 unfold St.put
 have hlt:t<st.env.length:=by
  apply Classical.byContradiction
  intro hge
  rw[List.getD_eq_getElem?_getD,List.getElem?_eq_none (by omega)] at h
  cases h
 have:st.env[t]=dB b:=by rw[List.getD_eq_getElem?_getD,List.getElem?_eq_getElem hlt] at h;exact h
 have h2:st.env.set t (dB b)=st.env:=by rw[←this];exact List.set_getElem_self hlt
 dsimp only
 rw[h2]
theorem B6(hΓ:∀f A,Γ f=some A→A.Nat):∀(l:List Nat) (st:St) (k:St→Option R),AA P Γ ops l st k=(l.foldlM (fun st i=>rZ P Γ ops i st) st).bind k
 | [],st,k=>rfl
 | i::l,st,k=>by
  rw[List.foldlM_cons]
  simp only[AA,rZ]
  cases ho:ops[i]? with
  | none=>exact B6 hΓ l st k
  | some o=>
   dsimp only
   have fin:∀(p:Option (List O×D)),(p.bind fun p=>AA P Γ ops l (({ st with objs:=p.1 }:St).put o.dst p.2) k)=((p.map (st.with o.dst)).bind fun s=>l.foldlM (fun st i=>rZ P Γ ops i st) s).bind k:=fun p=>by
    cases p with
    | none=>rfl
    | some p=>exact B6 hΓ l _ k
   cases hg:o.guard with
   | none=>
    dsimp only
    rw[LW hΓ]
    have:e7 P Γ ops o st=EC P Γ o st.bare (ev st):=by simp[e7,gd,hg]
    rw[this]
    exact fin _
   | some g=>
    obtain⟨j,want⟩:=g
    dsimp only
    cases hd:(ops[j]?).bind (·.dst) with
    | none=>simp[e7,gd,hg,hd]
    | some t=>
     dsimp only
     rw[Ad]
     unfold ZW
     split
     ·rename_i hoff
      have he:e7 P Γ ops o st=some (st.objs,NL):=by
       simp only[e7,gd,hg,hd,hoff,X1,ZW,Option.bind_some,cond_false]
      rw[he]
      exact fin (some (st.objs,NL))
     rename_i hoff
     have hbw:X1 want (st.env.getD t D.top)=(PB (st.env.getD t D.top)).map (·==want):=by
      unfold X1 ZW
      split
      ·rename_i h;exact(hoff h).elim
      ·rfl
     cases hb:PB (st.env.getD t D.top) with
     | none=>simp only[e7,gd,hg,hd,hbw,hb];rfl
     | some b=>
      have hs:=Dj st (Di hb)
      have he:e7 P Γ ops o st=bif b==want then EC P Γ o st.bare (ev st) else some (st.objs,NL):=by
       simp only[e7,gd,hg,hd,hbw,hb,Option.map_some,Option.bind_some]
      rw[he]
      cases b with
      | true=>
       simp only[Option.bind_some,cond_true]
       rw[hs]
       cases want with
       | true=>simp only[if_true];rw[LW hΓ];exact fin _
       | false=>exact fin (some (st.objs,NL))
      | false=>
       simp only[Option.bind_some,cond_false]
       rw[hs]
       cases want with
       | true=>exact fin (some (st.objs,NL))
       | false=>simp only[Bool.false_eq_true,if_false];rw[LW hΓ];exact fin _
theorem Lf{st:St}{t:Nat}{d:D}{x:Operand}(h:x≠.tmp t):ev (st.put (some t) d) x=ev st x:=by
 cases x with
 | tmp i=>
  have hne:t≠i:=fun e=>h (e▸rfl)
  simp only[ev,St.put,List.getD_eq_getElem?_getD]
  rw[List.getElem?_set_ne hne]
 | _=>rfl
theorem Dk(st:St)(dst:Option Nat)(d:D):(st.put dst d).bare=st.bare:=by
 cases dst with
 | none=>rfl
 | some i=>simp[St.put,St.bare]
theorem Ae{e e':Operand→D}(o:Oper)(b:St)(h:∀x∈o.op.operands,e x=e' x):EC P Γ o b e=EC P Γ o b e':=by
 obtain⟨dst,op,type,pos,after,guard⟩:=o
 have pairs:∀ps:Array (Nat×Operand),(∀x∈(ps.toList.map (·.2)).toArray,e x=e' x)→(ps.toList.map fun p=>(p.1,e p.2))=(ps.toList.map fun p=>(p.1,e' p.2)):=fun ps hp=>
  List.map_congr_left fun p hm=>by rw[hp p.2 (by simp only[List.mem_toArray,List.mem_map];exact⟨p,hm,rfl⟩)]
 have lst:∀l:Array Operand,(∀x∈l,e x=e' x)→l.toList.map e=l.toList.map e':=fun l hl=>List.map_congr_left fun x hx=>hl x (Array.mem_toList_iff.1 hx)
 cases op <;> simp only[Op.operands] at h <;> unfold EC <;> dsimp only
 case build t ps=>rw[pairs ps h]
 case buildSlice t n ps=>rw[pairs ps h]
 case makeFunc fn first captured=>rw[lst first fun x hx=>h x (by simp[hx]),lst captured fun x hx=>h x (by simp[hx])]
 case slice t x lo hi mx=>cases lo <;> cases hi <;> cases mx <;> simp_all
 case makeMap t q=>cases q <;> rfl
 case call c=>
  obtain⟨callee,args,ats⟩:=c
  have hargs:=lst args fun x hx=>h x (by simp[Call.operands,hx])
  cases callee with
  | builtin bi=>dsimp only;rw[hargs]
  | value f=>dsimp only;rw[hargs,h f (by simp[Call.operands])]
  | _=>rfl
 all_goals first
  | rfl
  | (simp_all;done)
theorem X2{o:Oper}{st:St}{dst:Option Nat}{d:D}(h:∀t,dst=some t→t∉o.looksAt ops):e7 P Γ ops o (st.put dst d)=e7 P Γ ops o st:=by
 cases dst with
 | none=>rfl
 | some t=>
  have ht:=h t rfl
  have h1:EC P Γ o (st.put (some t) d).bare (ev (st.put (some t) d))=EC P Γ o st.bare (ev st):=by
   rw[Dk]
   exact Ae o st.bare fun x hx=>Lf fun e=>ht (by
    subst e
    exact List.mem_append_left _ (List.mem_filterMap.2 ⟨.tmp t,by simpa using hx,rfl⟩))
  have h2:gd ops o (st.put (some t) d)=gd ops o st:=by
   unfold gd
   cases hg:o.guard with
   | none=>rfl
   | some g=>
    obtain⟨j,want⟩:=g
    dsimp only
    cases hd:(ops[j]?).bind (·.dst) with
    | none=>rfl
    | some i=>
     have hne:t≠i:=fun e=>ht (by
      subst e
      refine List.mem_append_right _ ?_
      simp[hg,hd])
     dsimp only[St.put]
     rw[List.getD_eq_getElem?_getD,List.getD_eq_getElem?_getD,List.getElem?_set_ne hne]
  unfold e7
  rw[h1,h2]
  rfl
end
def Lg(pl:List Nat):Option Nat→Bool
 | some s=>pl.contains (30000000+s)
 | none=>false
def Hj(pl:List Nat)(o:Oper):Bool:=match o.op with
 | .buildSlice _ _ _=>match o.dst with
  | some s=>pl.contains (90500000+s)
  | none=>false
 | .call { callee:=.value (.func f),.. }=>pl.contains (f+1000000)&&!Lg pl o.dst
 | .call { callee:=.builtin .min,.. }=>true
 | .call { callee:=.builtin .max,.. }=>true
 | .move _=>true
 | .assign _=>true
 | .pick _ _ _=>true
 | .build _ _=>true
 | .nilCheck _=>true
 | .unOp _ _ _=>true
 | .makeFunc _ _ _=>true
 | .fieldAddr _ _ _=>true
 | .field _ _ _=>true
 | .index _ _ _=>true
 | .extract _ _=>true
 | .binOp .eql _ _ _ _=>false
 | .binOp .neq _ _ _ _=>false
 | .binOp _ _ _ _ _=>true
 | _=>false
def Gh(pl:List Nat)(o:Oper):Bool:=match o.op with
 | .load _ _=>true
 | .convert _ _ _=>true
 | .indexAddr _ _ _=>true
 | .binOp _ _ _ _ _=>true
 | .lookup _ _ _ _=>true
 | .slice _ _ lo hi mx=>lo.isSome||hi.isSome||mx.isSome
 | .call { callee:=.builtin .len,.. }=>true
 | .call { callee:=.builtin .min,.. }=>true
 | .call { callee:=.builtin .max,.. }=>true
 | .call { callee:=.value (.func f),.. }=>pl.contains f||pl.contains (f+1000000)
 | _=>Hj pl o
def Callee.Pure0(A:Callee):Prop:=(A.inl=none∧A.ext=none)∧∀(args:List S1) (po:List O) (rs:List S1) (po':List O),A.call args po (fun rs po'=>some (rs,po'))=some (rs,po')→po=[]∧po'=[]∧rs.all (fun s=>s.list.all zU)=true
def Callee.Pure(A:Callee):Prop:=A.ext=none∧∀{b:St} {dst:Option _root_.Nat} {ds:List D} {p:List O×D},(pG A b dst ds fun s d=>some (s.objs,d))=some p→p.1=b.objs
def Callee.PureP(A:Callee):Prop:=A.ext=none∧∀(b:St) (q:List O) (dst:Option _root_.Nat) (ds:List D),(pG A { b with objs:=q } dst ds fun s d=>some (s.objs,d))=(pG A b dst ds fun s d=>some (s.objs,d)).map fun p=>(q,p.2)
def BoxSame(o o':List O)(k:Nat):Prop:=∀l,o[k]?=some (.box l)↔o'[k]?=some (.box l)
theorem k9{o:List O}{K:Nat}{x:O}{k:Nat}(h1:gE o[K]?=false)(h2:gE (some x)=false):BoxSame o (o.set K x) k:=fun l=>by
 by_cases hk:K=k
 ·subst hk
  constructor
  ·intro h;rw[h] at h1;cases h1
  ·intro h
   rw[List.getElem?_set] at h
   split at h
   ·split at h
    ·cases h;cases h2
    ·cases h
   ·exact h
 ·rw[List.getElem?_set_ne hk]
theorem BoxSame.trans{a b c:List O}{k:Nat}(h1:BoxSame a b k)(h2:BoxSame b c k):BoxSame a c k:=fun l=>(h1 l).trans (h2 l)
theorem BoxSame.refl(a:List O)(k:Nat):BoxSame a a k:=fun _=>Iff.rfl
theorem sX{α:Type}{st:St}{dst:Option Nat}{o:O}{f:St→Nat→Option α}{r:α}(ho:gE (some o)=false)(h:f6 st dst o f=some r):∃K,(∀k,BoxSame st.objs (st.objs.set K o) k)∧f { st with objs:=st.objs.set K o } K=some r:=by
 unfold f6 at h
 split at h
 ·split at h
  ·rename_i d _ hf
   exact⟨_,fun k=>k9 (by rw[hf];rfl) ho,h⟩
  ·split at h
   ·rename_i hf
    exact⟨_,fun k=>k9 (by rw[hf];rfl) ho,h⟩
   ·split at h
    ·rename_i K hK
     have hm:K∈(List.range st.objs.length).filter fun i=>decide (st.np+st.env.length≤i)&&gM st.objs[i]?:=by
      unfold gR at hK
      exact List.mem_of_mem_head? hK
     have h2:=(List.mem_filter.1 hm).2
     simp only[Bool.and_eq_true] at h2
     exact⟨_,fun k=>k9 (by
      have:=h2.2
      unfold gM at this
      split at this
      ·rename_i e;rw[e];rfl
      ·cases this) ho,h⟩
    ·cases h
 ·cases h
theorem NU{P:Program}{b:St}{dst:Option Nat}{t u:TypeId}{s x:D}{p:List O×D}(h:(kH P b dst t u s x fun s d=>some (s.objs,d))=some p)(k:Nat):BoxSame b.objs p.1 k:=by
 have own:∀{e:TypeId} {n:Nat} {c:C} {f:St→List T→Option (List O×D)},xF b e n c f=some p→(∀st l,BoxSame b.objs st.objs k→f st l=some p→BoxSame b.objs p.1 k)→BoxSame b.objs p.1 k:=fun {e n c f} h hf=>by
  unfold xF at h
  split at h
  ·exact hf _ _ (.refl _ _) h
  ·split at h
   ·rename_i hob
    split at h
    ·exact hf _ _ (k9 (by rw[hob];rfl) rfl) h
    ·cases h
   ·cases h
  ·split at h
   ·rename_i hob
    split at h
    ·exact hf _ _ (k9 (by rw[hob];rfl) rfl) h
    ·cases h
   ·cases h
  ·cases h
 have tail:∀{st:St} {e n:Nat} {q:List T},BoxSame b.objs st.objs k→(f6 st dst (.row false e n q) fun st key=>some (st.objs,D.s (.c (.row key))))=some p→BoxSame b.objs p.1 k:=fun {st e n q} hb h=>by
  obtain⟨K,h1,h2⟩:=sX rfl h
  cases h2
  exact hb.trans (h1 k)
 unfold kH at h
 split at h
 case h_2=>cases h
 split at h
 case h_2=>cases h
 split at h
 case h_2=>cases h
 split at h
 case isFalse=>cases h
 unfold mE at h
 split at h
 case h_2=>cases h
 split at h
 ·split at h
  case h_2=>cases h
  unfold gC at h
  dsimp only at h
  split at h
  ·obtain⟨l,_,h⟩:=aC h
   exact own h fun st l hb h=>by
    obtain⟨q,_,h⟩:=aC h
    exact tail hb h
  ·split at h
   ·split at h
    ·exact own h fun st l hb h=>by
      obtain⟨q,_,h⟩:=aC h
      exact tail hb h
    ·cases h
   ·cases h
  ·split at h
   ·split at h
    ·exact own h fun st l hb h=>by
      obtain⟨q,_,h⟩:=aC h
      exact tail hb h
    ·cases h
   ·cases h
  ·cases h
 ·split at h
  ·obtain⟨s',h⟩:∃s',(xF b _ 1 _ fun st l=>ob (room l (fR s') 1) fun q=>f6 st dst (.row false _ 1 q) fun st key=>some (st.objs,D.s (.c (.row key))))=some p:=by
    cases x with
    | tup l=>cases h
    | s sx=>cases sx with
     | agg l=>cases h
     | c cx=>cases cx with
      | t tx=>
       obtain⟨s',_,h⟩:=aC (show ob tx.str? _=some p from h)
       exact⟨s',h⟩
      | _=>cases h
   exact own h fun st l hb h=>by
    obtain⟨q,_,h⟩:=aC h
    exact tail hb h
  ·cases h
theorem sY{R:Type}{ix:D}{f:Int→Option R}{r:R}(h:gD ix f=some r):∃i,f i=some r∧∀{S:Type} (g:Int→Option S),gD ix g=g i:=by
 unfold gD EW at h
 unfold gD EW
 cases ix with
 | tup l=>cases h
 | s s=>cases s with
  | agg l=>cases h
  | c c=>cases c with
   | t x=>
    dsimp only at h ⊢
    obtain⟨i,h1,h2⟩:=aC h
    exact⟨i,h2,fun g=>by rw[h1];rfl⟩
   | _=>cases h
theorem WA{R:Type}{st:St}{n:Nat}{c:C}{f:List T→Option R}{r:R}(h:gC st n c f=some r):∃m,f m=some r:=by
 unfold gC at h
 split at h
 ·obtain⟨l,_,h⟩:=aC h
  exact⟨l,h⟩
 ·split at h
  ·split at h
   ·exact⟨_,h⟩
   ·cases h
  ·cases h
 ·split at h
  ·split at h
   ·exact⟨_,h⟩
   ·cases h
  ·cases h
 ·cases h
theorem TR{P:Program}{b:St}{dst:Option Nat}{t u:TypeId}{key i:Nat}{x:D}{p:List O×D}(h:(H8 P b dst t u key i x fun s d=>some (s.objs,d))=some p)(k:Nat):BoxSame b.objs p.1 k:=by
 unfold H8 at h
 split at h
 case h_2=>cases h
 split at h
 case h_2=>cases h
 split at h
 case h_2=>cases h
 split at h
 case isFalse=>cases h
 unfold mE at h
 split at h
 case h_2=>cases h
 obtain⟨m,h⟩:=WA h
 split at h
 case h_2=>cases h
 rename_i hob
 split at h
 case isFalse=>cases h
 obtain⟨old,_,h⟩:=aC h
 obtain⟨q,_,h⟩:=aC h
 obtain⟨K,h1,h2⟩:=sX rfl h
 cases h2
 refine(h1 k).trans (k9 ?_ rfl)
 rw[List.getElem?_set]
 split
 ·split <;> rfl
 ·rw[hob];rfl
theorem NV{P:Program}{b:St}{dst:Option Nat}{t u:TypeId}{s x:D}{p:List O×D}(h:(lK P b dst t u s x fun s d=>some (s.objs,d))=some p)(k:Nat):BoxSame b.objs p.1 k:=by
 unfold lK at h
 split at h
 ·exact TR h k
 ·exact NU h k
theorem vH(k:Nat):∀(ks:List Nat) (objs:List O),BoxSame objs (freezeL objs ks) k
 | [],objs=>.refl _ _
 | x::ks,objs=>by
  rw[freezeL_cons]
  split
  ·rename_i o ho
   refine BoxSame.trans (fun l=>?_) (vH k ks _)
   by_cases hk:x=k
   ·subst hk
    have hlt:x<objs.length:=by
     rw[List.getElem?_eq_some_iff] at ho
     exact ho.1
    rw[List.getElem?_set_self hlt,ho]
    cases o <;> simp[e8]
   ·rw[List.getElem?_set_ne hk]
  ·exact vH k ks objs
theorem Af{R:Type}{P:Program}{t:TypeId}{c:C}{k:T→Option R}{r:R}(h:H5 P t c k=some r):∃x,k x=some r:=by
 unfold H5 at h
 split at h
 ·obtain⟨n,_,h⟩:=aC h;exact⟨_,h⟩
 ·obtain⟨n,_,h⟩:=aC h;exact⟨_,h⟩
 ·obtain⟨n,_,h⟩:=aC h;exact⟨_,h⟩
 ·split at h
  ·split at h
   ·obtain⟨n,_,h⟩:=aC h;exact⟨_,h⟩
   ·cases h
  ·cases h
 ·split at h
  ·exact⟨_,h⟩
  ·cases h
theorem sZ{R:Type}{P:Program}{r:R}:∀{ts:List TypeId} {cs:List C} {k:List T→Option R},fQ P ts cs k=some r→∃xs,k xs=some r
 | [],[],k,h=>⟨[],h⟩
 | [],_::_,k,h=>by simp[fQ] at h
 | _::_,[],k,h=>by simp[fQ] at h
 | t::ts,c::cs,k,h=>by
  simp only[fQ] at h
  obtain⟨x,h⟩:=Af h
  obtain⟨xs,h⟩:=sZ h
  exact⟨_,h⟩
theorem LX{objs:List O}{cs:List C}{q:List O×List C}(h:GY objs cs=some q)(k:Nat):BoxSame objs q.1 k:=by
 unfold GY at h
 obtain⟨l,_,h⟩:=Option.map_eq_some_iff.1 h
 subst h
 exact vH k _ _
theorem FK{P:Program}{b:St}{dst:Option Nat}{t:TypeId}{n:Nat}{parts:List (Nat×D)}{p:List O×D}(h:(eV P b dst t n parts fun s d=>some (s.objs,d))=some p)(k:Nat):BoxSame b.objs p.1 k:=by
 unfold eV at h
 split at h
 ·split at h
  case h_2=>cases h
  split at h
  case h_2=>cases h
  split at h
  case isFalse=>cases h
  obtain⟨K,h1,h2⟩:=sX rfl h
  cases h2
  exact h1 k
 ·unfold gY at h
  split at h
  case h_2=>cases h
  split at h
  case h_2=>cases h
  split at h
  case h_2=>cases h
  split at h
  case h_2=>cases h
  split at h
  case isFalse=>cases h
  split at h
  case h_2=>cases h
  split at h
  case h_2=>cases h
  rename_i q hq
  split at h
  case h_2=>cases h
  have h:=h
  rw[show ∀(ts:List TypeId) (cs:List C) (f:List T→Option (List O×D)),fQ P ts cs f=(fQ P ts cs some).bind f from fun ts cs f=>gZ ts cs some f] at h
  obtain⟨ts,_,h⟩:=Option.bind_eq_some_iff.1 h
  obtain⟨K,h1,h2⟩:=sX rfl h
  cases h2
  exact(LX hq k).trans (h1 k)
theorem J9:∀(l acc:List Nat) (k:Nat),k∈Gf acc l→k∈acc∨k∈l
 | [],acc,k,h=>by simp only[Gf,List.mem_reverse] at h;exact .inl h
 | a::l,acc,k,h=>by
  simp only[Gf] at h
  split at h
  ·rcases J9 l acc k h with h | h
   ·exact .inl h
   ·exact .inr (by simp[h])
  ·rcases J9 l (a::acc) k h with h | h
   ·rcases List.mem_cons.1 h with h | h
    ·subst h;exact .inr (by simp)
    ·exact .inl h
   ·exact .inr (by simp[h])
def Dn(b:St)(dst:Option _root_.Nat)(k:_root_.Nat):Prop:=k<b.np+b.env.length∧∀s,dst=some s→k≠b.np+s
def Callee.Framed(A:Callee):Prop:=A.ext=none∧(∀{b:St} {dst:Option _root_.Nat} {ds:List D} {p:List O×D},(pG A b dst ds fun s d=>some (s.objs,d))=some p →
 ∀k l,(∀d∈ds,k∉O1 d)→b.objs[k]?=some (.box l)→p.1[k]?=some (.box l)) ∧
 ∀{b:St} {dst:Option _root_.Nat} {ds:List D} {p:List O×D},(pG A b dst ds fun s d=>some (s.objs,d))=some p→(∀k,I4 b.objs[k]?=true→jM b.objs k ds=true→p.1[k]?=b.objs[k]?) ∧
  ∀k x,jM b.objs k ds=true→Dn b dst k→(pG A { b with objs:=b.objs.set k x } dst ds fun s d=>some (s.objs,d))=some (p.1.set k x,p.2)
theorem Callee.PureP.pure{A:Callee}(h:A.PureP):A.Pure:=⟨h.1,fun {b dst ds p} hp=>by
 have:=h.2 b b.objs dst ds
 have e:({ b with objs:=b.objs }:St)=b:=rfl
 rw[e,hp] at this
 simp only[Option.map_some,Option.some.injEq] at this
 rw[this]⟩
theorem Callee.PureP.framed{A:Callee}(h:A.PureP):A.Framed:=⟨h.1,fun hp k l _ hb=>by rw[h.pure.2 hp];exact hb,fun {b dst ds p} hp=>⟨fun k _ _=>by rw[h.pure.2 hp],fun k x _ _=>by
 have h1:=h.2 b (b.objs.set k x) dst ds
 rw[hp] at h1
 rw[h1,h.pure.2 hp]
 rfl⟩⟩
theorem Q4{st:St}{dst:Option Nat}{n k:Nat}{x:O}(h:Dn st dst k):rN { st with objs:=st.objs.set k x } dst n=rN st dst n:=by
 obtain⟨h1,h2⟩:=h
 unfold rN
 split
 ·rfl
 ·rename_i n d
  have hne:∀i,i≠k→gM (st.objs.set k x)[i]?=gM st.objs[i]?:=fun i hi=>by rw[List.getElem?_set_ne (fun e=>hi e.symm)]
  have e1:(([0,1,2,3,4,5].map fun j=>st.np+(j*st.env.length+d)).filter fun i=>gM (st.objs.set k x)[i]?)=(([0,1,2,3,4,5].map fun j=>st.np+(j*st.env.length+d)).filter fun i=>gM st.objs[i]?):=by
   refine List.filter_congr fun i hi=>hne i ?_
   obtain⟨j,_,rfl⟩:=List.mem_map.1 hi
   have h3:=h2 d rfl
   cases j with
   | zero=>intro e;apply h3;rw[←e];simp
   | succ j=>
    have:(j+1)*st.env.length=j*st.env.length+st.env.length:=Nat.succ_mul _ _
    omega
  have e2:((List.range (st.objs.set k x).length).filter fun i=>decide (st.np+st.env.length≤i)&&gM (st.objs.set k x)[i]?)=((List.range st.objs.length).filter fun i=>decide (st.np+st.env.length≤i)&&gM st.objs[i]?):=by
   rw[List.length_set]
   refine List.filter_congr fun i _=>?_
   by_cases hi:st.np+st.env.length≤i
   ·rw[hne i (by omega)]
   ·rw[decide_eq_false hi];rfl
  dsimp only
  rw[e1,e2]
 ·rfl
theorem WB{st:St}{dst:Option Nat}{n k:Nat}{nk:List Nat}(h:rN st dst n=some nk)(hi:Dn st dst k):k∉nk:=by
 obtain⟨h1,h2⟩:=hi
 unfold rN at h
 split at h
 ·cases h;simp
 ·rename_i n d
  dsimp only at h
  split at h
  ·cases h
   intro hk
   obtain⟨hk2,hk3⟩:=List.mem_filter.1 (List.mem_of_mem_take hk)
   obtain⟨j,_,e⟩:=List.mem_map.1 hk2
   have h3:=h2 d rfl
   cases j with
   | zero=>apply h3;rw[←e];simp
   | succ j=>
    have:(j+1)*st.env.length=j*st.env.length+st.env.length:=Nat.succ_mul _ _
    omega
  ·split at h
   ·cases h
    intro hk
    obtain⟨hk2,hk3⟩:=List.mem_filter.1 (List.mem_of_mem_take hk)
    rw[Bool.and_eq_true,decide_eq_true_eq] at hk3
    omega
   ·cases h
 ·cases h
theorem TS{st:St}{ks:List Nat}{k:Nat}{x:O}:∀{c:C},k∉C.rs c→yB { st with objs:=st.objs.set k x } ks c=yB st ks c:=fun {c} h=>by
 unfold yB
 cases c with
 | row key=>dsimp only;rw[List.getElem?_set_ne (fun e=>h (by simp[C.rs,e]))]
 | cut key n lo len s=>dsimp only;rw[List.getElem?_set_ne (fun e=>h (by simp[C.rs,e]))]
 | _=>rfl
theorem TT{st:St}{m:TypeId×Nat}{k:Nat}{x:O}:∀{c:C},k∉C.rs c→yC { st with objs:=st.objs.set k x } m c=yC st m c:=fun {c} h=>by
 cases c with
 | row key=>simp only[yC];rw[List.getElem?_set_ne (fun e=>h (by simp[C.rs,e]))]
 | t v=>
  cases v with
  | v w=>
   cases w with
   | slice p l c=>cases p <;> cases l <;> cases c <;> rfl
   | _=>rfl
  | _=>rfl
 | _=>rfl
theorem IL{st:St}{ks:List Nat}{k:Nat}{x:O}:∀(cs:List C) (j:Nat) (ms:List (Option (TypeId×Nat))),(∀c∈cs,k∉C.rs c)→iS { st with objs:=st.objs.set k x } ks j ms cs=iS st ks j ms cs
 | [],j,ms,_=>by cases ms <;> rfl
 | c::cs,j,ms,h=>by
  have h1:∀m,yC { st with objs:=st.objs.set k x } m c=yC st m c:=fun m=>TT (h c (by simp))
  have h2:yB { st with objs:=st.objs.set k x } ks c=yB st ks c:=TS (h c (by simp))
  have h3:=fun j ms=>IL (st:=st) (ks:=ks) (k:=k) (x:=x) cs j ms fun c hc=>h c (List.mem_cons_of_mem _ hc)
  simp only[iS,h3,h1,h2]
theorem vJ{k:Nat}{x:O}:∀(rows:List Nat) (objs:List O),k∉rows→freezeL (objs.set k x) rows=(freezeL objs rows).set k x
 | [],_,_=>rfl
 | q::rows,objs,h=>by
  simp only[List.mem_cons,not_or] at h
  simp only[freezeL_cons]
  rw[List.getElem?_set_ne h.1]
  split
  ·rw[List.set_comm _ _ h.1]
   exact vJ rows _ h.2
  ·exact vJ rows _ h.2
theorem ED{k:Nat}{x:O}:∀(km:List (Option Nat)) (po:List O) (objs:List O),some k∉km→xH (objs.set k x) km po=(xH objs km po).set k x
 | [],po,objs,_=>by cases po <;> rfl
 | some q::km,[],objs,_=>rfl
 | none::km,[],objs,_=>rfl
 | some q::km,o::po,objs,h=>by
  simp only[List.mem_cons,not_or] at h
  simp only[xH]
  rw[List.set_comm _ _ (fun e=>h.1 (by rw[e]))]
  exact ED km po _ h.2
 | none::km,o::po,objs,h=>by
  simp only[List.mem_cons,not_or] at h
  simp only[xH]
  exact ED km po _ h.2
theorem sD:∀(cs:List C) (ms:List (Option (TypeId×Nat))) (k:Nat),k∈eM ms cs→∃c∈cs,k∈C.rs c
 | [],ms,k,h=>by cases ms <;> simp[eM] at h
 | c::cs,ms,k,h=>by
  simp only[eM] at h
  split at h
  ·obtain⟨c',h1,h2⟩:=sD cs ms.tail k h
   exact⟨c',List.mem_cons_of_mem _ h1,h2⟩
  ·rcases List.mem_append.1 h with h | h
   ·exact⟨c,List.mem_cons_self ..,h⟩
   ·obtain⟨c',h1,h2⟩:=sD cs ms.tail k h
    exact⟨c',List.mem_cons_of_mem _ h1,h2⟩
theorem Ag{st:St}{m:TypeId×Nat}{c:C}{p:Option Nat×O}{k:Nat}(h:yC st m c=some p)(hk:p.1=some k):k∈C.rs c:=by
 unfold yC at h
 split at h
 ·split at h
  ·split at h
   case isFalse=>cases h
   cases h
   cases hk
   simp[C.rs]
  ·split at h
   case isFalse=>cases h
   cases h
   cases hk
   simp[C.rs]
  ·cases h
 ·split at h
  case isFalse=>cases h
  cases h
  cases hk
 ·cases h
theorem B7{st:St}{ks:List Nat}:∀(cs:List C) (j:Nat) (ms:List (Option (TypeId×Nat))) (cs':List C) (rws:List (Option Nat×O)),iS st ks j ms cs=some (cs',rws)→∀p∈rws,∀k,p.1=some k→∃c∈cs,k∈C.rs c
 | [],j,ms,cs',rws,hh,p,hp,k,hk=>by
  cases ms <;> (simp only[iS,Option.some.injEq,Prod.mk.injEq] at hh;obtain⟨_,rfl⟩:=hh;simp at hp)
 | c::cs,j,ms,cs',rws,hh,p,hp,k,hk=>by
  simp only[iS] at hh
  split at hh
  ·split at hh
   ·rename_i p' q hp' hq
    cases hh
    rcases List.mem_cons.1 hp with rfl | hp
    ·exact⟨c,List.mem_cons_self ..,Ag hp' hk⟩
    ·obtain⟨c',h1,h2⟩:=B7 cs (j+1) ms.tail _ _ hq p hp k hk
     exact⟨c',List.mem_cons_of_mem _ h1,h2⟩
   ·cases hh
  ·split at hh
   ·rename_i c' q hp' hq
    cases hh
    obtain⟨c',h1,h2⟩:=B7 cs j ms.tail _ _ hq p hp k hk
    exact⟨c',List.mem_cons_of_mem _ h1,h2⟩
   ·cases hh
theorem FL{objs:List O}{k:Nat}{ss:List S1}{bl:List (List C)}(h:jM objs k (ss.map .s)=true)(hbl:kE ((l6 false objs ss).map (qS objs))=some bl):(∀c∈ss.flatMap S1.list++bl.flatten,k∉C.rs c)∧k∉l6 false objs ss:=by
 have h0:∀s∈ss,∀c∈s.list,k∉C.rs c∧∀k'∈c.ks,k'≠k∧k∉Jn objs[k']?:=fun s hs c hc=>by
  have:=List.all_eq_true.1 (List.all_eq_true.1 h (.s s) (List.mem_map.2 ⟨s,hs,rfl⟩)) c hc
  rw[Bool.and_eq_true] at this
  refine⟨fun hm=>?_,fun k' hk'=>?_⟩
  ·have h1:=this.1
   rw[List.contains_iff_mem.2 hm] at h1;cases h1
  ·have:=List.all_eq_true.1 this.2 k' hk'
   rw[Bool.and_eq_true] at this
   refine⟨fun e=>?_,fun hm=>?_⟩
   ·subst e;have:=this.1;simp at this
   ·have h1:=this.2
    rw[List.contains_iff_mem.2 hm] at h1;cases h1
 have hk0:∀k'∈l6 false objs ss,∃s∈ss,∃c∈s.list,k'∈c.ks:=fun k' hk'=>by
  unfold l6 IA at hk'
  dsimp only[cond_false] at hk'
  rcases J9 _ _ _ hk' with h1 | h1
  ·cases h1
  ·obtain⟨s,hs,h1⟩:=List.mem_flatMap.1 h1
   obtain⟨c,hc,h1⟩:=List.mem_flatMap.1 h1
   exact⟨s,hs,c,hc,h1⟩
 refine⟨fun c hc=>?_,fun hm=>?_⟩
 ·rcases List.mem_append.1 hc with hc | hc
  ·obtain⟨s,hs,hc⟩:=List.mem_flatMap.1 hc
   exact(h0 s hs c hc).1
  ·obtain⟨l,hl,hc⟩:=List.mem_flatten.1 hc
   have h1:=P6 hbl
   have h2:some l∈(l6 false objs ss).map (qS objs):=by rw[h1];exact List.mem_map.2 ⟨l,hl,rfl⟩
   obtain⟨k',hk',h3⟩:=List.mem_map.1 h2
   obtain⟨s,hs,c',hc',h4⟩:=hk0 k' hk'
   have h5:=((h0 s hs c' hc').2 k' h4).2
   have h6:objs[k']?=some (.box l):=by
    unfold qS at h3
    split at h3
    ·rename_i l' he
     cases h3
     exact he
    ·cases h3
   rw[h6] at h5
   exact fun hm=>h5 (List.mem_flatMap.2 ⟨c,hc,hm⟩)
 ·obtain⟨s,hs,c,hc,h1⟩:=hk0 k hm
  exact((h0 s hs c hc).2 k h1).1 rfl
theorem aP{A:Callee}(hN:A.Nat)(hi:A.inl=none)(he:A.ext=none)(hd:A.deep=false:=by rfl):A.Framed:=by
 refine⟨he,?_,fun {b dst ds p} h=>⟨?_,?_⟩⟩
 rotate_left
 ·intro k ho hoff
  obtain⟨hN,_⟩:=hN
  unfold pG at h
  rw[hi] at h
  dsimp only at h
  unfold rO at h
  split at h
  ·cases h
  rename_i ss hss
  have hds:=DU hss
  rw[hd] at h
  rw[hds] at hoff
  split at h
  ·cases h
  rename_i bl hbl
  obtain⟨hc1,hc2⟩:=FL hoff hbl
  split at h
  ·cases h
  rename_i cs rws hhand
  dsimp only at h
  split at h
  case isFalse=>cases h
  rw[hN] at h
  obtain⟨q,hq,h2⟩:=Option.bind_eq_some_iff.1 h
  obtain⟨rs,po'⟩:=q
  dsimp only at h2
  split at h2
  ·cases h2;rfl
  split at h2
  ·cases h2
  rename_i nk hnk
  split at h2
  case isFalse=>cases h2
  split at h2
  case h_2=>cases h2
  cases h2
  dsimp only
  have hfz:(freezeL b.objs (eM A.rows (ss.flatMap S1.list++bl.flatten)))[k]?=b.objs[k]?:=qI _ _ _ fun hm=>by
   obtain⟨c,h1,h2⟩:=sD _ _ _ hm
   exact hc1 c h1 h2
  rw[mW]
  ·exact hfz
  ·intro hm
   rcases List.mem_append.1 hm with hm | hm
   ·rcases List.mem_append.1 hm with hm | hm
    ·obtain⟨k',hk',e⟩:=List.mem_map.1 hm
     cases e
     exact hc2 hk'
    ·obtain⟨r,hr,e⟩:=List.mem_map.1 hm
     obtain⟨c,h1,h2⟩:=B7 _ _ _ _ _ hhand r hr k e
     exact hc1 c h1 h2
   ·obtain⟨k',hk',e⟩:=List.mem_map.1 hm
    cases e
    have:=((G2 hnk).2 k hk').1
    rw[hfz] at this
    rw[this] at ho
    cases ho
 ·intro k x hoff hib
  obtain⟨hN,_⟩:=hN
  unfold pG at h ⊢
  rw[hi] at h ⊢
  dsimp only at h ⊢
  unfold rO at h ⊢
  split at h
  ·cases h
  rename_i ss hss
  have hds:=DU hss
  rw[hd] at h ⊢
  rw[hds] at hoff
  split at h
  ·cases h
  rename_i bl hbl
  obtain⟨hc1,hc2⟩:=FL hoff hbl
  have hbl':kE ((l6 false (b.objs.set k x) ss).map (qS (b.objs.set k x)))=some bl:=by
   rw[←hbl]
   have:l6 false (b.objs.set k x) ss=l6 false b.objs ss:=rfl
   rw[this]
   refine congrArg kE (List.map_congr_left fun k' hk'=>?_)
   unfold qS
   rw[List.getElem?_set_ne (fun e=>hc2 (by rw[e];exact hk'))]
  dsimp only
  rw[hbl']
  dsimp only
  have hkx:l6 false (b.objs.set k x) ss=l6 false b.objs ss:=rfl
  rw[hkx,IL _ _ _ hc1]
  split at h
  ·cases h
  rename_i cs rws hhand
  dsimp only at h ⊢
  split at h
  case isFalse=>cases h
  rename_i hcnd
  rw[if_pos hcnd]
  rw[hN] at h ⊢
  obtain⟨q,hq,h2⟩:=Option.bind_eq_some_iff.1 h
  rw[hq]
  obtain⟨rs,po'⟩:=q
  dsimp only[Option.bind_some] at h2 ⊢
  split at h2
  ·rename_i hemp
   rw[if_pos hemp]
   cases h2
   rfl
  rename_i hemp
  rw[if_neg hemp]
  have hkt:k∉eM A.rows (ss.flatMap S1.list++bl.flatten):=fun hm=>by
   obtain⟨c,h1,h2⟩:=sD _ _ _ hm
   exact hc1 c h1 h2
  rw[vJ _ _ hkt]
  have hfi:=Q4 (st:={ b with objs:=freezeL b.objs (eM A.rows (ss.flatMap S1.list++bl.flatten)) }) (dst:=dst) (n:=po'.length-(d5 bl (cs.drop (ss.flatMap S1.list).length)++rws.map (·.2)).length) (k:=k) (x:=x) hib
  dsimp only at hfi
  rw[hfi]
  split at h2
  ·cases h2
  rename_i nk hnk
  split at h2
  case isFalse=>cases h2
  rename_i hcnd2
  rw[if_pos hcnd2]
  split at h2
  case h_2=>cases h2
  rename_i po2 rs' hp2 hr2
  cases h2
  dsimp only
  rw[ED]
  intro hm
  rcases List.mem_append.1 hm with hm | hm
  ·rcases List.mem_append.1 hm with hm | hm
   ·obtain⟨k',hk',e⟩:=List.mem_map.1 hm
    cases e
    exact hc2 hk'
   ·obtain⟨r,hr,e⟩:=List.mem_map.1 hm
    obtain⟨c,h1,h2⟩:=B7 _ _ _ _ _ hhand r hr k e
    exact hc1 c h1 h2
  ·obtain⟨k',hk',e⟩:=List.mem_map.1 hm
   cases e
   exact WB hnk hib hk'
 intro b dst ds p h k l hk hb
 obtain⟨hN,_⟩:=hN
 unfold pG at h
 rw[hi] at h
 dsimp only at h
 unfold rO at h
 split at h
 ·cases h
 rename_i ss hss
 have hds:=DU hss
 split at h
 ·cases h
 split at h
 ·cases h
 rename_i cs rws hhand
 dsimp only at h
 split at h
 case isFalse=>cases h
 rw[hN] at h
 obtain⟨q,hq,h2⟩:=Option.bind_eq_some_iff.1 h
 obtain⟨rs,po'⟩:=q
 dsimp only at h2
 split at h2
 ·cases h2;exact hb
 split at h2
 ·cases h2
 rename_i nk hnk
 split at h2
 case isFalse=>cases h2
 split at h2
 case h_2=>cases h2
 cases h2
 dsimp only
 rw[mW]
 ·exact kX _ _ _ _ hb
 ·intro hm
  rcases List.mem_append.1 hm with hm | hm
  ·rcases List.mem_append.1 hm with hm | hm
   ·obtain⟨k',hk',e⟩:=List.mem_map.1 hm
    cases e
    rw[hd] at hk'
    unfold l6 IA at hk'
    dsimp only[cond_false] at hk'
    rcases J9 _ _ _ hk' with h0 | h0
    ·cases h0
    ·obtain⟨s,hs,h1⟩:=List.mem_flatMap.1 h0
     exact hk (.s s) (by rw[hds];exact List.mem_map.2 ⟨s,hs,rfl⟩) h1
   ·obtain⟨r,hr,e⟩:=List.mem_map.1 hm
    obtain⟨e',n,l',h1,h3,_⟩:=xI _ _ _ _ _ hhand r hr
    have:=h3 k e
    rcases h1 with h1 | h1 <;> (rw[hb,h1] at this;cases this)
  ·obtain⟨k',hk',e⟩:=List.mem_map.1 hm
   cases e
   have:=((G2 hnk).2 k hk').1
   rw[kX _ _ _ _ hb] at this
   cases this
def Callee.Never(A:Callee):Prop:=∃I,A.ext=some I∧∀{R:Type} (ds:List D) (k:D→Option R),I.go ds k=none
def HD(fD:D)(g:FuncId):Prop:=(∃v,fD=.s (.c (.t (.v v)))∧lL v=some g)∨∃caps,fD=.s (.c (.fn g caps))
theorem Q5{Γ:FuncId→Option Callee}{b:St}{dst:Option Nat}{fD:D}{ds:List D}{p:List O×D}{k:Nat}(hall:∀g A,Γ g=some A→HD fD g→A.Framed∨A.Never)
 (h:(eP Γ b dst fD ds fun s d=>some (s.objs,d))=some p) (hk:∀d∈fD::ds,k∉O1 d) {l:List C} (hl:b.objs[k]?=some (.box l)):p.1[k]?=some (.box l):=by
 unfold eP mE at h
 split at h
 case h_2=>cases h
 rename_i cc
 dsimp only at h
 split at h
 ·rename_i v
  split at h
  case h_2=>cases h
  rename_i g hg
  split at h
  case h_2=>cases h
  rename_i A hA
  rcases hall g A hA (.inl ⟨v,rfl,hg⟩) with hF | ⟨I,hI,hn⟩
  ·rw[hF.1] at h
   exact hF.2.1 h k l (fun d hd=>hk d (List.mem_cons_of_mem _ hd)) hl
  ·rw[hI] at h
   dsimp only at h
   rw[hn] at h
   cases h
 ·rename_i g caps
  split at h
  case h_2=>cases h
  rename_i A hA
  rcases hall g A hA (.inr ⟨caps,rfl⟩) with hF | ⟨I,hI,hn⟩
  ·rw[hF.1] at h
   refine hF.2.1 h k l (fun d hd=>?_) hl
   rcases List.mem_append.1 hd with hd | hd
   ·exact hk d (List.mem_cons_of_mem _ hd)
   ·intro hkd
    unfold S5 at hd
    obtain⟨q,hq,rfl⟩:=List.mem_map.1 hd
    have:k=q.1:=by simpa[O1,S1.list,C.ks] using hkd
    subst this
    refine hk _ (List.mem_cons_self ..) ?_
    simp only[O1,S1.list,List.flatMap_cons,List.flatMap_nil,List.append_nil,C.ks]
    exact List.mem_map.2 ⟨q,hq,rfl⟩
  ·rw[hI] at h
   cases h
 ·cases h
theorem CV{Γ:FuncId→Option Callee}{b:St}{dst:Option Nat}{fD:D}{ds:List D}{p:List O×D}{k:Nat}(hall:∀g A,Γ g=some A→HD fD g→A.Framed∨A.Never)
 (h:(eP Γ b dst fD ds fun s d=>some (s.objs,d))=some p) (ho:I4 b.objs[k]?=true) (hk:jM b.objs k (fD::ds)=true):p.1[k]?=b.objs[k]?:=by
 have hk2:jM b.objs k ds=true:=by
  unfold jM at hk ⊢
  rw[List.all_cons,Bool.and_eq_true] at hk
  exact hk.2
 unfold eP mE at h
 split at h
 case h_2=>cases h
 rename_i cc
 dsimp only at h
 split at h
 ·rename_i v
  split at h
  case h_2=>cases h
  rename_i g hg
  split at h
  case h_2=>cases h
  rename_i A hA
  rcases hall g A hA (.inl ⟨v,rfl,hg⟩) with hF | ⟨I,hI,hn⟩
  ·rw[hF.1] at h
   exact(hF.2.2 h).1 k ho hk2
  ·rw[hI] at h
   dsimp only at h
   rw[hn] at h
   cases h
 ·rename_i g caps
  split at h
  case h_2=>cases h
  rename_i A hA
  rcases hall g A hA (.inr ⟨caps,rfl⟩) with hF | ⟨I,hI,hn⟩
  ·rw[hF.1] at h
   refine(hF.2.2 h).1 k ho ?_
   unfold jM at hk hk2 ⊢
   rw[List.all_append,Bool.and_eq_true]
   refine⟨hk2,?_⟩
   rw[List.all_cons,Bool.and_eq_true] at hk
   have hk1:=hk.1
   simp only[QN,S1.list,List.all_cons,List.all_nil,Bool.and_true,Bool.and_eq_true,C.ks] at hk1
   rw[List.all_eq_true]
   intro d hd
   unfold S5 at hd
   obtain⟨q,hq,rfl⟩:=List.mem_map.1 hd
   have:=List.all_eq_true.1 hk1.2 q.1 (List.mem_map.2 ⟨q,hq,rfl⟩)
   simp only[QN,S1.list,List.all_cons,List.all_nil,Bool.and_true,C.ks,C.rs,this]
   rfl
  ·rw[hI] at h
   cases h
 ·cases h
def EE(pl:List Nat):Option Nat→Bool
 | some s=>pl.contains (20000000+s)
 | none=>true
def LY(pl:List Nat):Option Nat→Bool
 | some s=>pl.contains (20000000+s)
 | none=>false
def WC(pl:List Nat)(o:Oper):Bool:=match o.op with
 | .load _ _=>!EE pl o.dst
 | .indexAddr _ _ _=>!EE pl o.dst
 | .slice _ _ lo hi none=>(lo.isSome||hi.isSome)&&!EE pl o.dst
 | .call { callee:=.builtin .len,.. }=>!EE pl o.dst
 | _=>false
def Hk(pl:List Nat)(o:Oper):Bool:=match o.op with
 | .call { callee:=.builtin .append,.. }=>true
 | .call { callee:=.value (.func f),.. }=>pl.contains (f+4000000)&&!LY pl o.dst
 | .call { callee:=.value _,.. }=>pl.contains 9000002&&!LY pl o.dst
 | .alloc _=>!EE pl o.dst
 | .store t _ _=>!pl.contains 28999999&&!pl.contains (80000000+t)
 | .buildSlice _ _ _=>true
 | .makeSlice _ _ _=>true
 | _=>false
def lP(Γ:FuncId→Option Callee)(pl:List Nat):Prop:=(∀f A,pl.contains f=true→Γ f=some A→A.Pure)∧(∀f A,pl.contains (f+1000000)=true→Γ f=some A→A.PureP)∧(∀f A,pl.contains (f+4000000)=true→Γ f=some A→A.Framed)∧(pl.contains 9000000=true→xN Γ≠[])∧(∀s,(bL Γ).contains s=true→pl.contains (20000000+s)=true)∧(pl.contains 9000002=true→∀f A,(f==2000000)=false→Γ f=some A→A.Framed∨A.Never)∧(∀A,Γ 2000000=some A→A.Never) ∧
 (∀s,pl.contains (90000000+s)=true→(eJ Γ).contains s=true)∧∀t,t<8000000→pl.contains (82000000+t)=true→(D5 Γ).contains t=true
def KA:Operand→Operand→Bool
 | .tmp a,.tmp b=>a==b
 | _,_=>false
def Lh(x y:Oper):Bool:=x.guard.isNone&&y.guard.isNone&&match x.op,y.op with
 | .lookup t m k false,.mapEntry t' m' k'=>t==t'&&KA m m'&&KA k k'
 | _,_=>false
def X3(o:Oper):Bool:=match o.op with
 | .load _ _=>true
 | .indexAddr _ _ _=>true
 | .call { callee:=.builtin .len,.. }=>true
 | _=>false
def PC(pl:List Nat)(o:Oper):Bool:=match o.op with
 | .load _ _=>match o.dst with
  | some s=>pl.contains (90000000+s)
  | none=>false
 | _=>false
def X4(pl:List Nat)(o:Oper):Bool:=match o.op with
 | .store t _ _=>decide (t<8000000)&&pl.contains (82000000+t)
 | .buildSlice _ _ _=>true
 | .mapUpdate _ _ _ _=>true
 | .insert _ _ _ _=>true
 | _=>false
def PD(pl:List Nat)(o:Oper):Bool:=match o.op with
 | .load _ _=>match o.dst with
  | some s=>pl.contains (91000000+s)
  | none=>false
 | _=>false
def X5(pl:List Nat)(o:Oper):Bool:=match o.op with
 | .store t _ _=>decide (t<1000000)&&pl.contains (84000000+t)
 | _=>false
def Hl(o:Oper):Bool:=match o.op with
 | .alloc _=>true
 | .box _ _=>true
 | _=>false
def Do(o:Oper):Bool:=o.guard.isNone&&match o.op with
 | .alloc _=>true
 | _=>false
def Hm(o:Oper):Bool:=o.guard.isNone&&match o.op with
 | .makeSlice _ _ _=>true
 | _=>false
def X6(pl:List Nat)(o:Oper):Bool:=match o.op with
 | .store _ _ _=>pl==pl
 | _=>false
def IM(o:Oper):Bool:=match o.op with
 | .call { callee:=.builtin .len,.. }=>true
 | _=>false
def X7(pl:List Nat)(o:Oper):Bool:=(match o.dst with
 | some s=>pl.contains (92000000+s)
 | none=>false)&&match o.op with
 | .call { callee:=.value (.func f),.. }=>pl.contains (f+4000000)
 | .call { callee:=.value _,.. }=>pl.contains 9000002
 | _=>false
def TU(pl:List Nat)(o:Oper):Bool:=IM o&&match o.dst with
 | some s=>pl.contains (93000000+s)
 | none=>false
def Hn(pl:List Nat):Option Nat→Bool
 | some s=>pl.contains (94000000+s)
 | none=>false
def PE(pl:List Nat)(o:Oper):Bool:=Hn pl o.dst&&match o.op with
 | .slice _ _ lo hi none=>lo.isSome||hi.isSome
 | _=>false
def X8(pl:List Nat)(o:Oper):Bool:=Hn pl o.dst&&match o.op with
 | .call { callee:=.builtin .append,.. }=>true
 | .buildSlice _ n parts=>n==0&&parts.toList.isEmpty
 | _=>false
def Nd(pl:List Nat)(o:Oper):Bool:=Do o&&match o.dst with
 | some s=>pl.contains (91600000+s)
 | none=>false
def Ho(pl:List Nat)(o:Oper):Bool:=o.guard.isNone&&(match o.dst with
 | some s=>pl.contains (92500000+s)
 | none=>false)&&match o.op with
 | .call { callee:=.value (.func f),.. }=>pl.contains (f+4000000)
 | .call { callee:=.builtin .append,.. }=>true
 | _=>false
def PF(ops:Array Oper)(pl:List Nat)(x y:Oper):Bool:=x.apart ops y&&(Hj pl x||Hj pl y||(Gh pl x&&Gh pl y)||Lh x y||(pl.contains 9000000&&((WC pl x&&Hk pl y)||(Hk pl x&&WC pl y)))||(X3 x&&Hl y)||(pl.contains 9000000&&!pl.contains 28999999&&Do x&&Do y)||(pl.contains 9000000&&!pl.contains 28999999&&Hm x&&Hm y)||((PC pl x&&X4 pl y)||(X4 pl x&&PC pl y))||((IM x&&X6 pl y)||(X6 pl x&&IM y))||((PD pl x&&X5 pl y)||(X5 pl x&&PD pl y))||((TU pl x&&X7 pl y)||(X7 pl x&&TU pl y))||((PE pl x&&X8 pl y)||(X8 pl x&&PE pl y))||(pl.contains 9000000&&!pl.contains 28999999&&((Nd pl x&&Ho pl y)||(Ho pl x&&Nd pl y))))
def Hp(ops:Array Oper)(listed:Array Bool)(i:Nat):Nat→Nat→Bool
 | 0,_=>false
 | fuel+1,j=>match ops[j]? with
  | some oj=>(oj.after.any fun e=>Region.binds .any e&&e.on==i)||oj.after.any fun e=>Region.binds .any e&&(!listed.getD e.on true&&Hp ops listed i fuel e.on)
  | none=>false
def Dp(ops:Array Oper)(pl:List Nat)(listed:Array Bool)(i:Nat):Bool:=match ops[i]? with
 | none=>false
 | some oi=>(List.range ops.size).all fun j=>j==i||listed.getD j true||match ops[j]? with
  | some oj=>PF ops pl oi oj||Hp ops listed i ops.size j
  | none=>true
def Dq(ops:Array Oper)(pl:List Nat):Nat→Nat→Array Bool→Bool
 | 0,_,listed=>(Region.ready .any ops listed).isEmpty
 | fuel+1,k,listed=>(Region.ready .any ops listed).contains k&&Dp ops pl listed k&&Dq ops pl fuel (k+1) (listed.setIfInBounds k true)
def Jr(pl:List Nat)(ops:Array Oper):Bool:=Dq ops pl ops.size 0 (Array.replicate ops.size false)
section
variable {R:Type} {P:Program} {Γ:FuncId→Option Callee} {ops:Array Oper} {pl:List Nat}
theorem Ah{op:BinOp}(h1:op≠.eql)(h2:op≠.neq)(b b':St)(t yt:TypeId)(x y:D)(k:D→Option R):NK P b op t yt x y k=NK P b' op t yt x y k:=by
 unfold NK
 split
 ·split
  ·unfold mE
   split
   ·first
    | rfl
    | (rw[if_neg h1,if_neg h2,if_neg h1,if_neg h2])
   ·rfl
  ·rfl
 ·rfl
theorem PG:∀{cs:List C} {k:List T→Option R} {r:R},v7 cs k=some r→∃ts vs,zI ts=some vs∧ts.length=cs.length∧k ts=some r∧∀{S:Type} (g:List T→Option S),v7 cs g=g ts
 | [],k,r,h=>⟨[],[],rfl,rfl,h,fun _=>rfl⟩
 | c::cs,k,r,h=>by
  cases c with
  | t x=>
   simp only[v7] at h
   obtain⟨n,hn,h1⟩:=aC h
   obtain⟨ts,vs,e1,e2,e3,e4⟩:=PG h1
   refine⟨_,_,by simp only[zI,e1];rfl,by simp[e2],e3,fun g=>?_⟩
   simp only[v7,hn]
   exact e4 _
  | _=>simp[v7] at h
theorem AJ{c:Nat}{d:D}{k:T→Option R}{r:R}(h:vE c d k=some r):∃t v,kT c t=some v∧k t=some r∧∀{S:Type} (g:T→Option S),vE c d g=g t:=by
 match c with
 | 0=>
  simp only[vE,J5,EW] at h
  split at h
  ·rename_i x
   obtain⟨n,hn,h1⟩:=aC h
   exact⟨_,_,rfl,h1,fun g=>by simp only[vE,J5,EW,hn];rfl⟩
  ·cases h
 | 1=>
  simp only[vE,EX,EW] at h
  split at h
  ·rename_i x
   obtain⟨n,hn,h1⟩:=aC h
   exact⟨_,_,rfl,h1,fun g=>by simp only[vE,EX,EW,hn];rfl⟩
  ·cases h
 | m+2=>
  simp only[vE] at h
  split at h
  ·rename_i cs
   split at h
   ·rename_i hl
    obtain⟨ts,vs,e1,e2,e3,e4⟩:=PG h
    exact⟨.agg ts,_,by simp only[kT,e2,hl,if_true,e1];rfl,e3,fun g=>by simp only[vE,hl,if_true];exact e4 _⟩
   ·cases h
  ·cases h
theorem Dr{c:Nat}{kk z:T}{v:Value}{l:List T}(hk:kT c kk=some v):mapGetD kk (xL kk z l) z=mapGetD kk l z:=by
 unfold xL mapGetD
 cases hm:dF kk l with
 | some i=>dsimp only;rw[hm]
 | none=>
  dsimp only
  have hr:uD kk kk=true:=(E6 hk hk).2 rfl
  have:dF kk (l++[.agg [kk,z]])=some l.length:=by
   unfold dF at hm ⊢
   rw[List.findIdx?_append,hm]
   simp[List.findIdx?_cons,vD,hr]
  rw[this]
  simp[KY]
theorem Ai{R:Type}(c:Nat)(d:D):vE c d (fun _=>(none:Option R))=none:=by
 cases h:vE c d (fun _=>(none:Option R)) with
 | none=>rfl
 | some r=>obtain⟨t,v,_,h3,_⟩:=AJ h;cases h3
theorem Q6{b:St}{t:TypeId}{m q:D}{d:D}{p:List O×D}(h1:qJ P b t m q false some=some d)(h2:(mR P b t m q fun s d=>some (s.objs,d))=some p):
 qJ P { b with objs:=p.1 } t m q false some=some d:=by
 unfold mR at h2
 unfold qJ at h1 ⊢
 split at h2
 case h_2=>cases h2
 rename_i kt e hu
 try rw[hu] at h1
 try rw[hu]
 try dsimp only at h1
 try dsimp only
 split at h2
 case h_2=>cases h2
 rename_i c i hc hi
 try rw[hc,hi] at h1
 try rw[hc,hi]
 try dsimp only at h1
 try dsimp only
 split at h2
 case h_2=>cases h2
 rename_i z hz
 try rw[hz] at h1
 try rw[hz]
 try dsimp only at h1
 try dsimp only
 split at h2
 case isFalse=>cases h2
 rename_i hzk
 try rw[if_pos hzk] at h1
 try rw[if_pos hzk]
 obtain⟨kk,v,hkv,h3,hg⟩:=AJ h2
 split at h3
 case h_2=>cases h3
 rename_i mk
 split at h3
 case h_2=>cases h3
 rename_i t' n l hob
 split at h3
 case isFalse=>cases h3
 rename_i hn
 subst hn
 rw[V7] at h3
 obtain⟨s,_,h4⟩:=Option.bind_eq_some_iff.1 h3
 simp only[Option.some.injEq] at h4
 subst h4
 simp only[mE,vF,hob,if_true,hg] at h1
 have hlt:mk<b.objs.length:=(List.getElem?_eq_some_iff.1 hob).1
 have hset:(b.objs.set mk (.mp false t' (c+1000000000) (xL kk (nZ z) l)))[mk]?=some (.mp false t' (c+1000000000) (xL kk (nZ z) l)):=List.getElem?_set_self hlt
 simp only[mE,vF,hset,if_true,hg,Dr hkv]
 exact h1
theorem Nf(hpl:lP Γ pl){o:Oper}(h:Hj pl o=true)(b s0:St)(q:List O):EC P Γ o { b with objs:=q } (ev s0)=(EC P Γ o b (ev s0)).map fun p=>(q,p.2):=by
 obtain⟨dst,op,type,pos,after,guard⟩:=o
 have bm:∀{α:Type} (x:Option α) (f:α→D),(x.bind fun d=>some (q,f d))=(x.bind fun d=>some (b.objs,f d)).map fun p=>(q,p.2):=fun x f=>by cases x <;> rfl
 unfold Hj at h
 unfold EC
 cases op with
 | call c=>
  obtain⟨callee,args,ats⟩:=c
  cases callee with
  | value f=>
   cases f with
   | func f=>
    dsimp only at h ⊢
    have hv:∀ds,(eP Γ { b with objs:=q } dst (ev s0 (.func f)) ds fun s d=>some (s.objs,d))=(eP Γ b dst (ev s0 (.func f)) ds fun s d=>some (s.objs,d)).map fun p=>(q,p.2):=fun ds=>by
     unfold eP mE
     dsimp only[ev]
     have hpf:lL (Value.func (.func f) #[] #[])=some f:=rfl
     rw[hpf]
     dsimp only
     cases hA:Γ f with
     | none=>rfl
     | some A=>
      dsimp only
      obtain⟨he,hq⟩:=hpl.2.1 f A (Bool.and_eq_true_iff.1 h).1 hA
      rw[he]
      exact hq b q dst _
    have hself:∀ds p,(eP Γ b dst (ev s0 (.func f)) ds fun s d=>some (s.objs,d))=some p→p.1=b.objs:=fun ds p hp=>by
     have h2:=hv ds
     have h3:∀q,(eP Γ { b with objs:=q } dst (ev s0 (.func f)) ds fun s d=>some (s.objs,d))=(eP Γ b dst (ev s0 (.func f)) ds fun s d=>some (s.objs,d)).map fun p=>(q,p.2):=fun q=>by
      unfold eP mE
      dsimp only[ev]
      have hpf:lL (Value.func (.func f) #[] #[])=some f:=rfl
      rw[hpf]
      dsimp only
      cases hA:Γ f with
      | none=>rfl
      | some A=>
       dsimp only
       obtain⟨he,hq⟩:=hpl.2.1 f A (Bool.and_eq_true_iff.1 h).1 hA
       rw[he]
       exact hq b q dst _
     have h4:=h3 b.objs
     have e:({ b with objs:=b.objs }:St)=b:=rfl
     rw[e,hp] at h4
     simp only[Option.map_some,Option.some.injEq] at h4
     rw[h4]
    have okself:∀(B:List Nat) (o:List O),SI B o o=true:=fun B o=>by
     unfold SI
     refine List.all_eq_true.2 fun k _=>?_
     cases gE o[k]? <;> rfl
    have hgt:∀o:List O,∀ds:List D,CQ Γ o dst ds=CQ Γ b.objs dst ds:=fun o ds=>by
     unfold CQ
     cases dst with
     | none=>rfl
     | some s=>
      have h2:(!pl.contains (30000000+s))=true:=(Bool.and_eq_true_iff.1 h).2
      cases h4:(bL Γ).contains (10000000+s) with
      | false=>simp only[h4,Bool.false_and,Bool.or_false]
      | true=>
       have aux:∀n:Nat,20000000+(10000000+n)=30000000+n:=fun n=>by omega
       have h5:pl.contains (20000000+(10000000+s))=true:=hpl.2.2.2.2.1 _ h4
       rw[aux] at h5
       rw[h5] at h2;cases h2
    have hgi:∀o:List O,∀ds:List D,nE Γ { b with objs:=o } dst ds=nE Γ b dst ds:=fun o ds=>by
     unfold nE
     cases dst with
     | none=>rfl
     | some s=>
      have h2:(!pl.contains (30000000+s))=true:=(Bool.and_eq_true_iff.1 h).2
      cases h4:(bL Γ).contains (10000000+s) with
      | false=>simp only[h4,Bool.false_and,Bool.or_false]
      | true=>
       have aux:∀n:Nat,20000000+(10000000+n)=30000000+n:=fun n=>by omega
       have h5:pl.contains (20000000+(10000000+s))=true:=hpl.2.2.2.2.1 _ h4
       rw[aux] at h5
       rw[h5] at h2;cases h2
    unfold AH
    rw[hgt,hgi]
    split
    case isFalse=>rfl
    unfold EA
    generalize xN Γ=B
    cases B with
    | nil=>exact hv _
    | cons w B=>
     dsimp only
     split
     ·exact hv _
     split
     ·rw[hv]
      cases hp:(eP Γ b dst (ev s0 (.func f)) (List.map (ev s0) args.toList) fun s d=>some (s.objs,d)) with
      | none=>rfl
      | some p=>
       simp only[Option.map_some,Option.bind_some,hself _ p hp,okself,if_true]
     ·rfl
   | _=>cases h
  | builtin bi=>
   have hm:∀(mx:Bool) (as:List D) (ts:List TypeId),cM P { b with objs:=q } dst type (if mx=true then Builtin.max else Builtin.min) as ts=(cM P b dst type (if mx=true then Builtin.max else Builtin.min) as ts).map fun p=>(q,p.2):=fun mx as ts=>by
    have h0:∀(x y:D) (t:TypeId),((K7 P mx t x y some).bind fun d=>some (q,d))=((K7 P mx t x y some).bind fun d=>some (b.objs,d)).map fun p=>(q,p.2):=fun x y t=>bm _ _
    cases mx
    ·match as,ts with
     | [x,y],[t,u]=>exact h0 x y t
     | [],_=>rfl
     | [_],_=>rfl
     | _::_::_::_,_=>rfl
     | [_,_],[]=>rfl
     | [_,_],[_]=>rfl
     | [_,_],_::_::_::_=>rfl
    ·match as,ts with
     | [x,y],[t,u]=>exact h0 x y t
     | [],_=>rfl
     | [_],_=>rfl
     | _::_::_::_,_=>rfl
     | [_,_],[]=>rfl
     | [_,_],[_]=>rfl
     | [_,_],_::_::_::_=>rfl
   cases bi with
   | min=>exact hm false _ _
   | max=>exact hm true _ _
   | _=>cases h
  | _=>cases h
 | binOp op t x y yt=>
  have hop:op≠.eql∧op≠.neq:=by
   constructor <;> (intro e;subst e;cases h)
  dsimp only
  rw[Ah hop.1 hop.2 { b with objs:=q } b]
  exact bm _ _
 | buildSlice t n parts=>
  dsimp only at h ⊢
  have hl:VQ Γ dst=true:=by
   cases dst with
   | none=>cases h
   | some s=>
    dsimp only at h
    exact hpl.2.2.2.2.2.2.2.1 (500000+s) (by rw[←Nat.add_assoc];exact h)
  unfold Gx
  rw[if_pos hl,if_pos hl]
  rw[nH (k:=fun d=>some (q,d)),nH (k:=fun d=>some (b.objs,d))]
  exact bm _ id
 | _=>first
  | rfl
  | exact bm _ _
  | (cases h;done)
theorem Js(hpl:lP Γ pl){o:Oper}(h:Hj pl o=true)(st:St)(q:List O):e7 P Γ ops o { st with objs:=q }=(e7 P Γ ops o st).map fun p=>(q,p.2):=by
 have h1:gd ops o { st with objs:=q }=gd ops o st:=rfl
 have h2:EC P Γ o (St.bare { st with objs:=q }) (ev { st with objs:=q })=(EC P Γ o st.bare (ev st)).map fun p=>(q,p.2):=Nf hpl h st.bare st q
 unfold e7
 rw[h1,h2]
 cases gd ops o st with
 | none=>rfl
 | some w=>cases w <;> rfl
theorem WE{A:Callee}(hN:A.Nat)(hP:A.Pure0){b:St}{dst:Option Nat}{ds:List D}{p:List O×D}(h:(pG A b dst ds fun s d=>some (s.objs,d))=some p):p.1=b.objs:=by
 obtain⟨⟨hP0,_⟩,hP⟩:=hP
 obtain⟨hN,_⟩:=hN
 unfold pG at h
 rw[hP0] at h
 dsimp only at h
 unfold rO at h
 split at h
 ·cases h
 ·split at h
  ·cases h
  ·split at h
   ·cases h
   ·dsimp only at h
    split at h
    ·rw[hN] at h
     obtain⟨q,hq,h2⟩:=Option.bind_eq_some_iff.1 h
     obtain⟨rs,po'⟩:=q
     obtain⟨e1,e2,e3⟩:=hP _ _ rs po' hq
     rw[e1,e2,e3] at h2
     cases h2
     rfl
    ·cases h
theorem Callee.Pure0.pure{A:Callee}(hN:A.Nat)(hP:A.Pure0):A.Pure:=⟨hP.1.2,fun h=>WE hN hP h⟩
theorem Hq(hN:∀f A,Γ f=some A→A.Nat)(hpl:lP Γ pl){o:Oper}(h:Gh pl o=true){b st:St}{p:List O×D}(hp:EC P Γ o b (ev st)=some p):p.1=b.objs:=by
 obtain⟨dst,op,type,pos,after,guard⟩:=o
 have bm:∀{α:Type} (x:Option α) (f:α→D),(x.bind fun d=>some (b.objs,f d))=some p→p.1=b.objs:=fun x f hx=>by
  cases x with
  | none=>cases hx
  | some a=>cases hx;rfl
 unfold Gh at h
 unfold EC at hp
 cases op with
 | call c=>
  obtain⟨callee,args,ats⟩:=c
  cases callee with
  | builtin bi=>
   dsimp only at hp h
   split at hp
   case isFalse=>cases hp
   unfold cM at hp
   split at hp
   ·exact bm _ _ hp
   ·cases h
   ·cases h
   ·exact bm _ _ hp
   ·exact bm _ _ hp
   ·cases hp
  | value f=>
   cases f with
   | func f=>
    dsimp only at hp h
    have hp:(eP Γ b dst (ev st (.func f)) (List.map (ev st) args.toList) fun s d=>some (s.objs,d))=some p:=by
     unfold AH at hp
     split at hp
     case isFalse=>cases hp
     unfold EA at hp
     split at hp
     ·exact hp
     split at hp
     ·exact hp
     ·split at hp
      ·obtain⟨p',h1,h2⟩:=Option.bind_eq_some_iff.1 hp
       split at h2
       ·cases h2;exact h1
       ·cases h2
      ·cases hp
    unfold eP mE at hp
    dsimp only[ev] at hp
    have hpf:lL (Value.func (.func f) #[] #[])=some f:=rfl
    rw[hpf] at hp
    dsimp only at hp
    split at hp
    ·rename_i A hA
     have hpp:A.Pure:=by
      rcases Bool.or_eq_true_iff.1 h with h | h
      ·exact hpl.1 f A h hA
      ·exact(hpl.2.1 f A h hA).pure
     rw[hpp.1] at hp
     exact hpp.2 hp
    ·cases hp
   | _=>cases h
  | _=>cases h
 | move x=>cases hp;rfl
 | assign x=>cases hp;rfl
 | slice t x lo hi mx=>
  dsimp only at hp h
  split at hp
  case isFalse=>cases hp
  unfold l9 at hp
  split at hp
  ·split at hp
   ·rename_i hn
    obtain⟨h1,h2,h3⟩:=hn
    cases lo <;> cases hi <;> cases mx <;> first
     | (cases h;done)
     | (cases h1;done)
     | (cases h2;done)
     | (cases h3;done)
   ·cases hp
  ·rw[nG] at hp
   exact bm _ id hp
 | load t x=>
  dsimp only at hp
  split at hp
  ·exact bm _ _ hp
  ·cases hp
 | buildSlice t n parts=>
  dsimp only at h hp
  have hl:VQ Γ dst=true:=by
   cases dst with
   | none=>cases h
   | some s=>
    exact hpl.2.2.2.2.2.2.2.1 (500000+s) (by rw[←Nat.add_assoc];exact h)
  unfold Gx at hp
  rw[if_pos hl,nH] at hp
  exact bm _ id hp
 | _=>first
  | exact bm _ _ hp
  | (cases h;done)
theorem n9(hN:∀f A,Γ f=some A→A.Nat)(hpl:lP Γ pl){o:Oper}(h:Gh pl o=true){st:St}{p:List O×D}(hp:e7 P Γ ops o st=some p):p.1=st.objs:=by
 unfold e7 at hp
 cases hg:gd ops o st with
 | none=>rw[hg] at hp;cases hp
 | some w=>
  rw[hg] at hp
  cases w with
  | true=>exact Hq hN hpl h (b:=st.bare) hp
  | false=>cases hp;rfl
theorem LZ{o:Oper}(h:Hj pl o=true):Gh pl o=true:=by
 obtain⟨dst,op,type,pos,after,guard⟩:=o
 unfold Hj at h
 unfold Gh Hj
 cases op with
 | buildSlice t n parts=>exact h
 | call c=>
  obtain⟨callee,args,ats⟩:=c
  cases callee with
  | value f=>
   cases f with
   | func f=>exact Bool.or_eq_true_iff.2 (.inr (Bool.and_eq_true_iff.1 h).1)
   | _=>cases h
  | builtin bi=>cases bi <;> first | rfl | (cases h;done)
  | _=>cases h
 | _=>first
  | rfl
  | (cases h;done)
theorem Aj(st:St){x y:Option Nat}(d e:D)(h:∀t,x=some t→y≠some t):(st.put x d).put y e=(st.put y e).put x d:=by
 cases x with
 | none=>rfl
 | some i=>
  cases y with
  | none=>rfl
  | some j=>
   have hne:i≠j:=fun he=>h i rfl (he▸rfl)
   simp only[St.put,List.set_comm _ _ hne]
theorem Ak{o:Oper}(h:WC pl o=true):Gh pl o=true:=by
 obtain⟨dst,op,type,pos,after,guard⟩:=o
 unfold WC at h
 unfold Gh
 split at h
 ·rename_i e;dsimp only at e;subst e;rfl
 ·rename_i e;dsimp only at e;subst e;rfl
 ·rename_i lo hi e
  dsimp only at e
  subst e
  dsimp only
  rw[Bool.and_eq_true] at h
  rw[h.1];rfl
 ·rename_i e;dsimp only at e;subst e;rfl
 ·cases h
theorem Ds(hN:∀f A,Γ f=some A→A.Nat)(hpl:lP Γ pl){o:Oper}(h:WC pl o=true){st:St}{p:List O×D}(hp:e7 P Γ ops o st=some p):p.1=st.objs:=n9 hN hpl (Ak h) hp
theorem B8(hpl:lP Γ pl){dst:Option Nat}(h:(!EE pl dst)=true):kI (bL Γ) dst=false:=by
 cases dst with
 | none=>rfl
 | some s=>
  have h':(!pl.contains (20000000+s))=true:=h
  show (bL Γ).contains s=false
  cases hc:(bL Γ).contains s with
  | false=>rfl
  | true=>rw[hpl.2.2.2.2.1 s hc] at h';cases h'
theorem JA{R:Type}{st:St}{q:List O}{t:TypeId}{x ix:D}{k:D→Option R}(h:QL x=true):eO P { st with objs:=q } t x ix k=eO P st t x ix k:=by
 unfold QL at h
 split at h
 ·rfl
 ·rfl
 ·rfl
 ·cases h
theorem L0{x:D}(h:K8 x=true):∃y,x=.s (.c (.t y)):=by
 unfold K8 at h
 split at h
 ·exact⟨_,rfl⟩
 ·cases h
theorem PH{R:Type}{st:St}{q:List O}{t:TypeId}{x:D}{k:D→Option R}(h:K8 x=true):uC P { st with objs:=q } t x k=uC P st t x k:=by
 obtain⟨y,rfl⟩:=L0 h
 unfold uC
 cases P.underlying t with
 | none=>rfl
 | some u=>cases u <;> first | rfl | (cases y <;> rfl)
theorem IN{R:Type}{st:St}{q:List O}{t:TypeId}{x:D}{lo hi:Option D}{k:D→Option R}(h:K8 x=true):jL P { st with objs:=q } t x lo hi none k=jL P st t x lo hi none k:=by
 obtain⟨y,rfl⟩:=L0 h
 unfold jL
 cases P.underlying t with
 | none=>rfl
 | some u=>cases u <;> rfl
theorem L4(hpl:lP Γ pl)(hq:xN Γ≠[]){dst:Option Nat}(h:(!EE pl dst)=true){x:D}(hg:CR Γ dst x=true):K8 x=true:=by
 unfold CR at hg
 split at hg
 ·rename_i e;exact absurd e hq
 ·rwa[B8 hpl h,Bool.or_false] at hg
theorem FM(hpl:lP Γ pl){o:Oper}(hq:xN Γ≠[])(h:WC pl o=true){st:St}{q:List O}(hb:∀k∈xN Γ,BoxSame st.objs q k){d:D}(hp:e7 P Γ ops o st=some (st.objs,d)):e7 P Γ ops o { st with objs:=q }=some (q,d):=by
 obtain⟨dst,op,type,pos,after,guard⟩:=o
 unfold WC at h
 unfold e7 at hp ⊢
 have h1:gd ops (⟨dst,op,type,pos,after,guard⟩:Oper) { st with objs:=q }=gd ops (⟨dst,op,type,pos,after,guard⟩:Oper) st:=rfl
 rw[h1]
 cases hg:gd ops (⟨dst,op,type,pos,after,guard⟩:Oper) st with
 | none=>rw[hg] at hp;cases hp
 | some w=>
  rw[hg] at hp
  cases w with
  | false=>
   simp only[Option.bind_some,cond_false,Option.some.injEq,Prod.mk.injEq] at hp ⊢
   exact⟨trivial,hp.2⟩
  | true=>
   cases op with
   | slice t x lo hi mx=>
    cases mx with
    | some m=>cases h
    | none=>
     dsimp only at h
     rw[Bool.and_eq_true] at h
     have hp:(if (CR Γ dst (ev st x)&&K9 Γ dst (ev st x))=true then l9 P st.bare t (ev st x) (lo.map (ev st)) (hi.map (ev st)) none fun s d=>some (s.objs,d) else none)=some (st.objs,d):=hp
     show (if (CR Γ dst (ev st x)&&K9 Γ dst (ev st x))=true then l9 P { st.bare with objs:=q } t (ev st x) (lo.map (ev st)) (hi.map (ev st)) none fun s d=>some (s.objs,d) else none)=some (q,d)
     split at hp
     case isFalse=>cases hp
     rename_i hg2
     rw[if_pos hg2]
     have htr:=L4 hpl hq h.2 (Bool.and_eq_true_iff.1 hg2).1
     unfold l9 at hp ⊢
     split at hp
     ·rename_i hA
      exfalso
      split at hp
      ·obtain⟨y,hy⟩:=L0 htr
       rw[hy] at hp
       unfold vY at hp
       split at hp
       ·split at hp
        ·rename_i e;cases e
        ·cases hp
       ·cases hp
      ·cases hp
     ·rename_i hA
      rw[if_neg hA,IN htr,nG]
      rw[nG] at hp
      obtain⟨d0,e1,e2⟩:=Option.bind_eq_some_iff.1 hp
      cases e2
      have e1':jL P st.bare.bare t (ev st x) (lo.map (ev st)) (hi.map (ev st)) none some=some d:=e1
      rw[e1']
      rfl
   | call c=>
    obtain⟨callee,args,ats⟩:=c
    cases callee with
    | builtin bi=>
     cases bi with
     | len=>
      dsimp only at h
      have hp:(if qT Γ st dst .len (args.toList.map (ev st))=true then cM P st.bare dst type .len (args.toList.map (ev st)) ats.toList else none)=some (st.objs,d):=hp
      show (if qT Γ st dst .len (args.toList.map (ev st))=true then cM P { st.bare with objs:=q } dst type .len (args.toList.map (ev st)) ats.toList else none)=some (q,d)
      split at hp
      case isFalse=>cases hp
      rename_i hg2
      rw[if_pos hg2]
      generalize args.toList.map (ev st)=as at *
      generalize ats.toList=ts at *
      unfold cM at hp ⊢
      match as,ts,hg2,hp with
      | [x],[t],hg2,hp=>
       dsimp only at hp ⊢
       have htr:K8 x=true:=L4 hpl hq h (by
        have:qT Γ st dst .len [x]=true:=hg2
        unfold qT at this
        simp only[List.all_cons,List.all_nil,Bool.and_true,Bool.and_eq_true] at this
        exact this.1)
       rw[PH htr]
       obtain⟨d0,e1,e2⟩:=Option.bind_eq_some_iff.1 hp
       cases e2
       rw[e1]
       rfl
      | [],_,hg2,hp=>cases hp
      | [x],[],hg2,hp=>cases hp
      | [x],_::_::_,hg2,hp=>cases hp
      | _::_::_,_,hg2,hp=>cases hp
     | _=>cases h
    | _=>cases h
   | indexAddr t x ix=>
    have hp:((n5 Γ P st.bare dst t (ev st x) (ev st ix) some).bind fun d=>some (st.bare.objs,d))=some (st.objs,d):=hp
    obtain⟨d',h3,h2⟩:=Option.bind_eq_some_iff.1 hp
    cases h2
    show ((n5 Γ P { st.bare with objs:=q } dst t (ev st x) (ev st ix) some).bind fun d=>some (q,d))=some (q,d)
    have key:n5 Γ P { st.bare with objs:=q } dst t (ev st x) (ev st ix) some=some d:=by
     unfold n5 at h3 ⊢
     cases hB:xN Γ with
     | nil=>exact absurd hB hq
     | cons w B=>
      rw[hB] at h3
      dsimp only at h3 ⊢
      rw[B8 hpl h,Bool.or_false] at h3 ⊢
      split at h3
      case isFalse=>cases h3
      rename_i hi
      rw[if_pos hi,JA hi]
      exact h3
    rw[key]
    rfl
   | load t x=>
    have hp:(if yD Γ dst (ev st x)=true then ((l7 Γ P st.bare dst t (ev st x) some).bind fun d=>some (st.bare.objs,d)) else none)=some (st.objs,d):=hp
    split at hp
    case isFalse=>cases hp
    rename_i hgl
    obtain⟨d',h3,h2⟩:=Option.bind_eq_some_iff.1 hp
    cases h2
    show (if yD Γ dst (ev st x)=true then ((l7 Γ P { st.bare with objs:=q } dst t (ev st x) some).bind fun d=>some (q,d)) else none)=some (q,d)
    rw[if_pos hgl]
    have key:l7 Γ P { st.bare with objs:=q } dst t (ev st x) some=some d:=by
     unfold l7 at h3 ⊢
     cases hB:xN Γ with
     | nil=>exact absurd hB hq
     | cons w B=>
      rw[hB] at h3 hb
      dsimp only at h3 ⊢
      rw[B8 hpl h,Bool.or_false] at h3 ⊢
      split at h3
      case isFalse=>cases h3
      rename_i hqp0
      have hqp1:=hqp0
      rw[Bool.and_eq_true] at hqp1
      obtain⟨hqp,hbx⟩:=hqp1
      have hgoal:(zZ (w::B) (ev st x)&&pS { st.bare with objs:=q } (ev st x))=true:=by
       rw[Bool.and_eq_true]
       refine⟨hqp,?_⟩
       unfold zZ at hqp
       unfold pS at hbx ⊢
       split at hqp
       ·rename_i kk jj he
        rw[he] at hbx ⊢
        dsimp only at hbx ⊢
        have hk:kk∈w::B:=by simpa using hqp
        cases ho:st.objs[kk]? with
        | none=>
         have hbx':gE st.objs[kk]?=true:=hbx
         rw[ho] at hbx';cases hbx'
        | some o=>
         have hbx':gE st.objs[kk]?=true:=hbx
         rw[ho] at hbx'
         cases o with
         | box l=>rw[(hb kk hk l).1 ho];rfl
         | _=>cases hbx'
       ·rename_i he
        rw[he]
       ·cases hqp
      rw[if_pos hgoal]
      unfold nV at h3 ⊢
      split at h3
      case h_2=>cases h3
      rename_i n bb hn hbb
      split at h3
      ·cases h3
      rename_i hc
      rw[if_neg hc]
      unfold mE at h3 ⊢
      unfold zZ at hqp
      split at hqp
      ·rename_i kk jj he
       rw[he] at h3 ⊢
       dsimp only at h3 ⊢
       have hk:kk∈w::B:=by simpa using hqp
       split at h3
       ·rename_i cs hcs
        have hcs2:st.objs[kk]?=some (.box cs):=by
         have hbx':gE st.objs[kk]?=true:=by
          rw[he] at hbx
          exact hbx
         have hcs0:(st.objs[kk]?).bind O.cells?=some cs:=hcs
         cases ho:st.objs[kk]? with
         | none=>rw[ho] at hbx';cases hbx'
         | some o=>
          rw[ho] at hbx' hcs0
          cases o with
          | box l=>cases hcs0;rfl
          | _=>cases hbx'
        have hcs':q[kk]?=some (.box cs):=(hb kk hk cs).1 hcs2
        have hcs3:(q[kk]?).bind O.cells?=some cs:=by rw[hcs'];rfl
        rw[hcs3]
        exact h3
       ·cases h3
      ·rename_i he
       rw[he] at h3 ⊢
       exact h3
      ·cases hqp
    rw[key]
    rfl
   | _=>cases h
theorem FN{α:Type}{st:St}{dst:Option Nat}{o:O}{f:St→Nat→Option α}{r:α}(h:f6 st dst o f=some r):∃K,st.objs[K]?=some .fresh∧f { st with objs:=st.objs.set K o } K=some r:=by
 unfold f6 at h
 split at h
 ·split at h
  ·rename_i hf
   exact⟨_,hf,h⟩
  ·split at h
   ·rename_i hf
    exact⟨_,hf,h⟩
   ·split at h
    ·rename_i K hK
     have hm:K∈(List.range st.objs.length).filter fun i=>decide (st.np+st.env.length≤i)&&gM st.objs[i]?:=by
      unfold gR at hK
      exact List.mem_of_mem_head? hK
     have h2:=(List.mem_filter.1 hm).2
     simp only[Bool.and_eq_true] at h2
     have h4:st.objs[K]?=some .fresh:=by
      have:=h2.2
      unfold gM at this
      split at this
      ·rename_i e;exact e
      ·cases this
     exact⟨_,h4,h⟩
    ·cases h
 ·cases h
theorem TV{B:List Nat}{o o':List O}(hok:SI B o o'=true){k:Nat}(hk:k∈B)(fr:∀l,o[k]?=some (.box l)→o'[k]?=some (.box l)):BoxSame o o' k:=by
 intro l
 constructor
 ·exact fr l
 ·intro hl
  unfold SI at hok
  have h5:=List.all_eq_true.1 hok k hk
  rw[hl] at h5
  simp only[gE,Bool.not_true,Bool.or_false] at h5
  cases ho:o[k]? with
  | none=>rw[ho] at h5;cases h5
  | some x=>
   rw[ho] at h5
   cases x with
   | box l0=>
    have:=fr l0 ho
    rw[hl] at this
    cases this
    rfl
   | _=>cases h5
theorem AK{Γ:FuncId→Option Callee}{P:Program}{R:Type}{st:St}{dst:Option Nat}{t:TypeId}{l c:D}{k:St→D→Option R}{r:R}(h:d6 Γ P st dst t l c k=some r):
 ∃(o:O) (f:Nat→D),gE (some o)=false∧o≠.fresh∧∀{S:Type} (st':St) (k':St→D→Option S),d6 Γ P st' dst t l c k'=f6 st' dst o fun s key=>k' s (f key):=by
 unfold d6 at h
 by_cases hr:Kv Γ dst=true
 ·rw[if_pos hr] at h
  unfold uL at h
  split at h
  case h_2=>cases h
  rename_i e hu
  split at h
  case h_2=>cases h
  rename_i i e2 h1 h2
  split at h
  case h_2=>cases h
  rename_i n h3 h4
  split at h
  case isFalse=>cases h
  rename_i hc
  obtain⟨a,g1,g2⟩:=sY h
  obtain⟨b,g3,g4⟩:=sY g1
  obtain⟨p,g5,g6⟩:=aC g3
  refine⟨.rr none e e2 n (repL p.1 []),fun key=>.s (.c (.rk key)),rfl,by simp,fun st' k'=>?_⟩
  unfold d6
  rw[if_pos hr]
  unfold uL
  simp only[hu,h1,h2,h3,h4,if_pos hc,g2,g4,g5]
  rfl
 ·rw[if_neg hr] at h
  unfold kW at h
  split at h
  case h_2=>cases h
  rename_i e hu
  split at h
  case h_2=>cases h
  rename_i i h1
  split at h
  case h_2=>cases h
  rename_i z h2
  split at h
  case h_2=>cases h
  rename_i cs h3
  split at h
  case h_2=>cases h
  rename_i ts h4
  split at h
  case isFalse=>cases h
  rename_i hc
  obtain⟨a,g1,g2⟩:=sY h
  obtain⟨b,g3,g4⟩:=sY g1
  obtain⟨p,g5,g6⟩:=aC g3
  refine⟨.row false e i.size (repL p.1 (Mq i.size ts)),fun key=>.s (.c (.row key)),rfl,by simp,fun st' k'=>?_⟩
  unfold d6
  rw[if_neg hr]
  unfold kW
  simp only[hu,h1,h2,h3,h4,if_pos hc,g2,g4,g5]
  rfl
theorem Dt(hpl:lP Γ pl)(hq:xN Γ≠[]){o:Oper}(h:Hk pl o=true){st:St}{q:List O}{d:D}(hp:e7 P Γ ops o st=some (q,d)):∀k∈xN Γ,BoxSame st.objs q k:=by
 intro k hk
 obtain⟨dst,op,type,pos,after,guard⟩:=o
 unfold Hk at h
 unfold e7 at hp
 cases hg:gd ops (⟨dst,op,type,pos,after,guard⟩:Oper) st with
 | none=>rw[hg] at hp;cases hp
 | some w=>
  rw[hg] at hp
  cases w with
  | false=>cases hp;exact .refl _ _
  | true=>
   have hp:EC P Γ ⟨dst,op,type,pos,after,guard⟩ st.bare (ev st)=some (q,d):=hp
   unfold EC at hp
   cases op with
   | makeSlice t l c=>
    have hp:gF Γ P st.bare dst t (ev st l) (ev st c) (fun s d=>some (s.objs,d))=some (q,d):=hp
    have hr:d6 Γ P st.bare dst t (ev st l) (ev st c) (fun s d=>some (s.objs,d))=some (q,d):=by
     unfold gF at hp
     split at hp
     ·exact hp
     ·split at hp
      ·exact hp
      ·cases hp
    obtain⟨o,f,hb,_,hn⟩:=AK hr
    rw[hn] at hr
    obtain⟨K,h1,h2⟩:=sX hb hr
    cases h2
    exact h1 k
   | call c=>
    obtain⟨callee,args,ats⟩:=c
    cases callee with
    | builtin bi=>
     cases bi with
     | append=>
      dsimp only at hp
      split at hp
      case isFalse=>cases hp
      unfold cM at hp
      split at hp
      ·cases ‹Builtin.append=_›
      ·exact NV hp k
      ·cases ‹Builtin.append=_›
      ·cases ‹Builtin.append=_›
      ·cases ‹Builtin.append=_›
      ·cases hp
     | _=>cases h
    | value f=>
     dsimp only at hp
     have hlc:kI (bL Γ) dst=false:=by
      have h2:LY pl dst=false:=by
       have h3:(!LY pl dst)=true:=by
        cases f <;> exact(Bool.and_eq_true_iff.1 h).2
       cases h4:LY pl dst with
       | false=>rfl
       | true=>rw[h4] at h3;cases h3
      cases dst with
      | none=>rfl
      | some s=>
       show (bL Γ).contains s=false
       cases h4:(bL Γ).contains s with
       | false=>rfl
       | true=>
        have h5:pl.contains (20000000+s)=true:=hpl.2.2.2.2.1 s h4
        have h6:pl.contains (20000000+s)=false:=h2
        rw[h5] at h6;cases h6
     have hall:∀g A,Γ g=some A→HD (ev st f) g→A.Framed∨A.Never:=fun g A hA hr=>by
      by_cases hflag:(g==2000000)=true
      ·have:g=2000000:=by simpa using hflag
       subst this
       exact .inr (hpl.2.2.2.2.2.2.1 A hA)
      ·have hflag:(g==2000000)=false:=by simpa using hflag
       cases f with
       | func f'=>
        left
        have:g=f':=by
         rcases hr with⟨v,h1,h2⟩ | ⟨caps,h1⟩
         ·simp only[ev] at h1
          cases h1
          have hpf:lL (Value.func (.func f') #[] #[])=some f':=rfl
          rw[hpf] at h2
          cases h2;rfl
         ·simp only[ev] at h1
          cases h1
        subst this
        exact hpl.2.2.1 g A (Bool.and_eq_true_iff.1 h).1 hA
       | _=>exact hpl.2.2.2.2.2.1 (Bool.and_eq_true_iff.1 h).1 g A hflag hA
     unfold AH at hp
     split at hp
     case isFalse=>cases hp
     unfold EA at hp
     cases hB:xN Γ with
     | nil=>exact absurd hB hq
     | cons w B=>
      rw[hB] at hp hk
      dsimp only at hp
      rw[hlc] at hp
      simp only[Bool.false_eq_true,if_false] at hp
      split at hp
      case isFalse=>cases hp
      rename_i hqd
      obtain⟨p',h1,h2⟩:=Option.bind_eq_some_iff.1 hp
      split at h2
      case isFalse=>cases h2
      rename_i hok
      cases h2
      have hkeys:∀d∈ev st f::args.toList.map (ev st),k∉O1 d:=fun d hd hkd=>by
       unfold VM at hqd
       have h5:=List.all_eq_true.1 hqd d hd
       have h6:=List.all_eq_true.1 h5 k hkd
       have h7:(w::B).contains k=true:=by simpa using hk
       rw[h7] at h6
       cases h6
      have fr:∀l,st.objs[k]?=some (.box l)→q[k]?=some (.box l):=fun l hl=>Q5 hall h1 hkeys hl
      exact TV hok hk fr
    | _=>cases h
   | buildSlice t n parts=>
    dsimp only at hp
    unfold Gx at hp
    split at hp
    ·rw[nH] at hp
     obtain⟨d,_,h2⟩:=Option.bind_eq_some_iff.1 hp
     cases h2
     exact fun l=>Iff.rfl
    split at hp
    case isFalse=>cases hp
    exact FK hp k
   | store t x v=>
    dsimp only at hp h
    split at hp
    case isFalse=>cases hp
    rename_i hgs
    rw[Bool.and_eq_true] at hgs
    replace hgs:=hgs.1
    unfold Ct at hgs
    cases hB:xN Γ with
    | nil=>exact absurd hB hq
    | cons w B=>
     rw[hB] at hgs hk
     dsimp only at hgs
     have hnl:(bL Γ).contains 8999999=false:=by
      cases hc:(bL Γ).contains 8999999 with
      | false=>rfl
      | true=>
       have:=hpl.2.2.2.2.1 _ hc
       rw[this] at h
       cases h
     have hnt:(bL Γ).contains (60000000+t)=false:=by
      cases hc:(bL Γ).contains (60000000+t) with
      | false=>rfl
      | true=>
       have h9:=hpl.2.2.2.2.1 _ hc
       have aux8:∀n:Nat,20000000+(60000000+n)=80000000+n:=fun n=>by omega
       rw[show 20000000+(60000000+t)=80000000+t from aux8 t] at h9
       rw[h9,Bool.and_comm] at h
       cases h
     rw[hnl,hnt,Bool.false_or,Bool.false_or] at hgs
     obtain⟨q',h1,h2⟩:=Option.bind_eq_some_iff.1 hp
     cases h2
     unfold rM at h1
     split at h1
     case h_2=>cases h1
     split at h1
     case isFalse=>cases h1
     split at hgs
     case h_3=>cases hgs
     case h_2=>
      rename_i kk mm ii jj he
      rw[he] at h1
      unfold mE at h1
      dsimp only at h1
      split at h1
      case h_2=>cases h1
      rename_i q2 hfz
      split at h1
      case h_2=>cases h1
      rename_i e m' es hob
      obtain⟨ts,h1⟩:=sZ h1
      split at h1
      case isFalse=>cases h1
      obtain⟨x,_,h1⟩:=aC h1
      cases h1
      exact(LX hfz k).trans (k9 (by rw[hob];rfl) rfl)
     rename_i kk jj he
     rw[he] at h1
     unfold mE at h1
     dsimp only at h1
     split at h1
     ·split at h1
      ·cases h1
       have hne:kk≠k:=fun e=>by
        subst e
        have:(w::B).contains kk=true:=by simpa using hk
        rw[this] at hgs
        cases hgs
       intro l
       rw[List.getElem?_set_ne hne]
       exact Iff.rfl
      ·cases h1
     ·cases h1
   | alloc e=>
    dsimp only at hp
    unfold AI at hp
    cases hB:xN Γ with
    | nil=>exact absurd hB hq
    | cons w B=>
     rw[hB] at hp hk
     dsimp only at hp
     split at hp
     case isFalse=>cases hp
     obtain⟨p',h1,h2⟩:=Option.bind_eq_some_iff.1 hp
     rw[B8 hpl h,Bool.or_false] at h2
     split at h2
     case isFalse=>cases h2
     rename_i hok
     cases h2
     refine TV hok hk fun l hl=>?_
     unfold mU at h1
     split at h1
     case h_2=>cases h1
     split at h1
     case h_2=>cases h1
     split at h1
     case h_2=>cases h1
     obtain⟨K,hK,h3⟩:=FN h1
     cases h3
     dsimp only
     rw[List.getElem?_set_ne (fun e=>by
      subst e
      have hl':st.bare.objs[K]?=some (.box l):=hl
      rw[hK] at hl'
      cases hl')]
     exact hl
   | _=>cases h
def PI(o o':List O):Prop:=∀(k:Nat) (x:O),o[k]?=some x→x≠O.fresh→o'[k]?=some x
theorem B9{o o':List O}(hg:PI o o'):∀{f k K:Nat},rL o f k=some K→rL o' f k=some K
 | 0,_,_,h=>by simp[rL] at h
 | f+1,k,K,h=>by
  simp only[rL] at h ⊢
  split at h
  ·rename_i ho;rw[hg k _ ho (by simp)];exact h
  ·rename_i ho;rw[hg k _ ho (by simp)];exact B9 hg h
  ·cases h
theorem L5{R:Type}{st:St}{q:List O}{t:TypeId}{d:D}{k:D→Option R}{r:R}(hg:PI st.objs q)(h:nV P st t d k=some r):nV P { st with objs:=q } t d k=some r:=by
 unfold nV at h ⊢
 cases hn:pA P t with
 | none=>rw[hn] at h;cases h
 | some n=>
  cases hb:nU P t with
  | none=>rw[hn,hb] at h;cases h
  | some b=>
   rw[hn,hb] at h
   dsimp only at h ⊢
   split at h
   ·cases h
   rename_i hc
   rw[if_neg hc]
   unfold mE at h ⊢
   cases d with
   | tup l=>cases h
   | s s=>cases s with
    | agg l=>cases h
    | c c=>
     cases c with
     | box key j=>
      dsimp only at h ⊢
      cases ho:st.objs[key]? with
      | none=>rw[ho] at h;cases h
      | some o=>
       rw[ho] at h
       rw[hg key o ho (fun e=>by subst e;cases h)]
       exact h
     | elt key m i j=>
      dsimp only at h ⊢
      cases ho:st.objs[key]? with
      | none=>rw[ho] at h;cases h
      | some o=>
       rw[ho] at h
       rw[hg key o ho (fun e=>by subst e;cases h)]
       exact h
     | elr key i=>
      dsimp only at h ⊢
      cases hr:rL st.objs 64 key with
      | none=>rw[hr] at h;cases h
      | some K=>
       rw[hr] at h
       rw[B9 hg hr]
       dsimp only at h ⊢
       cases ho:st.objs[K]? with
       | none=>rw[ho] at h;cases h
       | some o=>
        rw[ho] at h
        rw[hg K o ho (fun e=>by subst e;cases h)]
        exact h
     | _=>exact h
theorem yH{R:Type}{st:St}{q:List O}{t:TypeId}{x ix:D}{k:D→Option R}{r:R}(hg:PI st.objs q)(h:eO P st t x ix k=some r):eO P { st with objs:=q } t x ix k=some r:=by
 unfold eO at h ⊢
 cases hu:P.underlying t with
 | none=>rw[hu] at h;cases h
 | some u=>
  rw[hu] at h
  cases u with
  | slice e=>
   dsimp only at h ⊢
   cases hn:pA P e with
   | none=>rw[hn] at h;cases h
   | some n=>
    rw[hn] at h
    dsimp only at h ⊢
    unfold mE at h ⊢
    cases x with
    | tup l=>cases h
    | s s=>cases s with
     | agg l=>cases h
     | c c=>
      dsimp only at h ⊢
      obtain⟨i,h1,h2⟩:=sY h
      rw[h2]
      cases c with
      | row key=>
       dsimp only at h1 ⊢
       cases ho:st.objs[key]? with
       | none=>rw[ho] at h1;cases h1
       | some o=>
        rw[ho] at h1
        rw[hg key o ho (fun e=>by subst e;cases h1)]
        exact h1
      | cut key m lo len tg=>
       dsimp only at h1 ⊢
       cases ho:st.objs[key]? with
       | none=>rw[ho] at h1;cases h1
       | some o=>
        rw[ho] at h1
        rw[hg key o ho (fun e=>by subst e;cases h1)]
        exact h1
      | rk key=>
       dsimp only at h1 ⊢
       cases hr:rL st.objs 64 key with
       | none=>rw[hr] at h1;cases h1
       | some K=>
        rw[hr] at h1
        rw[B9 hg hr]
        dsimp only at h1 ⊢
        cases ho:st.objs[K]? with
        | none=>rw[ho] at h1;cases h1
        | some o=>
         rw[ho] at h1
         rw[hg K o ho (fun e=>by subst e;cases h1)]
         exact h1
      | _=>exact h1
  | _=>exact h
theorem Al{R:Type}{st:St}{q:List O}{t:TypeId}{x:D}{k:D→Option R}{r:R}(hg:PI st.objs q)(h:uC P st t x k=some r):uC P { st with objs:=q } t x k=some r:=by
 unfold uC at h ⊢
 cases hu:P.underlying t with
 | none=>rw[hu] at h;cases h
 | some u=>
  rw[hu] at h
  cases u with
  | slice e=>
   dsimp only at h ⊢
   unfold mE at h ⊢
   cases x with
   | tup l=>cases h
   | s s=>cases s with
    | agg l=>cases h
    | c c=>
     dsimp only at h ⊢
     cases c with
     | row key=>
      dsimp only at h ⊢
      cases ho:st.objs[key]? with
      | none=>rw[ho] at h;cases h
      | some o=>
       rw[ho] at h
       rw[hg key o ho (fun e=>by subst e;cases h)]
       exact h
     | rk key=>
      dsimp only at h ⊢
      cases hr:rL st.objs 64 key with
      | none=>rw[hr] at h;cases h
      | some K=>
       rw[hr] at h
       rw[B9 hg hr]
       dsimp only at h ⊢
       cases ho:st.objs[K]? with
       | none=>rw[ho] at h;cases h
       | some o=>
        rw[ho] at h
        rw[hg K o ho (fun e=>by subst e;cases h)]
        exact h
     | _=>exact h
  | map kt e=>
   dsimp only at h ⊢
   unfold mE at h ⊢
   cases x with
   | tup l=>cases h
   | s s=>cases s with
    | agg l=>cases h
    | c c=>
     dsimp only at h ⊢
     cases c with
     | t y=>
      cases y <;> first | exact h | cases h
     | row key=>
      dsimp only at h ⊢
      cases ho:st.objs[key]? with
      | none=>rw[ho] at h;cases h
      | some o=>
       rw[ho] at h
       rw[hg key o ho (fun e=>by subst e;cases h)]
       exact h
     | _=>exact h
  | _=>exact h
theorem PJ{o:List O}{K:Nat}{x:O}(h:o[K]?=some .fresh):PI o (o.set K x):=fun k y hy hn=>by
 have hne:K≠k:=fun e=>by subst e;rw[h] at hy;cases hy;exact hn rfl
 rw[List.getElem?_set_ne hne]
 exact hy
theorem TW{o:Oper}(h:Hl o=true){st:St}{q:List O}{d:D}(hp:e7 P Γ ops o st=some (q,d)):PI st.objs q:=by
 obtain⟨dst,op,type,pos,after,guard⟩:=o
 unfold Hl at h
 unfold e7 at hp
 cases hg:gd ops (⟨dst,op,type,pos,after,guard⟩:Oper) st with
 | none=>rw[hg] at hp;cases hp
 | some w=>
  rw[hg] at hp
  cases w with
  | false=>cases hp;exact fun k x h _=>h
  | true=>
   have hp:EC P Γ ⟨dst,op,type,pos,after,guard⟩ st.bare (ev st)=some (q,d):=hp
   unfold EC at hp
   cases op with
   | alloc t=>
    dsimp only at hp
    have hal:(mU P st.bare dst t fun s d=>some (s.objs,d))=some (q,d):=by
     unfold AI at hp
     split at hp
     ·exact hp
     ·split at hp
      case isFalse=>cases hp
      obtain⟨p',h1,h2⟩:=Option.bind_eq_some_iff.1 hp
      split at h2
      ·cases h2;exact h1
      ·cases h2
    unfold mU at hal
    split at hal
    case h_2=>cases hal
    split at hal
    case h_2=>cases hal
    split at hal
    case h_2=>cases hal
    obtain⟨K,h1,h2⟩:=FN hal
    cases h2
    exact PJ h1
   | box t x=>
    dsimp only at hp
    unfold SO at hp
    split at hp
    case h_2=>cases hp
    split at hp
    case isFalse=>cases hp
    obtain⟨K,h1,h2⟩:=FN hp
    cases h2
    exact PJ h1
   | _=>cases h
theorem Am{oi oj:Oper}(hl:X3 oi=true)(ha:Hl oj=true){st:St}{q2:List O}{d1 d2:D}(e1:e7 P Γ ops oi st=some (st.objs,d1))(e2:e7 P Γ ops oj st=some (q2,d2)):e7 P Γ ops oi { st with objs:=q2 }=some (q2,d1):=by
 have hgr:=TW ha e2
 clear e2 ha
 obtain⟨dst,op,type,pos,after,guard⟩:=oi
 unfold X3 at hl
 unfold e7 at e1 ⊢
 have h1:gd ops (⟨dst,op,type,pos,after,guard⟩:Oper) { st with objs:=q2 }=gd ops (⟨dst,op,type,pos,after,guard⟩:Oper) st:=rfl
 rw[h1]
 cases hg:gd ops (⟨dst,op,type,pos,after,guard⟩:Oper) st with
 | none=>rw[hg] at e1;cases e1
 | some w=>
  rw[hg] at e1
  cases w with
  | false=>
   simp only[Option.bind_some,cond_false,Option.some.injEq,Prod.mk.injEq] at e1 ⊢
   exact⟨trivial,e1.2⟩
  | true=>
   cases op with
   | indexAddr t x ix=>
    have e1:((n5 Γ P st.bare dst t (ev st x) (ev st ix) some).bind fun d=>some (st.bare.objs,d))=some (st.objs,d1):=e1
    obtain⟨d',h3,h2⟩:=Option.bind_eq_some_iff.1 e1
    cases h2
    show ((n5 Γ P { st.bare with objs:=q2 } dst t (ev st x) (ev st ix) some).bind fun d=>some (q2,d))=some (q2,d1)
    have key:n5 Γ P { st.bare with objs:=q2 } dst t (ev st x) (ev st ix) some=some d1:=by
     unfold n5 at h3 ⊢
     cases hB:xN Γ with
     | nil=>
      rw[hB] at h3
      exact yH (st:=st.bare) hgr h3
     | cons w B=>
      rw[hB] at h3
      dsimp only at h3 ⊢
      split at h3
      case isFalse=>cases h3
      rename_i hi
      rw[if_pos hi]
      exact yH (st:=st.bare) hgr h3
    rw[key]
    rfl
   | load t x=>
    have e1:(if yD Γ dst (ev st x)=true then ((l7 Γ P st.bare dst t (ev st x) some).bind fun d=>some (st.bare.objs,d)) else none)=some (st.objs,d1):=e1
    split at e1
    case isFalse=>cases e1
    rename_i hgl
    obtain⟨d',h3,h2⟩:=Option.bind_eq_some_iff.1 e1
    cases h2
    show (if yD Γ dst (ev st x)=true then ((l7 Γ P { st.bare with objs:=q2 } dst t (ev st x) some).bind fun d=>some (q2,d)) else none)=some (q2,d1)
    rw[if_pos hgl]
    have key:l7 Γ P { st.bare with objs:=q2 } dst t (ev st x) some=some d1:=by
     unfold l7 at h3 ⊢
     cases hB:xN Γ with
     | nil=>
      rw[hB] at h3
      exact L5 (st:=st.bare) hgr h3
     | cons w B=>
      rw[hB] at h3
      dsimp only at h3 ⊢
      split at h3
      case isFalse=>cases h3
      rename_i hi
      have hbx:∀d,pS st.bare d=true→pS { st.bare with objs:=q2 } d=true:=fun d hd=>by
       unfold pS at hd ⊢
       split
       ·rename_i kk jj
        have hd:gE st.objs[kk]?=true:=hd
        show gE q2[kk]?=true
        cases ho:st.objs[kk]? with
        | none=>rw[ho] at hd;cases hd
        | some o=>
         rw[ho] at hd
         rw[hgr kk o ho (fun e=>by subst e;cases hd)]
         exact hd
       ·rfl
      have hi':((zZ (w::B) (ev st x)&&pS { st.bare with objs:=q2 } (ev st x))||kI (bL Γ) dst)=true:=by
       rw[Bool.or_eq_true,Bool.and_eq_true] at hi ⊢
       exact hi.imp (fun h=>⟨h.1,hbx _ h.2⟩) id
      rw[if_pos hi']
      exact L5 (st:=st.bare) hgr h3
    rw[key]
    rfl
   | call c=>
    obtain⟨callee,args,ats⟩:=c
    cases callee with
    | builtin bi=>
     cases bi with
     | len=>
      have hev:∀x,ev { st with objs:=q2 } x=ev st x:=fun x=>by cases x <;> rfl
      have e1:(if qT Γ st dst .len (args.toList.map (ev st))=true then cM P st.bare dst type .len (args.toList.map (ev st)) ats.toList else none)=some (st.objs,d1):=e1
      show (if qT Γ st dst .len (args.toList.map (ev { st with objs:=q2 }))=true then cM P { st.bare with objs:=q2 } dst type .len (args.toList.map (ev { st with objs:=q2 })) ats.toList else none)=some (q2,d1)
      have hm:args.toList.map (ev { st with objs:=q2 })=args.toList.map (ev st):=List.map_congr_left fun x _=>hev x
      rw[hm]
      split at e1
      case isFalse=>cases e1
      rename_i hgb
      rw[if_pos hgb]
      unfold cM at e1 ⊢
      split at e1
      ·obtain⟨d',h3,h2⟩:=Option.bind_eq_some_iff.1 e1
       cases h2
       have:=Al (st:=st.bare) hgr h3
       show ((uC P { st.bare with objs:=q2 } _ _ some).bind fun d=>some (q2,d))=_
       rw[this]
       rfl
      all_goals first
       | (cases ‹Builtin.len=_›;done)
       | (cases e1;done)
     | _=>cases hl
    | _=>cases hl
   | _=>cases hl
theorem HE(hpl:lP Γ pl)(h:(!pl.contains 28999999)=true):(bL Γ).contains 8999999=false:=by
 cases hc:(bL Γ).contains 8999999 with
 | false=>rfl
 | true=>
  have:=hpl.2.2.2.2.1 _ hc
  rw[this] at h
  cases h
theorem Q7(hpl:lP Γ pl)(hq:xN Γ≠[])(hn:(!pl.contains 28999999)=true){o:Oper}(h:Do o=true):∃(d:Nat) (x:O) (go:Bool),((∀t,o.dst=some t→t=d)∧(go=true→gE (some x)=true))∧∀(st:St) (q:List O) (v:D),
 e7 P Γ ops o st=some (q,v)↔(o.dst=some d∧go=true∧st.objs[st.np+d]?=some .fresh∧q=st.objs.set (st.np+d) x∧v=.s (.c (.box (st.np+d) 0))∧(SI (xN Γ) st.objs q||kI (bL Γ) o.dst)=true∧ID Γ st o.dst=true):=by
 obtain⟨dst,op,type,pos,after,guard⟩:=o
 unfold Do at h
 rw[Bool.and_eq_true] at h
 obtain⟨hgd,h⟩:=h
 cases guard with
 | some g=>cases hgd
 | none=>
  cases op with
  | alloc t=>
   have key:∀st:St,e7 P Γ ops ⟨dst,.alloc t,type,pos,after,none⟩ st=AI Γ P st.bare dst t:=fun st=>rfl
   cases dst with
   | none=>
    refine⟨0,.box [],true,⟨fun t ht=>(by cases ht),fun _=>rfl⟩,fun st q v=>⟨fun he=>?_,fun he=>(by cases he.1)⟩⟩
    rw[key] at he
    unfold AI at he
    split at he
    ·rename_i e;exact absurd e hq
    ·split at he
     case isFalse=>cases he
     rename_i ho
     have ho:=(Bool.and_eq_true_iff.1 ho).1
     unfold G4 at ho
     rw[HE hpl hn] at ho
     cases ho
   | some d=>
    have hz:∃(x:O) (go:Bool),(go=true→gE (some x)=true)∧∀(st:St) (f:St→D→Option (List O×D)),st.objs[st.np+d]?=some .fresh→mU P st (some d) t f=if go then f { st with objs:=st.objs.set (st.np+d) x } (.s (.c (.box (st.np+d) 0))) else none:=by
     unfold mU
     cases P.info? t with
     | none=>exact⟨.fresh,false,(fun h=>by cases h),fun st f _=>rfl⟩
     | some i=>
      dsimp only
      cases i.zero with
      | none=>exact⟨.fresh,false,(fun h=>by cases h),fun st f _=>rfl⟩
      | some z=>
       dsimp only
       cases sS z with
       | none=>exact⟨.fresh,false,(fun h=>by cases h),fun st f _=>rfl⟩
       | some cs=>
        refine⟨.box (SN P t cs),true,fun _=>rfl,fun st f hf=>?_⟩
        dsimp only
        unfold f6
        dsimp only
        rw[hf]
        rfl
    obtain⟨x,go,hbx,hz⟩:=hz
    refine⟨d,x,go,⟨fun t ht=>(by cases ht;rfl),hbx⟩,fun st q v=>?_⟩
    rw[key]
    unfold AI
    cases hB:xN Γ with
    | nil=>exact absurd hB hq
    | cons w B=>
     dsimp only
     have how:G4 Γ st.bare (some d)=true↔st.objs[st.np+d]?=some .fresh:=by
      unfold G4
      rw[HE hpl hn,Bool.false_or]
      show (match st.objs[st.np+d]? with | some .fresh=>true | _=>false)=true↔_
      constructor
      ·intro hh
       split at hh
       ·assumption
       ·cases hh
      ·intro hh
       rw[hh]
     constructor
     ·intro he
      split at he
      case isFalse=>cases he
      rename_i ho
      have ho:=Bool.and_eq_true_iff.1 ho
      have hf:=how.1 ho.1
      rw[hz st.bare _ hf] at he
      cases go with
      | false=>cases he
      | true=>
       simp only[if_true,Option.bind_some] at he
       split at he
       case isFalse=>cases he
       rename_i hk
       cases he
       exact⟨rfl,rfl,hf,rfl,rfl,hk,ho.2⟩
     ·rintro ⟨_,hgo,hf,rfl,rfl,hk,hga⟩
      rw[if_pos (show (G4 Γ st.bare (some d)&&ID Γ st.bare (some d))=true from Bool.and_eq_true_iff.2 ⟨how.2 hf,hga⟩),hz st.bare _ hf]
      subst hgo
      simp only[if_true,Option.bind_some]
      exact if_pos hk
  | _=>cases h
theorem Du(hpl:lP Γ pl)(hq:xN Γ≠[])(hn:(!pl.contains 28999999)=true){o:Oper}(h:Hm o=true){st:St}{q:List O}{v:D}(hp:e7 P Γ ops o st=some (q,v)):
 ∃(d:Nat) (x:O),x≠.fresh∧st.objs[st.np+d]?=some .fresh∧q=st.objs.set (st.np+d) x∧∀q':List O,q'[st.np+d]?=some .fresh→e7 P Γ ops o { st with objs:=q' }=some (q'.set (st.np+d) x,v):=by
 obtain⟨dst,op,type,pos,after,guard⟩:=o
 unfold Hm at h
 rw[Bool.and_eq_true] at h
 obtain⟨hgd,h⟩:=h
 cases guard with
 | some g=>cases hgd
 | none=>
  cases op with
  | makeSlice t l c=>
   have key:∀st:St,e7 P Γ ops ⟨dst,.makeSlice t l c,type,pos,after,none⟩ st=gF Γ P st.bare dst t (ev st l) (ev st c) fun s d=>some (s.objs,d):=fun st=>rfl
   have hev:∀(q':List O) (x:Operand),ev { st with objs:=q' } x=ev st x:=fun q' x=>by cases x <;> rfl
   rw[key] at hp
   unfold gF at hp
   cases hB:xN Γ with
   | nil=>exact absurd hB hq
   | cons w B=>
    rw[hB] at hp
    dsimp only at hp
    split at hp
    case isFalse=>cases hp
    rename_i ho
    have how:∀st:St,G4 Γ st dst=true↔∃d,dst=some d∧st.objs[st.np+d]?=some .fresh:=fun st=>by
     unfold G4
     rw[HE hpl hn,Bool.false_or]
     cases dst with
     | none=>exact⟨fun h=>(by cases h),fun⟨d,h,_⟩=>(by cases h)⟩
     | some d=>
      dsimp only
      constructor
      ·intro hh
       split at hh
       ·exact⟨d,rfl,by assumption⟩
       ·cases hh
      ·rintro ⟨d',e,hh⟩
       cases e
       rw[hh]
    obtain⟨d,rfl,hf⟩:=(how _).1 ho
    have hf:st.objs[st.np+d]?=some .fresh:=hf
    obtain⟨x,f,_,hx,hinv⟩:=AK hp
    have hnew:∀(st':St),st'.objs[st'.np+d]?=some .fresh→d6 Γ P st' (some d) t (ev st l) (ev st c) (fun s d=>some (s.objs,d))=some (st'.objs.set (st'.np+d) x,f (st'.np+d)):=fun st' hf'=>by
     rw[hinv]
     unfold f6
     dsimp only
     rw[hf']
    rw[hnew st.bare hf] at hp
    cases hp
    refine⟨d,x,hx,hf,rfl,fun q' hq'=>?_⟩
    rw[key]
    unfold gF
    rw[hB]
    dsimp only
    rw[if_pos ((how _).2 ⟨d,rfl,hq'⟩),hev,hev]
    exact hnew (St.bare { st with objs:=q' }) hq'
  | _=>cases h
theorem Dv{B:List Nat}{o:List O}{K1 K2:Nat}{x1 x2:O}(hne:K1≠K2)(hf:o[K2]?=some .fresh)(h:SI B (o.set K1 x1) ((o.set K1 x1).set K2 x2)=true):SI B o (o.set K2 x2)=true:=by
 unfold SI at h ⊢
 refine List.all_eq_true.2 fun k hk=>?_
 have h5:=List.all_eq_true.1 h k hk
 by_cases e:k=K2
 ·subst e
  have hlt:k<o.length:=(List.getElem?_eq_some_iff.1 hf).1
  rw[List.getElem?_set_ne hne,hf,List.getElem?_set_self (by simpa using hlt)] at h5
  rw[hf,List.getElem?_set_self hlt]
  exact h5
 ·rw[List.getElem?_set_ne (fun e'=>e e'.symm)]
  cases gE o[k]? <;> rfl
theorem Dw{B:List Nat}{o:List O}{K1 K2:Nat}{x1 x2:O}(hne:K1≠K2)(hf:o[K1]?=some .fresh)(h:SI B o (o.set K1 x1)=true):SI B (o.set K2 x2) ((o.set K2 x2).set K1 x1)=true:=by
 unfold SI at h ⊢
 refine List.all_eq_true.2 fun k hk=>?_
 have h5:=List.all_eq_true.1 h k hk
 by_cases e:k=K1
 ·subst e
  have hlt:k<o.length:=(List.getElem?_eq_some_iff.1 hf).1
  rw[hf,List.getElem?_set_self hlt] at h5
  rw[List.getElem?_set_ne hne.symm,hf,List.getElem?_set_self (by simpa using hlt)]
  exact h5
 ·rw[List.getElem?_set_ne (i:=K1) (fun e'=>e e'.symm)]
  cases gE (o.set K2 x2)[k]? <;> rfl
theorem An{oi oj:Oper}(h:Lh oi oj=true){st:St}{q1 q2:List O}{d1 d2:D}(e1:e7 P Γ ops oi st=some (q1,d1))(e2:e7 P Γ ops oj { st with objs:=q1 }=some (q2,d2)){G:Prop}
 (caseq:q1=st.objs→(∀q,q=q2→e7 P Γ ops oi { st with objs:=q }=some (q2,d1))→G):G:=by
 obtain⟨dst,op,type,pos,after,guard⟩:=oi
 obtain⟨dst',op',type',pos',after',guard'⟩:=oj
 unfold Lh at h
 simp only[Bool.and_eq_true,Option.isNone_iff_eq_none] at h
 obtain⟨⟨rfl,rfl⟩,h⟩:=h
 split at h
 case h_2=>cases h
 rename_i t m k t' m' k'
 simp only[Bool.and_eq_true,beq_iff_eq] at h
 obtain⟨⟨rfl,hm⟩,hk⟩:=h
 have hmm:m=m':=by
  unfold KA at hm
  split at hm
  ·have:=beq_iff_eq.1 hm;rw[this]
  ·cases hm
 have hkk:k=k':=by
  unfold KA at hk
  split at hk
  ·have:=beq_iff_eq.1 hk;rw[this]
  ·cases hk
 subst hmm;subst hkk
 have x1:((n3 P st.bare t (ev st m) (ev st k) false some).bind fun d=>some (st.bare.objs,d))=some (q1,d1):=e1
 obtain⟨d,g1,g2⟩:=Option.bind_eq_some_iff.1 x1
 simp only[Option.some.injEq,Prod.mk.injEq] at g2
 obtain⟨g2,rfl⟩:=g2
 have hq:q1=st.objs:=g2.symm
 subst hq
 refine caseq rfl fun q hq=>?_
 subst hq
 have x2:(mR P st.bare t (ev st m) (ev st k) fun s d=>some (s.objs,d))=some (q,d2):=e2
 have hnr:∀d0:D,(∃key,d0=.s (.c (.rk key)))→(mR P st.bare t d0 (ev st k) fun s d=>some (s.objs,d))=some (q,d2)→False:=fun d0 hd0 hx=>by
  obtain⟨key,rfl⟩:=hd0
  unfold mR at hx
  dsimp only at hx
  simp only[Ai] at hx
  repeat' (first | split at hx | dsimp only at hx)
  all_goals (cases hx;done)
 have hgk:∀(b:St),n3 P b t (ev st m) (ev st k) false some=qJ P b t (ev st m) (ev st k) false some:=fun b=>by
  unfold n3
  split
  ·rename_i key hd0
   exact(hnr _ ⟨key,hd0⟩ x2).elim
  ·rfl
 rw[hgk] at g1
 have x3:=Q6 g1 x2
 have x4:((n3 P { st.bare with objs:=q } t (ev st m) (ev st k) false some).bind fun d=>some (q,d))=some (q,d):=by
  rw[hgk,x3];rfl
 exact x4
def O.isB:O→Bool
 | .box _=>true
 | .fbox _=>true
 | _=>false
def BF(o o':List O):Prop:=∀(k:Nat) (x:O),x.isB=true→(o[k]?=some x↔o'[k]?=some x)
theorem BF.symm{o o':List O}(h:BF o o'):BF o' o:=fun k x hx=>(h k x hx).symm
theorem BF.trans{a b c:List O}(h:BF a b)(h':BF b c):BF a c:=fun k x hx=>(h k x hx).trans (h' k x hx)
theorem BF.set{o:List O}{K:Nat}{x y:O}(h:o[K]?=some y)(hy:y.isB=false)(hx:x.isB=false):BF o (o.set K x):=fun k z hz=>by
 by_cases hk:K=k
 ·subst hk
  rw[List.getElem?_set_self (List.getElem?_eq_some_iff.1 h).1,h]
  constructor
  ·intro e;cases e;rw[hy] at hz;cases hz
  ·intro e;cases e;rw[hx] at hz;cases hz
 ·rw[List.getElem?_set_ne hk]
theorem BF.freezeL:∀(ks:List Nat) (objs:List O),BF objs (freezeL objs ks)
 | [],objs=>fun _ _ _=>Iff.rfl
 | x::ks,objs=>by
  rw[Eng.freezeL_cons]
  split
  ·rename_i o ho
   refine BF.trans ?_ (BF.freezeL ks _)
   cases hb:o.isB with
   | false=>exact BF.set ho hb (by cases o <;> first | rfl | cases hb)
   | true=>
    have e:e8 o=o:=by cases o <;> first | rfl | cases hb
    rw[e]
    have e2:objs.set x o=objs:=by
     apply List.ext_getElem?
     intro j
     by_cases hj:x=j
     ·subst hj;rw[List.getElem?_set_self (List.getElem?_eq_some_iff.1 ho).1,ho]
     ·rw[List.getElem?_set_ne hj]
    rw[e2]
    exact fun _ _ _=>Iff.rfl
  ·exact BF.freezeL ks objs
theorem BF.cells{o o':List O}(h:BF o o')(k:Nat):(o[k]?).bind O.cells?=(o'[k]?).bind O.cells?∧gE o[k]?=gE o'[k]?:=by
 have none_of:∀(a:Option O),(∀x,a=some x→x.isB=false)→a.bind O.cells?=none∧gE a=false:=fun a ha=>by
  cases a with
  | none=>exact⟨rfl,rfl⟩
  | some x=>
   have:=ha x rfl
   cases x <;> first | exact⟨rfl,rfl⟩ | cases this
 by_cases hx:∃x,o[k]?=some x∧x.isB=true
 ·obtain⟨x,h1,h2⟩:=hx
  rw[h1,(h k x h2).1 h1]
  exact⟨rfl,rfl⟩
 ·have h1:∀x,o[k]?=some x→x.isB=false:=fun x e=>by
   cases hb:x.isB with
   | false=>rfl
   | true=>exact(hx ⟨x,e,hb⟩).elim
  have h2:∀x,o'[k]?=some x→x.isB=false:=fun x e=>by
   cases hb:x.isB with
   | false=>rfl
   | true=>exact(hx ⟨x,(h k x hb).2 e,hb⟩).elim
  rw[(none_of _ h1).1,(none_of _ h2).1,(none_of _ h1).2,(none_of _ h2).2]
  exact⟨rfl,rfl⟩
theorem X9{α:Type}{st:St}{dst:Option Nat}{o:O}{f:St→Nat→Option α}{r:α}(ho:o.isB=false)(h:f6 st dst o f=some r):∃K,BF st.objs (st.objs.set K o)∧f { st with objs:=st.objs.set K o } K=some r:=by
 unfold f6 at h
 split at h
 ·split at h
  ·rename_i d _ hf
   exact⟨_,BF.set hf rfl ho,h⟩
  ·split at h
   ·rename_i hf
    exact⟨_,BF.set hf rfl ho,h⟩
   ·split at h
    ·rename_i K hK
     have hm:K∈(List.range st.objs.length).filter fun i=>decide (st.np+st.env.length≤i)&&gM st.objs[i]?:=by
      unfold gR at hK
      exact List.mem_of_mem_head? hK
     have h2:=(List.mem_filter.1 hm).2
     simp only[Bool.and_eq_true] at h2
     have h3:st.objs[K]?=some .fresh:=by
      have:=h2.2
      unfold gM at this
      split at this
      ·assumption
      ·cases this
     exact⟨_,BF.set h3 rfl ho,h⟩
    ·cases h
 ·cases h
theorem YA{cs:List C}{objs:List O}{q:List O×List C}(h:GY objs cs=some q):BF objs q.1:=by
 unfold GY at h
 obtain⟨l,_,h⟩:=Option.map_eq_some_iff.1 h
 subst h
 exact BF.freezeL _ _
theorem L6{P:Program}{b:St}{dst:Option Nat}{t:TypeId}{n:Nat}{parts:List (Nat×D)}{p:List O×D}(h:(eV P b dst t n parts fun s d=>some (s.objs,d))=some p):BF b.objs p.1:=by
 unfold eV at h
 split at h
 ·split at h
  case h_2=>cases h
  split at h
  case h_2=>cases h
  split at h
  case isFalse=>cases h
  obtain⟨K,h1,h2⟩:=X9 rfl h
  cases h2
  exact h1
 ·unfold gY at h
  split at h
  case h_2=>cases h
  split at h
  case h_2=>cases h
  split at h
  case h_2=>cases h
  split at h
  case h_2=>cases h
  split at h
  case isFalse=>cases h
  split at h
  case h_2=>cases h
  split at h
  case h_2=>cases h
  rename_i q hq
  split at h
  case h_2=>cases h
  have h:=h
  rw[show ∀(ts:List TypeId) (cs:List C) (f:List T→Option (List O×D)),fQ P ts cs f=(fQ P ts cs some).bind f from fun ts cs f=>gZ ts cs some f] at h
  obtain⟨ts,_,h⟩:=Option.bind_eq_some_iff.1 h
  obtain⟨K,h1,h2⟩:=X9 rfl h
  cases h2
  exact(YA hq).trans h1
theorem L7{P:Program}{b:St}{t:TypeId}{m key v:D}{q:List O}(h:(n4 P b t m key v fun s=>some s.objs)=some q):BF b.objs q:=by
 unfold n4 at h
 split at h
 ·unfold FC at h
  split at h
  case h_2=>cases h
  split at h
  case h_2=>cases h
  split at h
  case h_2=>cases h
  split at h
  case h_3=>cases h
  case h_1=>
   split at h
   case h_2=>cases h
   rename_i hob
   split at h
   case isFalse=>cases h
   obtain⟨t,v,_,h,_⟩:=AJ h
   obtain⟨_,_,h⟩:=aC h
   obtain⟨_,_,h⟩:=aC h
   obtain⟨_,_,h⟩:=aC h
   cases h
   exact BF.set hob rfl rfl
  case h_2=>
   split at h
   case h_2=>cases h
   rename_i hob
   split at h
   case h_2=>cases h
   rename_i hoq
   split at h
   case h_2=>cases h
   rename_i FF hF
   split at h
   case isFalse=>cases h
   obtain⟨t,v,_,h,_⟩:=AJ h
   obtain⟨_,_,h⟩:=aC h
   cases h
   obtain⟨_,hf⟩:=uK hF
   refine(BF.set hf rfl rfl).trans (BF.trans (BF.set (y:=_) (by rw[List.getElem?_set_ne (fun e=>by rw[e,hob] at hf;cases hf)];exact hob) rfl rfl) (BF.set (y:=_) (by
    rw[List.getElem?_set_ne (fun e=>by rw[e,hoq] at hob;cases hob),List.getElem?_set_ne (fun e=>by rw[e,hoq] at hf;cases hf)];exact hoq) rfl rfl))
 ·unfold xM at h
  split at h
  case h_2=>cases h
  split at h
  case h_2=>cases h
  obtain⟨t,v,_,h,_⟩:=AJ h
  split at h
  case h_2=>cases h
  split at h
  case h_2=>cases h
  rename_i hfz
  split at h
  case h_2=>cases h
  rename_i hob
  split at h
  case isFalse=>cases h
  obtain⟨ts,h⟩:=sZ h
  split at h
  case h_2=>cases h
  cases h
  exact(YA hfz).trans (BF.set hob rfl rfl)
theorem YB(hpl:lP Γ pl){o:Oper}(h:X4 pl o=true){st:St}{q:List O}{d:D}(hp:e7 P Γ ops o st=some (q,d)):BF st.objs q:=by
 obtain⟨dst,op,type,pos,after,guard⟩:=o
 unfold X4 at h
 unfold e7 at hp
 cases hg:gd ops (⟨dst,op,type,pos,after,guard⟩:Oper) st with
 | none=>rw[hg] at hp;cases hp
 | some w=>
  rw[hg] at hp
  cases w with
  | false=>cases hp;exact fun _ _ _=>Iff.rfl
  | true=>
   have hp:EC P Γ ⟨dst,op,type,pos,after,guard⟩ st.bare (ev st)=some (q,d):=hp
   unfold EC at hp
   cases op with
   | store t x v=>
    dsimp only at hp h
    split at hp
    case isFalse=>cases hp
    rename_i hgs
    rw[Bool.and_eq_true] at hgs
    have hge:=hgs.2
    unfold XR at hge
    rw[Bool.and_eq_true,Bool.and_eq_true] at hge
    replace hge:=hge.1.1
    rw[Bool.and_eq_true] at h
    rw[hpl.2.2.2.2.2.2.2.2 t (of_decide_eq_true h.1) h.2] at hge
    have hge:VO (ev st x)=true:=hge
    obtain⟨q',h1,h2⟩:=Option.bind_eq_some_iff.1 hp
    cases h2
    unfold rM at h1
    split at h1
    case h_2=>cases h1
    split at h1
    case isFalse=>cases h1
    unfold VO at hge
    split at hge
    case h_2=>cases hge
    rename_i kk mm ii jj he
    rw[he] at h1
    unfold mE at h1
    dsimp only at h1
    split at h1
    case h_2=>cases h1
    rename_i q2 hfz
    split at h1
    case h_2=>cases h1
    rename_i e m' es hob
    obtain⟨ts,h1⟩:=sZ h1
    split at h1
    case isFalse=>cases h1
    obtain⟨x,_,h1⟩:=aC h1
    cases h1
    have hfz':BF st.objs q2.1:=by
     unfold GY at hfz
     obtain⟨l,_,hfz⟩:=Option.map_eq_some_iff.1 hfz
     subst hfz
     exact BF.freezeL _ _
    exact hfz'.trans (BF.set hob rfl rfl)
   | buildSlice t n parts=>
    dsimp only at hp
    unfold Gx at hp
    split at hp
    ·rw[nH] at hp
     obtain⟨d,_,h2⟩:=Option.bind_eq_some_iff.1 hp
     cases h2
     exact fun k x _=>Iff.rfl
    split at hp
    case isFalse=>cases hp
    exact L6 hp
   | mapUpdate t m q v=>
    dsimp only at hp
    obtain⟨q',h1,h2⟩:=Option.bind_eq_some_iff.1 hp
    cases h2
    exact L7 (b:=st.bare) h1
   | insert t m q v=>
    dsimp only at hp
    obtain⟨q',h1,h2⟩:=Option.bind_eq_some_iff.1 hp
    cases h2
    exact L7 (b:=st.bare) h1
   | _=>cases h
theorem YC(hN:∀f A,Γ f=some A→A.Nat)(hpl:lP Γ pl){o:Oper}(h:PC pl o=true){st:St}{p:List O×D}(hp:e7 P Γ ops o st=some p):p.1=st.objs:=by
 refine n9 hN hpl (pl:=pl) ?_ hp
 obtain⟨dst,op,type,pos,after,guard⟩:=o
 unfold PC at h
 cases op <;> first | rfl | (cases h;done)
theorem CW(hpl:lP Γ pl){o:Oper}(h:PC pl o=true){st:St}{q:List O}(hb:BF st.objs q){d:D}(hp:e7 P Γ ops o st=some (st.objs,d)):e7 P Γ ops o { st with objs:=q }=some (q,d):=by
 obtain⟨dst,op,type,pos,after,guard⟩:=o
 unfold PC at h
 unfold e7 at hp ⊢
 have h1:gd ops (⟨dst,op,type,pos,after,guard⟩:Oper) { st with objs:=q }=gd ops (⟨dst,op,type,pos,after,guard⟩:Oper) st:=rfl
 rw[h1]
 cases hg:gd ops (⟨dst,op,type,pos,after,guard⟩:Oper) st with
 | none=>rw[hg] at hp;cases hp
 | some w=>
  rw[hg] at hp
  cases w with
  | false=>
   simp only[Option.bind_some,cond_false,Option.some.injEq,Prod.mk.injEq] at hp ⊢
   exact⟨trivial,hp.2⟩
  | true=>
   cases op with
   | load t x=>
    cases dst with
    | none=>cases h
    | some sl=>
     dsimp only at h
     have hp:(if yD Γ (some sl) (ev st x)=true then ((l7 Γ P st.bare (some sl) t (ev st x) some).bind fun d=>some (st.bare.objs,d)) else none)=some (st.objs,d):=hp
     split at hp
     case isFalse=>cases hp
     rename_i hgl
     obtain⟨d',h3,h2⟩:=Option.bind_eq_some_iff.1 hp
     cases h2
     show (if yD Γ (some sl) (ev st x)=true then ((l7 Γ P { st.bare with objs:=q } (some sl) t (ev st x) some).bind fun d=>some (q,d)) else none)=some (q,d)
     rw[if_pos hgl]
     have hbx:QP (ev st x)=true:=by
      have:=hgl
      unfold yD at this
      dsimp only at this
      rw[Bool.and_eq_true] at this
      replace this:=this.1
      rw[hpl.2.2.2.2.2.2.2.1 sl h] at this
      exact this
     unfold QP at hbx
     split at hbx
     case h_2=>cases hbx
     rename_i kk jj he
     rw[he] at h3 ⊢
     obtain⟨c1,c2⟩:=hb.cells kk
     have hlk:∀(f:D→Option D),nV P { st.bare with objs:=q } t (.s (.c (.box kk jj))) f=nV P st.bare t (.s (.c (.box kk jj))) f:=fun f=>by
      unfold nV mE
      have c1':(({ st.bare with objs:=q }:St).objs[kk]?).bind O.cells?=(st.bare.objs[kk]?).bind O.cells?:=c1.symm
      simp only[c1']
     have hbd:pS { st.bare with objs:=q } (.s (.c (.box kk jj)))=pS st.bare (.s (.c (.box kk jj))):=c2.symm
     have key:l7 Γ P { st.bare with objs:=q } (some sl) t (.s (.c (.box kk jj))) some=some d:=by
      unfold l7 at h3 ⊢
      rw[hbd]
      simp only[hlk]
      exact h3
     rw[key]
     rfl
   | _=>cases h
def RF(o o':List O):Prop:=∀(k:Nat) (x:O),x.isB=false→(o[k]?=some x↔o'[k]?=some x)
theorem RF.symm{o o':List O}(h:RF o o'):RF o' o:=fun k x hx=>(h k x hx).symm
theorem RF.set{o:List O}{K:Nat}{x y:O}(h:o[K]?=some y)(hy:y.isB=true)(hx:x.isB=true):RF o (o.set K x):=fun k z hz=>by
 by_cases hk:K=k
 ·subst hk
  rw[List.getElem?_set_self (List.getElem?_eq_some_iff.1 h).1,h]
  constructor
  ·intro e;cases e;rw[hy] at hz;cases hz
  ·intro e;cases e;rw[hx] at hz;cases hz
 ·rw[List.getElem?_set_ne hk]
def O.ln:O→Option (Nat×Nat)
 | .row _ _ _ l=>some (0,l.length)
 | .mp _ _ _ l=>some (1,l.length)
 | .rr _ e _ _ l=>some (e+2,l.length)
 | _=>none
def LnF(o o':List O):Prop:=∀k:Nat,(∀x:O,x.isB=false→x.ln=none→(o[k]?=some x↔o'[k]?=some x))∧(o[k]?).bind O.ln=(o'[k]?).bind O.ln
theorem LnF.symm{o o':List O}(h:LnF o o'):LnF o' o:=fun k=>⟨fun x a b=>((h k).1 x a b).symm,(h k).2.symm⟩
theorem LnF.trans{a b c:List O}(h:LnF a b)(h':LnF b c):LnF a c:=fun k=>⟨fun x p q=>((h k).1 x p q).trans ((h' k).1 x p q),(h k).2.trans (h' k).2⟩
theorem RF.ln{o o':List O}(h:RF o o'):LnF o o':=fun k=>by
 refine⟨fun x hb _=>h k x hb,?_⟩
 have aux:∀{a b:List O},RF a b→∀x,a[k]?=some x→x.isB=true→(b[k]?).bind O.ln=none:=fun {a b} hab x hx hb=>by
  cases hy:b[k]? with
  | none=>rfl
  | some y=>
   cases hyb:y.isB with
   | true=>cases y <;> first | rfl | cases hyb
   | false=>
    rw[(hab k y hyb).2 hy] at hx
    cases hx
    rw[hyb] at hb;cases hb
 cases hx:o[k]? with
 | none=>
  cases hy:o'[k]? with
  | none=>rfl
  | some y=>
   cases hyb:y.isB with
   | true=>cases y <;> first | rfl | cases hyb
   | false=>rw[(h k y hyb).2 hy] at hx;cases hx
 | some x=>
  cases hb:x.isB with
  | true=>
   rw[aux h x hx hb]
   cases x <;> first | rfl | cases hb
  | false=>rw[(h k x hb).1 hx]
theorem LnF.set{o:List O}{K:Nat}{x y:O}(h:o[K]?=some y)(hy:y.ln≠none)(hx:x.ln=y.ln):LnF o (o.set K x):=fun k=>by
 have hlt:=(List.getElem?_eq_some_iff.1 h).1
 by_cases hk:K=k
 ·subst hk
  rw[List.getElem?_set_self hlt,h]
  refine⟨fun z _ hz=>⟨fun e=>?_,fun e=>?_⟩,?_⟩
  ·cases e;exact(hy hz).elim
  ·cases e;rw[hx] at hz;exact(hy hz).elim
  ·simp only[Option.bind_some];exact hx.symm
 ·rw[List.getElem?_set_ne hk]
  exact⟨fun _ _ _=>Iff.rfl,rfl⟩
theorem LnF.freezeL:∀(ks:List Nat) (objs:List O),LnF objs (freezeL objs ks)
 | [],objs=>fun _=>⟨fun _ _ _=>Iff.rfl,rfl⟩
 | x::ks,objs=>by
  rw[Eng.freezeL_cons]
  split
  ·rename_i o ho
   refine LnF.trans ?_ (LnF.freezeL ks _)
   cases o with
   | row fz e n l=>exact LnF.set ho (by simp[O.ln]) rfl
   | mp fz e n l=>exact LnF.set ho (by simp[O.ln]) rfl
   | _=>
    have key:∀o:O,objs[x]?=some o→LnF objs (objs.set x o):=fun o ho k=>by
     by_cases hk:x=k
     ·subst hk
      rw[List.getElem?_set_self (List.getElem?_eq_some_iff.1 ho).1,ho]
      exact⟨fun _ _ _=>Iff.rfl,rfl⟩
     ·rw[List.getElem?_set_ne hk]
      exact⟨fun _ _ _=>Iff.rfl,rfl⟩
    exact key _ ho
  ·exact LnF.freezeL ks _
theorem LnF.rr{o o':List O}(hg:LnF o o'){k:Nat}{hole:Option Nat}{e e2:TypeId}{n:Nat}{l:List (List T)}(h:o[k]?=some (.rr hole e e2 n l)):∃hole' e2' n' l',o'[k]?=some (.rr hole' e e2' n' l')∧l'.length=l.length:=by
 have hl:=(hg k).2
 rw[h] at hl
 simp only[Option.bind_some,O.ln] at hl
 obtain⟨y,hy,hyl⟩:=Option.bind_eq_some_iff.1 hl.symm
 cases y with
 | rr hole' e' e2' n' l'=>
  simp only[O.ln,Option.some.injEq,Prod.mk.injEq] at hyl
  obtain⟨h1,h2⟩:=hyl
  have:e'=e:=Nat.add_right_cancel h1
  subst this
  exact⟨_,_,_,_,hy,h2⟩
 | row fz e' n' l'=>simp only[O.ln,Option.some.injEq,Prod.mk.injEq] at hyl;exact(Nat.succ_ne_zero _ hyl.1.symm).elim
 | mp fz e' n' l'=>simp only[O.ln,Option.some.injEq,Prod.mk.injEq] at hyl;exact(Nat.succ_ne_zero _ (Nat.succ.inj hyl.1).symm).elim
 | _=>simp[O.ln] at hyl
theorem YD{o o':List O}(hg:LnF o o'):∀{f k K:Nat},rL o f k=some K→rL o' f k=some K
 | 0,_,_,h=>by simp[rL] at h
 | f+1,k,K,h=>by
  simp only[rL] at h ⊢
  split at h
  ·rename_i ho;obtain⟨_,_,_,_,q,_⟩:=hg.rr ho;rw[q];exact h
  ·rename_i ho;rw[((hg k).1 _ rfl rfl).1 ho];exact YD hg h
  ·cases h
theorem Hr{R:Type}{st:St}{q:List O}{t:TypeId}{x:D}{k:D→Option R}{r:R}(hg:LnF st.objs q)(h:uC P st t x k=some r):uC P { st with objs:=q } t x k=some r:=by
 have get:∀(key:Nat) (o:O),st.objs[key]?=some o→o.isB=false→o.ln=none→q[key]?=some o:=fun key o ho hb hl=>((hg key).1 o hb hl).1 ho
 unfold uC at h ⊢
 cases hu:P.underlying t with
 | none=>rw[hu] at h;cases h
 | some u=>
  rw[hu] at h
  cases u with
  | slice e=>
   dsimp only at h ⊢
   unfold mE at h ⊢
   cases x with
   | tup l=>cases h
   | s s=>cases s with
    | agg l=>cases h
    | c c=>
     dsimp only at h ⊢
     cases c with
     | row key=>
      dsimp only at h ⊢
      have hl:=(hg key).2
      cases ho:st.objs[key]? with
      | none=>rw[ho] at h;cases h
      | some o=>
       rw[ho] at h hl
       cases o with
       | row fz e n l=>
        simp only[Option.bind_some,O.ln] at hl
        obtain⟨y,hy,hyl⟩:=Option.bind_eq_some_iff.1 hl.symm
        rw[hy]
        cases y with
        | row fz' e' n' l'=>
         simp only[O.ln,Option.some.injEq,Prod.mk.injEq,true_and] at hyl
         have e1:lenL l'=lenL l:=by unfold lenL;rw[hyl]
         show k (dI .i64 (lenL l'))=some r
         rw[e1]
         exact h
        | rr hole' e' e2' n' l'=>simp only[O.ln,Option.some.injEq,Prod.mk.injEq] at hyl;exact(Nat.succ_ne_zero _ hyl.1).elim
        | mp fz' e' n' l'=>simp[O.ln] at hyl
        | _=>simp[O.ln] at hyl
       | _=>cases h
     | rk key=>
      dsimp only at h ⊢
      cases hr:rL st.objs 64 key with
      | none=>rw[hr] at h;cases h
      | some K=>
       rw[hr] at h
       rw[YD hg hr]
       dsimp only at h ⊢
       cases ho:st.objs[K]? with
       | none=>rw[ho] at h;cases h
       | some o=>
        rw[ho] at h
        cases o with
        | rr hole e1 e2 n l=>
         obtain⟨_,_,_,l',q,ql⟩:=hg.rr ho
         rw[q]
         have e1:lenL l'=lenL l:=by unfold lenL;rw[ql]
         dsimp only at h ⊢
         rw[e1]
         exact h
        | _=>cases h
     | _=>exact h
  | map kt e=>
   dsimp only at h ⊢
   unfold mE at h ⊢
   cases x with
   | tup l=>cases h
   | s s=>cases s with
    | agg l=>cases h
    | c c=>
     dsimp only at h ⊢
     cases c with
     | t y=>
      cases y <;> first | exact h | cases h
     | row key=>
      dsimp only at h ⊢
      have hl:=(hg key).2
      cases ho:st.objs[key]? with
      | none=>rw[ho] at h;cases h
      | some o=>
       rw[ho] at h hl
       cases o with
       | mp fz e n l=>
        simp only[Option.bind_some,O.ln] at hl
        obtain⟨y,hy,hyl⟩:=Option.bind_eq_some_iff.1 hl.symm
        rw[hy]
        cases y with
        | mp fz' e' n' l'=>
         simp only[O.ln,Option.some.injEq,Prod.mk.injEq,true_and] at hyl
         have e1:lenL l'=lenL l:=by unfold lenL;rw[hyl]
         show k (dI .i64 (lenL l'))=some r
         rw[e1]
         exact h
        | rr hole' e' e2' n' l'=>simp only[O.ln,Option.some.injEq,Prod.mk.injEq] at hyl;exact(Nat.succ_ne_zero _ (Nat.succ.inj hyl.1)).elim
        | row fz' e' n' l'=>simp[O.ln] at hyl
        | _=>simp[O.ln] at hyl
       | _=>cases h
     | _=>exact h
  | _=>exact h
theorem Ao{P:Program}{b:St}{t:TypeId}{x v:D}{q:List O}(h:(rM P b t x v fun s=>some s.objs)=some q):LnF b.objs q:=by
 unfold rM at h
 split at h
 case h_2=>cases h
 split at h
 case isFalse=>cases h
 unfold mE at h
 split at h
 case h_2=>cases h
 rename_i c
 cases c
 all_goals dsimp only at h
 all_goals try (cases h;done)
 ·split at h
  case h_2=>cases h
  rename_i hob
  split at h
  case isFalse=>cases h
  cases h
  exact(RF.set hob rfl rfl).ln
 ·split at h
  case h_2=>cases h
  rename_i q2 hfz
  split at h
  case h_2=>cases h
  rename_i e m' es hob
  obtain⟨ts,h⟩:=sZ h
  split at h
  case isFalse=>cases h
  obtain⟨x,_,h⟩:=aC h
  cases h
  have hfz':LnF b.objs q2.1:=by
   unfold GY at hfz
   obtain⟨l,_,hfz⟩:=Option.map_eq_some_iff.1 hfz
   subst hfz
   exact LnF.freezeL _ _
  exact hfz'.trans (LnF.set hob (by simp[O.ln]) (by simp[O.ln]))
 ·split at h
  case h_2=>cases h
  split at h
  case h_2=>cases h
  rename_i hob
  split at h
  case isFalse=>cases h
  obtain⟨_,_,h⟩:=aC h
  obtain⟨_,_,h⟩:=aC h
  obtain⟨_,_,h⟩:=aC h
  cases h
  exact LnF.set hob (by simp[O.ln]) (by simp[O.ln])
theorem YE{o:Oper}(h:X6 pl o=true){st:St}{q:List O}{d:D}(hp:e7 P Γ ops o st=some (q,d)):LnF st.objs q:=by
 obtain⟨dst,op,type,pos,after,guard⟩:=o
 unfold X6 at h
 unfold e7 at hp
 cases hg:gd ops (⟨dst,op,type,pos,after,guard⟩:Oper) st with
 | none=>rw[hg] at hp;cases hp
 | some w=>
  rw[hg] at hp
  cases w with
  | false=>cases hp;exact fun _=>⟨fun _ _ _=>Iff.rfl,rfl⟩
  | true=>
   have hp:EC P Γ ⟨dst,op,type,pos,after,guard⟩ st.bare (ev st)=some (q,d):=hp
   unfold EC at hp
   cases op with
   | store t x v=>
    dsimp only at hp h
    split at hp
    case isFalse=>cases hp
    obtain⟨q',h1,h2⟩:=Option.bind_eq_some_iff.1 hp
    cases h2
    exact Ao (b:=st.bare) h1
   | _=>cases h
def AS(Γ:FuncId→Option Callee)(o o':List O):Prop:=∀k,(eJ Γ).contains (5000000+k)=true→o[k]?=o'[k]?
theorem AS.symm{o o':List O}(h:AS Γ o o'):AS Γ o' o:=fun k hk=>(h k hk).symm
theorem YF(hpl:lP Γ pl){o:Oper}(h:X5 pl o=true){st:St}{q:List O}{d:D}(hp:e7 P Γ ops o st=some (q,d)):AS Γ st.objs q:=by
 obtain⟨dst,op,type,pos,after,guard⟩:=o
 unfold X5 at h
 unfold e7 at hp
 cases hg:gd ops (⟨dst,op,type,pos,after,guard⟩:Oper) st with
 | none=>rw[hg] at hp;cases hp
 | some w=>
  rw[hg] at hp
  cases w with
  | false=>cases hp;exact fun _ _=>rfl
  | true=>
   have hp:EC P Γ ⟨dst,op,type,pos,after,guard⟩ st.bare (ev st)=some (q,d):=hp
   unfold EC at hp
   cases op with
   | store t x v=>
    dsimp only at hp h
    split at hp
    case isFalse=>cases hp
    rename_i hgs
    rw[Bool.and_eq_true] at hgs
    have hge:=hgs.2
    unfold XR at hge
    rw[Bool.and_eq_true,Bool.and_eq_true] at hge
    replace hge:=hge.2
    rw[Bool.and_eq_true] at h
    have ht:=of_decide_eq_true h.1
    have aux9:∀n:Nat,82000000+(2000000+n)=84000000+n:=fun n=>by omega
    have aux7:∀n:Nat,n<1000000→2000000+n<8000000:=fun n hn=>by omega
    rw[hpl.2.2.2.2.2.2.2.2 (2000000+t) (aux7 t ht) (by rw[show 82000000+(2000000+t)=84000000+t from aux9 t];exact h.2)] at hge
    have hge:VP Γ (ev st x)=true:=hge
    obtain⟨q',h1,h2⟩:=Option.bind_eq_some_iff.1 hp
    cases h2
    unfold rM at h1
    split at h1
    case h_2=>cases h1
    split at h1
    case isFalse=>cases h1
    unfold VP at hge
    split at hge
    case h_2=>cases hge
    rename_i kk jj he
    rw[he] at h1
    unfold mE at h1
    dsimp only at h1
    split at h1
    case h_2=>cases h1
    rename_i l hob
    split at h1
    case isFalse=>cases h1
    cases h1
    exact fun k hk=>by
     by_cases e:kk=k
     ·subst e;rw[hk] at hge;cases hge
     ·exact(List.getElem?_set_ne e).symm
   | _=>cases h
theorem YG(hN:∀f A,Γ f=some A→A.Nat)(hpl:lP Γ pl){o:Oper}(h:PD pl o=true){st:St}{p:List O×D}(hp:e7 P Γ ops o st=some p):p.1=st.objs:=by
 refine n9 hN hpl (pl:=pl) ?_ hp
 obtain⟨dst,op,type,pos,after,guard⟩:=o
 unfold PD at h
 cases op <;> first | rfl | (cases h;done)
theorem CX(hpl:lP Γ pl){o:Oper}(h:PD pl o=true){st:St}{q:List O}(hb:AS Γ st.objs q){d:D}(hp:e7 P Γ ops o st=some (st.objs,d)):e7 P Γ ops o { st with objs:=q }=some (q,d):=by
 obtain⟨dst,op,type,pos,after,guard⟩:=o
 unfold PD at h
 unfold e7 at hp ⊢
 have h1:gd ops (⟨dst,op,type,pos,after,guard⟩:Oper) { st with objs:=q }=gd ops (⟨dst,op,type,pos,after,guard⟩:Oper) st:=rfl
 rw[h1]
 cases hg:gd ops (⟨dst,op,type,pos,after,guard⟩:Oper) st with
 | none=>rw[hg] at hp;cases hp
 | some w=>
  rw[hg] at hp
  cases w with
  | false=>
   simp only[Option.bind_some,cond_false,Option.some.injEq,Prod.mk.injEq] at hp ⊢
   exact⟨trivial,hp.2⟩
  | true=>
   cases op with
   | load t x=>
    cases dst with
    | none=>cases h
    | some sl=>
     dsimp only at h
     have hp:(if yD Γ (some sl) (ev st x)=true then ((l7 Γ P st.bare (some sl) t (ev st x) some).bind fun d=>some (st.bare.objs,d)) else none)=some (st.objs,d):=hp
     split at hp
     case isFalse=>cases hp
     rename_i hgl
     obtain⟨d',h3,h2⟩:=Option.bind_eq_some_iff.1 hp
     cases h2
     show (if yD Γ (some sl) (ev st x)=true then ((l7 Γ P { st.bare with objs:=q } (some sl) t (ev st x) some).bind fun d=>some (q,d)) else none)=some (q,d)
     rw[if_pos hgl]
     have hbx:Cu Γ (ev st x)=true:=by
      have:=hgl
      unfold yD at this
      dsimp only at this
      rw[Bool.and_eq_true] at this
      replace this:=this.2
      have aux:∀n:Nat,90000000+(1000000+n)=91000000+n:=fun n=>by omega
      rw[hpl.2.2.2.2.2.2.2.1 (1000000+sl) (by rw[aux];exact h)] at this
      exact this
     unfold Cu at hbx
     split at hbx
     case h_2=>cases hbx
     rename_i kk jj he
     rw[he] at h3 ⊢
     have ck:=hb kk hbx
     have c1:(st.objs[kk]?).bind O.cells?=(q[kk]?).bind O.cells?:=by rw[ck]
     have c2:gE st.objs[kk]?=gE q[kk]?:=by rw[ck]
     have hlk:∀(f:D→Option D),nV P { st.bare with objs:=q } t (.s (.c (.box kk jj))) f=nV P st.bare t (.s (.c (.box kk jj))) f:=fun f=>by
      unfold nV mE
      have c1':(({ st.bare with objs:=q }:St).objs[kk]?).bind O.cells?=(st.bare.objs[kk]?).bind O.cells?:=c1.symm
      simp only[c1']
     have hbd:pS { st.bare with objs:=q } (.s (.c (.box kk jj)))=pS st.bare (.s (.c (.box kk jj))):=c2.symm
     have key:l7 Γ P { st.bare with objs:=q } (some sl) t (.s (.c (.box kk jj))) some=some d:=by
      unfold l7 at h3 ⊢
      rw[hbd]
      simp only[hlk]
      exact h3
     rw[key]
     rfl
   | _=>cases h
theorem Q8(hN:∀f A,Γ f=some A→A.Nat)(hpl:lP Γ pl){o:Oper}(h:IM o=true){st:St}{p:List O×D}(hp:e7 P Γ ops o st=some p):p.1=st.objs:=by
 refine n9 hN hpl (pl:=pl) ?_ hp
 obtain⟨dst,op,type,pos,after,guard⟩:=o
 unfold IM at h
 cases op with
 | call c=>
  obtain⟨callee,args,ats⟩:=c
  cases callee with
  | builtin bi=>cases bi <;> first | rfl | (cases h;done)
  | _=>cases h
 | _=>cases h
theorem CY{o:Oper}(h:IM o=true){st:St}{q:List O}(hb:LnF st.objs q){d:D}(hp:e7 P Γ ops o st=some (st.objs,d)):e7 P Γ ops o { st with objs:=q }=some (q,d):=by
 obtain⟨dst,op,type,pos,after,guard⟩:=o
 unfold IM at h
 unfold e7 at hp ⊢
 have h1:gd ops (⟨dst,op,type,pos,after,guard⟩:Oper) { st with objs:=q }=gd ops (⟨dst,op,type,pos,after,guard⟩:Oper) st:=rfl
 rw[h1]
 cases hg:gd ops (⟨dst,op,type,pos,after,guard⟩:Oper) st with
 | none=>rw[hg] at hp;cases hp
 | some w=>
  rw[hg] at hp
  cases w with
  | false=>
   simp only[Option.bind_some,cond_false,Option.some.injEq,Prod.mk.injEq] at hp ⊢
   exact⟨trivial,hp.2⟩
  | true=>
   cases op with
   | call c=>
    obtain⟨callee,args,ats⟩:=c
    cases callee with
    | builtin bi=>
     cases bi with
     | len=>
      have hev:∀x,ev { st with objs:=q } x=ev st x:=fun x=>by cases x <;> rfl
      have hp:(if qT Γ st dst .len (args.toList.map (ev st))=true then cM P st.bare dst type .len (args.toList.map (ev st)) ats.toList else none)=some (st.objs,d):=hp
      show (if qT Γ st dst .len (args.toList.map (ev { st with objs:=q }))=true then cM P { st.bare with objs:=q } dst type .len (args.toList.map (ev { st with objs:=q })) ats.toList else none)=some (q,d)
      have hm:args.toList.map (ev { st with objs:=q })=args.toList.map (ev st):=List.map_congr_left fun x _=>hev x
      rw[hm]
      split at hp
      case isFalse=>cases hp
      rename_i hgb
      rw[if_pos hgb]
      unfold cM at hp ⊢
      split at hp
      ·obtain⟨d',h3,h2⟩:=Option.bind_eq_some_iff.1 hp
       cases h2
       have:=Hr (st:=st.bare) hb h3
       show ((uC P { st.bare with objs:=q } _ _ some).bind fun d=>some (q,d))=_
       rw[this]
       rfl
      all_goals first
       | (cases ‹Builtin.len=_›;done)
       | (cases hp;done)
     | _=>cases h
    | _=>cases h
   | _=>cases h
theorem FO(hpl:lP Γ pl){f:Operand}{st:St}(h:(match f with | .func f'=>pl.contains (f'+4000000) | _=>pl.contains 9000002)=true):∀g A,Γ g=some A→HD (ev st f) g→A.Framed∨A.Never:=fun g A hA hr=>by
 by_cases hflag:(g==2000000)=true
 ·have:g=2000000:=by simpa using hflag
  subst this
  exact .inr (hpl.2.2.2.2.2.2.1 A hA)
 ·have hflag:(g==2000000)=false:=by simpa using hflag
  cases f with
  | func f'=>
   left
   have:g=f':=by
    rcases hr with⟨v,h1,h2⟩ | ⟨caps,h1⟩
    ·simp only[ev] at h1
     cases h1
     have hpf:lL (Value.func (.func f') #[] #[])=some f':=rfl
     rw[hpf] at h2
     cases h2;rfl
    ·simp only[ev] at h1
     cases h1
   subst this
   exact hpl.2.2.1 g A h hA
  | _=>exact hpl.2.2.2.2.2.1 h g A hflag hA
theorem PK{b:St}{dst:Option Nat}{f:D}{args:List D}{p:List O×D}(h:AH Γ b dst f args=some p):(CQ Γ b.objs dst (f::args)=true∧nE Γ b dst (f::args)=true)∧(eP Γ b dst f args fun s d=>some (s.objs,d))=some p:=by
 unfold AH at h
 split at h
 case isFalse=>cases h
 rename_i hg
 refine⟨Bool.and_eq_true_iff.1 hg,?_⟩
 unfold EA at h
 split at h
 ·exact h
 ·split at h
  ·exact h
  ·split at h
   case isFalse=>cases h
   obtain⟨p',h1,h2⟩:=Option.bind_eq_some_iff.1 h
   split at h2
   case isFalse=>cases h2
   cases h2
   exact h1
theorem L8{objs:List O}{K:Nat}{x:O}{ds:List D}(h:jM objs K ds=true)(k:Nat):jM (objs.set K x) k ds=jM objs k ds:=by
 have hall:∀{α:Type} (l:List α) (f g:α→Bool),(∀a∈l,f a=g a)→l.all f=l.all g:=by
  intro α l f g
  induction l with
  | nil=>intro _;rfl
  | cons a l ih=>intro h;rw[List.all_cons,List.all_cons,h a (by simp),ih fun b hb=>h b (by simp[hb])]
 unfold jM at h ⊢
 refine hall _ _ _ fun d hd=>hall _ _ _ fun c hc=>?_
 have h1:=List.all_eq_true.1 (List.all_eq_true.1 h d hd) c hc
 rw[Bool.and_eq_true] at h1
 congr 1
 refine hall _ _ _ fun k' hk'=>?_
 have h2:=List.all_eq_true.1 h1.2 k' hk'
 rw[Bool.and_eq_true] at h2
 have hne:K≠k':=fun e=>by subst e;have:=h2.1;simp at this
 rw[List.getElem?_set_ne hne]
theorem PL{s:Nat}{st:St}{ds:List D}(h:nE Γ st (some s) ds=true)(hg:(eJ Γ).contains (2500000+s)=true):
 (bL Γ).contains (10000000+s)=true∧(bL Γ).contains s=true∧(eJ Γ).contains (2000000+s)=false∧∀k∈Ms Γ,jM st.objs k ds=true∧k<st.np+st.env.length∧k≠st.np+s∧k<st.objs.length:=by
 unfold nE at h
 dsimp only at h
 rw[hg] at h
 simp only[Bool.not_true,Bool.false_or,Bool.and_eq_true,Bool.not_eq_true'] at h
 obtain⟨h1,⟨h2,h3⟩,h4⟩:=h
 refine⟨h1,h2,h3,fun k hk=>?_⟩
 have:=List.all_eq_true.1 h4 k hk
 simp only[Bool.and_eq_true,decide_eq_true_eq,bne_iff_ne,ne_eq] at this
 exact⟨this.1,this.2.1,this.2.2.1,this.2.2.2⟩
theorem WF{st:St}{dst:Option Nat}{o:O}{f:Nat→D}{k:Nat}{x:O}{p:List O×D}(hi:Dn st dst k)(h:(f6 st dst o fun s key=>some (s.objs,f key))=some p):
 (f6 { st with objs:=st.objs.set k x } dst o fun s key=>some (s.objs,f key))=some (p.1.set k x,p.2):=by
 obtain⟨h1,h2⟩:=hi
 cases dst with
 | none=>cases h
 | some d=>
  have h3:=h2 d rfl
  have e1:(st.objs.set k x)[st.np+d]?=st.objs[st.np+d]?:=List.getElem?_set_ne h3
  have e2:(st.objs.set k x)[st.np+(st.env.length+d)]?=st.objs[st.np+(st.env.length+d)]?:=List.getElem?_set_ne (by omega)
  have e3:gR { st with objs:=st.objs.set k x }=gR st:=by
   unfold gR
   dsimp only
   rw[List.length_set]
   refine congrArg List.head? (List.filter_congr fun i _=>?_)
   by_cases hi:st.np+st.env.length≤i
   ·rw[List.getElem?_set_ne (by omega)]
   ·rw[decide_eq_false hi];rfl
  have hK:∀{K},gR st=some K→K≠k:=fun {K} hK=>by
   unfold gR at hK
   have hm:=List.mem_of_mem_head? hK
   have h4:=(List.mem_filter.1 hm).2
   rw[Bool.and_eq_true,decide_eq_true_eq] at h4
   omega
  unfold f6 at h ⊢
  dsimp only at h ⊢
  rw[e1,e2,e3]
  split at h
  ·cases h
   dsimp only
   rw[List.set_comm _ _ h3]
  ·split at h
   ·cases h
    dsimp only
    rw[List.set_comm _ _ (show k≠st.np+(st.env.length+d) by omega)]
   ·split at h
    ·rename_i K hK'
     cases h
     dsimp only
     rw[List.set_comm _ _ (Ne.symm (hK hK'))]
    ·cases h
theorem Q9{α:Type}{b:St}{n:Nat}{c:C}{f:List T→Option α}{k:Nat}{x:O}(hc:k∉C.rs c):gC { b with objs:=b.objs.set k x } n c f=gC b n c f:=by
 cases c with
 | row key=>simp only[gC];rw[List.getElem?_set_ne (fun e=>hc (by simp[C.rs,e]))]
 | cut key m lo len s=>simp only[gC];rw[List.getElem?_set_ne (fun e=>hc (by simp[C.rs,e]))]
 | _=>rfl
theorem L9{α:Type}{b:St}{e:TypeId}{n:Nat}{c:C}{f g:St→List T→Option α}{k:Nat}{x:O}{r r':α}(hc:k∉C.rs c)(hf:∀(o:List O) l,f { b with objs:=o } l=some r→g { b with objs:=o.set k x } l=some r')(h:xF b e n c f=some r):
 xF { b with objs:=b.objs.set k x } e n c g=some r':=by
 cases c with
 | t v=>
  cases v with
  | v w=>
   cases w with
   | slice p l c=>
    cases p with
    | none=>
     cases l with
     | zero=>
      cases c with
      | zero=>exact hf b.objs [] h
      | succ c=>cases h
     | succ l=>cases h
    | some p=>cases h
   | _=>cases h
  | _=>cases h
 | row key=>
  have hne:k≠key:=fun e=>hc (by simp[C.rs,e])
  simp only[xF] at h ⊢
  rw[List.getElem?_set_ne hne]
  split at h
  ·rename_i e' n' es ho
   split at h
   ·rename_i hcd
    rw[if_pos hcd,List.set_comm _ _ hne]
    exact hf _ _ h
   ·cases h
  ·cases h
 | cut key m lo len s=>
  have hne:k≠key:=fun e=>hc (by simp[C.rs,e])
  simp only[xF] at h ⊢
  rw[List.getElem?_set_ne hne]
  split at h
  ·rename_i e' n' es ho
   split at h
   ·rename_i hcd
    rw[if_pos hcd,List.set_comm _ _ hne]
    exact hf _ _ h
   ·cases h
  ·cases h
 | _=>cases h
theorem NW{b:St}{dst:Option Nat}{t u:TypeId}{cs cx:C}{p:List O×D}{k:Nat}{x:O}(hs:k∉C.rs cs)(hx:k∉C.rs cx)(hi:Dn b dst k)
 (h:(kH P b dst t u (.s (.c cs)) (.s (.c cx)) fun s d=>some (s.objs,d))=some p):(kH P { b with objs:=b.objs.set k x } dst t u (.s (.c cs)) (.s (.c cx)) fun s d=>some (s.objs,d))=some (p.1.set k x,p.2):=by
 have tail:∀{e n:Nat} {q:List T} (o:List O),(f6 { b with objs:=o } dst (.row false e n q) fun st key=>some (st.objs,D.s (.c (.row key))))=some p→(f6 { b with objs:=o.set k x } dst (.row false e n q) fun st key=>some (st.objs,D.s (.c (.row key))))=some (p.1.set k x,p.2):=fun {e n q} o h=>
  WF (st:={ b with objs:=o }) (f:=fun key=>D.s (.c (.row key))) hi h
 unfold kH at h ⊢
 split at h
 case h_2=>cases h
 split at h
 case h_2=>cases h
 split at h
 case h_2=>cases h
 split at h
 case isFalse=>cases h
 rename_i hcd
 rw[if_pos hcd]
 unfold mE at h ⊢
 dsimp only at h ⊢
 split at h
 ·rename_i hut
  rw[if_pos hut]
  rw[Q9 hx]
  have hm:∀(n:Nat) (c:C) (f g:List T→Option (List O×D)),(∀m,f m=some p→g m=some (p.1.set k x,p.2))→gC b n c f=some p→gC b n c g=some (p.1.set k x,p.2):=fun n c f g hfg h=>by
   unfold gC at h ⊢
   split at h
   ·obtain⟨l,hl,h⟩:=aC h
    rw[hl]
    exact hfg l h
   ·split at h
    ·split at h
     ·rename_i h1
      rw[if_pos h1]
      exact hfg _ h
     ·cases h
    ·cases h
   ·split at h
    ·split at h
     ·rename_i h1
      rw[if_pos h1]
      exact hfg _ h
     ·cases h
    ·cases h
   ·cases h
  refine hm _ _ _ _ (fun m h=>L9 hs (fun o l h=>?_) h) h
  obtain⟨q,hq,h⟩:=aC h
  rw[hq]
  exact tail o h
 ·rename_i hut
  rw[if_neg hut]
  split at h
  ·cases cx with
   | t tx=>
    obtain⟨s',hs',h⟩:=aC (show ob tx.str? _=some p from h)
    show ob tx.str? _=_
    rw[hs']
    have e9:∀(f:ByteArray→Option (List O×D)),ob (some s') f=f s':=fun f=>by unfold ob;rfl
    rw[e9]
    refine L9 hs (fun o l h=>?_) h
    obtain⟨q,hq,h⟩:=aC h
    rw[hq]
    exact tail o h
   | _=>cases h
  ·cases h
theorem TX{α:Type}{st:St}{dst:Option Nat}{o:O}{f:St→Nat→Option α}{r:α}{k:Nat}(ho:I4 st.objs[k]?=true)(h:f6 st dst o f=some r):∃K,(st.objs.set K o)[k]?=st.objs[k]?∧f { st with objs:=st.objs.set K o } K=some r:=by
 obtain⟨K,h1,h2⟩:=FN h
 refine⟨K,List.getElem?_set_ne (fun e=>?_),h2⟩
 subst e
 rw[h1] at ho
 cases ho
theorem AL{P:Program}{b:St}{dst:Option Nat}{t u:TypeId}{s x:D}{p:List O×D}{k:Nat}(hs:(∃y,s=.s (.c (.t y)))∨∃key,s=.s (.c (.row key))∧key≠k)(ho:I4 b.objs[k]?=true)
 (h:(kH P b dst t u s x fun s d=>some (s.objs,d))=some p):p.1[k]?=b.objs[k]?:=by
 have own:∀{e:TypeId} {n:Nat} {c:C} {f:St→List T→Option (List O×D)},s=.s (.c c)→xF b e n c f=some p→(∀st l,st.objs[k]?=b.objs[k]?→f st l=some p→p.1[k]?=b.objs[k]?)→p.1[k]?=b.objs[k]?:=fun {e n c f} hc h hf=>by
  unfold xF at h
  split at h
  ·exact hf _ _ rfl h
  ·rename_i key
   split at h
   ·split at h
    ·refine hf _ _ (List.getElem?_set_ne fun e=>?_) h
     rcases hs with⟨y,hy⟩ | ⟨key',hy,hne⟩
     ·rw[hc] at hy;cases hy
     ·rw[hc] at hy;cases hy;exact hne e
    ·cases h
   ·cases h
  ·rename_i key m lo len tg
   rcases hs with⟨y,hy⟩ | ⟨key',hy,hne⟩ <;> (rw[hc] at hy;cases hy)
  ·cases h
 have tail:∀{st:St} {e n:Nat} {q:List T},st.objs[k]?=b.objs[k]?→(f6 st dst (.row false e n q) fun st key=>some (st.objs,D.s (.c (.row key))))=some p→p.1[k]?=b.objs[k]?:=fun {st e n q} hb h=>by
  obtain⟨K,h1,h2⟩:=TX (by rw[hb];exact ho) h
  cases h2
  exact h1.trans hb
 unfold kH at h
 split at h
 case h_2=>cases h
 split at h
 case h_2=>cases h
 split at h
 case h_2=>cases h
 split at h
 case isFalse=>cases h
 unfold mE at h
 split at h
 case h_2=>cases h
 split at h
 ·split at h
  case h_2=>cases h
  unfold gC at h
  dsimp only at h
  split at h
  ·obtain⟨l,_,h⟩:=aC h
   exact own rfl h fun st l hb h=>by
    obtain⟨q,_,h⟩:=aC h
    exact tail hb h
  ·split at h
   ·split at h
    ·exact own rfl h fun st l hb h=>by
      obtain⟨q,_,h⟩:=aC h
      exact tail hb h
    ·cases h
   ·cases h
  ·split at h
   ·split at h
    ·exact own rfl h fun st l hb h=>by
      obtain⟨q,_,h⟩:=aC h
      exact tail hb h
    ·cases h
   ·cases h
  ·cases h
 ·split at h
  ·obtain⟨s',h⟩:∃s',(xF b _ 1 _ fun st l=>ob (room l (fR s') 1) fun q=>f6 st dst (.row false _ 1 q) fun st key=>some (st.objs,D.s (.c (.row key))))=some p:=by
    cases x with
    | tup l=>cases h
    | s sx=>cases sx with
     | agg l=>cases h
     | c cx=>cases cx with
      | t tx=>
       obtain⟨s',_,h⟩:=aC (show ob tx.str? _=some p from h)
       exact⟨s',h⟩
      | _=>cases h
   exact own rfl h fun st l hb h=>by
    obtain⟨q,_,h⟩:=aC h
    exact tail hb h
  ·cases h
theorem Dx(hq:xN Γ≠[])(hpl:lP Γ pl){o:Oper}(h:Ho pl o=true){st:St}{q:List O}{d:D}(hp:e7 P Γ ops o st=some (q,d)){K:Nat}(hK:K∈Ms Γ):
 K<st.objs.length∧(I4 st.objs[K]?=true→q[K]?=st.objs[K]?)∧(∀x,e7 P Γ ops o { st with objs:=st.objs.set K x }=some (q.set K x,d)):=by
 obtain⟨dst,op,type,pos,after,guard⟩:=o
 unfold Ho at h
 rw[Bool.and_eq_true,Bool.and_eq_true] at h
 obtain⟨⟨hgd,h1⟩,h2⟩:=h
 cases guard with
 | some g=>cases hgd
 | none=>
  cases dst with
  | none=>cases h1
  | some sl=>
   cases op with
   | call c=>
    obtain⟨callee,args,ats⟩:=c
    cases callee with
    | value fo=>
     cases fo with
     | func f=>
      have hgs:(eJ Γ).contains (2500000+sl)=true:=by
       have aux:∀n:Nat,90000000+(2500000+n)=92500000+n:=fun n=>by omega
       exact hpl.2.2.2.2.2.2.2.1 (2500000+sl) (by rw[aux];exact h1)
      have key:∀st':St,e7 P Γ ops ⟨some sl,.call ⟨.value (.func f),args,ats⟩,type,pos,after,none⟩ st'=AH Γ st'.bare (some sl) (ev st' (.func f)) (args.toList.map (ev st')):=fun st'=>rfl
      rw[key] at hp
      obtain⟨⟨_,hgi⟩,hv⟩:=PK hp
      obtain⟨l1,l2,l3,l4⟩:=PL hgi hgs
      obtain⟨m1,m2,m3,m4⟩:=l4 K hK
      have hall:∀g A,Γ g=some A→HD (ev st (.func f)) g→A.Framed∨A.Never:=FO hpl (f:=.func f) h2
      refine⟨m4,fun ho=>CV (b:=st.bare) hall hv ho m1,fun x=>?_⟩
      rw[key]
      have hev:∀y,ev ({ st with objs:=st.objs.set K x }:St) y=ev st y:=fun y=>rfl
      have hargs:args.toList.map (ev ({ st with objs:=st.objs.set K x }:St))=args.toList.map (ev st):=rfl
      rw[hargs,hev]
      unfold AH
      have hgc':CQ Γ (st.objs.set K x) (some sl) (ev st (.func f)::args.toList.map (ev st))=true:=by
       unfold CQ
       dsimp only
       rw[l3]
       rfl
      have hgi':nE Γ (St.bare { st with objs:=st.objs.set K x }) (some sl) (ev st (.func f)::args.toList.map (ev st))=true:=by
       unfold nE at hgi ⊢
       dsimp only at hgi ⊢
       have e1:(St.bare { st with objs:=st.objs.set K x }).objs=st.objs.set K x:=rfl
       have e2:(St.bare { st with objs:=st.objs.set K x }).np=st.bare.np:=rfl
       have e3:(St.bare { st with objs:=st.objs.set K x }).env=st.bare.env:=rfl
       rw[e1,e2,e3]
       have m1':jM st.objs K (ev st (.func f)::args.toList.map (ev st))=true:=m1
       simp only[L8 m1',List.length_set]
       exact hgi
      rw[if_pos (show (CQ Γ (St.bare { st with objs:=st.objs.set K x }).objs (some sl) (ev st (.func f)::args.toList.map (ev st))&&nE Γ (St.bare { st with objs:=st.objs.set K x }) (some sl) (ev st (.func f)::args.toList.map (ev st)))=true from Bool.and_eq_true_iff.2 ⟨hgc',hgi'⟩)]
      unfold EA
      cases hB:xN Γ with
      | nil=>exact absurd hB hq
      | cons w B=>
       dsimp only
       rw[if_pos (show kI (bL Γ) (some sl)=true from l2)]
       unfold eP mE at hv ⊢
       dsimp only[ev] at hv ⊢
       have hpf:lL (Value.func (.func f) #[] #[])=some f:=rfl
       rw[hpf] at hv ⊢
       dsimp only at hv ⊢
       cases hA:Γ f with
       | none=>rw[hA] at hv;cases hv
       | some A=>
        rw[hA] at hv
        dsimp only at hv ⊢
        have hF:=hpl.2.2.1 f A h2 hA
        rw[hF.1] at hv ⊢
        have m5:jM st.bare.objs K (args.toList.map (ev st))=true:=by
         have m1':jM st.objs K (ev st (.func f)::args.toList.map (ev st))=true:=m1
         unfold jM at m1' ⊢
         rw[List.all_cons,Bool.and_eq_true] at m1'
         exact m1'.2
        exact(hF.2.2 hv).2 K x m5 ⟨m2,fun s hs=>by cases hs;exact m3⟩
     | _=>cases h2
    | builtin bi=>
     cases bi with
     | append=>
      have hgs:(eJ Γ).contains (2500000+sl)=true:=by
       have aux:∀n:Nat,90000000+(2500000+n)=92500000+n:=fun n=>by omega
       exact hpl.2.2.2.2.2.2.2.1 (2500000+sl) (by rw[aux];exact h1)
      have key:∀st':St,e7 P Γ ops ⟨some sl,.call ⟨.builtin .append,args,ats⟩,type,pos,after,none⟩ st'=if qT Γ st'.bare (some sl) .append (args.toList.map (ev st'))=true then cM P st'.bare (some sl) type .append (args.toList.map (ev st')) ats.toList else none:=fun st'=>rfl
      rw[key] at hp
      split at hp
      case isFalse=>cases hp
      rename_i hgb
      rw[LV] at hgb
      unfold cM at hp
      split at hp
      any_goals (first | (cases ‹Builtin.append=_›;done) | (cases hp;done))
      rename_i s x t u hbi ha hats
      rw[ha] at hgb
      have hgb2:=Bool.and_eq_true_iff.1 hgb
      have hgj:=hgb2.2
      unfold XQ at hgj
      dsimp only at hgj
      rw[hgs] at hgj
      simp only[Bool.not_true,Bool.false_or,Bool.and_eq_true] at hgj
      obtain⟨hgi,hra,hX⟩:=hgj
      have hX:Ku Γ (some sl)=false:=by simpa using hX
      obtain⟨l1,l2,l3,l4⟩:=PL hgi hgs
      obtain⟨m1,m2,m3,m4⟩:=l4 K hK
      obtain⟨cs,cx,rfl,rfl,hcs⟩:∃cs cx,s=.s (.c cs)∧x=.s (.c cx)∧((∃y,cs=.t y)∨∃key,cs=.row key):=by
       unfold Jo at hra
       split at hra
       ·rename_i e;cases e;exact⟨_,_,rfl,rfl,.inl ⟨_,rfl⟩⟩
       ·rename_i e;cases e;exact⟨_,_,rfl,rfl,.inr ⟨_,rfl⟩⟩
       ·rename_i e;cases e;exact⟨_,_,rfl,rfl,.inl ⟨_,rfl⟩⟩
       ·rename_i e;cases e;exact⟨_,_,rfl,rfl,.inr ⟨_,rfl⟩⟩
       ·cases hra
      have hrs:K∉C.rs cs∧K∉C.rs cx:=by
       unfold jM at m1
       simp only[QN,S1.list,List.all_cons,List.all_nil,Bool.and_true,Bool.and_eq_true,Bool.not_eq_true'] at m1
       refine⟨fun hm=>?_,fun hm=>?_⟩
       ·have:=m1.1.1
        rw[List.contains_iff_mem.2 hm] at this
        cases this
       ·have:=m1.2.1
        rw[List.contains_iff_mem.2 hm] at this
        cases this
      have hp:(lK P st.bare (some sl) t u (.s (.c cs)) (.s (.c cx)) fun s d=>some (s.objs,d))=some (q,d):=hp
      have hgk:∀b:St,lK P b (some sl) t u (.s (.c cs)) (.s (.c cx)) (fun s d=>some (s.objs,d))=kH P b (some sl) t u (.s (.c cs)) (.s (.c cx)) fun s d=>some (s.objs,d):=fun b=>by
       rcases hcs with⟨y,rfl⟩ | ⟨key,rfl⟩ <;> rfl
      rw[hgk] at hp
      refine⟨m4,fun ho=>AL (b:=st.bare) (by
       rcases hcs with⟨y,rfl⟩ | ⟨key,rfl⟩
       ·exact .inl ⟨y,rfl⟩
       ·exact .inr ⟨key,rfl,fun e=>hrs.1 (by subst e;simp[C.rs])⟩) ho hp,fun x=>?_⟩
      rw[key]
      have hargs:args.toList.map (ev ({ st with objs:=st.objs.set K x }:St))=[.s (.c cs),.s (.c cx)]:=ha
      rw[hargs,hats]
      have hgi':nE Γ (St.bare { st with objs:=st.objs.set K x }) (some sl) [.s (.c cs),.s (.c cx)]=true:=by
       rw[LU]
       unfold nE at hgi ⊢
       dsimp only at hgi ⊢
       simp only[L8 m1,List.length_set]
       exact hgi
      have hgP:Cs Γ (St.bare { st with objs:=st.objs.set K x }).objs (some sl) (.s (.c cs))=true:=by
       unfold Cs IE
       rw[hX]
       rfl
      rw[if_pos (show qT Γ (St.bare { st with objs:=st.objs.set K x }) (some sl) .append [.s (.c cs),.s (.c cx)]=true from Bool.and_eq_true_iff.2 ⟨hgP,by
       unfold XQ
       dsimp only
       rw[hgs,hgi',hra,hX]
       rfl⟩)]
      show (lK P (St.bare { st with objs:=st.objs.set K x }) (some sl) t u (.s (.c cs)) (.s (.c cx)) fun s d=>some (s.objs,d))=_
      rw[hgk]
      exact NW (b:=st.bare) hrs.1 hrs.2 ⟨by simpa[St.bare] using m2,fun s hs=>by cases hs;exact m3⟩ hp
     | _=>cases h2
    | _=>cases h2
   | _=>cases h2
theorem YH(hpl:lP Γ pl){o:Oper}(h:X7 pl o=true){st:St}{q:List O}{d:D}(hp:e7 P Γ ops o st=some (q,d)):AS Γ st.objs q:=by
 obtain⟨dst,op,type,pos,after,guard⟩:=o
 unfold X7 at h
 unfold e7 at hp
 cases hg:gd ops (⟨dst,op,type,pos,after,guard⟩:Oper) st with
 | none=>rw[hg] at hp;cases hp
 | some w=>
  rw[hg] at hp
  cases w with
  | false=>cases hp;exact fun _ _=>rfl
  | true=>
   have hp:EC P Γ ⟨dst,op,type,pos,after,guard⟩ st.bare (ev st)=some (q,d):=hp
   unfold EC at hp
   rw[Bool.and_eq_true] at h
   obtain⟨h1,h2⟩:=h
   cases dst with
   | none=>cases h1
   | some sl=>
    cases op with
    | call c=>
     obtain⟨callee,args,ats⟩:=c
     cases callee with
     | value f=>
      have hp:AH Γ st.bare (some sl) (ev st f) (args.toList.map (ev st))=some (q,d):=hp
      obtain⟨⟨hgc,_⟩,hv⟩:=PK hp
      have hall:∀g A,Γ g=some A→HD (ev st f) g→A.Framed∨A.Never:=FO hpl (by cases f <;> exact h2)
      unfold CQ at hgc
      dsimp only at hgc h1
      have aux:∀n:Nat,90000000+(2000000+n)=92000000+n:=fun n=>by omega
      rw[hpl.2.2.2.2.2.2.2.1 (2000000+sl) (by rw[aux];exact h1)] at hgc
      have hgc:Mz Γ st.objs (ev st f::args.toList.map (ev st))=true:=(Bool.and_eq_true_iff.1 hgc).2
      intro k hk
      have hm:k∈Ok Γ:=List.mem_filterMap.2 ⟨5000000+k,List.contains_iff_mem.1 hk,by rw[if_pos (Nat.le_add_right _ _),Nat.add_sub_cancel_left]⟩
      have:=List.all_eq_true.1 hgc k hm
      rw[Bool.and_eq_true] at this
      exact(CV (b:=st.bare) hall hv this.1 this.2).symm
     | _=>cases h2
    | _=>cases h2
theorem Hs{R:Type}{st:St}{q:List O}{t:TypeId}{x:D}{k:D→Option R}(hb:AS Γ st.objs q)(hx:z8 Γ x=true):uC P { st with objs:=q } t x k=uC P st t x k:=by
 unfold z8 at hx
 split at hx
 ·exact PH rfl
 ·rename_i kk
  have ck:=hb kk hx
  unfold uC mE
  dsimp only
  rw[ck]
 ·cases hx
theorem YI(hN:∀f A,Γ f=some A→A.Nat)(hpl:lP Γ pl){o:Oper}(h:TU pl o=true){st:St}{p:List O×D}(hp:e7 P Γ ops o st=some p):p.1=st.objs:=Q8 hN hpl (Bool.and_eq_true_iff.1 h).1 hp
theorem CZ(hpl:lP Γ pl){o:Oper}(h:TU pl o=true){st:St}{q:List O}(hb:AS Γ st.objs q){d:D}(hp:e7 P Γ ops o st=some (st.objs,d)):e7 P Γ ops o { st with objs:=q }=some (q,d):=by
 obtain⟨dst,op,type,pos,after,guard⟩:=o
 unfold TU at h
 rw[Bool.and_eq_true] at h
 obtain⟨h,hsl⟩:=h
 unfold IM at h
 unfold e7 at hp ⊢
 have h1:gd ops (⟨dst,op,type,pos,after,guard⟩:Oper) { st with objs:=q }=gd ops (⟨dst,op,type,pos,after,guard⟩:Oper) st:=rfl
 rw[h1]
 cases hg:gd ops (⟨dst,op,type,pos,after,guard⟩:Oper) st with
 | none=>rw[hg] at hp;cases hp
 | some w=>
  rw[hg] at hp
  cases w with
  | false=>
   simp only[Option.bind_some,cond_false,Option.some.injEq,Prod.mk.injEq] at hp ⊢
   exact⟨trivial,hp.2⟩
  | true=>
   cases dst with
   | none=>cases hsl
   | some sl=>
   cases op with
   | call c=>
    obtain⟨callee,args,ats⟩:=c
    cases callee with
    | builtin bi=>
     cases bi with
     | len=>
      have hev:∀x,ev { st with objs:=q } x=ev st x:=fun x=>by cases x <;> rfl
      have hp:(if qT Γ st (some sl) .len (args.toList.map (ev st))=true then cM P st.bare (some sl) type .len (args.toList.map (ev st)) ats.toList else none)=some (st.objs,d):=hp
      show (if qT Γ st (some sl) .len (args.toList.map (ev { st with objs:=q }))=true then cM P { st.bare with objs:=q } (some sl) type .len (args.toList.map (ev { st with objs:=q })) ats.toList else none)=some (q,d)
      have hm:args.toList.map (ev { st with objs:=q })=args.toList.map (ev st):=List.map_congr_left fun x _=>hev x
      rw[hm]
      split at hp
      case isFalse=>cases hp
      rename_i hgb
      rw[if_pos hgb]
      unfold cM at hp ⊢
      split at hp
      ·rename_i x t _ hargs hats
       rw[hargs] at hgb
       have hgb:([x].all fun x=>CR Γ (some sl) x&&Cr Γ (some sl) x)=true:=hgb
       simp only[List.all_cons,List.all_nil,Bool.and_true,Bool.and_eq_true] at hgb
       have hgn:=hgb.2
       unfold Cr at hgn
       dsimp only at hgn hsl
       have aux:∀n:Nat,90000000+(3000000+n)=93000000+n:=fun n=>by omega
       rw[hpl.2.2.2.2.2.2.2.1 (3000000+sl) (by rw[aux];exact hsl)] at hgn
       have hgn:z8 Γ x=true:=hgn
       obtain⟨d',h3,h2⟩:=Option.bind_eq_some_iff.1 hp
       cases h2
       have:=Hs (P:=P) (st:=st.bare) (q:=q) (t:=t) (k:=some) hb hgn
       show ((uC P { st.bare with objs:=q } _ _ some).bind fun d=>some (q,d))=_
       rw[this,h3]
       rfl
      all_goals first
       | (cases ‹Builtin.len=_›;done)
       | (cases hp;done)
     | _=>cases h
    | _=>cases h
   | _=>cases h
theorem WG(hpl:lP Γ pl){dst:Option Nat}(h:Hn pl dst=true):Ku Γ dst=true:=by
 cases dst with
 | none=>cases h
 | some s=>
  have aux:∀n:Nat,90000000+(4000000+n)=94000000+n:=fun n=>by omega
  exact hpl.2.2.2.2.2.2.2.1 (4000000+s) (by rw[aux];exact h)
theorem PM(hpl:lP Γ pl){dst:Option Nat}(h:Hn pl dst=true){objs:List O}(hg:IE Γ objs dst=true){k:Nat}(hk:(eJ Γ).contains (5000000+k)=true):I4 objs[k]?=true:=by
 unfold IE at hg
 rw[WG hpl h] at hg
 have hm:k∈Ok Γ:=List.mem_filterMap.2 ⟨5000000+k,List.contains_iff_mem.1 hk,by rw[if_pos (Nat.le_add_right _ _),Nat.add_sub_cancel_left]⟩
 exact List.all_eq_true.1 hg k hm
theorem YJ(hpl:lP Γ pl){o:Oper}(h:X8 pl o=true){st:St}{q:List O}{d:D}(hp:e7 P Γ ops o st=some (q,d)):AS Γ st.objs q:=by
 obtain⟨dst,op,type,pos,after,guard⟩:=o
 unfold X8 at h
 unfold e7 at hp
 cases hg:gd ops (⟨dst,op,type,pos,after,guard⟩:Oper) st with
 | none=>rw[hg] at hp;cases hp
 | some w=>
  rw[hg] at hp
  cases w with
  | false=>cases hp;exact fun _ _=>rfl
  | true=>
   have hp:EC P Γ ⟨dst,op,type,pos,after,guard⟩ st.bare (ev st)=some (q,d):=hp
   unfold EC at hp
   rw[Bool.and_eq_true] at h
   obtain⟨hx,h2⟩:=h
   cases op with
   | buildSlice t n parts=>
    dsimp only at hp h2
    unfold Gx at hp
    split at hp
    ·rw[nH] at hp
     obtain⟨d,_,h2⟩:=Option.bind_eq_some_iff.1 hp
     cases h2
     exact fun _ _=>rfl
    split at hp
    case isFalse=>cases hp
    rename_i hgf
    rw[Bool.and_eq_true] at h2
    obtain⟨hn,hps⟩:=h2
    have hn:n=0:=by simpa using hn
    have hps:parts.toList=[]:=by simpa using hps
    rw[hps,hn] at hp
    intro k hk
    have ho:I4 st.bare.objs[k]?=true:=PM hpl hx hgf hk
    unfold eV at hp
    rw[if_pos ⟨rfl,rfl⟩] at hp
    split at hp
    case h_2=>cases hp
    split at hp
    case h_2=>cases hp
    split at hp
    case isFalse=>cases hp
    obtain⟨K,h1,h3⟩:=TX ho hp
    cases h3
    exact h1.symm
   | call c=>
    obtain⟨callee,args,ats⟩:=c
    cases callee with
    | builtin bi=>
     cases bi with
     | append=>
      dsimp only at hp
      split at hp
      case isFalse=>cases hp
      rename_i hgb
      unfold cM at hp
      split at hp
      any_goals (first | (cases ‹Builtin.append=_›;done) | (cases hp;done))
      rename_i s x t u hbi hargs hats
      rw[hargs] at hgb
      have hgb:=(Bool.and_eq_true_iff.1 hgb).1
      have hgb:(IE Γ st.bare.objs dst&&(!Ku Γ dst||QO Γ s))=true:=hgb
      rw[Bool.and_eq_true,WG hpl hx] at hgb
      obtain⟨g1,g2⟩:=hgb
      have g2:QO Γ s=true:=g2
      intro k hk
      have ho:I4 st.bare.objs[k]?=true:=PM hpl hx g1 hk
      have hs:(∃y,s=.s (.c (.t y)))∨∃key,s=.s (.c (.row key))∧key≠k:=by
       unfold QO at g2
       split at g2
       ·exact .inl ⟨_,rfl⟩
       ·refine .inr ⟨_,rfl,fun e=>?_⟩
        subst e
        rw[hk] at g2
        cases g2
       ·cases g2
      unfold lK at hp
      split at hp
      ·rcases hs with⟨y,hy⟩ | ⟨key,hy,_⟩ <;> cases hy
      ·exact(AL hs ho hp).symm
     | _=>cases h2
    | _=>cases h2
   | _=>cases h2
theorem YK(hN:∀f A,Γ f=some A→A.Nat)(hpl:lP Γ pl){o:Oper}(h:PE pl o=true){st:St}{p:List O×D}(hp:e7 P Γ ops o st=some p):p.1=st.objs:=by
 refine n9 hN hpl (pl:=pl) ?_ hp
 obtain⟨dst,op,type,pos,after,guard⟩:=o
 unfold PE at h
 rw[Bool.and_eq_true] at h
 obtain⟨_,h⟩:=h
 cases op with
 | slice t x lo hi mx=>
  cases mx with
  | some m=>cases h
  | none=>
   show (lo.isSome||hi.isSome||false)=true
   rw[Bool.or_false]
   exact h
 | _=>cases h
theorem Ap{st:St}{q:List O}{t:TypeId}{x:D}{lo hi:Option D}{d:D}(hb:AS Γ st.objs q)(hx:z8 Γ x=true)(hlh:¬(lo.isNone=true∧hi.isNone=true∧(none:Option D).isNone=true))
 (h:(l9 P st t x lo hi none fun s d=>some (s.objs,d))=some (st.objs,d)):(l9 P { st with objs:=q } t x lo hi none fun s d=>some (s.objs,d))=some (q,d):=by
 have hk:∀(f:D→Option (List O×D)),jL P { st with objs:=q } t x lo hi none f=jL P st t x lo hi none f:=fun f=>by
  unfold z8 at hx
  split at hx
  ·exact IN rfl
  ·rename_i kk
   have ck:=hb kk hx
   unfold jL mE SP
   dsimp only
   rw[ck]
  ·cases hx
 unfold l9 at h ⊢
 split at h
 ·cases h
 ·rename_i hA
  rw[if_neg hA]
  rw[hk]
  have e:∀o:List O,(jL P st t x lo hi none fun d=>some (o,d))=(jL P st.bare t x lo hi none some).map fun d=>(o,d):=fun o=>by
   rw[nG]
   cases jL P st.bare t x lo hi none some <;> rfl
  have h:(jL P st t x lo hi none fun d=>some (st.objs,d))=some (st.objs,d):=h
  show (jL P st t x lo hi none fun d=>some (q,d))=some (q,d)
  rw[e] at h ⊢
  cases hs:jL P st.bare t x lo hi none some with
  | none=>rw[hs] at h;cases h
  | some d'=>rw[hs] at h;simp only[Option.map_some,Option.some.injEq,Prod.mk.injEq,true_and] at h;rw[h];rfl
theorem C0(hpl:lP Γ pl){o:Oper}(h:PE pl o=true){st:St}{q:List O}(hb:AS Γ st.objs q){d:D}(hp:e7 P Γ ops o st=some (st.objs,d)):e7 P Γ ops o { st with objs:=q }=some (q,d):=by
 obtain⟨dst,op,type,pos,after,guard⟩:=o
 unfold PE at h
 rw[Bool.and_eq_true] at h
 obtain⟨hx,h⟩:=h
 unfold e7 at hp ⊢
 have h1:gd ops (⟨dst,op,type,pos,after,guard⟩:Oper) { st with objs:=q }=gd ops (⟨dst,op,type,pos,after,guard⟩:Oper) st:=rfl
 rw[h1]
 cases hg:gd ops (⟨dst,op,type,pos,after,guard⟩:Oper) st with
 | none=>rw[hg] at hp;cases hp
 | some w=>
  rw[hg] at hp
  cases w with
  | false=>
   simp only[Option.bind_some,cond_false,Option.some.injEq,Prod.mk.injEq] at hp ⊢
   exact⟨trivial,hp.2⟩
  | true=>
   cases op with
   | slice t x lo hi mx=>
    cases mx with
    | some m=>cases h
    | none=>
     dsimp only at h
     have hp:(if (CR Γ dst (ev st x)&&K9 Γ dst (ev st x))=true then l9 P st.bare t (ev st x) (lo.map (ev st)) (hi.map (ev st)) none fun s d=>some (s.objs,d) else none)=some (st.objs,d):=hp
     show (if (CR Γ dst (ev st x)&&K9 Γ dst (ev st x))=true then l9 P { st.bare with objs:=q } t (ev st x) (lo.map (ev st)) (hi.map (ev st)) none fun s d=>some (s.objs,d) else none)=some (q,d)
     split at hp
     case isFalse=>cases hp
     rename_i hg2
     rw[if_pos hg2]
     have hgx:=(Bool.and_eq_true_iff.1 hg2).2
     unfold K9 at hgx
     rw[WG hpl hx] at hgx
     have hgx:z8 Γ (ev st x)=true:=hgx
     refine Ap (st:=st.bare) hb hgx ?_ hp
     rintro ⟨n1,n2,_⟩
     rw[Option.isNone_map] at n1 n2
     cases lo <;> cases hi <;> simp_all
   | _=>cases h
theorem Aq(hN:∀f A,Γ f=some A→A.Nat)(hpl:lP Γ pl){i j:Nat}{oi oj:Oper}(hi:ops[i]?=some oi)(hj:ops[j]?=some oj)(hc:PF ops pl oi oj=true){st s1 s2:St}
 (h1:rZ P Γ ops i st=some s1) (h2:rZ P Γ ops j s1=some s2):∃s1',rZ P Γ ops j st=some s1'∧rZ P Γ ops i s1'=some s2:=by
 simp only[PF,Bool.and_eq_true,Bool.or_eq_true] at hc
 obtain⟨hap,hcls⟩:=hc
 obtain⟨a1,a2,a3⟩:=Oper.apart_spec hap
 simp only[rZ,hi,hj] at *
 cases e1:e7 P Γ ops oi st with
 | none=>simp[e1] at h1
 | some p1=>
  obtain⟨q1,d1⟩:=p1
  simp only[e1,Option.map_some,Option.some.injEq] at h1
  subst h1
  have w2:e7 P Γ ops oj (st.with oi.dst (q1,d1))=e7 P Γ ops oj { st with objs:=q1 }:=X2 (st:={ st with objs:=q1 }) a1
  rw[w2] at h2
  have back:∀q2 d2,e7 P Γ ops oi (st.with oj.dst (q2,d2))=e7 P Γ ops oi { st with objs:=q2 }:=fun q2 d2=>X2 (st:={ st with objs:=q2 }) a3
  have fin:∀q d2,((st.with oj.dst (q,d2)).with oi.dst (q,d1))=(st.with oi.dst (q1,d1)).with oj.dst (q,d2):=fun q d2=>by
   have hp:=Aj ({ st with objs:=q }:St) d1 d2 a2
   unfold St.with
   have r1:∀(s:St) (x:Option Nat) (d:D) (q:List O),({ s.put x d with objs:=q }:St)=({ s with objs:=q }:St).put x d:=fun s x d q=>by cases x <;> rfl
   simp only[r1]
   exact hp.symm
  cases e2:e7 P Γ ops oj { st with objs:=q1 } with
  | none=>simp[e2] at h2
  | some p2=>
   obtain⟨q2,d2⟩:=p2
   simp only[e2,Option.map_some,Option.some.injEq] at h2
   subst h2
   have caseq:q1=st.objs→(∀q,q=q2→e7 P Γ ops oi { st with objs:=q }=some (q2,d1))→∃s1',(e7 P Γ ops oj st).map (st.with oj.dst)=some s1'∧(e7 P Γ ops oi s1').map (s1'.with oi.dst)=some ((st.with oi.dst (q1,d1)).with oj.dst (q2,d2)):=fun hq hoi=>by
    subst hq
    have e3:e7 P Γ ops oj st=some (q2,d2):=e2
    refine⟨st.with oj.dst (q2,d2),by rw[e3];rfl,?_⟩
    rw[back,hoi q2 rfl]
    simp only[Option.map_some]
    rw[fin]
   rcases hcls with((((((((((((hP | hP) | ⟨hn1,hn2⟩) | hle) | ⟨hq0,⟨hl,hf⟩ | ⟨hf,hl⟩⟩) | ⟨hla,hal⟩) | ⟨⟨⟨hq0,hnl⟩,hx1⟩,hx2⟩) | ⟨⟨⟨hq0,hnl⟩,hx1⟩,hx2⟩) | (⟨hlb,hfe⟩ | ⟨hfe,hlb⟩)) | (⟨hln,hfb⟩ | ⟨hfb,hln⟩)) | (⟨hlc,hfc⟩ | ⟨hfc,hlc⟩)) | (⟨hlg,hfg⟩ | ⟨hfg,hlg⟩)) | (⟨hlh,hfh⟩ | ⟨hfh,hlh⟩)) | ⟨⟨hq0,hnl⟩,⟨hli,hfi⟩ | ⟨hfi,hli⟩⟩
   ·have hq:q1=st.objs:=n9 hN hpl (pl:=pl) (LZ hP) e1
    exact caseq hq fun q hqq=>by subst hqq;rw[Js hpl hP,e1];rfl
   ·have hq2:q2=q1:=n9 hN hpl (pl:=pl) (LZ hP) e2
    subst hq2
    have e3:(e7 P Γ ops oj st).map (fun p=>(q2,p.2))=some (q2,d2):=by rw[←Js hpl hP];exact e2
    cases e4:e7 P Γ ops oj st with
    | none=>rw[e4] at e3;cases e3
    | some p=>
     obtain⟨q0,d0⟩:=p
     rw[e4] at e3
     simp only[Option.map_some,Option.some.injEq,Prod.mk.injEq,true_and] at e3
     subst e3
     have hq0:q0=st.objs:=n9 hN hpl (pl:=pl) (LZ hP) e4
     subst hq0
     refine⟨st.with oj.dst (st.objs,d0),rfl,?_⟩
     rw[back]
     have e5:e7 P Γ ops oi { st with objs:=st.objs }=some (q2,d1):=e1
     rw[e5]
     simp only[Option.map_some]
     have:=fin q2 d0
     have r2:((st.with oj.dst (st.objs,d0)).with oi.dst (q2,d1))=((st.with oj.dst (q2,d0)).with oi.dst (q2,d1)):=by
      unfold St.with
      cases oj.dst <;> rfl
     rw[r2,this]
   ·have hq:q1=st.objs:=n9 hN hpl hn1 e1
    have hq2:q2=q1:=n9 hN hpl hn2 e2
    exact caseq hq fun q hqq=>by rw[hqq,hq2,hq];have:e7 P Γ ops oi { st with objs:=st.objs }=some (q1,d1):=e1;rw[this,hq]
   ·exact An hle e1 e2 caseq
   ·-- a load,then a call
    have hq:q1=st.objs:=Ds hN hpl hl e1
    subst hq
    exact caseq rfl fun q hqq=>by
     subst hqq
     exact FM hpl (hpl.2.2.2.1 hq0) hl (fun k hk=>Dt hpl (hpl.2.2.2.1 hq0) hf e2 k hk) e1
   ·-- a call,then a load
    have hq2:q2=q1:=Ds hN hpl hl e2
    subst hq2
    have e3:e7 P Γ ops oj st=some (st.objs,d2):=by
     have:=FM (st:={ st with objs:=q2 }) (q:=st.objs) hpl (hpl.2.2.2.1 hq0) hl (fun k hk l=>(Dt hpl (hpl.2.2.2.1 hq0) hf e1 k hk l).symm) e2
     exact this
    refine⟨st.with oj.dst (st.objs,d2),by rw[e3];rfl,?_⟩
    rw[back]
    have e5:e7 P Γ ops oi { st with objs:=st.objs }=some (q2,d1):=e1
    rw[e5]
    simp only[Option.map_some]
    have:=fin q2 d2
    have r2:((st.with oj.dst (st.objs,d2)).with oi.dst (q2,d1))=((st.with oj.dst (q2,d2)).with oi.dst (q2,d1)):=by
     unfold St.with
     cases oj.dst <;> rfl
    rw[r2,this]
   ·have hw:Gh pl oi=true:=by
     obtain⟨dst,op,type,pos,after,guard⟩:=oi
     unfold X3 at hla
     cases op with
     | call c=>
      obtain⟨callee,args,ats⟩:=c
      cases callee with
      | builtin bi=>cases bi <;> first | rfl | (cases hla;done)
      | _=>cases hla
     | _=>first | rfl | (cases hla;done)
    have hq:q1=st.objs:=n9 hN hpl hw e1
    subst hq
    exact caseq rfl fun q hqq=>by
     subst hqq
     exact Am hla hal e1 e2
   ·have hq:=hpl.2.2.2.1 hq0
    have hnl':(!pl.contains 28999999)=true:=by simpa using hnl
    obtain⟨d1',x1,g1,hd1,E1⟩:=Q7 (P:=P) (ops:=ops) hpl hq hnl' hx1
    obtain⟨d2',x2,g2,hd2,E2⟩:=Q7 (P:=P) (ops:=ops) hpl hq hnl' hx2
    obtain⟨i1,i2,i3,i4,i5,i6,i7⟩:=(E1 st q1 d1).1 e1
    obtain⟨j1,j2,j3,j4,j5,j6,j7⟩:=(E2 { st with objs:=q1 } q2 d2).1 e2
    have hne:st.np+d1'≠st.np+d2':=fun e=>a2 d1' i1 (by rw[j1];congr 1;omega)
    have j3':q1[st.np+d2']?=some .fresh:=j3
    have j4':q2=q1.set (st.np+d2') x2:=j4
    subst i4
    have hf2:st.objs[st.np+d2']?=some .fresh:=by rw[List.getElem?_set_ne hne] at j3';exact j3'
    have e3:e7 P Γ ops oj st=some (st.objs.set (st.np+d2') x2,d2):=(E2 st _ _).2 ⟨j1,j2,hf2,rfl,j5,by
     rw[Bool.or_eq_true] at j6 ⊢
     refine j6.imp (fun h=>?_) id
     have h:SI (xN Γ) (st.objs.set (st.np+d1') x1) q2=true:=h
     rw[j4'] at h
     exact Dv hne hf2 h,j7⟩
    refine⟨st.with oj.dst (st.objs.set (st.np+d2') x2,d2),by rw[e3];rfl,?_⟩
    rw[back]
    have e5:e7 P Γ ops oi { st with objs:=st.objs.set (st.np+d2') x2 }=some (q2,d1):=(E1 _ _ _).2 ⟨i1,i2,by
     show (st.objs.set (st.np+d2') x2)[st.np+d1']?=_
     rw[List.getElem?_set_ne hne.symm];exact i3,by
     rw[j4']
     exact List.set_comm _ _ hne,i5,by
     rw[Bool.or_eq_true] at i6 ⊢
     refine i6.imp (fun h=>?_) id
     show SI (xN Γ) (st.objs.set (st.np+d2') x2) q2=true
     rw[j4',List.set_comm _ _ hne]
     exact Dw hne i3 h,i7⟩
    rw[e5]
    simp only[Option.map_some]
    have:=fin q2 d2
    have r2:((st.with oj.dst (st.objs.set (st.np+d2') x2,d2)).with oi.dst (q2,d1))=((st.with oj.dst (q2,d2)).with oi.dst (q2,d1)):=by
     unfold St.with
     cases oj.dst <;> rfl
    rw[r2,this]
   ·have hq:=hpl.2.2.2.1 hq0
    have hnl':(!pl.contains 28999999)=true:=by simpa using hnl
    obtain⟨k1,x1,n1,f1,g1,E1⟩:=Du (P:=P) (ops:=ops) hpl hq hnl' hx1 e1
    obtain⟨k2,x2,n2,f2,g2,E2⟩:=Du (P:=P) (ops:=ops) hpl hq hnl' hx2 e2
    subst g1
    have f2':(st.objs.set (st.np+k1) x1)[st.np+k2]?=some .fresh:=f2
    have g2':q2=(st.objs.set (st.np+k1) x1).set (st.np+k2) x2:=g2
    have hlt:st.np+k1<st.objs.length:=(List.getElem?_eq_some_iff.1 f1).1
    have hne:st.np+k1≠st.np+k2:=fun e=>by
     rw[←e,List.getElem?_set_self hlt] at f2'
     cases f2'
     exact n1 rfl
    have hf2:st.objs[st.np+k2]?=some .fresh:=by rw[List.getElem?_set_ne hne] at f2';exact f2'
    have e3:e7 P Γ ops oj st=some (st.objs.set (st.np+k2) x2,d2):=E2 st.objs hf2
    refine⟨st.with oj.dst (st.objs.set (st.np+k2) x2,d2),by rw[e3];rfl,?_⟩
    rw[back]
    have e5:e7 P Γ ops oi { st with objs:=st.objs.set (st.np+k2) x2 }=some (q2,d1):=by
     rw[E1 (st.objs.set (st.np+k2) x2) (by rw[List.getElem?_set_ne hne.symm];exact f1),g2',List.set_comm _ _ hne]
    rw[e5]
    simp only[Option.map_some]
    have:=fin q2 d2
    have r2:((st.with oj.dst (st.objs.set (st.np+k2) x2,d2)).with oi.dst (q2,d1))=((st.with oj.dst (q2,d2)).with oi.dst (q2,d1)):=by
     unfold St.with
     cases oj.dst <;> rfl
    rw[r2,this]
   ·-- a load from a box,then a store into an element
    have hq:q1=st.objs:=YC hN hpl hlb e1
    subst hq
    exact caseq rfl fun q hqq=>by
     subst hqq
     exact CW hpl hlb (YB hpl hfe e2) e1
   ·have hq2:q2=q1:=YC (st:={ st with objs:=q1 }) hN hpl hlb e2
    subst hq2
    have e3:e7 P Γ ops oj st=some (st.objs,d2):=CW (st:={ st with objs:=q2 }) (q:=st.objs) hpl hlb (YB hpl hfe e1).symm e2
    refine⟨st.with oj.dst (st.objs,d2),by rw[e3];rfl,?_⟩
    rw[back]
    have e5:e7 P Γ ops oi { st with objs:=st.objs }=some (q2,d1):=e1
    rw[e5]
    simp only[Option.map_some]
    have:=fin q2 d2
    have r2:((st.with oj.dst (st.objs,d2)).with oi.dst (q2,d1))=((st.with oj.dst (q2,d2)).with oi.dst (q2,d1)):=by
     unfold St.with
     cases oj.dst <;> rfl
    rw[r2,this]
   ·-- a length,then a store into a box
    have hq:q1=st.objs:=Q8 hN hpl hln e1
    subst hq
    exact caseq rfl fun q hqq=>by
     subst hqq
     exact CY hln (YE (pl:=pl) hfb e2) e1
   ·have hq2:q2=q1:=Q8 (st:={ st with objs:=q1 }) hN hpl hln e2
    subst hq2
    have e3:e7 P Γ ops oj st=some (st.objs,d2):=CY (st:={ st with objs:=q2 }) (q:=st.objs) hln (YE (pl:=pl) hfb e1).symm e2
    refine⟨st.with oj.dst (st.objs,d2),by rw[e3];rfl,?_⟩
    rw[back]
    have e5:e7 P Γ ops oi { st with objs:=st.objs }=some (q2,d1):=e1
    rw[e5]
    simp only[Option.map_some]
    have:=fin q2 d2
    have r2:((st.with oj.dst (st.objs,d2)).with oi.dst (q2,d1))=((st.with oj.dst (q2,d2)).with oi.dst (q2,d1)):=by
     unfold St.with
     cases oj.dst <;> rfl
    rw[r2,this]
   ·-- a load from a box,then a store off the list A
    have hq:q1=st.objs:=YG hN hpl hlc e1
    subst hq
    exact caseq rfl fun q hqq=>by
     subst hqq
     exact CX hpl hlc (YF hpl hfc e2) e1
   ·have hq2:q2=q1:=YG (st:={ st with objs:=q1 }) hN hpl hlc e2
    subst hq2
    have e3:e7 P Γ ops oj st=some (st.objs,d2):=CX (st:={ st with objs:=q2 }) (q:=st.objs) hpl hlc (YF hpl hfc e1).symm e2
    refine⟨st.with oj.dst (st.objs,d2),by rw[e3];rfl,?_⟩
    rw[back]
    have e5:e7 P Γ ops oi { st with objs:=st.objs }=some (q2,d1):=e1
    rw[e5]
    simp only[Option.map_some]
    have:=fin q2 d2
    have r2:((st.with oj.dst (st.objs,d2)).with oi.dst (q2,d1))=((st.with oj.dst (q2,d2)).with oi.dst (q2,d1)):=by
     unfold St.with
     cases oj.dst <;> rfl
    rw[r2,this]
   ·-- a length,then a call
    have hq:q1=st.objs:=YI hN hpl hlg e1
    subst hq
    exact caseq rfl fun q hqq=>by
     subst hqq
     exact CZ hpl hlg (YH hpl hfg e2) e1
   ·have hq2:q2=q1:=YI (st:={ st with objs:=q1 }) hN hpl hlg e2
    subst hq2
    have e3:e7 P Γ ops oj st=some (st.objs,d2):=CZ (st:={ st with objs:=q2 }) (q:=st.objs) hpl hlg (YH hpl hfg e1).symm e2
    refine⟨st.with oj.dst (st.objs,d2),by rw[e3];rfl,?_⟩
    rw[back]
    have e5:e7 P Γ ops oi { st with objs:=st.objs }=some (q2,d1):=e1
    rw[e5]
    simp only[Option.map_some]
    have:=fin q2 d2
    have r2:((st.with oj.dst (st.objs,d2)).with oi.dst (q2,d1))=((st.with oj.dst (q2,d2)).with oi.dst (q2,d1)):=by
     unfold St.with
     cases oj.dst <;> rfl
    rw[r2,this]
   ·-- a cut,then an append
    have hq:q1=st.objs:=YK hN hpl hlh e1
    subst hq
    exact caseq rfl fun q hqq=>by
     subst hqq
     exact C0 hpl hlh (YJ hpl hfh e2) e1
   ·have hq2:q2=q1:=YK (st:={ st with objs:=q1 }) hN hpl hlh e2
    subst hq2
    have e3:e7 P Γ ops oj st=some (st.objs,d2):=C0 (st:={ st with objs:=q2 }) (q:=st.objs) hpl hlh (YJ hpl hfh e1).symm e2
    refine⟨st.with oj.dst (st.objs,d2),by rw[e3];rfl,?_⟩
    rw[back]
    have e5:e7 P Γ ops oi { st with objs:=st.objs }=some (q2,d1):=e1
    rw[e5]
    simp only[Option.map_some]
    have:=fin q2 d2
    have r2:((st.with oj.dst (st.objs,d2)).with oi.dst (q2,d1))=((st.with oj.dst (q2,d2)).with oi.dst (q2,d1)):=by
     unfold St.with
     cases oj.dst <;> rfl
    rw[r2,this]
   ·-- a new variable,then a call
    have hq:=hpl.2.2.2.1 hq0
    have hnl':(!pl.contains 28999999)=true:=by simpa using hnl
    obtain⟨x1,x2⟩:=Bool.and_eq_true_iff.1 hli
    obtain⟨d1',x,g1,hd1,E1⟩:=Q7 (P:=P) (ops:=ops) hpl hq hnl' x1
    obtain⟨i1,i2,i3,i4,i5,i6,i7⟩:=(E1 st q1 d1).1 e1
    obtain⟨hKi,hls⟩:(st.np+d1')∈Ms Γ∧kI (bL Γ) oi.dst=true:=by
     rw[i1] at i7 x2 ⊢
     have aux:∀n:Nat,90000000+(1600000+n)=91600000+n:=fun n=>by omega
     have hgs:(eJ Γ).contains (1600000+d1')=true:=hpl.2.2.2.2.2.2.2.1 (1600000+d1') (by rw[aux];exact x2)
     unfold ID at i7
     dsimp only at i7
     rw[hgs] at i7
     simp only[Bool.not_true,Bool.false_or,Bool.and_eq_true] at i7
     exact⟨by simpa using i7.1,i7.2⟩
    subst i4
    have hlt:st.np+d1'<st.objs.length:=(List.getElem?_eq_some_iff.1 i3).1
    obtain⟨c1,c2,c3⟩:=Dx hq hpl hfi e2 hKi
    have hbx:=hd1.2 i2
    have hset:(st.objs.set (st.np+d1') x).set (st.np+d1') .fresh=st.objs:=by
     rw[List.set_set]
     refine List.ext_getElem? fun j=>?_
     by_cases hj:st.np+d1'=j
     ·subst hj
      rw[List.getElem?_set_self hlt,i3]
     ·rw[List.getElem?_set_ne hj]
    have e3:e7 P Γ ops oj st=some (q2.set (st.np+d1') .fresh,d2):=by
     have:=c3 .fresh
     dsimp only at this
     rw[hset] at this
     exact this
    have hqx:q2[st.np+d1']?=some x:=by
     rw[c2 (by
      show I4 (st.objs.set (st.np+d1') x)[st.np+d1']?=true
      rw[List.getElem?_set_self hlt]
      cases x <;> first | rfl | (cases hbx;done))]
     exact List.getElem?_set_self hlt
    have hlt2:st.np+d1'<q2.length:=(List.getElem?_eq_some_iff.1 hqx).1
    have hset2:(q2.set (st.np+d1') .fresh).set (st.np+d1') x=q2:=by
     rw[List.set_set]
     refine List.ext_getElem? fun j=>?_
     by_cases hj:st.np+d1'=j
     ·subst hj
      rw[List.getElem?_set_self hlt2,hqx]
     ·rw[List.getElem?_set_ne hj]
    refine⟨st.with oj.dst (q2.set (st.np+d1') .fresh,d2),by rw[e3];rfl,?_⟩
    rw[back]
    have e5:e7 P Γ ops oi { st with objs:=q2.set (st.np+d1') .fresh }=some (q2,d1):=(E1 _ _ _).2 ⟨i1,i2,List.getElem?_set_self hlt2,hset2.symm,i5,by
     rw[hls,Bool.or_true],i7⟩
    rw[e5]
    simp only[Option.map_some]
    have:=fin q2 d2
    have r2:((st.with oj.dst (q2.set (st.np+d1') .fresh,d2)).with oi.dst (q2,d1))=((st.with oj.dst (q2,d2)).with oi.dst (q2,d1)):=by
     unfold St.with
     cases oj.dst <;> rfl
    rw[r2,this]
   ·-- a call,then a new variable
    have hq:=hpl.2.2.2.1 hq0
    have hnl':(!pl.contains 28999999)=true:=by simpa using hnl
    obtain⟨x1,x2⟩:=Bool.and_eq_true_iff.1 hli
    obtain⟨d1',x,g1,hd1,E1⟩:=Q7 (P:=P) (ops:=ops) hpl hq hnl' x1
    obtain⟨i1,i2,i3,i4,i5,i6,i7⟩:=(E1 { st with objs:=q1 } q2 d2).1 e2
    obtain⟨hKi,hls⟩:(st.np+d1')∈Ms Γ∧kI (bL Γ) oj.dst=true:=by
     rw[i1] at i7 x2 ⊢
     have aux:∀n:Nat,90000000+(1600000+n)=91600000+n:=fun n=>by omega
     have hgs:(eJ Γ).contains (1600000+d1')=true:=hpl.2.2.2.2.2.2.2.1 (1600000+d1') (by rw[aux];exact x2)
     unfold ID at i7
     dsimp only at i7
     rw[hgs] at i7
     simp only[Bool.not_true,Bool.false_or,Bool.and_eq_true] at i7
     exact⟨by simpa using i7.1,i7.2⟩
    obtain⟨c1,c2,c3⟩:=Dx hq hpl hfi e1 hKi
    have i3':q1[st.np+d1']?=some .fresh:=i3
    have i4':q2=q1.set (st.np+d1') x:=i4
    have hfr:st.objs[st.np+d1']?=some .fresh:=by
     cases ho:I4 st.objs[st.np+d1']? with
     | true=>
      have:=c2 ho
      rw[i3'] at this
      rw[←this] at ho
      cases ho
     | false=>
      rw[List.getElem?_eq_getElem c1] at ho ⊢
      cases hx:st.objs[st.np+d1'] <;> rw[hx] at ho <;> first | rfl | (cases ho;done)
    have e3:e7 P Γ ops oj st=some (st.objs.set (st.np+d1') x,d2):=(E1 st _ _).2 ⟨i1,i2,hfr,rfl,i5,by
     rw[hls,Bool.or_true],i7⟩
    refine⟨st.with oj.dst (st.objs.set (st.np+d1') x,d2),by rw[e3];rfl,?_⟩
    rw[back]
    have e5:e7 P Γ ops oi { st with objs:=st.objs.set (st.np+d1') x }=some (q2,d1):=by rw[c3 x,i4']
    rw[e5]
    simp only[Option.map_some]
    have:=fin q2 d2
    have r2:((st.with oj.dst (st.objs.set (st.np+d1') x,d2)).with oi.dst (q2,d1))=((st.with oj.dst (q2,d2)).with oi.dst (q2,d1)):=by
     unfold St.with
     cases oj.dst <;> rfl
    rw[r2,this]
end
section
variable {P:Program} {Γ:FuncId→Option Callee} {ops:Array Oper} {pl:List Nat}
def Dy(P:Program)(Γ:FuncId→Option Callee)(ops:Array Oper)(e:St→Prop):Nat→Array Bool→St→Prop
 | 0,listed,st=>Region.ready .any ops listed=[]∧e st
 | fuel+1,listed,st=>(Region.ready .any ops listed=[]→e st)∧∀i∈Region.ready .any ops listed,∃st',rZ P Γ ops i st=some st'∧Dy P Γ ops e fuel (listed.setIfInBounds i true) st'
inductive Blk (ops:Array Oper) (listed:Array Bool) (i:Nat):Nat→Prop
 | one {j:Nat} {oj:Oper} {e:Edge} (hj:ops[j]?=some oj) (he:e∈oj.after) (hb:Region.binds .any e=true) (hi:e.on=i):Blk ops listed i j
 | via {j:Nat} {oj:Oper} {e:Edge} (hj:ops[j]?=some oj) (he:e∈oj.after) (hb:Region.binds .any e=true) (hu:listed.getD e.on true=false) (h:Blk ops listed i e.on):Blk ops listed i j
theorem YL{listed:Array Bool}{i:Nat}:∀(fuel j:Nat),Hp ops listed i fuel j=true→Blk ops listed i j
 | 0,_,h=>by cases h
 | fuel+1,j,h=>by
  unfold Hp at h
  cases hj:ops[j]? with
  | none=>rw[hj] at h;cases h
  | some oj=>
   rw[hj] at h
   rcases Bool.or_eq_true_iff.1 h with h | h
   ·obtain⟨e,he,h2⟩:=Array.any_eq_true'.1 h
    simp only[Bool.and_eq_true,beq_iff_eq] at h2
    exact .one hj he h2.1 h2.2
   ·obtain⟨e,he,h2⟩:=Array.any_eq_true'.1 h
    simp only[Bool.and_eq_true,Bool.not_eq_true'] at h2
    exact .via hj he h2.1 h2.2.1 (YL fuel e.on h2.2.2)
theorem WH{i:Nat}{oi:Oper}{listed:Array Bool}(hi:ops[i]?=some oi)(h:Dp ops pl listed i=true)(j:Nat)(oj:Oper)(hj:ops[j]?=some oj)(hne:j≠i)(hun:listed.getD j true=false)
 (hno:¬Blk ops listed i j):PF ops pl oi oj=true:=by
 simp only[Dp,hi,List.all_eq_true,List.mem_range] at h
 have h1:=h j (Array.getElem?_eq_some_iff.1 hj).1
 simp only[hj,Bool.or_eq_true,beq_iff_eq,hne,false_or,hun,Bool.false_eq_true] at h1
 rcases h1 with h1 | h1
 ·exact h1
 ·exact absurd (YL _ _ h1) hno
theorem Ht{listed:Array Bool}{i j:Nat}(hi:listed.getD i true=false)(hr:j∈Region.ready .any ops listed):¬Blk ops listed i j:=by
 intro h
 obtain⟨_,oj,hoj,hall⟩:=mem_ready.1 hr
 have key:∀(m:Nat),listed.getD m true=false→listed.getD m false=true→False:=fun m h1 h0=>by
  rcases Nat.lt_or_ge m listed.size with h' | h'
  ·simp[h'] at h0 h1;rw[h0] at h1;cases h1
  ·simp[Array.getElem?_eq_none h'] at h1
 cases h with
 | one hj he hb hie=>
  rw[hoj] at hj
  cases hj
  have:=hall _ he hb
  rw[hie] at this
  exact key i hi this
 | via hj he hb hu h=>
  rw[hoj] at hj
  cases hj
  exact key _ hu (hall _ he hb)
theorem Blk.grow{listed:Array Bool}{i j':Nat}(hj':¬Blk ops listed i j'):∀{k:Nat},Blk ops listed i k→Blk ops (listed.setIfInBounds j' true) i k:=by
 intro k h
 induction h with
 | one hj he hb hi=>exact .one hj he hb hi
 | via hj he hb hu h ih=>
  refine .via hj he hb ?_ ih
  rw[getD_set_ne true (fun e=>hj' (by rw[e];exact h))]
  exact hu
theorem WI{e:St→Prop}(hN:∀f A,Γ f=some A→A.Nat)(hpl:lP Γ pl){i:Nat}{oi:Oper}(hi:ops[i]?=some oi):
 ∀(fuel:Nat) (listed:Array Bool) (st st1:St),
  (∀j oj,ops[j]?=some oj→j≠i→listed.getD j true=false→¬Blk ops listed i j→PF ops pl oi oj=true) →
  i∈Region.ready .any ops listed→rZ P Γ ops i st=some st1→Dy P Γ ops e fuel (listed.setIfInBounds i true) st1→Dy P Γ ops e (fuel+1) listed st:=by
 intro fuel
 induction fuel with
 | zero=>
  intro listed st st1 _ hr hy H
  refine⟨fun h=>(by rw[h] at hr;cases hr),fun j hj=>?_⟩
  by_cases hji:j=i
  ·subst hji;exact⟨st1,hy,H⟩
  ·have:=ready_mono hj hji
   rw[H.1] at this
   cases this
 | succ fuel ih=>
  intro listed st st1 hfree hr hy H
  refine⟨fun h=>(by rw[h] at hr;cases hr),fun j hj=>?_⟩
  by_cases hji:j=i
  ·subst hji;exact⟨st1,hy,H⟩
  ·obtain⟨st2,h1,h2⟩:=H.2 j (ready_mono hj hji)
   obtain⟨hjun,oj,hoj,hall⟩:=mem_ready.1 hj
   have hnb:¬Blk ops listed i j:=Ht (mem_ready.1 hr).1 hj
   obtain⟨st1',g1,g2⟩:=Aq hN hpl hi hoj (hfree j oj hoj hji hjun hnb) hy h1
   have hfree':∀k ok,ops[k]?=some ok→k≠i→(listed.setIfInBounds j true).getD k true=false →
    ¬Blk ops (listed.setIfInBounds j true) i k→PF ops pl oi ok=true:=fun k ok hk hki hun hno=>by
    refine hfree k ok hk hki ?_ (fun hb=>hno (hb.grow hnb))
    by_cases hjk:j=k
    ·subst hjk;exact hjun
    ·rw[getD_set_ne true hjk] at hun;exact hun
   refine⟨st1',g1,ih (listed.setIfInBounds j true) st1' st2 hfree' (ready_mono hr (Ne.symm hji)) g2 ?_⟩
   rw[Array.setIfInBounds_comm _ _ hji]
   exact h2
theorem TY{e:St→Prop}(hN:∀f A,Γ f=some A→A.Nat)(hpl:lP Γ pl):∀(n k:Nat) (listed:Array Bool) (st st':St),k+n=ops.size →
 Dq ops pl n k listed=true→(List.range' k n).foldlM (fun st i=>rZ P Γ ops i st) st=some st'→e st'→Dy P Γ ops e n listed st
 | 0,k,listed,st,st',_,hB,h,he=>by
  cases h
  exact⟨by simpa[Dq] using hB,he⟩
 | n+1,k,listed,st,st',hk,hB,h,he=>by
  have hlt:k<ops.size:=by omega
  have h0:ops[k]?=some ops[k]:=Array.getElem?_eq_getElem hlt
  simp only[Dq,Bool.and_eq_true] at hB
  obtain⟨⟨hr,hf⟩,hB'⟩:=hB
  rw[List.range'_succ,List.foldlM_cons] at h
  cases hs:rZ P Γ ops k st with
  | none=>rw[hs] at h;cases h
  | some st1=>
   rw[hs] at h
   exact WI hN hpl h0 n listed st st1 (WH h0 hf) (by simpa using hr) hs (TY hN hpl n (k+1) _ st1 st' (by omega) hB' h he)
theorem WJ{e:St→Prop}:∀(fuel t:Nat) (listed:Array Bool) (st:St),Dy P Γ ops e fuel listed st →
 ∃st',(Region.linearise.go .any ops fuel t listed []).foldlM (fun st i=>rZ P Γ ops i st) st=some st'∧e st':=by
 intro fuel
 induction fuel with
 | zero=>intro t listed st h;exact⟨st,by simp[Region.linearise.go],h.2⟩
 | succ fuel ih=>
  intro t listed st h
  obtain⟨h₀,h₁⟩:=h
  simp only[Region.linearise.go]
  change ∃st',(match (Region.ready .any ops listed)[t%(Region.ready .any ops listed).length]? with
   | some i=>Region.linearise.go .any ops fuel (t/(Region.ready .any ops listed).length) (listed.setIfInBounds i true) [i]
   | none=>[].reverse).foldlM (fun st i=>rZ P Γ ops i st) st=some st'∧e st'
  cases hi:(Region.ready .any ops listed)[t%(Region.ready .any ops listed).length]? with
  | none=>
   have hnil:Region.ready .any ops listed=[]:=by
    cases hr:Region.ready .any ops listed with
    | nil=>rfl
    | cons x xs=>
     rw[hr] at hi
     have hlt:t%(x::xs).length<(x::xs).length:=Nat.mod_lt _ (by simp)
     simp at hi
     simp at hlt
     omega
   exact⟨st,rfl,h₀ hnil⟩
  | some i=>
   simp only[]
   rw[linearise_go_acc,List.reverse_singleton,List.singleton_append,List.foldlM_cons]
   obtain⟨st1,g1,g2⟩:=h₁ i (List.mem_of_getElem? hi)
   obtain⟨st',g3,g4⟩:=ih (t/(Region.ready .any ops listed).length) _ st1 g2
   exact⟨st',by rw[g1];exact g3,g4⟩
theorem Dz(hm:P.follows .mixedOrders=true)(hΓ:GOK P Γ)(hN:∀f A,Γ f=some A→A.Nat)(hpl:lP Γ pl):VX P Γ (Jr pl):=by
 intro ops hd R w0 F Xc ρ0 ρ st a w k r Q t hG h hk hn
 simp only[Region.schedule,hm,Bool.true_or,if_true]
 rw[B6 hN,List.range_eq_range'] at hk
 cases hs:(List.range' 0 ops.size).foldlM (fun st i=>rZ P Γ ops i st) st with
 | none=>rw[hs] at hk;cases hk
 | some st1=>
  rw[hs] at hk
  have ha:=TY (e:=fun st'=>k st'=some r) hN hpl ops.size 0 (Array.replicate ops.size false) st st1 (by omega) hd hs hk
  obtain⟨st',g1,g2⟩:=WJ ops.size t _ st ha
  refine QQ hΓ hG (Region.linearise .any ops t) h (k:=k) ?_ hn
  rw[B6 hN]
  show ((Region.linearise.go .any ops ops.size t (Array.replicate ops.size false) []).foldlM (fun st i=>rZ P Γ ops i st) st).bind k=some r
  rw[g1]
  exact g2
end
theorem aB(sg:Sig)(U:nR sg.hin.shapes→Option (nR sg.hout.shapes)):(aA sg U).Nat:=by
 refine⟨?_,fun I h=>(by cases h),fun I h=>(by cases h)⟩
 intro R args po k
 simp only[aA]
 split
 ·refine(sQ _).trans (Eq.trans ?_ (congrArg (fun z:Option (List S1×List O)=>z.bind fun p=>k p.1 p.2) (sQ _)).symm)
  rw[Option.bind_assoc]
  refine congrArg _ (funext fun p=>?_)
  rw[aW]
  refine congrArg _ (funext fun q=>?_)
  split <;> rfl
 ·rfl
theorem uO{t:List S1→Bool}{A B:Callee}(hA:A.Nat)(hB:B.Nat):(Gg t A B).Nat:=by
 refine⟨?_,fun I h=>(by cases h),fun I h=>(by cases h)⟩
 intro R args po k
 simp only[Gg]
 split
 ·exact hA.1 args po k
 ·exact hB.1 args po k
def WK:Sh→Bool
 | .int _=>true
 | .bool=>true
 | .str=>true
 | _=>false
def qW:Nat→List It→Bool
 | _,[]=>true
 | i,.slot j::l=>j==i&&qW (i+1) l
 | i,.aggs j _::l=>j==i&&qW (i+1) l
 | _,_=>false
def xP:List It→Nat
 | []=>0
 | .slot _::l=>1+xP l
 | .aggs _ n::l=>n+xP l
 | .box _ n::l=>n+xP l
 | .boxr _ _ n::l=>n+xP l
def RA(sg:Sig):Bool:=decide (sg.np=0)&&decide (sg.nnew=0)&&sg.hout.shapes.all WK&&qW 0 sg.hout.items&&decide (sg.hout.items.length=sg.nres)&&decide (xP sg.hout.items≤sg.hout.shapes.length)&&sg.kept.isEmpty
theorem PN:∀(l:List Sh) (t:nR l),l.all WK=true→(vG l t).all zU=true∧(vG l t).length=l.length
 | [],_,_=>⟨rfl,rfl⟩
 | s::l,t,h=>by
  simp only[List.all_cons,Bool.and_eq_true] at h
  obtain⟨h1,h2⟩:=PN l t.2 h.2
  refine⟨?_,by simp[vG,h2]⟩
  simp only[vG,List.all_cons,Bool.and_eq_true]
  refine⟨?_,h1⟩
  cases s <;> first
   | rfl
   | (cases h.1;done)
theorem xQ:∀(l:List It) (i:Nat) (cs:List C) (st:St),qW i l=true→cs.all zU=true→xP l≤cs.length→i+l.length≤st.env.length →
 (∀j,j<i→∃s,st.env[j]?=some (.s s)∧s.list.all zU=true)→(b8 l cs st).objs=st.objs∧∀j,j<i+l.length→∃s,(b8 l cs st).env[j]?=some (.s s)∧s.list.all zU=true
 | [],i,cs,st,h1,h2,h3,h4,h5=>⟨rfl,h5⟩
 | .slot k::l,i,cs,st,h1,h2,h3,h4,h5=>by
  simp only[qW,Bool.and_eq_true,beq_iff_eq] at h1
  obtain⟨rfl,h1⟩:=h1
  simp only[List.length_cons] at h4
  cases cs with
  | nil=>simp[xP] at h3
  | cons c cs=>
   simp only[List.all_cons,Bool.and_eq_true] at h2
   simp only[xP,List.length_cons] at h3
   obtain⟨e1,e2⟩:=xQ l (k+1) cs { st with env:=st.env.set k (.s (.c c)) } h1 h2.2 (by omega) (by simp;omega) (fun j hj=>by
    by_cases hjk:k=j
    ·subst hjk
     exact⟨.c c,by rw[List.getElem?_set_self (by omega)],by simp[S1.list,h2.1]⟩
    ·obtain⟨s,q1,q2⟩:=h5 j (by omega)
     exact⟨s,by simp only[];rw[List.getElem?_set_ne hjk];exact q1,q2⟩)
   simp only[b8,List.tail_cons,List.headD_cons]
   refine⟨e1,fun j hj=>e2 j (by simp only[List.length_cons] at hj;omega)⟩
 | .aggs k n::l,i,cs,st,h1,h2,h3,h4,h5=>by
  simp only[qW,Bool.and_eq_true,beq_iff_eq] at h1
  obtain⟨rfl,h1⟩:=h1
  simp only[List.length_cons] at h4
  simp only[xP] at h3
  obtain⟨e1,e2⟩:=xQ l (k+1) (cs.drop n) { st with env:=st.env.set k (.s (.agg (cs.take n))) } h1 (List.all_eq_true.2 fun x hx=>List.all_eq_true.1 h2 x (List.mem_of_mem_drop hx)) (by rw[List.length_drop];omega) (by simp;omega) (fun j hj=>by
   by_cases hjk:k=j
   ·subst hjk
    exact⟨.agg (cs.take n),by rw[List.getElem?_set_self (by omega)],List.all_eq_true.2 fun x hx=>List.all_eq_true.1 h2 x (List.mem_of_mem_take hx)⟩
   ·obtain⟨s,q1,q2⟩:=h5 j (by omega)
    exact⟨s,by simp only[];rw[List.getElem?_set_ne hjk];exact q1,q2⟩)
  simp only[b8]
  refine⟨e1,fun j hj=>e2 j (by simp only[List.length_cons] at hj;omega)⟩
 | .box _ _::_,i,cs,st,h1,_,_,_,_=>by simp[qW] at h1
 | .boxr _ _ _::_,i,cs,st,h1,_,_,_,_=>by simp[qW] at h1
theorem IP:∀(l:List Sh) (t:nR l),l.all WK=true→d7 l t=[]
 | [],_,_=>rfl
 | s::l,t,h=>by
  simp only[List.all_cons,Bool.and_eq_true] at h
  cases s <;> first
   | exact IP l t.2 h.2
   | (cases h.1;done)
theorem bM{sg:Sig}{U:nR sg.hin.shapes→Option (nR sg.hout.shapes)}(h:RA sg=true):(aA sg U).Pure0:=by
 unfold RA at h
 simp only[Bool.and_eq_true,decide_eq_true_eq,List.isEmpty_iff] at h
 obtain⟨⟨⟨⟨⟨⟨h1,h2⟩,h3⟩,h4⟩,h5⟩,h6⟩,h7⟩:=h
 refine⟨⟨rfl,rfl⟩,?_⟩
 intro args po rs po' hc
 simp only[aA] at hc
 split at hc
 ·rename_i hlen
  have hpo:po=[]:=List.eq_nil_of_length_eq_zero (by omega)
  rw[sQ] at hc
  obtain⟨t,_,hc⟩:=Option.bind_eq_some_iff.1 hc
  obtain⟨q,_,hq⟩:=aC hc
  split at hq
  ·rename_i rs1 hrs
   simp only[Option.some.injEq,Prod.mk.injEq] at hq
   obtain⟨e1,e2⟩:=hq
   obtain⟨g1,g2⟩:=PN sg.hout.shapes q h3
   have hno:sg.no=sg.nres:=by simp[Sig.no,h7]
   obtain⟨s1,s2⟩:=xQ sg.hout.items 0 (vG sg.hout.shapes q) (fW sg.np sg.no (sg.np+sg.nnew)) h4 g1 (by rw[g2];exact h6) (by simp[fW,hno,h5]) (fun j hj=>by omega)
   have hob:(bN sg.hout sg.np sg.no (sg.np+sg.nnew) q).objs=[]:=by
    unfold bN
    simp only[IP _ _ h3,jN,s1]
    simp[fW,h1,h2]
   refine⟨hpo,by rw[←e2,hob],?_⟩
   rw[←e1]
   have hs:=DU hrs
   refine List.all_eq_true.2 fun s hs'=>?_
   obtain⟨j,hj⟩:=List.mem_iff_getElem?.1 hs'
   have h8:=congrArg (fun z=>z[j]?) hs
   simp only[List.getElem?_map,hj,Option.map_some,List.getElem?_take] at h8
   split at h8
   ·rename_i hjl
    obtain⟨s',q1,q2⟩:=s2 j (by omega)
    have h9:(bN sg.hout sg.np sg.no (sg.np+sg.nnew) q).env[j]?=some (.s s'):=q1
    rw[h9] at h8
    cases h8
    exact q2
   ·cases h8
  ·cases hq
 ·cases hc
theorem FP{t:List S1→Bool}{A B:Callee}(hA:A.Pure0)(hB:B.Pure0):(Gg t A B).Pure0:=by
 refine⟨⟨rfl,rfl⟩,?_⟩
 intro args po rs po' h
 simp only[Gg] at h
 split at h
 ·exact hA.2 args po rs po' h
 ·exact hB.2 args po rs po' h
structure TabOK (P:Program) (pl:List Nat) (l:List (FuncId×Callee)):Prop where
 gok:GOK P (lO l)
 nat:∀f A,lO l f=some A→A.Nat
 pure:lP (lO l) pl
theorem RC{pl:List Nat}(h:pl.all (fun n=>decide (n<82000000))=true){m:Nat}(hm:82000000≤m)(hc:pl.contains m=true):False:=by
 have:=List.all_eq_true.1 h m (by simpa using hc)
 have:=of_decide_eq_true this
 omega
theorem TabOK.nil{P:Program}{pl:List Nat}(h:pl.contains 9000000=false:=by kernel_rfl)(h2:pl.contains 9000002=false:=by kernel_rfl)(h3:pl.all (fun n=>decide (n<82000000))=true:=by kernel_rfl):TabOK P pl []:=
 ⟨.nil,fun _ _ h=>(by cases h),fun _ _ _ h=>(by cases h),fun _ _ _ h=>(by cases h),fun _ _ _ h=>(by cases h),fun h'=>(by rw[h] at h';cases h'),fun _ h=>(by cases h),fun h'=>(by rw[h2] at h';cases h'),fun _ h=>(by cases h),fun s hs=>(RC h3 (by omega) hs).elim,fun s _ hs=>(RC h3 (by omega) hs).elim⟩
def jU(B L:List Nat):Callee where
 call:=fun _ _ _=>none
 ext:=some ⟨fun _ _=>none⟩
 quiet:=B
 loose:=L
theorem Ea{P:Program}{B L:List Nat}:(jU B L).OK P 2000000:=⟨fun _ _ _ _ h=>(by cases h),fun I h=>(by cases h),fun I h=>(by
 cases h
 intro R w X ρ r ds vals k _ _ hk
 cases hk)⟩
theorem HF{B L:List Nat}:(jU B L).Nat:=⟨fun _ _ _=>rfl,fun I h=>(by cases h),fun I h=>(by
 cases h
 intro R ds k
 rfl)⟩
theorem TabOK.flag{P:Program}{pl:List Nat}{B L:List Nat}(hB:B.isEmpty=false)(h1:pl.contains 2000000=false)(h2:pl.contains 3000000=false)(h3:pl.contains 6000000=false)(h4:L.all (fun s=>pl.contains (20000000+s))=true)(h5:pl.all (fun n=>decide (n<82000000))=true:=by kernel_rfl):TabOK P pl [(2000000,jU B L)]:=by
 have hl:∀f A,lO [(2000000,jU B L)] f=some A→f=2000000∧A=jU B L:=fun f A h=>by
  simp only[lO] at h
  split at h
  ·rename_i e;cases h;exact⟨e.symm,rfl⟩
  ·cases h
 refine⟨fun f A h=>?_,fun f A h=>?_,fun f A hc h=>?_,fun f A hc h=>?_,fun f A hc h=>?_,fun _ h=>?_,fun s hs=>?_,fun _ f A hf h=>?_,fun A h=>?_,fun s hs=>(RC h5 (by omega) hs).elim,fun s _ hs=>(RC h5 (by omega) hs).elim⟩
 ·obtain⟨rfl,rfl⟩:=hl f A h;exact⟨fun he=>(by cases he),Ea⟩
 ·obtain⟨rfl,rfl⟩:=hl f A h;exact HF
 ·obtain⟨rfl,rfl⟩:=hl f A h;rw[h1] at hc;cases hc
 ·obtain⟨rfl,rfl⟩:=hl f A h;rw[h2] at hc;cases hc
 ·obtain⟨rfl,rfl⟩:=hl f A h;rw[h3] at hc;cases hc
 ·have h:B=[]:=h
  subst h
  cases hB
 ·have hs:L.contains s=true:=hs
  exact List.all_eq_true.1 h4 s (by simpa using hs)
 ·obtain⟨rfl,rfl⟩:=hl f A h;cases hf
 ·obtain⟨_,rfl⟩:=hl 2000000 A h
  exact⟨_,rfl,fun _ _=>rfl⟩
theorem TabOK.flagG0{P:Program}{pl:List Nat}{G S:List Nat}(h1:(pl.contains 2000002||pl.contains 3000002||pl.contains 6000002||pl.contains 9000002||pl.contains 9000000)=false)
 (h5:pl.all (fun n=>decide (n<82000000)||(decide (n<90000000)&&G.contains (n-82000000))||(decide (90000000≤n)&&S.contains (n-90000000)))=true):TabOK P pl [(2000002,jU G S)]:=by
 simp only[Bool.or_eq_false_iff] at h1
 obtain⟨⟨⟨⟨a4,a5⟩,a6⟩,a7⟩,a8⟩:=h1
 have hl:∀f A,lO [(2000002,jU G S)] f=some A→(f=2000002∧A=jU G S):=fun f A h=>by
  simp only[lO] at h
  split at h
  ·rename_i e;cases h;exact⟨e.symm,rfl⟩
  ·cases h
 have hok:∀{B L:List Nat} {f:FuncId},(jU B L).OK P f:=fun {B L f}=>⟨fun _ _ _ _ h=>(by cases h),fun I h=>(by cases h),fun I h=>(by
  cases h
  intro R w X ρ r ds vals k _ _ hk
  cases hk)⟩
 refine⟨fun f A h=>?_,fun f A h=>?_,fun f A hc h=>?_,fun f A hc h=>?_,fun f A hc h=>?_,fun h _=>?_,fun s hs=>?_,fun hf=>?_,fun A h=>?_,fun s hs=>?_,fun t ht0 ht=>?_⟩
 ·obtain⟨rfl,rfl⟩:=hl f A h;exact⟨fun he=>(by cases he),hok⟩
 ·obtain⟨rfl,rfl⟩:=hl f A h;exact HF
 ·obtain⟨rfl,rfl⟩:=hl f A h
  rw[a4] at hc;cases hc
 ·obtain⟨rfl,rfl⟩:=hl f A h
  rw[a5] at hc;cases hc
 ·obtain⟨rfl,rfl⟩:=hl f A h
  rw[a6] at hc;cases hc
 ·rw[a8] at h;cases h
 ·have hs:([]:List Nat).contains s=true:=hs
  cases hs
 ·rw[a7] at hf;cases hf
 ·obtain⟨e,_⟩:=hl 2000000 A h
  cases e
 ·have:=List.all_eq_true.1 h5 (90000000+s) (by simpa using hs)
  rw[Bool.or_eq_true,Bool.or_eq_true,Bool.and_eq_true,Bool.and_eq_true] at this
  rcases this with(h | ⟨h,_⟩) | ⟨_,h⟩
  ·have:=of_decide_eq_true h;omega
  ·have:=of_decide_eq_true h;omega
  ·have e:90000000+s-90000000=s:=by omega
   rw[e] at h
   exact h
 ·have:=List.all_eq_true.1 h5 (82000000+t) (by simpa using ht)
  rw[Bool.or_eq_true,Bool.or_eq_true,Bool.and_eq_true,Bool.and_eq_true] at this
  rcases this with(h | ⟨_,h⟩) | ⟨h,_⟩
  ·have:=of_decide_eq_true h;omega
  ·have e:82000000+t-82000000=t:=by omega
   rw[e] at h
   exact h
  ·have:=of_decide_eq_true h;omega
theorem TabOK.flagG{P:Program}{pl:List Nat}{B L G S:List Nat}(hB:B.isEmpty=false)(h1:(pl.contains 2000000||pl.contains 3000000||pl.contains 6000000||pl.contains 2000002||pl.contains 3000002||pl.contains 6000002)=false)(h4:L.all (fun s=>pl.contains (20000000+s))=true)
 (h5:pl.all (fun n=>decide (n<82000000)||(decide (n<90000000)&&G.contains (n-82000000))||(decide (90000000≤n)&&S.contains (n-90000000)))=true):TabOK P pl [(2000000,jU B L),(2000002,jU G S)]:=by
 simp only[Bool.or_eq_false_iff] at h1
 obtain⟨⟨⟨⟨⟨a1,a2⟩,a3⟩,a4⟩,a5⟩,a6⟩:=h1
 have hl:∀f A,lO [(2000000,jU B L),(2000002,jU G S)] f=some A→(f=2000000∧A=jU B L)∨(f=2000002∧A=jU G S):=fun f A h=>by
  simp only[lO] at h
  split at h
  ·rename_i e;cases h;exact .inl ⟨e.symm,rfl⟩
  ·split at h
   ·rename_i e;cases h;exact .inr ⟨e.symm,rfl⟩
   ·cases h
 have hok:∀{B L:List Nat} {f:FuncId},(jU B L).OK P f:=fun {B L f}=>⟨fun _ _ _ _ h=>(by cases h),fun I h=>(by cases h),fun I h=>(by
  cases h
  intro R w X ρ r ds vals k _ _ hk
  cases hk)⟩
 refine⟨fun f A h=>?_,fun f A h=>?_,fun f A hc h=>?_,fun f A hc h=>?_,fun f A hc h=>?_,fun _ h=>?_,fun s hs=>?_,fun _ f A hf h=>?_,fun A h=>?_,fun s hs=>?_,fun t ht0 ht=>?_⟩
 ·rcases hl f A h with⟨rfl,rfl⟩ | ⟨rfl,rfl⟩ <;> exact⟨fun he=>(by cases he),hok⟩
 ·rcases hl f A h with⟨rfl,rfl⟩ | ⟨rfl,rfl⟩ <;> exact HF
 ·rcases hl f A h with⟨rfl,rfl⟩ | ⟨rfl,rfl⟩
  ·rw[a1] at hc;cases hc
  ·rw[a4] at hc;cases hc
 ·rcases hl f A h with⟨rfl,rfl⟩ | ⟨rfl,rfl⟩
  ·rw[a2] at hc;cases hc
  ·rw[a5] at hc;cases hc
 ·rcases hl f A h with⟨rfl,rfl⟩ | ⟨rfl,rfl⟩
  ·rw[a3] at hc;cases hc
  ·rw[a6] at hc;cases hc
 ·have h:B=[]:=h
  subst h
  cases hB
 ·have hs:L.contains s=true:=hs
  exact List.all_eq_true.1 h4 s (by simpa using hs)
 ·rcases hl f A h with⟨rfl,rfl⟩ | ⟨rfl,rfl⟩
  ·cases hf
  ·exact .inr ⟨_,rfl,fun _ _=>rfl⟩
 ·rcases hl 2000000 A h with⟨_,rfl⟩ | ⟨e,_⟩
  ·exact⟨_,rfl,fun _ _=>rfl⟩
  ·cases e
 ·have:=List.all_eq_true.1 h5 (90000000+s) (by simpa using hs)
  rw[Bool.or_eq_true,Bool.or_eq_true,Bool.and_eq_true,Bool.and_eq_true] at this
  rcases this with(h | ⟨h,_⟩) | ⟨_,h⟩
  ·have:=of_decide_eq_true h;omega
  ·have:=of_decide_eq_true h;omega
  ·have e:90000000+s-90000000=s:=by omega
   rw[e] at h
   exact h
 ·have:=List.all_eq_true.1 h5 (82000000+t) (by simpa using ht)
  rw[Bool.or_eq_true,Bool.or_eq_true,Bool.and_eq_true,Bool.and_eq_true] at this
  rcases this with(h | ⟨_,h⟩) | ⟨h,_⟩
  ·have:=of_decide_eq_true h;omega
  ·have e:82000000+t-82000000=t:=by omega
   rw[e] at h
   exact h
  ·have:=of_decide_eq_true h;omega
theorem TabOK.consP{P:Program}{pl:List Nat}{f:FuncId}{A:Callee}{l:List (FuncId×Callee)}(hc:A.ext=none→fO P f)(hA:A.OK P f)(hn:A.Nat)(hp:pl.contains f=true→A.Pure)(hq:pl.contains (f+1000000)=true→A.PureP)
 (hF:(pl.contains (f+4000000)||pl.contains 9000002)=true→A.Framed) (hne:(f==2000000)=false) (hl:TabOK P pl l) (hne2:(f==2000002)=false:=by kernel_rfl):TabOK P pl ((f,A)::l):=by
 have hlk:lO ((f,A)::l) 2000000=lO l 2000000:=by
  simp only[lO]
  rw[if_neg (by intro h;subst h;cases hne)]
 have hqo:xN (lO ((f,A)::l))=xN (lO l):=by
  unfold xN
  rw[hlk]
 have hlo:bL (lO ((f,A)::l))=bL (lO l):=by
  unfold bL
  rw[hlk]
 have hlk2:lO ((f,A)::l) 2000002=lO l 2000002:=by
  simp only[lO]
  rw[if_neg (by intro h;subst h;cases hne2)]
 have hgs:eJ (lO ((f,A)::l))=eJ (lO l):=by
  unfold eJ
  rw[hlk2]
 have hgt:D5 (lO ((f,A)::l))=D5 (lO l):=by
  unfold D5
  rw[hlk2]
 refine⟨.cons hc hA hl.gok,fun g B h=>?_,fun g B hg h=>?_,fun g B hg h=>?_,fun g B hg h=>?_,fun hg=>(by rw[hqo];exact hl.pure.2.2.2.1 hg),fun s hs=>(by rw[hlo] at hs;exact hl.pure.2.2.2.2.1 s hs),fun hg g B hg2 h=>?_,fun B h=>?_,fun s hs=>(by rw[hgs];exact hl.pure.2.2.2.2.2.2.2.1 s hs),fun s hs2 hs=>(by rw[hgt];exact hl.pure.2.2.2.2.2.2.2.2 s hs2 hs)⟩
 ·simp only[lO] at h
  split at h
  ·cases h;exact hn
  ·exact hl.nat g B h
 ·simp only[lO] at h
  split at h
  ·rename_i e;cases h;subst e;exact hp hg
  ·exact hl.pure.1 g B hg h
 ·simp only[lO] at h
  split at h
  ·rename_i e;cases h;subst e;exact hq hg
  ·exact hl.pure.2.1 g B hg h
 ·simp only[lO] at h
  split at h
  ·rename_i e;cases h;subst e;exact hF (by rw[hg];rfl)
  ·exact hl.pure.2.2.1 g B hg h
 ·simp only[lO] at h
  split at h
  ·rename_i e;cases h;subst e;exact .inl (hF (by rw[hg];exact Bool.or_true _))
  ·exact hl.pure.2.2.2.2.2.1 hg g B hg2 h
 ·rw[hlk] at h
  exact hl.pure.2.2.2.2.2.2.1 B h
theorem TabOK.cons{P:Program}{pl:List Nat}{f:FuncId}{A:Callee}{l:List (FuncId×Callee)}(hc:A.ext=none→fO P f)(hA:A.OK P f)(hn:A.Nat)(hp:pl.contains f=true→A.Pure0)(hq:pl.contains (f+1000000)=false)
 (hF:(pl.contains (f+4000000)||pl.contains 9000002)=true→A.Framed) (hne:(f==2000000)=false) (hl:TabOK P pl l) (hne2:(f==2000002)=false:=by kernel_rfl):TabOK P pl ((f,A)::l):=
 hl.consP hc hA hn (fun h=>(hp h).pure hn) (fun h=>by rw[hq] at h;cases h) hF hne hne2
def s6(ds:List D):Bool:=ds.all fun d=>match d with
 | .s s=>s.list.all pQ
 | .tup _=>false
def Callee.strict(A:Callee):Callee where
 call:=fun args po k=>A.call args po fun rs po'=>if po'.isEmpty&&rs.all (fun s=>s.list.all pQ) then k rs po' else none
def Bi(A:Callee):Callee where
 call:=fun _ _ _=>none
 inl:=some ⟨fun st dst ds k=>if s6 ds=true then rO A.strict st dst ds k else none⟩
theorem Ar{P:Program}{f:FuncId}{A:Callee}(h:A.OK P f):A.strict.OK P f:=by
 refine⟨?_,fun I h=>(by cases h),fun I h=>(by cases h)⟩
 intro R args po k r hk
 obtain⟨rs,po',h1,h2⟩:=h.1 args po _ r hk
 split at h1
 ·exact⟨rs,po',h1,h2⟩
 ·cases h1
theorem WL{A:Callee}(h:A.Nat):A.strict.Nat:=by
 refine⟨?_,fun I h=>(by cases h),fun I h=>(by cases h)⟩
 intro R args po k
 show (A.call args po _)=(A.call args po _).bind _
 refine(h.1 _ _ _).trans (Eq.trans ?_ (congrArg (fun z:Option (List S1×List O)=>z.bind fun p=>k p.1 p.2) (h.1 _ _ _)).symm)
 rw[Option.bind_assoc]
 refine congrArg _ (funext fun p=>?_)
 split <;> rfl
theorem xR{P:Program}{f:FuncId}{A:Callee}(h:A.OK P f):(Bi A).OK P f:=by
 refine⟨fun _ _ _ _ h=>(by cases h),fun I hI=>?_,fun I h=>(by cases h)⟩
 cases hI
 intro R w0 w F Xc ρ0 ρ st a r dst ds vals k hG hR hlen hd hk
 dsimp only at hk
 split at hk
 ·exact KS hG (Ar h) hR hlen hd hk
 ·cases hk
theorem sE{A:Callee}(h:A.Nat):(Bi A).Nat:=by
 refine⟨fun _ _ _=>rfl,fun I hI=>?_,fun I h=>(by cases h)⟩
 cases hI
 intro R st dst ds k
 dsimp only
 split
 ·exact D9 (WL h) st dst ds k
 ·rfl
theorem TZ:∀(l:List C),l.all pQ=true→(l.flatMap C.ks=[]∧∀(st:St) (j:Nat),iS st [] j [] l=some (l,[]))∧eM [] l=[]
 | [],_=>⟨⟨rfl,fun _ _=>rfl⟩,rfl⟩
 | c::l,h=>by
  simp only[List.all_cons,Bool.and_eq_true] at h
  obtain⟨⟨h1,h2⟩,h3⟩:=TZ l h.2
  cases c <;> first
   | (cases h.1;done)
   | (refine⟨⟨by rw[List.flatMap_cons,h1];rfl,fun st j=>?_⟩,?_⟩
      ·simp only[iS,List.headD_nil,List.tail_nil,yB,h2]
      ·simp only[eM,List.headD_nil,List.tail_nil,h3]
       rfl)
theorem xS:∀(ss:List S1),sA ss (ss.flatMap S1.list)=ss
 | []=>rfl
 | .c c::l=>by
  show S1.c _::sA l _=_
  simp only[List.flatMap_cons,S1.list,List.singleton_append,List.headD_cons,List.tail_cons,xS l]
 | .agg a::l=>by
  show S1.agg _::sA l _=_
  simp only[List.flatMap_cons,S1.list,List.take_left',List.drop_left',xS l]
theorem YM:∀(ds:List D),s6 ds=true→∃ss,UY ds=some ss∧(ss.flatMap S1.list).all pQ=true
 | [],_=>⟨[],rfl,rfl⟩
 | .s s::l,h=>by
  simp only[s6,List.all_cons,Bool.and_eq_true] at h
  obtain⟨ss,h1,h2⟩:=YM l h.2
  exact⟨s::ss,by simp[UY,h1],by rw[List.flatMap_cons,List.all_append,h.1,h2];rfl⟩
 | .tup _::l,h=>by simp[s6] at h
theorem WM{s:S1}(h:s.list.all pQ=true):E5 [] s=some s:=by
 have hc:∀c:C,pQ c=true→sU [] c=some c:=fun c hc=>by cases c <;> first | rfl | (cases hc;done)
 cases s with
 | c c=>simp only[S1.list,List.all_cons,List.all_nil,Bool.and_true] at h;simp[E5,hc c h]
 | agg l=>
  simp only[S1.list] at h
  have:kE (l.map (sU []))=some l:=by
   induction l with
   | nil=>rfl
   | cons c l ih=>
    simp only[List.all_cons,Bool.and_eq_true] at h
    simp only[List.map_cons,hc c h.1,kE]
    rw[ih h.2]
    rfl
  simp[E5,this]
theorem PO:∀{rs:List S1},rs.all (fun s=>s.list.all pQ)=true→kE (rs.map (E5 []))=some rs
 | [],_=>rfl
 | s::rs,h=>by
  simp only[List.all_cons,Bool.and_eq_true] at h
  simp only[List.map_cons,WM h.1,kE]
  rw[PO h.2]
  rfl
theorem FQ{R:Type}{A:Callee}(hN:A.Nat){st:St}{dst:Option Nat}{ds:List D}{k:St→D→Option R}(h:s6 ds=true):
 rO A.strict st dst ds k=((UY ds).bind fun ss=>A.call ss [] fun rs po'=>if po'.isEmpty&&rs.all (fun s=>s.list.all pQ) then some (P9 rs) else none).bind fun d=>k st d:=by
 obtain⟨ss,h1,h2⟩:=YM ds h
 obtain⟨⟨e1,e2⟩,e3⟩:=TZ _ h2
 have hk:IA ss=[]:=by
  unfold IA
  have:(ss.flatMap fun s=>s.list.flatMap C.ks)=(ss.flatMap S1.list).flatMap C.ks:=by rw[List.flatMap_assoc]
  rw[this,e1];rfl
 have hkx:∀d,l6 d st.objs ss=[]:=fun d=>by
  unfold l6
  rw[hk]
  cases d <;> rfl
 unfold rO
 rw[h1]
 dsimp only
 rw[hkx]
 simp only[List.map_nil,kE,List.flatten_nil,List.append_nil,List.length_nil]
 show (match iS st [] 0 [] (ss.flatMap S1.list) with | none=>none | some (cs,rws)=>_)=_
 rw[e2]
 dsimp only
 simp only[List.filterMap_nil,List.nodup_nil,decide_true,List.all_nil,Bool.and_self,if_true,Option.bind_some]
 have e4:sA ss (ss.flatMap S1.list)=ss:=xS ss
 have e5:eM A.strict.rows (ss.flatMap S1.list)=[]:=e3
 rw[e4,e5]
 show (A.call ss (d5 [] _++[]) _)=_
 simp only[d5,List.append_nil]
 refine(hN.1 _ _ _).trans (Eq.trans ?_ (congrArg (fun z:Option D=>z.bind fun d=>k st d) (hN.1 _ _ _)).symm)
 rw[Option.bind_assoc]
 refine congrArg _ (funext fun p=>?_)
 obtain⟨rs,po'⟩:=p
 dsimp only
 split
 ·rename_i hc
  simp only[Bool.and_eq_true,List.isEmpty_iff] at hc
  obtain⟨rfl,hrs⟩:=hc
  simp only[List.isEmpty_nil,Bool.and_self,Bool.true_and,List.length_nil,Nat.sub_self,Option.bind_some]
  by_cases hsc:(rs.all fun s=>s.list.all zU)=true
  ·rw[hsc];rfl
  ·rw[Bool.not_eq_true] at hsc
   rw[hsc]
   simp only[Bool.and_false,Bool.false_eq_true,if_false,List.length_nil,Nat.sub_self,List.map_nil,List.append_nil,Nat.sub_zero,rN,List.nodup_nil,decide_true,Nat.le_refl,Bool.and_self,if_true,kE,PO hrs]
   rfl
 ·rfl
theorem dJ{A:Callee}(hN:A.Nat):(Bi A).PureP:=⟨rfl,fun b q dst ds=>by
 show (if s6 ds=true then rO A.strict { b with objs:=q } dst ds _ else none)=(if s6 ds=true then rO A.strict b dst ds _ else none).map _
 split
 ·rename_i h
  rw[FQ hN h,FQ hN h]
  cases((UY ds).bind fun ss=>A.call ss [] fun rs po'=>if po'.isEmpty&&rs.all (fun s=>s.list.all pQ) then some (P9 rs) else none) <;> rfl
 ·rfl⟩
noncomputable abbrev pH(P:Program)(l:List (FuncId×Callee))(pl:List Nat)(t:HT)(fn:Func)(sg:Sig):nR sg.hin.shapes→Option (nR sg.hout.shapes):=
 Jq P (lO l) (Jr pl) (VZ t fn) fn.results.toList fn.ntmps sg
theorem pV{P:Program}{l:List (FuncId×Callee)}{pl:List Nat}{f:FuncId}{fn:Func}{t:HT}{sg:Sig}{U:nR sg.hin.shapes→Option (nR sg.hout.shapes)}(hm:P.follows .mixedOrders=true)
 (hΓ:TabOK P pl l) (hf:P.funcs[f]?=some fn) (ht:J8 t fn=true) (hs:sg.ok fn.ntmps=true) (hU:∀x,pH P l pl t fn sg x=U x):(aA sg U).OK P f:=
 TF hΓ.gok (Dz hm hΓ.gok hΓ.nat hΓ.pure) hf (Z6 ht) rfl rfl hs fun x q h=>by rw[←hU x] at h;exact h
theorem CA{P:Program}{f:FuncId}{sg:Sig}{U:nR sg.hin.shapes→Option (nR sg.hout.shapes)}(hp:sg.np=0)(hn:sg.nnew=0)
 (h:∀t q,U t=some q→∀(w:World) (X:Nat→Prop) (F:Nat→Prop) (ρ:fN) (vals:List Value),Good P w F→(∀b,X b→b<w.heap.size)→vals.length=sg.na →
  (∀(i:Nat) s y,(bN sg.hin 0 sg.na 0 t).env[i]?=some (.s s)→vals[i]?=some y→RdS w X ρ s y) →
  ∀rs,UY ((bN sg.hout sg.np sg.no (sg.np+sg.nnew) q).env.take sg.nres)=some rs →
  Calls P f vals.toArray w fun e w'=>∃v,e=.returned v∧Stp (fun _=>False) w w'∧RdRes w' X (fun _=>none) rs v):(aA sg U).OK P f:=by
 refine⟨?_,fun I h=>(by cases h),fun I h=>(by cases h)⟩
 intro R args po k r hk
 simp only[aA] at hk
 split at hk
 case isFalse=>cases hk
 rename_i hlens
 obtain⟨hna,hnp⟩:=hlens
 have hpo:po=[]:=List.eq_nil_of_length_eq_zero (by omega)
 subst hpo
 rw[sQ] at hk
 cases hpk:yE sg.hin (D8 sg args []) some with
 | none=>rw[hpk] at hk;cases hk
 | some t=>
 rw[hpk] at hk
 simp only[Option.bind_some] at hk
 obtain⟨q,hq,hk1⟩:=aC hk
 split at hk1
 case h_2=>cases hk1
 rename_i rs hrs
 refine⟨rs,_,hk1,?_⟩
 have hob:(bN sg.hout sg.np sg.no (sg.np+sg.nnew) q).objs=[]:=by
  obtain⟨l1,l2,l3⟩:=pT (h:=sg.hout) (t:=q) (n:=sg.no) (show sg.np≤sg.np+sg.nnew from Nat.le_add_right _ _)
  exact List.eq_nil_of_length_eq_zero (by omega)
 rw[hob]
 intro w Xc ρ vals hok hsep hxl hxc hgood hargs
 have hX:∀ρ' b,XB [] ρ' Xc b↔Xc b:=fun ρ' b=>⟨fun hh=>hh.elim (fun⟨k,o,v,h1,_⟩=>by simp at h1) id,.inr⟩
 have hXe:∀ρ',XB [] ρ' Xc=Xc:=fun ρ'=>funext fun b=>propext (hX ρ' b)
 have hvl:vals.length=sg.na:=by rw[←hargs.1] at hna;rw[←hna,hargs.1]
 have hR0:Rel w (r6 [] ρ) Xc ⟨ρ,[]⟩ ρ (D8 sg args []) { tmps:=vals.toArray,defers:=[] } w:=
  Rel.bare (by rw[List.length_map];exact hargs.1.symm) (fun i d y h1 h2=>by
   rw[List.getElem?_map] at h1
   cases ha:args[i]? with
   | none=>simp[ha] at h1
   | some s=>
    simp only[ha,Option.map_some,Option.some.injEq] at h1
    subst h1
    exact hargs.2 i s y ha h2) hok hsep (fun b hb=>.inr hb) (fun _ _=>rfl) (.refl _ _) hxl hxc (fun p hp=>by simp at hp)
 obtain⟨t',ht',hkk,ρ1,hno,hR1⟩:=B5 rfl hR0 hpk
 cases ht'
 have e1:(D8 sg args []).env.length=sg.na:=by simp[D8,hna]
 have e2:(D8 sg args []).np=0:=hp
 have e3:(D8 sg args []).objs.length=0:=rfl
 rw[e1,e2,e3] at hR1
 have hob1:(bN sg.hin 0 sg.na 0 t).objs=[]:=by
  obtain⟨l1,l2,l3⟩:=pT (h:=sg.hin) (t:=t) (n:=sg.na) (show 0≤0 from Nat.le_refl _)
  exact List.eq_nil_of_length_eq_zero (by omega)
 refine(h t q hq w Xc _ ρ1 vals hgood hxl hvl (fun i s y h1 h2=>by
  have:=hR1.env i (.s s) y h1 (by simpa using h2)
  rw[hob1,hXe] at this
  exact this) rs hrs).mono fun e w' ⟨v,he,hs,hrd⟩=>?_
 refine⟨v,fun _=>none,he,hs.mono fun x hx _=>hx.elim,fun k hk=>by simp at hk,by simp,fun k o ho=>by simp at ho,fun k k' b ⟨o,v,h1,_⟩=>by simp at h1,fun k b ⟨o,v,h1,_⟩=>by simp at h1,?_⟩
 rw[hXe]
 exact hrd
theorem As{P:Program}{f:FuncId}{A:Callee}(hA:A.OK P f){args:List S1}{b:Bool}(hcall:(A.call args [] fun rs po=>some (rs,po))=some ([.c (.t (.v (.bool b)))],[])){W:World}(hG:Good P W (fun _=>False)){vals:List Value}
 (hargs:RdSs W (fun _=>False) (fun _=>none) args vals):Calls P f vals.toArray W fun e W'=>e=.returned (.bool b)∧Below W.heap.size W W':=by
 obtain⟨rs,po',h1,h2⟩:=hA.1 args [] _ _ hcall
 simp only[Option.some.injEq,Prod.mk.injEq] at h1
 obtain⟨e1,e2⟩:=h1
 subst e1;subst e2
 have hX:∀b,¬XB [] (fun _=>none) (fun _=>False) b:=fun b hh=>hh.elim (fun⟨k,o,v,h1,_⟩=>by simp at h1) id
 have hm:∀b,¬r6 [] (fun _=>none) b:=fun b ⟨k,o,v,h1,_⟩=>by simp at h1
 refine(h2 W (fun _=>False) (fun _=>none) vals (fun k o h=>by simp at h) (fun k k' b ⟨o,v,h1,_⟩=>by simp at h1) (fun _ h=>h.elim) (fun _ _ h=>h)
  (fun g k hg=>⟨fun hh=>hm g hh,(hG g k hg).2⟩) (hargs.step (Stp.refl (fun _=>False) W) (fun _ h=>h.elim) (fun b hb=>(hX b hb).elim) (.refl _))).mono fun e w' ⟨v,ρ',he,hs,_,_,_,_,_,hr⟩=>?_
 have hv:v=.bool b:=by
  rcases hr with hr | ⟨hr,_⟩
  ·cases hr
  ·exact Rd.inv_v hr
 subst hv
 exact⟨he,hs.below hm⟩
theorem MA{P:Program}{W:World}(h:W.ShapedOpen P)(F:Nat→Prop)(hF:∀b,¬F b):Good P W F:=fun g k ⟨t,zero,h1,h2,h3,h4,h5,h6⟩=>
 ⟨hF g,Go.Proofs.cell_of_shapedOpen_int h h1 h2 h3 h4 h5 h6⟩
theorem jQ{n:Int}(h1:-9223372036854775808≤n)(h2:n≤9223372036854775807):wr .i64 n=n:=by unfold wr;exact IntWalk.i64_in n ⟨h1,h2⟩
theorem Oy{n:Int}(h1:0≤n)(h2:n≤255):wr .u8 n=n:=by unfold wr;exact IntWalk.u8_in n ⟨h1,h2⟩
@[simp] theorem aY(a b:Int):addI a b=a+b:=by unfold addI;rfl
@[simp] theorem lQ(a b:Int):subI a b=a-b:=by unfold subI;rfl
@[simp] theorem RD(a b:Int):modI a b=a.tmod b:=by unfold modI;rfl
@[simp] theorem bZ(a b:Int):eqI a b=decide (a=b):=by unfold eqI;rfl
@[simp] theorem aG(a b:Int):ltI a b=decide (a<b):=by unfold ltI;rfl
@[simp] theorem rP(a b:Int):leI a b=decide (a≤b):=by unfold leI;rfl
theorem Ng{b:Int}(h:b≠0):nz b=some b:=by unfold nz;rw[if_neg h]
@[simp] theorem bC{α R:Type}(a:α)(k:α→Option R):ob (some a) k=k a:=rfl
@[simp] theorem aM{α β R:Type}(x:α)(f:α→Option R)(g:β→Option R):bB (.inl x:α⊕β) f g=f x:=rfl
@[simp] theorem uP{α β R:Type}(x:β)(f:α→Option R)(g:β→Option R):bB (.inr x:α⊕β) f g=g x:=rfl
@[simp] theorem wF(k:IntKind)(n:Int):T.int? k (.v (.int k n))=some n:=by simp[T.int?]
@[simp] theorem RE(b:Bool):T.bool? (.v (.bool b))=some b:=rfl
@[simp] theorem iL(s:ByteArray):T.str? (.v (.string s))=some s:=rfl
@[simp] theorem wG(x:Value):T.cell (.v x) 0=.v x:=rfl
@[simp] theorem CH(k:Nat)(l:List T):T.sl? k (.sl k l)=some l:=by
 unfold T.sl?
 split
 ·rename_i h;cases h
 ·rename_i h;cases h;simp
 ·rename_i h;exact(h _ _ rfl).elim
@[simp] theorem AM(k:Nat)(h:k<1000000000):T.sl? k (.v (.slice none 0 0))=some []:=if_pos h
@[simp] theorem bD{α:Type}(l:List α):lenL l=(l.length:Int):=by unfold lenL;rfl
theorem cC{α:Type}(l:List α)(i:Nat):idxL l (i:Int)=l[i]?:=by unfold idxL;simp
theorem AN{n i:Int}(h0:0≤i)(h:i<n):chkI n i=some i.toNat:=by unfold chkI;rw[if_pos ⟨h0,h⟩]
@[simp] theorem CB{α:Type}(l:List α)(i:Nat):idxN l i=l[i]?:=by unfold idxN;rfl
theorem hM{α:Type}{l m:List α}{b:Nat}(h:(l.length+m.length)*b≤140737488355328)(hb:0<b):room l m b=some (l++m):=by
 unfold room
 have:l.length+m.length≤(l.length+m.length)*b:=Nat.le_mul_of_pos_right _ hb
 rw[if_pos ⟨by unfold maxLen;omega,h⟩]
abbrev Bs:=List UInt8
def bs(l:Bs):ByteArray:=⟨l.toArray⟩
theorem Eb(s:ByteArray):bs s.data.toList=s:=by cases s;simp[bs]
@[simp] theorem Hu(l:Bs):(bs l).data.toList=l:=by simp[bs]
@[simp] theorem At(l:Bs):(bs l).toList=l:=by rw[ByteArray.toList_eq];simp
@[simp] theorem YN(l:Bs):(bs l).size=l.length:=by simp[bs,ByteArray.size]
@[simp] theorem gN(l:Bs):lenS (bs l)=(l.length:Int):=by unfold lenS;simp
theorem kJ(l:Bs)(i:Nat):r7 (bs l) (i:Int)=(l[i]?).map fun b=>(b.toNat:Int):=by
 unfold r7
 rw[if_pos (by omega)]
 congr 1
 simp only[Int.toNat_natCast]
 by_cases h:i<l.length
 ·rw[getElem?_pos (bs l) i (by simpa using h),List.getElem?_eq_getElem h];rfl
 ·rw[getElem?_neg (bs l) i (by simpa using h),List.getElem?_eq_none (by omega)]
theorem KB{l:Bs}{lo hi:Nat}(h1:lo≤hi)(h2:hi≤l.length):subS (bs l) (lo:Int) (hi:Int)=some (bs ((l.drop lo).take (hi-lo))):=by
 unfold subS
 rw[if_pos ⟨by omega,by simp;omega,by omega,by omega⟩]
 simp only[Int.toNat_natCast]
 rw[←Eb ((bs l).extract lo hi)]
 congr 2
 simp[bs]
theorem FR{l:Bs}{lo:Nat}(h1:lo≤l.length):subS (bs l) (lo:Int) (l.length:Int)=some (bs (l.drop lo)):=by
 rw[KB h1 (Nat.le_refl _),List.take_of_length_le (by simp)]
theorem iP{a b:Bs}(h:a.length+b.length≤9223372036854775807):catS (bs a) (bs b)=some (bs (a++b)):=by
 unfold catS
 rw[if_neg (by simp only[YN];show ¬((a.length+b.length:Nat):Int) > 9223372036854775807;omega)]
 rw[←Eb (bs a++bs b)]
 simp[bs]
@[simp] theorem mY(a b:Bs):eqS (bs a) (bs b)=decide (a=b):=by
 unfold eqS;simp only[At];rw[Bool.eq_iff_iff];simp
@[simp] theorem PP(l:Bs):fR (bs l)=l.map fun b=>T.v (.int .u8 b.toNat):=by unfold fR;simp
theorem Au(l:Bs):(l.map fun b=>T.v (.int .u8 b.toNat)).mapM T.byte?=some l:=by
 induction l with
 | nil=>rfl
 | cons b l ih=>
  have hb:T.byte? (T.v (.int .u8 (b.toNat:Int)))=some b:=by
   show some (UInt8.ofNat (b.toNat:Int).toNat)=some b
   simp
  rw[List.map_cons,List.mapM_cons,hb,ih];rfl
@[simp] theorem T0(l:Bs):strOf (l.map fun b=>T.v (.int .u8 b.toNat))=some (bs l):=by
 unfold strOf;rw[Au];rfl
section
variable {S E:Type} {F:S→Option (S⊕E)}
theorem bX{s s':S}(h:F s=some (.inl s')):aF F s=aF F s':=by rw[TE,h]
theorem aT{s:S}{e:E}(h:F s=some (.inr e)):aF F s=some e:=by rw[TE,h]
theorem wH(I:S→Prop)(μ:S→Nat)(Q:E→Prop)(h:∀s,I s→(∃s',F s=some (.inl s')∧I s'∧μ s'<μ s)∨∃e,F s=some (.inr e)∧Q e):∀s,I s→∃e,aF F s=some e∧Q e:=by
 have key:∀n s,μ s≤n→I s→∃e,aF F s=some e∧Q e:=by
  intro n
  induction n with
  | zero=>
   intro s hn hI
   rcases h s hI with⟨s',_,_,h3⟩ | ⟨e,h1,h2⟩
   ·omega
   ·exact⟨e,aT h1,h2⟩
  | succ n ih=>
   intro s hn hI
   rcases h s hI with⟨s',h1,h2,h3⟩ | ⟨e,h1,h2⟩
   ·rw[bX h1];exact ih s' (by omega) h2
   ·exact⟨e,aT h1,h2⟩
 exact fun s hI=>key _ s (Nat.le_refl _) hI
end
open Go.RowKit Go.ChangeShapes Go.WideShapes
theorem vK{H:Type}{enc:TypeId×Value→H}{P:Program}(hl:laidOutB P=true){W W':World}(hb:Below W.heap.size W W'):∀(ts:List TypeId) (vs:List Value) (ds:List (DataW H)) (p:List MemPlace),
 (∀t∈ts,P.readableRec t=true∧t<P.types.size)→DataW.TrodAll enc P W 0 (fun _=>true) true ts vs ds p→(∀x∈p,x.block<W.heap.size) →
 DataW.TrodAll enc P W' 0 (fun b=>decide (b<W.heap.size)) true ts vs ds p
 | [],vs,ds,p,_,h,_=>by
  obtain⟨rfl,rfl,rfl⟩:=trodAll_nil h
  exact trodAll_mk0
 | t::ts,vs,ds,p,hr,h,hp=>by
  obtain⟨v,vs',d,ds',q,r,rfl,rfl,rfl,h1,h2⟩:=trodAll_cons h
  obtain⟨r1,r2⟩:=hr t (by simp)
  exact⟨q,r,Below.trod hl r1 r2 h1 hb fun x hx=>hp x (List.mem_append.2 (.inl hx)),vK hl hb ts vs' ds' r (fun t' ht=>hr t' (by simp[ht])) h2 fun x hx=>hp x (List.mem_append.2 (.inr hx)),rfl⟩
theorem Li{C:Checked}{os:Os}{f:FuncId}{fn:Func}{s:ChangeSpec}{conds:List PathCond}{tb:TypeId}{H:Type}{enc:TypeId×Value→H}
 (own:ownKnob C.prog.godebug=none) (started:os.Started) (noInit:C.prog.inits.idxOf? f=none) (hfn:C.prog.funcs[f]?=some fn) (hl:laidOutB C.prog=true)
 (hread:fn.params.toList.all (fun t=>C.prog.readableRec t&&decide (t<C.prog.types.size))=true) (hres:fn.resultTypes=#[tb]) (hb:C.prog.underlying tb=some .bool)
 (hvars:s.vars=[]) (hspec:∀ds:List (DataW H),ds.length=fn.params.size→s.fn H ds={ results:=[.lit (.bool true)],args:=ds })
 (witness:∃(w:World) (tape:Tape) (i:Input),w.os=os∧(w.forCall tape i).Shaped C.prog∧i.vars=[]∧Input.okWide C.prog (w.forCall tape i) .any w.heap.size f i ∧
  s.pre6 enc C.prog fn conds false (w.forCall tape i).memory i.args∧Assume.holds {} C.prog (lone (Frame.enter C.prog f i.args .normal) [] (w.forCall tape i)))
 (law:∀(W:World) (base:Nat) (args:Array Value) (ds:List (DataW H)) (p:List MemPlace),(∀(j:Nat) t v,fn.params[j]?=some t→args[j]?=some v→Value.okWide C.prog W .any base t v) →
  DataW.TrodAll enc C.prog W 0 (fun _=>true) true fn.params.toList args.toList ds p→W.ShapedOpen C.prog →
  Calls C.prog f args W fun e W'=>e=.returned (.bool true)∧Below W.heap.size W W'):
 ReturnsInHanded {} C os f .any (s.pre6 enc C.prog fn conds false) (s.post enc C.prog fn false true false false):=by
 refine returnsInHanded_of_change_shaped own started noInit hfn witness ?_
 intro W base args ds gs before hval hW _ _ hsh _
 have hW':=hW
 obtain⟨p,q,hA,hV,rfl,_,_⟩:=hW
 rw[hvars] at hV
 obtain⟨rfl,rfl⟩:=trodVars_none hV
 rw[List.append_nil] at hW'
 have hlt:∀x∈p,x.block<W.heap.size:=fun x hx=>hW'.lt x hx
 have hlen:∀(ts:List TypeId) (vs:List Value) (ds:List (DataW H)) (p:List MemPlace),DataW.TrodAll enc C.prog W 0 (fun _=>true) true ts vs ds p→ds.length=ts.length:=by
  intro ts
  induction ts with
  | nil=>intro vs ds p h;obtain⟨_,rfl,_⟩:=trodAll_nil h;rfl
  | cons t ts ih=>intro vs ds p h;obtain⟨v,vs',d,ds',q,r,rfl,rfl,rfl,h1,h2⟩:=trodAll_cons h;simp[ih _ _ _ h2]
 have hds:=hspec ds (by rw[hlen _ _ _ _ hA];simp)
 refine(law W base args ds p hval hA hsh).mono fun e W' ⟨he,hbel⟩=>?_
 subst he
 refine⟨_,rfl,ds,[],p,[],p,[],hW',?_,?_,?_,hbel.frame _,fun h=>by cases h⟩
 ·rw[List.append_nil,hds,hres]
  exact trodAll_mk1 (shut_bool hb _)
 ·rw[List.append_nil,hds]
  exact vK hl hbel _ _ _ _ (fun t ht=>by simpa using List.all_eq_true.1 hread t ht) hA hlt
 ·rw[List.append_nil,hds,hvars];rfl
theorem Hv{H:Type}{enc:TypeId×Value→H}{P:Program}{W:World}{t e:TypeId}{v:Value}{d:DataW H}{p:List MemPlace}{r:Reach}{base:Nat}(ht:P.underlying t=some (.slice e))(he:P.underlying e=some (.int .i64))(hc:P.cellsOf e=1)
 (hval:Value.okWide P W r base t v) (h:DataW.Trod enc P W 0 (fun _=>true) true t v d p):∃zs:List Int,RdS W (fun _=>False) (fun _=>none) (.c (.t (.sl 1 (zs.map fun z=>T.v (.int .i64 z))))) v:=by
 obtain⟨a0,len,cap,rfl⟩:=okWide_slice ht hval
 obtain⟨fuel,hf⟩:=h
 rcases open_ints ht he hc hf with⟨hcs,hx⟩ | ⟨a,len',cap',zs,hcs,_,hl,hm,hz,hx,hcell,hwz⟩
 ·have hv:Value.slice a0 len cap=.slice none 0 0:=by simpa[Value.cells] using hcs
  rw[hv]
  exact⟨[],.inr ⟨.nil 1 (by decide),rfl⟩⟩
 ·have hv:Value.slice a0 len cap=.slice (some a) len' cap':=by simpa[Value.cells] using hcs
  rw[hv]
  have hzl:zs.length=cap':=by simpa using hz
  have hfl:∀l:List Int,flat (l.map fun z=>T.v (.int .i64 z))=l.map fun z=>T.v (.int .i64 z):=fun l=>by
   induction l with
   | nil=>rfl
   | cons z l ih=>rw[List.map_cons,gS,ih];rfl
  refine⟨zs.take len',.inr ⟨?_,rfl⟩⟩
  have key:=Rd.sl (w:=W) (X:=fun _=>False) 1 ((zs.take len').map fun z=>T.v (.int .i64 z)) a cap' ((zs.take len').map fun z=>.int .i64 z) (by decide) (by simp;omega) hm
   (fun t ht=>by obtain⟨z,_,rfl⟩:=List.mem_map.1 ht;rfl) (by rw[hfl];simp)
   (fun i y hi=>by
    rw[List.getElem?_map] at hi
    obtain⟨z,hz1,rfl⟩:=Option.map_eq_some_iff.1 hi
    rw[List.getElem?_take] at hz1
    split at hz1
    ·obtain⟨h1,rfl⟩:=List.getElem?_eq_some_iff.1 hz1
     refine⟨?_,fun h=>h,rfl⟩
     rw[hcell i h1,List.getD_eq_getElem?_getD,List.getElem?_eq_getElem h1];rfl
    ·cases hz1)
   (fun i t y h1 h2=>by
    rw[hfl,List.getElem?_map] at h1
    rw[List.getElem?_map] at h2
    obtain⟨z,hz1,rfl⟩:=Option.map_eq_some_iff.1 h1
    obtain⟨z',hz2,rfl⟩:=Option.map_eq_some_iff.1 h2
    rw[hz1] at hz2;cases hz2
    exact .v _)
  have hln:((zs.take len').map fun z=>T.v (.int .i64 z)).length=len':=by simp;omega
  rw[hln] at key
  exact key
theorem Lj{W:World}{v:Value}(h:v.oneCell'=true):RdS W (fun _=>False) (fun _=>none) (.c (.t (.v v))) v:=.inr ⟨.v _,h⟩
theorem MB{W:World}{X:Nat→Prop}{ρ:fN}{s:S1}{v:Value}(h:RdS W X ρ s v):RdSs W X ρ [s] [v]:=RdSs.cons h ⟨rfl,fun i s y h=>by cases h⟩
theorem MC{W:World}{X:Nat→Prop}{ρ:fN}{s s':S1}{v v':Value}(h:RdS W X ρ s v)(h':RdS W X ρ s' v'):RdSs W X ρ [s,s'] [v,v']:=RdSs.cons h (MB h')
theorem FT{H:Type}{enc:TypeId×Value→H}{a:Assume}{C:Checked}{os:Os}{f:FuncId}{fn:Func}{s:ChangeSpec}{conds:List PathCond}{apart fresh handsOn again:Bool}{X:World→Array Value→Prop}
 (own:ownKnob C.prog.godebug=none) (started:os.Started) (noInit:C.prog.inits.idxOf? f=none) (hfn:C.prog.funcs[f]?=some fn)
 (witness:∃(w:World) (tape:Tape) (i:Input),w.os=os∧(w.forCall tape i).Shaped C.prog∧i.vars=[]∧Input.okWide C.prog (w.forCall tape i) .any w.heap.size f i ∧
  ((s.pre enc C.prog fn conds apart (w.forCall tape i).memory i.args∧X (w.forCall tape i).memory i.args)∧sizedMet enc C.prog fn (OpenSpec.ofChange s) apart (w.forCall tape i).memory i.args)∧a.holds C.prog (lone (Frame.enter C.prog f i.args .normal) [] (w.forCall tape i)))
 (contract:∀(W:World) (base:Nat) (args:Array Value) (ds gs:List (DataW H)) (before:List MemPlace),
  (∀(j:Nat) t v,fn.params[j]?=some t→args[j]?=some v→Value.okWide C.prog W .any base t v) →
  DataW.Whole enc C.prog fn.params.toList s.vars apart W args.toList ds gs before→W.ShapedOpen C.prog →
  Calls C.prog f args W fun e W'=>∃v,e=.returned v∧s.post enc C.prog fn apart fresh handsOn again W args v W'):
 ReturnsInHanded a C os f .any (fun w args=>(s.pre enc C.prog fn conds apart w args∧X w args)∧sizedMet enc C.prog fn (OpenSpec.ofChange s) apart w args) (s.post enc C.prog fn apart fresh handsOn again):=by
 refine returnsInHanded_of_calls own started noInit witness ?_
 intro w tape i _ hsh _ hok hpre hholds
 obtain⟨_,_,_,fn',hfn',_,_,_,_,hval⟩:=hok
 have e:fn'=fn:=Option.some.inj (hfn'.symm.trans hfn)
 subst e
 obtain⟨⟨⟨ds,gs,before,hw,hc⟩,hx⟩,hz⟩:=hpre
 have hw':=DataW.Whole.of_heap (w':=w.forCall tape i) (by rfl) hw
 refine(contract (w.forCall tape i) w.heap.size i.args ds gs before hval hw' hsh).mono fun e W' ⟨v,he,hp⟩=>?_
 subst he
 exact ChangeSpec.post_blind hp
theorem JB{C:Checked}{os:Os}{f:FuncId}{fn:Func}{s:ChangeSpec}{conds:List PathCond}{tb:TypeId}{H:Type}{enc:TypeId×Value→H}{X:World→Array Value→Prop}
 (own:ownKnob C.prog.godebug=none) (started:os.Started) (noInit:C.prog.inits.idxOf? f=none) (hfn:C.prog.funcs[f]?=some fn) (hl:laidOutB C.prog=true)
 (hread:fn.params.toList.all (fun t=>C.prog.readableRec t&&decide (t<C.prog.types.size))=true) (hres:fn.resultTypes=#[tb]) (hb:C.prog.underlying tb=some .bool)
 (hvars:s.vars=[]) (hspec:∀ds:List (DataW H),ds.length=fn.params.size→s.fn H ds={ results:=[.lit (.bool true)],args:=ds })
 (witness:∃(w:World) (tape:Tape) (i:Input),w.os=os∧(w.forCall tape i).Shaped C.prog∧i.vars=[]∧Input.okWide C.prog (w.forCall tape i) .any w.heap.size f i ∧
  ((s.pre enc C.prog fn conds false (w.forCall tape i).memory i.args∧X (w.forCall tape i).memory i.args)∧sizedMet enc C.prog fn (OpenSpec.ofChange s) false (w.forCall tape i).memory i.args)∧Assume.holds {} C.prog (lone (Frame.enter C.prog f i.args .normal) [] (w.forCall tape i)))
 (law:∀(W:World) (base:Nat) (args:Array Value) (ds:List (DataW H)) (p:List MemPlace),(∀(j:Nat) t v,fn.params[j]?=some t→args[j]?=some v→Value.okWide C.prog W .any base t v) →
  DataW.TrodAll enc C.prog W 0 (fun _=>true) true fn.params.toList args.toList ds p→W.ShapedOpen C.prog →
  Calls C.prog f args W fun e W'=>e=.returned (.bool true)∧Below W.heap.size W W'):
 ReturnsInHanded {} C os f .any (fun w args=>(s.pre enc C.prog fn conds false w args∧X w args)∧sizedMet enc C.prog fn (OpenSpec.ofChange s) false w args) (s.post enc C.prog fn false true false false):=by
 refine FT own started noInit hfn witness ?_
 intro W base args ds gs before hval hW hsh
 have hW':=hW
 obtain⟨p,q,hA,hV,rfl,_,_⟩:=hW
 rw[hvars] at hV
 obtain⟨rfl,rfl⟩:=trodVars_none hV
 rw[List.append_nil] at hW'
 have hlt:∀x∈p,x.block<W.heap.size:=fun x hx=>hW'.lt x hx
 have hlen:∀(ts:List TypeId) (vs:List Value) (ds:List (DataW H)) (p:List MemPlace),DataW.TrodAll enc C.prog W 0 (fun _=>true) true ts vs ds p→ds.length=ts.length:=by
  intro ts
  induction ts with
  | nil=>intro vs ds p h;obtain⟨_,rfl,_⟩:=trodAll_nil h;rfl
  | cons t ts ih=>intro vs ds p h;obtain⟨v,vs',d,ds',q,r,rfl,rfl,rfl,h1,h2⟩:=trodAll_cons h;simp[ih _ _ _ h2]
 have hds:=hspec ds (by rw[hlen _ _ _ _ hA];simp)
 refine(law W base args ds p hval hA hsh).mono fun e W' ⟨he,hbel⟩=>?_
 subst he
 refine⟨_,rfl,ds,[],p,[],p,[],hW',?_,?_,?_,hbel.frame _,fun h=>by cases h⟩
 ·rw[List.append_nil,hds,hres]
  exact trodAll_mk1 (shut_bool hb _)
 ·rw[List.append_nil,hds]
  exact vK hl hbel _ _ _ _ (fun t ht=>by simpa using List.all_eq_true.1 hread t ht) hA hlt
 ·rw[List.append_nil,hds,hvars];rfl
section
variable (P:Program)
variable {H:Type}
end
def NoAgg(l:List T):Prop:=∀t∈l,∀m,t≠.agg m
theorem RdT.nil'{w:World}{X:Nat→Prop}:RdT w X [] []:=⟨rfl,fun i t y h=>by simp at h⟩
theorem RdT.one'{w:World}{X:Nat→Prop}{t:T}{y:Value}(h:Rd w X t y)(h1:y.oneCell'=true):RdT w X [t] [y]:=⟨rfl,fun i t' y' e1 e2=>by
 cases i with
 | zero=>simp at e1 e2;subst e1;subst e2;exact⟨h,h1⟩
 | succ i=>simp at e1⟩
theorem NoAgg.app{l m:List T}(h:NoAgg l)(h':NoAgg m):NoAgg (l++m):=fun t ht=>by
 rcases List.mem_append.1 ht with ht | ht
 ·exact h t ht
 ·exact h' t ht
section
variable {H:Type} {enc:TypeId×Value→H} {P:Program} {w:World}
end
open Go.RowKit Go.ChangeShapes Go.WideShapes
theorem vL(sg:Sig){P:Program}{f:FuncId}:(aA sg fun _=>none).OK P f:=by
 refine⟨?_,fun I h=>(by cases h),fun I h=>(by cases h)⟩
 intro R args po k r hk
 simp only[aA] at hk
 split at hk
 case isFalse=>cases hk
 rw[sQ] at hk
 cases hpk:yE sg.hin (D8 sg args po) some with
 | none=>rw[hpk] at hk;cases hk
 | some t=>
 rw[hpk] at hk
 simp only[Option.bind_some] at hk
 obtain⟨q,hq,_⟩:=aC hk
 cases hq
def Le{R:Type}(x y:Option R):Prop:=∀r,x=some r→y=some r
theorem aN{R:Type}{x:Option R}:Le x x:=fun _ h=>h
theorem bE{α R:Type}{m m':Option α}{k k':α→Option R}(h:Le m m')(hk:∀a,Le (k a) (k' a)):Le (ob m k) (ob m' k'):=fun r hr=>by
 obtain⟨a,h1,h2⟩:=aC hr
 rw[h a h1]
 exact hk a r h2
theorem aH{R:Type}{c:Bool}{a b a' b':Option R}(h:Le a a')(h':Le b b'):Le (bif c then a else b) (bif c then a' else b'):=by
 cases c
 ·exact h'
 ·exact h
theorem aS{α β R:Type}{q:α⊕β}{f f':α→Option R}{g g':β→Option R}(h:∀x,Le (f x) (f' x))(h':∀x,Le (g x) (g' x)):Le (bB q f g) (bB q f' g'):=by
 cases q with
 | inl x=>exact h x
 | inr x=>exact h' x
theorem YO{S E:Type}{F F':S→Option (S⊕E)}(h:∀s,Le (F s) (F' s)):∀(n:Nat) (s:S),Le (dC F n s) (dC F' n s)
 | 0,s=>fun r hr=>by simp[dC] at hr
 | n+1,s=>fun r hr=>by
  rw[dC] at hr ⊢
  cases hF:F s with
  | none=>rw[hF] at hr;cases hr
  | some q=>
   rw[hF] at hr
   rw[h s q hF]
   cases q with
   | inl s'=>exact YO h n s' r hr
   | inr e=>exact hr
theorem hO{S E:Type}{F F':S→Option (S⊕E)}(h:∀s,Le (F s) (F' s))(n:Nat)(s:S):Le (dC F n s) (aF F' s):=fun r hr=>nF.2 ⟨n,YO h n s r hr⟩
def Lk:Value→Value→Bool
 | .int k a,.int k' b=>decide (k=k')&&a==b
 | .bool a,.bool b=>a==b
 | .string a,.string b=>a==b
 | .slice none 0 0,.slice none 0 0=>true
 | _,_=>false
theorem Hw{x y:Value}(h:Lk x y=true):x=y:=by
 unfold Lk at h
 split at h
 ·simp only[Bool.and_eq_true,decide_eq_true_eq,beq_iff_eq] at h
  rw[h.1,h.2]
 ·rw[beq_iff_eq.1 h]
 ·rw[(MapKept.bytes_beq _ _).1 h]
 ·rfl
 ·cases h
mutual
def tB:T→T→Bool
 | .v a,.v b=>Lk a b
 | .agg l,.agg m=>Jt l m
 | .sl k l,.sl k' m=>k==k'&&Jt l m
 | _,_=>false
def Jt:List T→List T→Bool
 | [],[]=>true
 | a::l,b::m=>tB a b&&Jt l m
 | _,_=>false
end
mutual
theorem Ju:∀{x y:T},tB x y=true→x=y
 | .v a,.v b,h=>congrArg T.v (Hw (x:=a) (y:=b) (by simpa[tB] using h))
 | .agg l,.agg m,h=>congrArg T.agg (RG (x:=l) (y:=m) (by simpa[tB] using h))
 | .sl k l,.sl k' m,h=>by
  simp only[tB,Bool.and_eq_true,beq_iff_eq] at h
  rw[h.1,RG h.2]
 | .v _,.agg _,h=>by simp[tB] at h
 | .v _,.sl _ _,h=>by simp[tB] at h
 | .agg _,.v _,h=>by simp[tB] at h
 | .agg _,.sl _ _,h=>by simp[tB] at h
 | .sl _ _,.v _,h=>by simp[tB] at h
 | .sl _ _,.agg _,h=>by simp[tB] at h
theorem RG:∀{x y:List T},Jt x y=true→x=y
 | [],[],_=>rfl
 | a::l,b::m,h=>by
  simp only[Jt,Bool.and_eq_true] at h
  rw[Ju h.1,RG h.2]
 | [],_::_,h=>by simp[Jt] at h
 | _::_,[],h=>by simp[Jt] at h
end
class EqB (α:Type) where
 eqv:α→α→Bool
 ok:∀{x y:α},eqv x y=true→x=y
instance:EqB Int:=⟨fun a b=>a==b,fun h=>beq_iff_eq.1 h⟩
instance:EqB Bool:=⟨fun a b=>a==b,fun h=>beq_iff_eq.1 h⟩
instance:EqB ByteArray:=⟨fun a b=>a==b,fun h=>(MapKept.bytes_beq _ _).1 h⟩
instance:EqB T:=⟨tB,Ju⟩
instance:EqB (List T):=⟨Jt,RG⟩
instance:EqB Unit:=⟨fun _ _=>true,fun _=>rfl⟩
instance:EqB Empty:=⟨fun _ _=>true,fun {x _} _=>x.elim⟩
instance {α β:Type} [EqB α] [EqB β]:EqB (α×β):=⟨fun a b=>EqB.eqv a.1 b.1&&EqB.eqv a.2 b.2,fun {x y} h=>by
 simp only[Bool.and_eq_true] at h
 exact Prod.ext (EqB.ok h.1) (EqB.ok h.2)⟩
instance {α β:Type} [EqB α] [EqB β]:EqB (α⊕β):=⟨fun a b=>match a,b with
 | .inl x,.inl y=>EqB.eqv x y
 | .inr x,.inr y=>EqB.eqv x y
 | _,_=>false,fun {x y} h=>by
 cases x <;> cases y <;> first
  | (cases h;done)
  | exact congrArg _ (EqB.ok h)⟩
def T1{R:Type}[EqB R](a b:Option R):Option R:=match a,b with
 | some x,some y=>if EqB.eqv x y=true then some x else none
 | _,_=>none
theorem aJ{R:Type}[EqB R]{a b a' b':Option R}(h:Le a a')(h':Le b b'):Le (T1 a b) (CS a' b'):=fun r hr=>by
 unfold T1 at hr
 split at hr
 ·rename_i x y
  split at hr
  ·rename_i he
   cases hr
   have:=EqB.ok he
   subst this
   exact Cy (h _ rfl) (h' _ rfl)
  ·cases hr
 ·cases hr
structure Fr (n:Nat) (env:List (Nat×Value)) (a:Act) (Df:List Deferred:=[]):Prop where
 size:a.tmps.size=n
 defers:a.defers=Df
 get:∀t v,env.lookup t=some v→a.tmps.getD t undef=v
def AO(env:List (Nat×Value)):Operand→Option Value
 | .tmp t=>env.lookup t
 | .const v=>some v
 | .func f=>some (.func (.func f) #[] #[])
 | .global _=>none
def Fr.all(env:List (Nat×Value)):List (Nat×Value)→Prop
 | []=>True
 | p::l=>env.lookup p.1=some p.2∧Fr.all env l
theorem Fr.all_mem{env:List (Nat×Value)}:∀{l:List (Nat×Value)},Fr.all env l→∀p∈l,env.lookup p.1=some p.2
 | p::l,h,q,hq=>by
  rcases List.mem_cons.1 hq with rfl | hq
  ·exact h.1
  ·exact Fr.all_mem h.2 q hq
theorem WN{l:List (Nat×Value)}{t:Nat}{v:Value}(h:l.lookup t=some v):(t,v)∈l:=by
 induction l with
 | nil=>cases h
 | cons p l ih=>
  obtain⟨k,u⟩:=p
  rw[List.lookup_cons] at h
  by_cases hk:t=k
  ·subst hk;simp at h;subst h;exact List.mem_cons_self ..
  ·rw[beq_eq_false_iff_ne.2 hk] at h
   exact List.mem_cons_of_mem _ (ih h)
section
variable {P:Program} {n:Nat} {env:List (Nat×Value)} {Df:List Deferred} {a:Act} {w w':World} {Q:Exit→Act→World→Prop} {o:Oper} {next:Act→World→Prop}
theorem Fr.weak{e2:List (Nat×Value)}(h:Fr n env a Df)(hs:Fr.all env e2):Fr n e2 a Df:=
 ⟨h.size,h.defers,fun t v hl=>h.get t v (Fr.all_mem hs _ (WN hl))⟩
theorem Fr.ev(h:Fr n env a Df){x:Operand}{v:Value}(hx:AO env x=some v):a.eval x=v:=by
 cases x with
 | tmp t=>exact h.get t v hx
 | const u=>cases hx;rfl
 | func f=>cases hx;rfl
 | global g=>cases hx
theorem Fr.put(h:Fr n env a Df){d:Nat}(hd:d<n)(v:Value):Fr n ((d,v)::env) (a.put (some d) v) Df:=by
 refine⟨by simp[Act.put,h.size],h.defers,fun t u hl=>?_⟩
 simp only[Act.put,Array.getD_eq_getD_getElem?,Array.getElem?_setIfInBounds]
 rw[List.lookup_cons] at hl
 by_cases ht:t=d
 ·subst ht
  simp at hl
  rw[if_pos rfl,if_pos (by rw[h.size];exact hd)]
  simp[hl]
 ·rw[beq_eq_false_iff_ne.2 ht] at hl
  rw[if_neg (fun e=>ht e.symm),←Array.getD_eq_getD_getElem?]
  exact h.get t u hl
def Om(P:Program)(Q:Exit→Act→World→Prop):List Oper→Act→World→Prop
 | [],a,w=>Q .normal a w
 | o::l,a,w=>o.wp P a w (fun a w=>Om P Q l a w) Q
theorem MD{ops:Array Oper}(hg:ops.all (fun o=>o.guard.isNone)=true):∀(l:List Oper) (k:Nat),ops.toList.drop k=l→∀{a:Act} {w:World},Om P Q l a w→wpOps P ops Q (List.range' k l.length) a w
 | [],k,_,a,w,h=>h
 | o::l,k,hk,a,w,h=>by
  have hlt:k<ops.size:=by
   rcases Nat.lt_or_ge k ops.size with h' | h'
   ·exact h'
   ·rw[List.drop_of_length_le (by rw[Array.length_toList];exact h')] at hk;cases hk
  have ho:ops[k]?=some o:=by
   have:=congrArg (fun z=>z[0]?) hk
   simp only[List.getElem?_drop,Nat.add_zero,List.getElem?_cons_zero,Array.getElem?_toList] at this
   exact this
  have hg':o.guard=none:=by
   have:=Array.all_eq_true'.1 hg o (Array.mem_of_getElem? ho)
   cases hgo:o.guard with
   | none=>rfl
   | some x=>rw[hgo] at this;cases this
  have hw:Region.wanted o (yielded ops a.tmps)=true:=by simp[Region.wanted,hg']
  rw[List.length_cons,List.range'_succ]
  simp only[wpOps,ho]
  rw[if_pos hw]
  have hd:ops.toList.drop (k+1)=l:=by rw[←List.drop_drop,hk];rfl
  refine .inl ?_
  unfold Om at h
  exact Oper.wp_mono (fun a' w' h'=>MD hg l (k+1) hd h') h
theorem dQ{id:Nat}{ops:Array Oper}(hg:ops.all (fun o=>o.guard.isNone)=true)(h:Om P Q ops.toList a w):(Code.region id ops false).wp P Q a w:=by
 refine wp_region ?_
 have:=MD (P:=P) (Q:=Q) hg ops.toList 0 (by simp) h
 rw[Array.length_toList] at this
 rw[List.range_eq_range']
 exact this
theorem dK{d:Nat}{v:Value}(hf:Fr n env a Df)(hd:o.dst=some d)(hlt:d<n)(hrun:(execOp a.eval o).run P w=.ok (.value v) w')(hn:∀a',Fr n ((d,v)::env) a' Df→next a' w'):o.wp P a w next Q:=by
 refine G5 hrun ?_
 rw[hd]
 exact hn _ (hf.put hlt v)
theorem RH(hf:Fr n env a Df)(hd:o.dst=none)(hrun:(execOp a.eval o).run P w=.ok .skip w')(hn:∀a',Fr n env a' Df→next a' w'):o.wp P a w next Q:=by
 unfold Oper.wp
 rw[hrun]
 show next (a.put o.dst undef) w'
 rw[hd]
 exact hn _ hf
theorem KC{x:Operand}{v:Value}(hf:Fr n env a Df)(hop:o.op=.move x)(hx:AO env x=some v):(execOp a.eval o).run P w=.ok (.value v) w:=by unfold execOp;rw[hop];simp only[hf.ev hx];rfl
theorem fS{d:Nat}{x:Operand}{v:Value}(hf:Fr n env a Df)(hop:o.op=.move x)(hd:o.dst=some d)(hlt:d<n)(hx:AO env x=some v)(hn:∀a',Fr n ((d,v)::env) a' Df→next a' w):o.wp P a w next Q:=
 dK hf hd hlt (KC hf hop hx) hn
theorem gU{d:Nat}{x:Operand}{v:Value}(hf:Fr n env a Df)(hop:o.op=.assign x)(hd:o.dst=some d)(hlt:d<n)(hx:AO env x=some v)(hn:∀a',Fr n ((d,v)::env) a' Df→next a' w):o.wp P a w next Q:=
 dK hf hd hlt (by unfold execOp;rw[hop];simp only[hf.ev hx];rfl) hn
def dV(v:Value):D:=.s (.c (.t (.v v)))
theorem Ll{op:BinOp}{t yt:TypeId}{x y:Operand}{vx vy v:Value}(hf:Fr n env a Df)(hop:o.op=.binOp op t x y yt)(hx:AO env x=some vx)(hy:AO env y=some vy)
 (h1:vx.oneCell'=true) (h2:vy.oneCell'=true) (hk:DP P op t yt (dV vx) (dV vy) some=some (dV v)):(execOp a.eval o).run P w=.ok (.value v) w:=by
 obtain⟨d',v',e1,e2,e3⟩:=XC (P:=P) (w:=w) (X:=fun _=>False) (ρ:=fun _=>none) (xo:=x) (yo:=y) (.val h1) (.val h2) hk
 cases e3
 have e4:v'=v:=by
  rcases e2 with e2 | ⟨e2,_⟩
  ·cases e2
  ·exact Rd.inv_v e2
 subst e4
 unfold execOp;rw[hop];simp only[hf.ev hx,hf.ev hy,Sem.run_bind] at e1 ⊢;simp only[e1,Result.andThen_ok];rfl
theorem oA{d:Nat}{op:BinOp}{t yt:TypeId}{x y:Operand}{vx vy v:Value}(hf:Fr n env a Df)(hop:o.op=.binOp op t x y yt)(hd:o.dst=some d)(hlt:d<n)(hx:AO env x=some vx)(hy:AO env y=some vy)
 (h1:vx.oneCell'=true) (h2:vy.oneCell'=true) (hk:DP P op t yt (dV vx) (dV vy) some=some (dV v)) (hn:∀a',Fr n ((d,v)::env) a' Df→next a' w):o.wp P a w next Q:=
 dK hf hd hlt (Ll hf hop hx hy h1 h2 hk) hn
theorem WO{d:Nat}{x:Operand}{t e:TypeId}{p:Option Addr}{l c:Nat}(hf:Fr n env a Df)(hop:o.op=.call { callee:=.builtin .len,args:=#[x],argTypes:=#[t] })(hd:o.dst=some d)(hlt:d<n)(hu:P.underlying t=some (.slice e))
 (hx:AO env x=some (.slice p l c)) (hn:∀a',Fr n ((d,.int .i64 l)::env) a' Df→next a' w):o.wp P a w next Q:=by
 refine dK hf hd hlt ?_ hn
 have hexec:execOp a.eval o=builtin .len #[t] o.type (#[x].map fun | .const _=>true | _=>false) (#[x].map a.eval):=by
  unfold execOp;rw[hop];rfl
 rw[hexec]
 simp only[builtin,List.map_toArray,List.map_cons,List.map_nil,hf.ev hx,Sem.run_bind]
 unfold Builtin.len_
 simp only[List.getElem?_toArray,List.getElem?_cons_zero,Sem.run_bind,run_underlying hu,Result.andThen_ok]
 rfl
theorem T2{x ix:Operand}{t e:TypeId}{A:Addr}{l c m:Nat}{i:Int}(hf:Fr n env a Df)(hop:o.op=.indexAddr t x ix)(hu:P.underlying t=some (.slice e))(hm:pA P e=some m)
 (hx:AO env x=some (.slice (some A) l c)) (hi:AO env ix=some (.int .i64 i)) (h0:0≤i) (h1:i<l):(execOp a.eval o).run P w=.ok (.value (.pointer (some (A.add (i.toNat*m))))) w:=by
 have h:(Instr.indexAt t (.slice (some A) l c) (.int .i64 i)).run P w=.ok (.pointer (some (A.add (i.toNat*m)))) w:=by
  unfold Instr.indexAt
  simp only[asIntOf,Sem.run_bind,Sem.run_pure,run_underlying hu,Result.andThen_ok]
  rw[Sem.run_ite,if_pos (by omega)]
  simp only[Sem.run_bind,bP hm,Result.andThen_ok,Sem.run_pure]
 unfold execOp;rw[hop];simp only[hf.ev hx,hf.ev hi,Sem.run_bind,h,Result.andThen_ok];rfl
theorem ME{d:Nat}{x ix:Operand}{t e:TypeId}{A:Addr}{l c m:Nat}{i:Int}(hf:Fr n env a Df)(hop:o.op=.indexAddr t x ix)(hd:o.dst=some d)(hlt:d<n)(hu:P.underlying t=some (.slice e))(hm:pA P e=some m)
 (hx:AO env x=some (.slice (some A) l c)) (hi:AO env ix=some (.int .i64 i)) (h0:0≤i) (h1:i<l) (hn:∀a',Fr n ((d,.pointer (some (A.add (i.toNat*m))))::env) a' Df→next a' w):o.wp P a w next Q:=
 dK hf hd hlt (T2 hf hop hu hm hx hi h0 h1) hn
theorem FU{x:Operand}{t:TypeId}{A:Addr}{y:Value}(hf:Fr n env a Df)(hop:o.op=.load t x)(hs:pA P t=some 1)(hb:nU P t=some false)(hx:AO env x=some (.pointer (some A)))(hc:w.cell? A=some y):(execOp a.eval o).run P w=.ok (.value y) w:=by
 have h:(Instr.loadAt t (.pointer (some A))).run P w=.ok y w:=by
  simp only[Instr.loadAt,Instr.sureAddr,Sem.run_bind,Sem.run_pure,Result.andThen_ok]
  exact kU (ys:=[y]) hs hb (fun _=>rfl) rfl fun i u hi=>by
   cases i with
   | zero=>cases hi;exact hc
   | succ i=>simp at hi
 unfold execOp;rw[hop];simp only[hf.ev hx,Sem.run_bind,h,Result.andThen_ok];rfl
theorem uQ{d:Nat}{x:Operand}{t:TypeId}{A:Addr}{y:Value}(hf:Fr n env a Df)(hop:o.op=.load t x)(hd:o.dst=some d)(hlt:d<n)(hs:pA P t=some 1)(hb:nU P t=some false)(hx:AO env x=some (.pointer (some A)))
 (hc:w.cell? A=some y) (hn:∀a',Fr n ((d,y)::env) a' Df→next a' w):o.wp P a w next Q:=
 dK hf hd hlt (FU hf hop hs hb hx hc) hn
theorem Av{d:Nat}{x y:Operand}{t e:TypeId}{i:TypeInfo}{z v vy:Value}{m q:Nat}{xs news:List Value}(hf:Fr n env a Df)(hop:o.op=.call { callee:=.builtin .append,args:=#[x,y],argTypes:=#[t,t] })(hd:o.dst=some d)(hlt:d<n)
 (ht:P.underlying t=some (.slice e)) (hi:P.info? e=some i) (hz:i.zero=some z) (hzs:z.cells.size=i.size) (hsz:0<i.size)
 (hx:AO env x=some v) (hy:AO env y=some vy) (hown:rowAt w e i.size v m xs) (hs:Src P i.size t vy q news w) (h63:m+q≤maxLen) (hb:(m+q)*i.bytes≤140737488355328)
 (hn:∀a' v' w',Fr n ((d,v')::env) a' Df→rowAt w' e i.size v' (m+q) (xs++news)→w.grownBy w' (blk v)→(blk v'=blk v∨blk v'=some w.heap.size)→next a' w'):o.wp P a w next Q:=by
 obtain⟨v',w',e1,e2,e3,e4⟩:=nW (P:=P) (ty:=o.type) ht hi hz hzs hsz hown hs h63 hb
 refine dK (w':=w') (v:=v') hf hd hlt ?_ fun a' hf'=>hn a' v' w' hf' e2 e3 e4
 have hexec:execOp a.eval o=builtin .append #[t,t] o.type (#[x,y].map fun | .const _=>true | _=>false) (#[x,y].map a.eval):=by
  unfold execOp;rw[hop];rfl
 rw[hexec]
 simp only[builtin,List.map_toArray,List.map_cons,List.map_nil,hf.ev hx,hf.ev hy,Sem.run_bind,e1,Result.andThen_ok]
 rfl
def WP:Nat→List Value→List (Nat×Value)
 | _,[]=>[]
 | k,v::l=>(k,v)::WP (k+1) l
def RI(env:List (Nat×Value)):List (Nat×Operand)→Option (List (Nat×Value))
 | []=>some []
 | p::l=>match AO env p.2,RI env l with
  | some v,some q=>some ((p.1,v)::q)
  | _,_=>none
theorem PQ(hf:Fr n env a Df):∀{l:List (Nat×Operand)} {q:List (Nat×Value)},RI env l=some q→(l.map fun(i,x)=>(i,a.eval x))=q
 | [],q,h=>by cases h;rfl
 | p::l,q,h=>by
  simp only[RI] at h
  split at h
  ·rename_i v q' h1 h2
   cases h
   rw[List.map_cons,PQ hf h2]
   show (p.1,a.eval p.2)::q'=_
   rw[hf.ev h1]
  ·cases h
theorem MF{c:Code}{m:Nat}(I:Nat→Act→World→Prop)(h0:∀(K:Act→World→Prop) a w,I 0 a w→c.wp P (Exit.then K Q) a w)(hs:∀m (K:Act→World→Prop),(∀a w,I m a w→K a w)→∀a w,I (m+1) a w→c.wp P (Exit.then K Q) a w)(hi:I m a w):(Code.loop c).wp P Q a w:=by
 refine wp_loop_rounds (m+1) ?_
 induction m generalizing a w with
 | zero=>rw[rounds_succ];exact h0 _ a w hi
 | succ m ih=>rw[rounds_succ];exact hs m _ (fun a w h=>ih h) a w hi
def Lm(env:List (Nat×Value)):List Operand→Option (List Value)
 | []=>some []
 | x::l=>match AO env x,Lm env l with
  | some v,some q=>some (v::q)
  | _,_=>none
theorem WQ(hf:Fr n env a Df):∀{l:List Operand} {q:List Value},Lm env l=some q→l.map a.eval=q
 | [],q,h=>by cases h;rfl
 | x::l,q,h=>by
  simp only[Lm] at h
  split at h
  ·rename_i v q' h1 h2
   cases h
   rw[List.map_cons,WQ hf h2,hf.ev h1]
  ·cases h
theorem CC{d:Nat}{c:Call}{f:FuncId}{vals:List Value}{R':Ending→World→Prop}(hf:Fr n env a Df)(hop:o.op=.call c)(hc:c.callee=.value (.func f))(hd:o.dst=some d)(hlt:d<n)(hcall:fO P f)(hv:Lm env c.args.toList=some vals)
 (hC:Calls P f vals.toArray w R') (hn:∀e w',R' e w'→∃v,e=.returned v∧∀a',Fr n ((d,v)::env) a' Df→next a' w'):o.wp P a w next Q:=by
 have hexec:execOp a.eval o=(do let d ←resolve a.eval c o.type;invoke d.target d.args):=by
  unfold execOp;rw[hop]
 have hinv:(execOp a.eval o).run P w=(callFunc f vals.toArray).run P w:=by
  rw[hexec,←WQ hf hv]
  unfold resolve
  have hfv:a.eval (.func f)=.func (.func f) #[] #[]:=rfl
  simp only[hc,hfv,Deferred.ofValue,Sem.run_bind,Sem.run_pure,Result.andThen_ok,invoke]
  congr 2
  apply Array.ext'
  simp
 unfold Oper.wp
 rw[hinv,sB hcall]
 refine hC.mono fun e w' h=>?_
 obtain⟨v,rfl,hk⟩:=hn e w' h
 show next (a.put o.dst v) w'
 rw[hd]
 exact hk _ (hf.put hlt v)
def JC(f:Func):Code:=f.body.getD .skip
end
section
variable {P:Program} {n:Nat} {env:List (Nat×Value)} {Df:List Deferred} {a:Act} {w w':World} {Q:Exit→Act→World→Prop} {o:Oper} {next:Act→World→Prop}
theorem FV{c x y:Operand}{b:Bool}{v u:Value}(hf:Fr n env a Df)(hop:o.op=.pick c x y)(hc:AO env c=some (.bool b))(hx:AO env x=some v)(hy:AO env y=some u):(execOp a.eval o).run P w=.ok (.value (if b then v else u)) w:=by
 unfold execOp;rw[hop];simp only[hf.ev hc,hf.ev hx,hf.ev hy];cases b <;> rfl
theorem Ec{x:Operand}{t:TypeId}{b:Bool}(hf:Fr n env a Df)(hop:o.op=.unOp .not t x)(hx:AO env x=some (.bool b)):(execOp a.eval o).run P w=.ok (.value (.bool !b)) w:=by
 unfold execOp;rw[hop];simp only[hf.ev hx];rfl
theorem Nh{t:TypeId}{parts:Array (Nat×Operand)}{q:List (Nat×Value)}{ds:List (Nat×D)}{cs:List Value}(hf:Fr n env a Df)(hop:o.op=.build t parts)(hp:RI env parts.toList=some q)
 (hd:ds.length=q.length∧∀(i:Nat) p r,ds[i]?=some p→q[i]?=some r→p.1=r.1∧RdD w (fun _=>False) (fun _=>none) p.2 r.2) (hk:zP P t ds some=some (.s (.agg (cs.map fun v=>.t (.v v))))):(execOp a.eval o).run P w=.ok (.value (.agg cs.toArray)) w:=by
 have hpp:(parts.map fun(i,x)=>(i,a.eval x))=q.toArray:=by
  have:=PQ hf hp
  rw[←this]
  apply Array.ext'
  simp
 obtain⟨y,d,e1,e2,e3⟩:=OU (P:=P) (w:=w) (X:=fun _=>False) (ρ:=fun _=>none) (parts:=ds) (vparts:=q.toArray) (by simpa using hd.1) (fun i p r h1 h2=>hd.2 i p r h1 (by simpa using h2)) hk
 cases e3
 obtain⟨ys,rfl,h1,h2⟩:=e2
 have e4:ys=cs.toArray:=by
  apply Array.ext'
  apply List.ext_getElem?
  intro i
  cases hi:cs[i]? with
  | none=>
   have:=List.getElem?_eq_none_iff.1 hi
   rw[List.getElem?_eq_none (by rw[h1,List.length_map];exact this)]
  | some v=>
   have hlt:i<ys.toList.length:=by rw[h1,List.length_map];exact(List.getElem?_eq_some_iff.1 hi).1
   rw[List.getElem?_eq_getElem hlt]
   rcases h2 i (.t (.v v)) _ (by rw[List.getElem?_map,hi];rfl) (List.getElem?_eq_getElem hlt) with h | ⟨h,_⟩
   ·cases h
   ·rw[Rd.inv_v h]
 rw[e4] at e1
 unfold execOp;rw[hop];simp only[hpp,Sem.run_bind,e1,Result.andThen_ok];rfl
theorem Ln{d:Nat}{t e:TypeId}{i:TypeInfo}{z:Value}{x:Operand}{cs:Array Value}(hf:Fr n env a Df)(hop:o.op=.buildSlice t 1 #[(0,x)])(hd:o.dst=some d)(hlt:d<n)
 (ht:P.underlying t=some (.slice e)) (hi:P.info? e=some i) (hz:i.zero=some z) (hzs:z.cells.size=cs.size) (hsz:i.size=cs.size) (hpos:0<cs.size) (hmax:cs.size≤1000)
 (hx:AO env x=some (.agg cs))
 (hn:∀a',Fr n ((d,.slice (some ⟨w.heap.size,0,none⟩) 1 1)::env) a' Df→next a' (w.alloc (.cells cs e))):o.wp P a w next Q:=by
 refine dK hf hd hlt ?_ hn
 have hpp:((#[(0,x)]:Array (Nat×Operand)).map fun(i,x)=>(i,a.eval x))=#[(0,Value.agg cs)]:=by
  have:=hf.ev hx
  simp[this]
 have hsO:pA P e=some cs.size:=by simp[pA,hi,hsz]
 have h:(Instr.buildSlice t 1 #[(0,Value.agg cs)]).run P w=.ok (.slice (some ⟨w.heap.size,0,none⟩) 1 1) (w.alloc (.cells cs e)):=by
  unfold Instr.buildSlice
  simp only[Sem.run_bind,run_underlying ht,Result.andThen_ok,bP hsO]
  rw[if_neg (by omega),if_neg (by omega)]
  simp only[Sem.run_bind,d3 hi hz,Result.andThen_ok,Sem.run_pure]
  have hfill:Instr.fill (fun i=>some (i*cs.size,cs.size)) ((Array.range (1*cs.size)).map (fun x=>z.cells[x%z.cells.size]!)) [(0,Value.agg cs)]=some cs:=by
   have hc:(Value.agg cs).cells=cs:=rfl
   simp only[Instr.fill,hc]
   rw[if_neg (by simp)]
   have hf:=EY cs.toList 0 0 ((Array.range (1*cs.size)).map (fun x=>z.cells[x%z.cells.size]!)) (by simp)
   congr 1
   apply Array.ext'
   rw[←Array.foldl_toList,Array.toList_zipIdx]
   have e1:(fun(cs:Array Value) (x:Value×Nat)=>match x with | (c,j)=>cs.setIfInBounds (0*cs.size+j) c)=fun cs x=>cs.setIfInBounds (0+x.2) x.1:=by
    funext cs x;simp
   simp only[Nat.zero_mul] at e1 ⊢
   rw[show (fun(cs:Array Value) (x:Value×Nat)=>match x with | (c,j)=>cs.setIfInBounds (0+j) c)=fun cs x=>cs.setIfInBounds (0+x.2) x.1 from rfl,hf]
   simp
  rw[hfill]
  simp[newRow]
 unfold execOp;rw[hop]
 simp only[hpp,Sem.run_bind,h,Result.andThen_ok];rfl
theorem Aw(w:World)(e:TypeId)(cs:Array Value)(hpos:0<cs.size):rowAt (w.alloc (.cells cs e)) e cs.size (.slice (some ⟨w.heap.size,0,none⟩) 1 1) 1 cs.toList:=
 ⟨by simp,.inr ⟨w.heap.size,0,1,cs,rfl,by omega,heap_alloc_new w _,Nat.le_refl _,by decide,by simp,by rw[List.drop_zero,Nat.one_mul,List.take_of_length_le (by rw[Array.length_toList];exact Nat.le_refl _)]⟩⟩
theorem T3{ops:Array Oper}(hg:o.guard=none):Region.wanted o (yielded ops a.tmps)=true:=by simp[Region.wanted,hg]
theorem T4{ops:Array Oper}{j t:Nat}(hf:Fr n env a Df)(hg:o.guard=some (j,true))(ht:(ops[j]?).bind (·.dst)=some t)(hl:env.lookup t=some (.bool true)):Region.wanted o (yielded ops a.tmps)=true:=by
 have h:=hf.get t _ hl
 have h2:a.tmps[t]?=some (.bool true):=by
  rw[Array.getD_eq_getD_getElem?] at h
  cases hx:a.tmps[t]? with
  | none=>rw[hx] at h;cases h
  | some v=>rw[hx] at h;rw[←h];rfl
 simp[Region.wanted,hg,yielded,ht,h2]
theorem KD{d f:Nat}{c:Call}{vals:List Value}{A:Callee}{args rs:List S1}(hf:Fr n env a Df)(hop:o.op=.call c)(hc:c.callee=.value (.func f))(hd:o.dst=some d)(hlt:d<n)(hcall:fO P f)(hv:Lm env c.args.toList=some vals)
 (hA:A.OK P f) (hk:(A.call args [] fun rs po=>some (rs,po))=some (rs,[])) (hG:Good P w (fun _=>False)) (hargs:RdSs w (fun _=>False) (fun _=>none) args vals)
 (hn:∀v a' w',Fr n ((d,v)::env) a' Df→Stp (fun _=>False) w w'→RdRes w' (fun _=>False) (fun _=>none) rs v→next a' w') (hrs:rs.all (fun s=>s.list.all pQ)=true):o.wp P a w next Q:=by
 obtain⟨rs',po',h1,h2⟩:=hA.1 args [] _ _ hk
 simp only[Option.some.injEq,Prod.mk.injEq] at h1
 obtain⟨e1,e2⟩:=h1
 subst e1;subst e2
 have hm:∀b,¬r6 [] (fun _=>none) b:=fun b ⟨k,o,v,h1,_⟩=>by simp at h1
 have hX:∀(ρ:fN) b,¬XB [] ρ (fun _=>False) b:=fun ρ b hh=>hh.elim (fun⟨k,o,v,h1,_⟩=>by simp at h1) id
 refine CC hf hop hc hd hlt hcall hv (h2 w (fun _=>False) (fun _=>none) vals (fun k o h=>by simp at h) (fun k k' b ⟨o,v,h1,_⟩=>by simp at h1) (fun _ h=>h.elim) (fun _ _ h=>h)
  (fun g k hg=>⟨fun hh=>hm g hh,(hG g k hg).2⟩) (hargs.step (Stp.refl (fun _=>False) w) (fun _ h=>h.elim) (fun b hb=>(hX _ b hb).elim) (.refl _))) fun e w' hp=>?_
 obtain⟨v,ρ',rfl,p1,_,_,_,_,_,p7⟩:=hp
 refine⟨v,rfl,fun a' hf'=>hn v a' w' hf' (p1.mono fun b hb _=>hm b hb) ?_⟩
 have key:∀(s:S1) (y:Value),s.list.all pQ=true→RdS w' (XB [] ρ' fun _=>False) ρ' s y→RdS w' (fun _=>False) (fun _=>none) s y:=fun s y hs hr=>by
  have hc1:∀(c:C) (y:Value),pQ c=true→RdC1 w' (XB [] ρ' fun _=>False) ρ' c y→RdC1 w' (fun _=>False) (fun _=>none) c y:=fun c y hc hr=>by
   cases c with
   | t x=>
    rcases hr with hr | ⟨hr,h1⟩
    ·cases hr
    ·exact .inr ⟨Rd.weak hr fun _ h=>h.elim,h1⟩
   | _=>cases hc
  cases s with
  | c c=>exact hc1 c y (by simpa[S1.list] using hs) hr
  | agg l=>
   obtain⟨cs,e,hl⟩:=hr
   exact⟨cs,e,hl.1,fun i c y h1 h2=>hc1 c y (List.all_eq_true.1 hs c (List.mem_of_getElem? h1)) (hl.2 i c y h1 h2)⟩
 have keys:∀{rs:List S1} {vs:List Value},rs.all (fun s=>s.list.all pQ)=true→RdSs w' (XB [] ρ' fun _=>False) ρ' rs vs→RdSs w' (fun _=>False) (fun _=>none) rs vs:=fun hrs hl=>⟨hl.1,fun i s y h1 h2=>key s y (List.all_eq_true.1 hrs s (List.mem_of_getElem? h1)) (hl.2 i s y h1 h2)⟩
 cases rs' with
 | nil=>obtain⟨vs,e1,hl⟩:=p7;exact⟨vs,e1,keys hrs hl⟩
 | cons s1 l=>cases l with
  | nil=>exact key s1 v (by simpa using hrs) p7
  | cons s2 l=>obtain⟨vs,e1,hl⟩:=p7;exact⟨vs,e1,keys hrs hl⟩
end
section
variable {F:Fence} {m:Nat} {P:Program} {n:Nat} {env:List (Nat×Value)} {Df:List Deferred} {a:Act} {w w':World} {Q:Exit→Act→World→Prop} {o:Oper} {next:Act→World→Prop}
theorem Ed{x:Operand}{t:TypeId}{f:Nat}{A:Addr}{fs:Array Field}{fd:Field}{z:Nat}(hf:Fr n env a Df)(hop:o.op=.fieldAddr t x f)(hu:P.underlying t=some (.struct fs))(hfd:fs[f]?=some fd)(hz:pA P fd.type=some z)(hz0:z≠0)
 (hx:AO env x=some (.pointer (some A))):(execOp a.eval o).run P w=.ok (.value (.pointer (some (A.add fd.offset)))) w:=by
 have h:(Instr.fieldAt t (.pointer (some A)) f).run P w=.ok (.pointer (some (A.add fd.offset))) w:=by
  unfold Instr.fieldAt
  simp only[Sem.run_bind,run_underlying hu,Result.andThen_ok,hfd,Instr.sureAddr,Sem.run_pure,fieldPlace,bP hz,if_neg hz0]
 unfold execOp;rw[hop];simp only[hf.ev hx,Sem.run_bind,h,Result.andThen_ok];rfl
theorem Ee{x:Operand}{t:TypeId}{v:Value}(hf:Fr n env a Df)(hop:o.op=.box t x)(hx:AO env x=some v):(execOp a.eval o).run P w=.ok (.value (.pointer (some ⟨w.heap.size,0,none⟩))) (w.alloc (.cells v.cells t)):=by
 have h:(Instr.box t v).run P w=.ok (.pointer (some ⟨w.heap.size,0,none⟩)) (w.alloc (.cells v.cells t)):=by simp[Instr.box,newVar,newRow]
 unfold execOp;rw[hop];simp only[hf.ev hx,Sem.run_bind,h,Result.andThen_ok];rfl
theorem WR{t:TypeId}(hop:o.op=.makeMap t none):(execOp a.eval o).run P w=.ok (.value (.map (some w.heap.size))) (w.alloc (.map #[] 0)):=by
 unfold execOp;rw[hop];simp only[Sem.run_bind,run_makeMap,Result.andThen_ok];rfl
theorem Hx{f:FuncId}{x:Operand}{v:Value}(hf:Fr n env a Df)(hop:o.op=.makeFunc (.func f) #[] #[x])(hx:AO env x=some v):(execOp a.eval o).run P w=.ok (.value (.func (.func f) #[] #[v])) w:=by
 unfold execOp;rw[hop];simp[hf.ev hx,Instr.makeFunc]
theorem AP{e:TypeId}{i:TypeInfo}{z:Value}(hop:o.op=.alloc e)(hi:P.info? e=some i)(hz:i.zero=some z):
 (execOp a.eval o).run P w=.ok (.value (.pointer (some ⟨w.heap.size,0,none⟩))) (w.alloc (.cells z.cells e)):=by
 have h:(Instr.alloc e true (.tuple #[])).run P w=.ok (.pointer (some ⟨w.heap.size,0,none⟩)) (w.alloc (.cells z.cells e)):=by
  simp[Instr.alloc,d3 hi hz,newVar,newRow]
 unfold execOp;rw[hop];simp only[Sem.run_bind,h,Result.andThen_ok];rfl
theorem CD{x y:Operand}{t ty:TypeId}{g:Nat}{v:Value}{cs cur:Array Value}(hf:Fr n env a Df)(hop:o.op=.store t x y)(hs:pA P t=some cs.size)(hx:AO env x=some (.pointer (some ⟨g,0,none⟩)))(hy:AO env y=some v)(hc:v.cells=cs)
 (h1:∀v∈cs.toList,v.oneCell'=true) (hg:w.heap[g]?=some (.cells cur ty (0,0))) (hsz:cur.size=cs.size):(execOp a.eval o).run P w=.ok .skip (w.setRow g cs):=by
 have h:=r9 (P:=P) (w:=w) (t:=t) (j:=0) (v:=v) hs (by rw[hc]) hg (by omega) (by rw[hc];exact h1)
 have e:(cur.toList.take 0++v.cells.toList++cur.toList.drop (0+cs.size)).toArray=cs:=by
  rw[hc,List.drop_of_length_le (by rw[Array.length_toList];omega)]
  simp
 rw[e] at h
 have h':(Instr.storeAt t (.pointer (some ⟨g,0,none⟩)) v).run P w=.ok () (w.setRow g cs):=by
  simp only[Instr.storeAt,Instr.sureAddr,Sem.run_bind,Sem.run_pure,Result.andThen_ok]
  exact h
 unfold execOp;rw[hop];simp only[hf.ev hx,hf.ev hy,Sem.run_bind,h',Result.andThen_ok];rfl
theorem AQ{x:Operand}{t:TypeId}{A:Addr}{ys:List Value}(hf:Fr n env a Df)(hop:o.op=.load t x)(hs:pA P t=some ys.length)(hb:nU P t=some true)(hx:AO env x=some (.pointer (some A)))(hc:∀(i:Nat) y,ys[i]?=some y→w.cell? (A.add i)=some y):
 (execOp a.eval o).run P w=.ok (.value (.agg ys.toArray)) w:=by
 have h:(Instr.loadAt t (.pointer (some A))).run P w=.ok (.agg ys.toArray) w:=by
  simp only[Instr.loadAt,Instr.sureAddr,Sem.run_bind,Sem.run_pure,Result.andThen_ok]
  have:=kU (P:=P) (w:=w) (ad:=A) (ys:=ys) hs hb (fun h=>by cases h) (by simp) hc
  simpa using this
 unfold execOp;rw[hop];simp only[hf.ev hx,Sem.run_bind,h,Result.andThen_ok];rfl
theorem mZ{d:Nat}{v:Value}(hF:∀f,F.fn f)(hnd:∀c,o.op≠.defer c)(hf:Fr n env a Df)(hd:o.dst=some d)(hlt:d<n)(hrun:(execOp a.eval o).run P w=.ok (.value v) w')(hn:∀a',Fr n ((d,v)::env) a' Df→next a' w'):o.wpIn F m P a w next Q:=by
 refine⟨fun f _=>hF f,?_⟩
 rw[Oper.semAt_eq _ _ _ hnd,hrun]
 show next (a.put o.dst v) w'
 rw[hd]
 exact hn _ (hf.put hlt v)
theorem YP(hF:∀f,F.fn f)(hnd:∀c,o.op≠.defer c)(hf:Fr n env a Df)(hd:o.dst=none)(hrun:(execOp a.eval o).run P w=.ok .skip w')(hn:∀a',Fr n env a' Df→next a' w'):o.wpIn F m P a w next Q:=by
 refine⟨fun f _=>hF f,?_⟩
 rw[Oper.semAt_eq _ _ _ hnd,hrun]
 show next (a.put o.dst undef) w'
 rw[hd]
 exact hn _ hf
theorem Ef{d l:Nat}{c:Call}{x:Operand}{vals:List Value}{R':Ending→World→Prop}(hF:∀f,F.fn f)(hf:Fr n env a Df)(hop:o.op=.call c)(hc:c.callee=.value x)(hx:AO env x=some (.func (.yield l) #[] #[]))(hd:o.dst=some d)(hlt:d<n)
 (hv:Lm env c.args.toList=some vals) (hm:F.depth.isSome=true→1≤m) (hy:YieldAt F (m-1) P l vals.toArray w R') (hn:∀e w',R' e w'→∃v,e=.returned v∧∀a',Fr n ((d,v)::env) a' Df→next a' w'):o.wpIn F m P a w next Q:=by
 refine⟨fun f _=>hF f,?_⟩
 rw[Oper.semAt_eq _ _ _ (fun c h=>by rw[hop] at h;cases h)]
 have hexec:execOp a.eval o=(do let d ←resolve a.eval c o.type;invoke d.target d.args):=by
  unfold execOp;rw[hop]
 obtain⟨fn,tmps,assign,body,hr,hR⟩:=hy
 have hinv:(execOp a.eval o).run P w=.ok (.round l fn tmps assign body) w:=by
  rw[hexec,←hr,←WQ hf hv]
  unfold resolve
  simp only[hc,hf.ev hx,Deferred.ofValue,Sem.run_bind,Sem.run_pure,Result.andThen_ok,invoke]
  congr 2
  apply Array.ext'
  simp
 rw[hinv]
 refine⟨hm,hR.mono fun e w' h=>?_⟩
 obtain⟨v,rfl,hk⟩:=hn e w' h
 show next (a.put o.dst v) w'
 rw[hd]
 exact hk _ (hf.put hlt v)
def Hy(F:Fence)(m:Nat)(P:Program)(Q:Exit→Act→World→Prop):List Oper→Act→World→Prop
 | [],a,w=>Q .normal a w
 | o::l,a,w=>o.wpIn F m P a w (fun a w=>Hy F m P Q l a w) Q
theorem PR{ops:Array Oper}:∀(l:List Oper) {a:Act} {w:World},l.all (fun o=>o.guard.isNone)=true→Hy F m P Q l a w→wpListIn F m P ops Q l a w
 | [],_,_,_,h=>h
 | o::l,a,w,hg,h=>by
  rw[List.all_cons,Bool.and_eq_true] at hg
  have hw:Region.wanted o (yielded ops a.tmps)=true:=by
   cases hgo:o.guard with
   | none=>simp[Region.wanted,hgo]
   | some x=>rw[hgo] at hg;cases hg.1
  simp only[wpListIn]
  rw[if_pos hw]
  unfold Hy at h
  exact Oper.wpIn_mono (fun a' w' h'=>PR l hg.2 h') h
theorem RJ{id:Nat}{ops:Array Oper}(hg:ops.all (fun o=>o.guard.isNone)=true)(h:Hy F m P Q ops.toList a w):(Code.region id ops false).wpIn F m P Q a w:=
 wpIn_region_list (PR _ (by rw[Array.all_toList];exact hg) h)
end
section
variable {R:Type} (P:Program) (Γ:FuncId→Option Callee) (dok:Array Oper→Bool)
end
section
variable {R:Type} {P:Program} {Γ:FuncId→Option Callee} {dok:Array Oper→Bool}
theorem RdRes.res{w:World}{X:Nat→Prop}{ρ:fN}{rs:List S1}{v:Value}(h:RdRes w X ρ rs v):RdD w X ρ (P9 rs) v:=by
 match rs with
 | [s]=>exact h
 | []=>exact h
 | s1::s2::l=>exact h
end
end Go.Eng
/- One theorem for each function: what is proved of a printed function,in one line. -/
namespace Go.Eng
abbrev I6:Sh:=.int .i64
def HT.l(x:HT):HT:=.seq .leaf x
theorem TabOK.cs{P:Program}{pl:List Nat}{f:FuncId}{sg:Sig}{U:nR sg.hin.shapes→Option (nR sg.hout.shapes)}{fn:Func}{l:List (FuncId×Callee)}(hf:P.funcs[f]?=some fn)(hA:(aA sg U).OK P f)(hl:TabOK P pl l)
 (h1:fn.body.isSome=true:=by kernel_rfl) (h2:(fn.name == "runtime.NumGoroutine")=false:=by kernel_rfl) (h3:((!pl.contains f||RA sg)&&(!pl.contains (f+1000000)&&(!(f==2000000)&&!(f==2000002))))=true:=by kernel_rfl):TabOK P pl ((f,aA sg U)::l):=by
 simp only[Bool.and_eq_true,Bool.not_eq_true'] at h3
 obtain⟨a,b,c,d⟩:=h3
 refine TabOK.cons (fun _=>⟨fn,hf,h1,h2⟩) hA (aB _ _) (fun h=>?_) b (fun _=>aP (aB _ _) rfl rfl) c hl d
 rw[h] at a
 exact bM (by simpa using a)
theorem d4{P:Program}(hm:P.follows .mixedOrders=true){l:List (FuncId×Callee)}(pl:List Nat){f:FuncId}{fn:Func}(t:HT){sg:Sig}{U:nR sg.hin.shapes→Option (nR sg.hout.shapes)}
 (hΓ:TabOK P pl l) (hf:P.funcs[f]?=some fn) (hU:∀x,pH P l pl t fn sg x=U x) (ht:J8 t fn=true:=by kernel_rfl) (hs:sg.ok fn.ntmps=true:=by kernel_rfl):(aA sg U).OK P f:=
 pV hm hΓ hf ht hs hU
end Go.Eng
