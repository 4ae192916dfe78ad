/- An engine that turns the code of a function into a plain function on tuples, part 2: what it says of a function holds of every run; it has no conditions of its own. -/
import Derived.Lib.MinMax
import Derived.LoopN
import Derived.Scope
import Derived.Laws.Externs
import Derived.Shelf.Vars
import Derived.Test.YtpgikmmiapcojaaEng1
set_option linter.unusedSimpArgs false
set_option linter.unusedVariables false
namespace Go.Eng
open Go.RowKit
@[irreducible] def RQ(mx:Bool)(a b:Int):Int:=if mx then max a b else min a b
@[irreducible] def Yd(mx:Bool)(a b:ByteArray):ByteArray:=if mx then (if !Oe a b then a else b) else (if Oe a b||Ob a b then a else b)
section
variable {R:Type} (P:Program) (Γ:FuncId→Option Callee)
def PI(mx:Bool)(t:TypeId)(x y:D)(k:D→Option R):Option R:=match P.underlying t with
 | some (.int kd)=>RE kd x fun a=>RE kd y fun b=>k (dI kd (RQ mx a b))
 | some .string=>WL x fun a=>WL y fun b=>k (dS (Yd mx a b))
 | _=>none
def JP(st:St)(dst:Option Nat)(ty:TypeId)(b:Builtin)(args:List D)(ts:List TypeId)(k:St→D→Option R):Option R:=match b,args,ts with
 | .len,[x],[t]=>E4 P st t x fun d=>k st d
 | .append,[s,x],[t,u]=>zW P st dst t u s x k
 | .copy,[s,x],[t,_]=>SE P st t s x k
 | .min,[x,y],[t,_]=>PI P false t x y fun d=>k st d
 | .max,[x,y],[t,_]=>PI P true t x y fun d=>k st d
 | _,_,_=>none
def Df(caps:List (Nat×Nat)):List D:=caps.map fun p=>.s (.c (.box p.1 p.2))
def vU:Value→Option FuncId
 | .func (.func g) first captured=>if first.isEmpty&&captured.isEmpty then some g else none
 | _=>none
def nE(st:St)(dst:Option Nat)(f:D)(args:List D)(k:St→D→Option R):Option R:=AI f fun c=>match c with
 | .t (.v v)=>match vU v with
  | some g=>match Γ g with
   | some A=>match A.ext with
    | some I=>I.go args fun d=>k st d
    | none=>zP A st dst args k
   | none=>none
  | none=>none
 | .fn g caps=>match Γ g with
  | some A=>match A.ext with
   | some _=>none
   | none=>zP A st dst (args++Df caps) k
  | none=>none
 | _=>none
def E5:List Nat:=match Γ 2000000 with
 | some A=>A.quiet
 | none=>[]
def FM(B:List Nat):D→Bool
 | .s (.c (.box k _))=>B.contains k
 | .s (.c (.pe _ _ _))=>true
 | _=>false
def oX:Option O→Bool
 | some (.box _)=>true
 | _=>false
def WM(B:List Nat)(o o':List O):Bool:=B.all fun k=>oX o[k]?||!oX o'[k]?
def SN:D→List Nat
 | .s s=>s.list.flatMap C.ks
 | .ee l=>l.flatMap fun s=>s.list.flatMap C.ks
def At(B:List Nat)(ds:List D):Bool:=ds.all fun d=>(SN d).all fun k=>!B.contains k
def gL:List Nat:=match Γ 2000000 with
 | some A=>A.loose
 | none=>[]
def vV(l:List Nat):Option Nat→Bool
 | some s=>l.contains s
 | none=>false
def UY:D→Bool
 | .s (.c (.box _ _))=>true
 | .s (.c (.pe _ _ _))=>true
 | .s (.c (.t _))=>true
 | _=>false
def xI(st:St):D→Bool
 | .s (.c (.box k _))=>oX st.ae[k]?
 | _=>true
def tO(P:Program)(st:St)(dst:Option Nat)(t:TypeId)(d:D)(k:D→Option R):Option R:=match E5 Γ with
 | []=>vQ P st t d k
 | B=>if ((FM B d&&xI st d)||vV (gL Γ) dst)=true then vQ P st t d k else none
def vW(P:Program)(st:St)(dst:Option Nat)(t:TypeId)(x ix:D)(k:D→Option R):Option R:=match E5 Γ with
 | []=>kE P st t x ix k
 | _=>if (UY x||vV (gL Γ) dst)=true then kE P st t x ix k else none
def NH(st:St)(dst:Option Nat):Bool:=(gL Γ).contains 8999999||match dst with
 | some d=>match st.ae[st.np+d]? with
  | some .fresh=>true
  | _=>false
 | none=>false
def UZ(P:Program)(st:St)(dst:Option Nat)(t:TypeId)(k:St→D→Option R):Option R:=match E5 Γ with
 | []=>uM P st dst t k
 | B=>if NH Γ st dst=true then uM P st dst t fun s d=>if (WM B st.ae s.ae||vV (gL Γ) dst)=true then k s d else none else none
def IZ:List Nat:=match Γ 2000002 with
 | some A=>A.quiet
 | none=>[]
def uQ:List Nat:=match Γ 2000002 with
 | some A=>A.loose
 | none=>[]
def Ye:List Nat:=(uQ Γ).filterMap fun g=>if 5000000≤g then some (g-5000000) else none
def Sv:D→List C
 | .s s=>s.list
 | .ee l=>l.flatMap S1.list
def Rj(o:Option O):List Nat:=match o with
 | some (.box l)=>l.flatMap C.rs
 | _=>[]
def Au(ae:List O)(k:Nat)(ds:List D):Bool:=ds.all fun d=>(Sv d).all fun c=>!c.rs.contains k&&c.ks.all fun k'=>k' != k&&!(Rj ae[k']?).contains k
def Sw:Option O→Bool
 | some .fresh=>false
 | some _=>true
 | none=>false
def Xi(ae:List O)(ds:List D):Bool:=(Ye Γ).all fun k=>Sw ae[k]?&&Au ae k ds
def XG(ae:List O)(dst:Option Nat)(ds:List D):Bool:=match dst with
 | some s=>!(uQ Γ).contains (2000000+s)||((gL Γ).contains (10000000+s)&&Xi Γ ae ds)
 | none=>true
def Jt:D→Bool
 | .s (.c (.t _))=>true
 | .s (.c (.row k))=>(uQ Γ).contains (5000000+k)
 | _=>false
def Vg(dst:Option Nat)(x:D):Bool:=match dst with
 | some s=>!(uQ Γ).contains (3000000+s)||Jt Γ x
 | none=>true
def Av(st:St)(dst:Option Nat)(f:D)(args:List D)(k:St→Option R):Option R:=match E5 Γ with
 | []=>nE Γ st dst f args fun st d=>k (st.put dst d)
 | B=>if vV (gL Γ) dst=true then nE Γ st dst f args fun st d=>k (st.put dst d) else if At B (f::args)=true then nE Γ st dst f args fun st' d=>(fun s:St=>if WM B st.ae s.ae=true then k s else none) (st'.put dst d) else none
def Dg(st:St)(dst:Option Nat)(f:D)(args:List D)(k:St→Option R):Option R:=if XG Γ st.ae dst (f::args)=true then Av Γ st dst f args k else none
def Gg(x:D)(k:D→Option R):Option R:=AI x fun c=>match c with
 | .box _ _=>k x
 | .ib _ _ _ _=>k x
 | .pe _ _ _=>k x
 | _=>none
def PJ:D→Bool
 | .s (.c (.t _))=>true
 | _=>false
def PK(dst:Option Nat)(x:D):Bool:=match E5 Γ with
 | []=>true
 | _=>PJ x||vV (gL Γ) dst
def Xj(dst:Option Nat):Bool:=match dst with
 | some s=>(uQ Γ).contains (4000000+s)
 | none=>false
def Dh(dst:Option Nat)(x:D):Bool:=!Xj Γ dst||Jt Γ x
def Sx:D→Bool
 | .s (.c (.t _))=>true
 | .s (.c (.row k))=>!(uQ Γ).contains (5000000+k)
 | _=>false
def XH(ae:List O)(dst:Option Nat):Bool:=!Xj Γ dst||(Ye Γ).all fun k=>Sw ae[k]?
def Vh(ae:List O)(dst:Option Nat)(s:D):Bool:=XH Γ ae dst&&(!Xj Γ dst||Sx Γ s)
def HZ(ae:List O)(dst:Option Nat)(bi:Builtin)(args:List D):Bool:=match bi with
 | .len=>args.all fun x=>PK Γ dst x&&Vg Γ dst x
 | .append=>match args with
  | s::_=>Vh Γ ae dst s
  | []=>true
 | _=>true
def Ju(t:TypeId)(x:D):Bool:=match E5 Γ with
 | []=>true
 | B=>(gL Γ).contains 8999999||(gL Γ).contains (60000000+t)||match x with
  | .s (.c (.box k _))=>!B.contains k
  | .s (.c (.ib _ _ _ _))=>true
  | _=>false
def Aw:D→Bool
 | .s (.c (.ib _ _ _ _))=>true
 | _=>false
def LR:D→Bool
 | .s (.c (.box _ _))=>true
 | _=>false
def Jv:D→Bool
 | .s (.c (.box k _))=>(uQ Γ).contains (5000000+k)
 | _=>false
def Ax:D→Bool
 | .s (.c (.box k _))=>!(uQ Γ).contains (5000000+k)
 | _=>false
def XI(t:TypeId)(x:D):Bool:=((!(IZ Γ).contains t||Aw x)&&(!(IZ Γ).contains (1000000+t)||LR x))&&(!(IZ Γ).contains (2000000+t)||Ax Γ x)
def ER(dst:Option Nat)(x:D):Bool:=match dst with
 | some s=>(!(uQ Γ).contains s||LR x)&&(!(uQ Γ).contains (1000000+s)||Jv Γ x)
 | none=>true
def Xk:List Nat:=match Γ 2000001 with
 | some A=>A.loose
 | none=>[]
def Vi(dst:Option Nat):Bool:=match dst with
 | some s=>(Xk Γ).contains s
 | none=>false
def jH(P:Program)(st:St)(dst:Option Nat)(t:TypeId)(l c:D)(k:St→D→Option R):Option R:=if Vi Γ dst=true then BV P st dst t l c k else sF P st dst t l c k
def nG(P:Program)(st:St)(dst:Option Nat)(t:TypeId)(l c:D)(k:St→D→Option R):Option R:=match E5 Γ with
 | []=>jH Γ P st dst t l c k
 | _=>if NH Γ st dst=true then jH Γ P st dst t l c k else none
def Sy(o:Oper)(st:St)(k:St→Option R):Option R:=match o.op with
 | .move x=>k (st.put o.dst (ev st x))
 | .assign x=>k (st.put o.dst (ev st x))
 | .pick c x y=>RG (ev st c) fun q=>bif q then k (st.put o.dst (ev st x)) else k (st.put o.dst (ev st y))
 | .alloc e=>UZ Γ P st o.dst e fun st d=>k (st.put o.dst d)
 | .box _ x=>W0 st o.dst (ev st x) fun st d=>k (st.put o.dst d)
 | .build t parts=>IP P t (parts.toList.map fun p=>(p.1,ev st p.2)) fun d=>k (st.put o.dst d)
 | .buildSlice t len parts=>if XH Γ st.ae o.dst=true then kP P st o.dst t len (parts.toList.map fun p=>(p.1,ev st p.2)) fun st d=>k (st.put o.dst d) else none
 | .load t x=>if ER Γ o.dst (ev st x)=true then tO Γ P st o.dst t (ev st x) fun d=>k (st.put o.dst d) else none
 | .store t x v=>if (Ju Γ t (ev st x)&&XI Γ t (ev st x))=true then AW P st t (ev st x) (ev st v) fun st=>k (st.put o.dst D.top) else none
 | .nilCheck x=>Gg (ev st x) fun d=>k (st.put o.dst d)
 | .binOp op t x y yt=>RP P st op t yt (ev st x) (ev st y) fun d=>k (st.put o.dst d)
 | .unOp op t x=>Sf (P:=P) op t (ev st x) fun d=>k (st.put o.dst d)
 | .convert s t x=>SK P st s t (ev st x) fun d=>k (st.put o.dst d)
 | .makeFunc fn f c=>xF fn (f.toList.map (ev st)) (c.toList.map (ev st)) fun d=>k (st.put o.dst d)
 | .makeSlice t l c=>nG Γ P st o.dst t (ev st l) (ev st c) fun st d=>k (st.put o.dst d)
 | .slice t x lo hi mx=>if (PK Γ o.dst (ev st x)&&Dh Γ o.dst (ev st x))=true then AZ P st t (ev st x) (lo.map (ev st)) (hi.map (ev st)) (mx.map (ev st)) fun st d=>k (st.put o.dst d) else none
 | .fieldAddr t x f=>uN P t (ev st x) f fun d=>k (st.put o.dst d)
 | .field t x f=>LJ P t (ev st x) f fun d=>k (st.put o.dst d)
 | .indexAddr t x ix=>vW Γ P st o.dst t (ev st x) (ev st ix) fun d=>k (st.put o.dst d)
 | .index t x ix=>LL P t (ev st x) (ev st ix) fun d=>k (st.put o.dst d)
 | .extract x i=>A1 (ev st x) i fun d=>k (st.put o.dst d)
 | .call { callee:=.builtin b,args,argTypes }=>if HZ Γ st.ae o.dst b (args.toList.map (ev st))=true then JP P st o.dst o.type b (args.toList.map (ev st)) argTypes.toList fun st d=>k (st.put o.dst d) else none
 | .call { callee:=.value f,args,.. }=>Dg Γ st o.dst (ev st f) (args.toList.map (ev st)) k
 | .makeMap t none=>A4 P st o.dst t fun st d=>k (st.put o.dst d)
 | .lookup t x ix ok=>G3 P st t (ev st x) (ev st ix) ok fun d=>k (st.put o.dst d)
 | .mapUpdate t m q v=>zY P st t (ev st m) (ev st q) (ev st v) fun st=>k (st.put o.dst D.top)
 | .insert t m q v=>zY P st t (ev st m) (ev st q) (ev st v) fun st=>k (st.put o.dst D.top)
 | .mapEntry t m q=>G4 P st t (ev st m) (ev st q) fun st d=>k (st.put o.dst d)
 | .entryStore t m q v=>AK P st t (ev st m) (ev st q) (ev st v) fun st=>k (st.put o.dst D.top)
 | _=>none
def RR:D:=.ee []
def Gh(d:D)(x y:Option R):Option R:=match d with
 | .ee []=>x
 | _=>y
def JQ(ops:Array Oper):List Nat→St→(St→Option R)→Option R
 | [],st,k=>k st
 | i::rest,st,k=>match ops[i]? with
  | none=>JQ ops rest st k
  | some o=>match o.guard with
   | none=>Sy P Γ o st fun st=>JQ ops rest st k
   | some (j,want)=>match (ops[j]?).bind (·.dst) with
    | none=>none
    | some t=>Gh (st.env.getD t D.top) (JQ ops rest (st.put o.dst RR) k) <| RG (st.env.getD t D.top) fun b=>
     bif b then
      (if want then Sy P Γ o (st.put (some t) (dB true)) fun st=>JQ ops rest st k else JQ ops rest ((st.put (some t) (dB true)).put o.dst RR) k)
     else
      (if want then JQ ops rest ((st.put (some t) (dB false)).put o.dst RR) k else Sy P Γ o (st.put (some t) (dB false)) fun st=>JQ ops rest st k)
end
section
variable {R:Type} {P:Program} {Γ:FuncId→Option Callee} {w0 w:World} {F Xc:Nat→Prop} {ρ0:cn} {ρ:nT} {st:St} {a:Act} {r:R} {Q:Exit→Act→World→Prop}
theorem Ta{o:Oper}{next:Act→World→Prop}{y:Value}{w':World}(h:(execOp a.eval o).run P w=.ok (.value y) w')(hn:next (a.put o.dst y) w'):o.wp P a w next Q:=by
 unfold Oper.wp
 rw[h]
 exact hn
theorem iP{o:Oper}{next:Act→World→Prop}{y:Value}{w':World}{ρ':nT}{st':St}{d:D}{k:St→Option R}(hrun:(execOp a.eval o).run P w=.ok (.value y) w')(hR:Rel w0 F Xc ρ0 ρ' st' a w')
 (hd:ay w' (XB st'.ae ρ' Xc) ρ' d y) (hk:k (st'.put o.dst d)=some r) (hn:∀ρ' st' a' w',Rel w0 F Xc ρ0 ρ' st' a' w'→k st'=some r→next a' w'):o.wp P a w next Q:=
 Ta hrun (hn ρ' _ _ _ (hR.put o.dst hd) hk)
theorem N2(h:Rel w0 F Xc ρ0 ρ st a w)(l:List Operand):∀(i:Nat) d v,(l.map (ev st))[i]?=some d→(l.map a.eval)[i]?=some v→ay w (XB st.ae ρ Xc) ρ d v:=fun i d v h1 h2=>by
 rw[eW] at h1 h2
 cases hx:l[i]? with
 | none=>simp[hx] at h1
 | some x=>simp only[hx,fH,cC] at h1 h2;subst h1;subst h2;exact h.ev x
theorem Ay(h:Rel w0 F Xc ρ0 ρ st a w)(o:Option Operand):MY w (XB st.ae ρ Xc) ρ (o.map (ev st)) (o.map a.eval):=by
 cases o with
 | none=>trivial
 | some x=>exact h.ev x
theorem XJ(h:Rel w0 F Xc ρ0 ρ st a w)(parts:Array (Nat×Operand)):
 (parts.toList.map fun p=>(p.1,ev st p.2)).length=(parts.map fun(i,x)=>(i,a.eval x)).toList.length ∧
 ∀(i:Nat) p q,(parts.toList.map fun p=>(p.1,ev st p.2))[i]?=some p→(parts.map fun(i,x)=>(i,a.eval x)).toList[i]?=some q→p.1=q.1∧ay w (XB st.ae ρ Xc) ρ p.2 q.2:=by
 refine⟨by simp,fun i p q h1 h2=>?_⟩
 rw[Array.toList_map] at h2
 rw[eW] at h1 h2
 cases hx:parts.toList[i]? with
 | none=>simp[hx] at h1
 | some x=>simp only[hx,fH,cC] at h1 h2;subst h1;subst h2;exact⟨rfl,h.ev x.2⟩
theorem JR{f:FuncId}{args:Array Value}(h:FI P f):(callFunc f args).run P w=.ok (.enter f args) w:=by
 obtain⟨fn,h1,h2,h3⟩:=h
 unfold callFunc
 simp only[bO,run_program,dM,h1]
 rw[aA (by rw[h3];simp),aA (by cases hb:fn.body <;> simp[hb] at h2 ⊢)]
 rfl
theorem Di{o:Oper}{next:Act→World→Prop}{f:FuncId}{vals:List Value}{k:St→D→Option R}{k':St→Option R}(hrun:(execOp a.eval o).run P w=.ok (.enter f vals.toArray) w)
 (hc:Calls P f vals.toArray w fun e w'=>∃v ρ' st' d,e=.returned v∧Rel w0 F Xc ρ0 ρ' st' a w'∧ay w' (XB st'.ae ρ' Xc) ρ' d v∧k st' d=some r)
 (hkk:∀st d,k st d=k' (st.put o.dst d)) (hn:∀ρ' st' a' w',Rel w0 F Xc ρ0 ρ' st' a' w'→k' st'=some r→next a' w'):o.wp P a w next Q:=by
 unfold Oper.wp
 rw[hrun]
 refine hc.mono fun e w' ⟨v,ρ',st',d,he,hR,hd,hk⟩=>?_
 subst he
 exact hn ρ' _ _ _ (hR.put o.dst hd) ((hkk st' d)▸hk)
theorem LS{o:Oper}{c:Call}{f:Operand}{next:Act→World→Prop}{k:St→Option R}(hΓ:je P Γ)(hG:Good P w0 F)(ho:o.op=.call c)(hc:c.callee=.value f)(h:Rel w0 F Xc ρ0 ρ st a w)
 (hk:nE Γ st o.dst (ev st f) (c.args.toList.map (ev st)) (fun st d=>k (st.put o.dst d))=some r) (hn:∀ρ' st' a' w',Rel w0 F Xc ρ0 ρ' st' a' w'→k st'=some r→next a' w'):o.wp P a w next Q:=by
 unfold nE at hk
 obtain⟨cc,hfe,hcc,hk1⟩:=vN (h.ev f) hk
 have hexec:execOp a.eval o=(do let d ←resolve a.eval c o.type;invoke d.target d.args):=by
  unfold execOp;rw[ho]
 split at hk1
 ·rename_i v
  split at hk1
  case h_2=>cases hk1
  rename_i g hg
  split at hk1
  case h_2=>cases hk1
  rename_i A hA
  obtain⟨hcall,hOK⟩:=hΓ g A hA
  have hv:a.eval f=.func (.func g) #[] #[]:=by
   rcases hcc with hcc | ⟨hcc,_⟩
   ·cases hcc
   ·rw[Rd.cq hcc]
    unfold vU at hg
    split at hg
    ·split at hg
     ·rename_i hemp
      simp only[cM,Array.isEmpty_iff] at hemp
      cases hg
      rw[hemp.1,hemp.2]
     ·cases hg
    ·cases hg
  have hinv:(execOp a.eval o).run P w=(callFunc g (c.args.toList.map a.eval).toArray).run P w:=by
   rw[hexec]
   unfold resolve
   simp only[hc,hv,Deferred.ofValue,bO,iL,dM,invoke]
   congr 2
   apply ZX
   simp
  split at hk1
  ·rename_i I hI
   obtain⟨y,d,h1,h2,h3⟩:=hOK.2.2 I hI _ _ _ (by simp) (N2 h _) hk1
   exact iP (by rw[hinv,h1]) h h2 h3 hn
  rename_i hext
  have hrun:(execOp a.eval o).run P w=.ok (.enter g (c.args.toList.map a.eval).toArray) w:=by rw[hinv,JR (hcall hext)]
  exact Di hrun (PG hG hOK h (by simp) (N2 h _) hk1) (fun st d=>rfl) hn
 ·rename_i g caps
  split at hk1
  case h_2=>cases hk1
  rename_i A hA
  obtain⟨hcall,hOK⟩:=hΓ g A hA
  split at hk1
  ·cases hk1
  rename_i hext
  replace hcall:=hcall hext
  rcases hcc with hcc | ⟨⟨hs,e1,e2,e3⟩,_⟩
  ·cases hcc
  ·have hrun:(execOp a.eval o).run P w=.ok (.enter g (c.args.toList.map a.eval++hs).toArray) w:=by
    rw[hexec]
    unfold resolve
    simp only[hc,e1,Deferred.ofValue,bO,iL,dM,invoke]
    rw[JR hcall]
    congr 2
    apply ZX
    simp
   refine Di hrun (PG hG hOK h (by simp[Df,e2]) (fun i d v h1 h2=>?_) hk1) (fun st d=>rfl) hn
   rw[sC] at h1 h2
   simp only[cS] at h1 h2
   split at h1
   ·rename_i hi
    rw[aC hi] at h2
    exact N2 h _ i d v h1 h2
   ·rename_i hi
    rw[aA hi] at h2
    simp only[Df,eW] at h1
    cases hp:caps[i-c.args.toList.length]? with
    | none=>rw[hp] at h1;cases h1
    | some p=>
     simp only[hp,fH,cC] at h1
     subst h1
     obtain⟨hh,f1,f2⟩:=e3 _ p v hp h2
     obtain⟨ba,g1,g2⟩:=f2
     exact .one (c:=.box p.1 p.2) ⟨hh,f1,ba,g1,g2⟩ (by rw[g2];rfl)
 ·cases hk1
theorem Dj{mx:Bool}{t:TypeId}{x y:D}{vx vy:Value}{X:Nat→Prop}{k:D→Option R}(hx:ay w X ρ x vx)(hy:ay w X ρ y vy)(hk:PI P mx t x y k=some r)(ts:Array TypeId)(ty:TypeId):
 ∃v d,(if mx then Builtin.max_ ts ty #[vx,vy] else Builtin.min_ ts ty #[vx,vy]).run P w=.ok v w∧ay w X ρ d v∧k d=some r:=by
 unfold PI at hk
 split at hk
 ·obtain⟨a,rfl,hk1⟩:=AV hx hk
  obtain⟨b,rfl,hk2⟩:=AV hy hk1
  refine⟨_,_,?_,.int _ _,hk2⟩
  unfold RQ
  cases mx with
  | true=>exact Lib.run_max_ints w ts ty _ _ a b
  | false=>exact Lib.run_min_ints w ts ty _ _ a b
 ·obtain⟨a,rfl,hk1⟩:=DC hx hk
  obtain⟨b,rfl,hk2⟩:=DC hy hk1
  refine⟨_,_,?_,.str _,hk2⟩
  unfold Yd
  cases mx with
  | true=>
   have hb:∀q:Bool,(asBool (.bool q)).run P w=.ok q w:=fun _=>rfl
   simp[Builtin.max_,Builtin.max2,Op.stringOp,Oe,hb]
  | false=>
   have hb:∀q:Bool,(asBool (.bool q)).run P w=.ok q w:=fun _=>rfl
   simp[Builtin.min_,Builtin.min2,Op.stringOp,Oe,Ob,hb]
 ·cases hk
theorem Az{o:Oper}{k:St→Option R}{next:Act→World→Prop}(hΓ:je P Γ)(hG:Good P w0 F)(h:Rel w0 F Xc ρ0 ρ st a w)(hk:Sy P Γ o st k=some r)
 (hn:∀ρ' st' a' w',Rel w0 F Xc ρ0 ρ' st' a' w'→k st'=some r→next a' w'):o.wp P a w next Q:=by
 unfold Sy at hk
 split at hk
 ·rename_i x ho
  exact iP (y:=a.eval x) (by unfold execOp;rw[ho];rfl) h (h.ev x) hk hn
 ·rename_i x ho
  exact iP (y:=a.eval x) (by unfold execOp;rw[ho];rfl) h (h.ev x) hk hn
 ·rename_i c x y ho
  obtain⟨b,hb,hk1⟩:=B8 (h.ev c) hk
  cases b with
  | true=>exact iP (y:=a.eval x) (by unfold execOp;rw[ho];dsimp only;rw[hb];rfl) h (h.ev x) hk1 hn
  | false=>exact iP (y:=a.eval y) (by unfold execOp;rw[ho];dsimp only;rw[hb];rfl) h (h.ev y) hk1 hn
 ·rename_i e ho
  unfold UZ at hk
  have hk':∃k',uM P st o.dst e k'=some r∧∀s d,k' s d=some r→k (s.put o.dst d)=some r:=by
   split at hk
   ·exact⟨_,hk,fun _ _ h=>h⟩
   ·split at hk
    case isFalse=>cases hk
    exact⟨_,hk,fun s d h=>by
     split at h
     ·exact h
     ·cases h⟩
  obtain⟨k',hk,hkk⟩:=hk'
  obtain⟨y,w',ρ',st',d,h1,h2,h3,h4⟩:=Fr h hk
  have h4:=hkk _ _ h4
  exact iP (by unfold execOp;rw[ho];simp only[bO,h1,dM];rfl) h2 h3 h4 hn
 ·rename_i e x ho
  obtain⟨y,w',ρ',st',d,h1,h2,h3,h4⟩:=Ol (P:=P) (e:=e) h (h.ev x) hk
  exact iP (by unfold execOp;rw[ho];simp only[bO,h1,dM];rfl) h2 h3 h4 hn
 ·rename_i t parts ho
  obtain⟨p1,p2⟩:=XJ h parts
  obtain⟨y,d,h1,h3,h4⟩:=Fs p1 p2 hk
  exact iP (by unfold execOp;rw[ho];simp only[bO,h1,dM];rfl) h h3 h4 hn
 ·rename_i t len parts ho
  split at hk
  case isFalse=>cases hk
  obtain⟨p1,p2⟩:=XJ h parts
  obtain⟨y,w',ρ',st',d,h1,h2,h3,h4⟩:=O8 h p1 p2 hk
  exact iP (by unfold execOp;rw[ho];simp only[bO,h1,dM];rfl) h2 h3 h4 hn
 ·rename_i t x ho
  split at hk
  case isFalse=>cases hk
  unfold tO at hk
  have hk:vQ P st t (ev st x) (fun d=>k (st.put o.dst d))=some r:=by
   split at hk
   ·exact hk
   ·split at hk
    ·exact hk
    ·cases hk
  obtain⟨d,y,h1,h3,h4⟩:=WT h (h.ev x) hk
  exact iP (by unfold execOp;rw[ho];simp only[bO,h1,dM];rfl) h h3 h4 hn
 ·rename_i t x v ho
  split at hk
  case isFalse=>cases hk
  obtain⟨st',w',h1,h2,h3⟩:=Fp h (h.ev x) (h.ev v) hk
  unfold Oper.wp
  have hrun:(execOp a.eval o).run P w=.ok .skip w':=by unfold execOp;rw[ho];simp only[bO,h1,dM];rfl
  rw[hrun]
  exact hn ρ _ _ _ (h2.put o.dst (.top_ _)) h3
 ·rename_i x ho
  unfold Gg at hk
  obtain⟨c,hx,hc,hk1⟩:=vN (h.ev x) hk
  have hr:=h.ev x
  have key:∀(aa:Addr),a.eval x=.pointer (some aa)→(execOp a.eval o).run P w=.ok (.value (a.eval x)) w:=fun aa e=>by
   unfold execOp;rw[ho];dsimp only;rw[e];rfl
  split at hk1
  ·rcases hc with hc | ⟨⟨v,_,ba,_,e⟩,_⟩
   ·cases hc
   ·exact iP (key _ e) h hr hk1 hn
  ·rcases hc with hc | ⟨⟨v,_,ba,_,e⟩,_⟩
   ·cases hc
   ·exact iP (key _ e) h hr hk1 hn
  ·rcases hc with hc | ⟨⟨ba,e,_⟩,_⟩
   ·cases hc
   ·exact iP (key _ e) h hr hk1 hn
  ·cases hk1
 ·rename_i op t x y yt ho
  obtain⟨d,v,h1,h3,h4⟩:=Ox (xo:=x) (yo:=y) h (h.ev x) (h.ev y) hk
  exact iP (by unfold execOp;rw[ho];simp only[bO] at h1 ⊢;simp only[h1,dM];rfl) h h3 h4 hn
 ·rename_i op t x ho
  obtain⟨d,v,h1,h3,h4⟩:=Sg (P:=P) (w:=w) (h.ev x) hk
  exact iP (by unfold execOp;rw[ho];simp only[bO,h1,dM];rfl) h h3 h4 hn
 ·rename_i s t x ho
  obtain⟨y,w',d,h1,h2,h3,h4⟩:=Jk h (h.ev x) hk
  exact iP (by unfold execOp;rw[ho];simp only[bO,h1,dM];rfl) (h.world h2) h3 h4 hn
 ·rename_i fn f c ho
  obtain⟨y,d,h1,h3,h4⟩:=UU (P:=P) (w:=w) (X:=XB st.ae ρ Xc) (ρ:=ρ) (vf:=f.map a.eval) (vc:=c.map a.eval) (by simp) (by simp) (fun i d v e1 e2=>by
   rw[Array.toList_map] at e2
   exact N2 h _ i d v e1 e2) hk
  exact iP (by unfold execOp;rw[ho];simp only[bO,h1,dM];rfl) h h3 h4 hn
 ·rename_i t l c ho
  have hk9:∃y w' ρ' st' d,(Instr.makeSlice t (a.eval l) (a.eval c)).run P w=.ok y w'∧Rel w0 F Xc ρ0 ρ' st' a w'∧ay w' (XB st'.ae ρ' Xc) ρ' d y∧(fun st d=>k (st.put o.dst d)) st' d=some r:=by
   have hk8:jH Γ P st o.dst t (ev st l) (ev st c) (fun st d=>k (st.put o.dst d))=some r:=by
    unfold nG at hk
    split at hk
    ·exact hk
    ·split at hk
     ·exact hk
     ·cases hk
   unfold jH at hk8
   split at hk8
   ·exact Al h (h.ev l) (h.ev c) hk8
   ·exact RL h (h.ev l) (h.ev c) hk8
  obtain⟨y,w',ρ',st',d,h1,h2,h3,h4⟩:=hk9
  exact iP (by unfold execOp;rw[ho];simp only[bO,h1,dM];rfl) h2 h3 h4 hn
 ·rename_i t x lo hi mx ho
  split at hk
  case isFalse=>cases hk
  obtain⟨y,st',d,h1,h2,h3,h4⟩:=Gq (P:=P) (w:=w) h (h.ev x) (Ay h lo) (Ay h hi) (Ay h mx) hk
  exact iP (by unfold execOp;rw[ho];simp only[bO,h1,dM];rfl) h2 h3 h4 hn
 ·rename_i t x f ho
  obtain⟨y,d,h1,h3,h4⟩:=RJ (P:=P) (h.ev x) hk
  exact iP (by unfold execOp;rw[ho];simp only[bO,h1,dM];rfl) h h3 h4 hn
 ·rename_i t x f ho
  obtain⟨y,d,h1,h3,h4⟩:=Ft (P:=P) (h.ev x) hk
  exact iP (by unfold execOp;rw[ho];simp only[bO,h1,dM];rfl) h h3 h4 hn
 ·rename_i t x ix ho
  unfold vW at hk
  have hk:kE P st t (ev st x) (ev st ix) (fun d=>k (st.put o.dst d))=some r:=by
   split at hk
   ·exact hk
   ·split at hk
    ·exact hk
    ·cases hk
  obtain⟨y,d,h1,h3,h4⟩:=RK h (h.ev x) (h.ev ix) hk
  exact iP (by unfold execOp;rw[ho];simp only[bO,h1,dM];rfl) h h3 h4 hn
 ·rename_i t x ix ho
  obtain⟨y,d,h1,h3,h4⟩:=Fu (P:=P) (h.ev x) (h.ev ix) hk
  exact iP (by unfold execOp;rw[ho];simp only[bO,h1,dM];rfl) h h3 h4 hn
 ·rename_i x i ho
  obtain⟨y,d,h1,h3,h4⟩:=W3 (P:=P) (h.ev x) hk
  exact iP (by unfold execOp;rw[ho];simp only[bO,h1,dM];rfl) h h3 h4 hn
 ·rename_i b args ts ho
  split at hk
  case isFalse=>cases hk
  rename_i hgq
  clear hgq
  unfold JP at hk
  have hexec:execOp a.eval o=builtin b ts o.type (args.map fun | .const _=>true | _=>false) (args.map a.eval):=by
   unfold execOp;rw[ho];rfl
  split at hk
  ·rename_i x t hargs hts
   have e1:∃xo,args=#[xo]∧ev st xo=x:=by
    obtain⟨l⟩:=args
    match l,hargs with
    | [xo],hargs=>simp at hargs;exact⟨xo,rfl,hargs⟩
   obtain⟨xo,rfl,rfl⟩:=e1
   have e2:ts=#[t]:=by obtain⟨l⟩:=ts;simp at hts;rw[hts]
   subst e2
   obtain⟨y,d,h1,h3,h4⟩:=Oo (ty:=o.type) h (h.ev xo) hk
   refine iP (y:=y) ?_ h h3 h4 hn
   rw[hexec]
   simp only[builtin,OV,AU,IJ,bO,h1,dM]
   rfl
  ·rename_i s x t u hargs hts
   have e1:∃so xo,args=#[so,xo]∧ev st so=s∧ev st xo=x:=by
    obtain⟨l⟩:=args
    match l,hargs with
    | [so,xo],hargs=>simp at hargs;exact⟨so,xo,rfl,hargs⟩
   obtain⟨so,xo,rfl,rfl,rfl⟩:=e1
   have e2:ts=#[t,u]:=by obtain⟨l⟩:=ts;simp at hts;rw[hts]
   subst e2
   obtain⟨y,w',ρ',st',d,h1,h2,h3,h4⟩:=Aj (ty:=o.type) h (h.ev so) (h.ev xo) hk
   refine iP (y:=y) ?_ h2 h3 h4 hn
   rw[hexec]
   simp only[builtin,OV,AU,IJ,bO,h1,dM]
   rfl
  ·rename_i s x t u hargs hts
   have e1:∃so xo,args=#[so,xo]∧ev st so=s∧ev st xo=x:=by
    obtain⟨l⟩:=args
    match l,hargs with
    | [so,xo],hargs=>simp at hargs;exact⟨so,xo,rfl,hargs⟩
   obtain⟨so,xo,rfl,rfl,rfl⟩:=e1
   have e2:ts=#[t,u]:=by obtain⟨l⟩:=ts;simp at hts;rw[hts]
   subst e2
   obtain⟨y,w',st',d,h1,h2,h3,h4⟩:=Iw (u:=u) (ty:=o.type) h (h.ev so) (h.ev xo) hk
   refine iP (y:=y) ?_ h2 h3 h4 hn
   rw[hexec]
   simp only[builtin,OV,AU,IJ,bO,h1,dM]
   rfl
  ·rename_i x y t u hargs hts
   have e1:∃so xo,args=#[so,xo]∧ev st so=x∧ev st xo=y:=by
    obtain⟨l⟩:=args
    match l,hargs with
    | [so,xo],hargs=>simp at hargs;exact⟨so,xo,rfl,hargs⟩
   obtain⟨so,xo,rfl,rfl,rfl⟩:=e1
   obtain⟨v,d,h1,h3,h4⟩:=Dj (h.ev so) (h.ev xo) hk ts o.type
   refine iP (y:=v) ?_ h h3 h4 hn
   rw[hexec]
   simp only[pB,iK] at h1
   simp only[builtin,OV,AU,IJ,bO,h1,dM]
   rfl
  ·rename_i x y t u hargs hts
   have e1:∃so xo,args=#[so,xo]∧ev st so=x∧ev st xo=y:=by
    obtain⟨l⟩:=args
    match l,hargs with
    | [so,xo],hargs=>simp at hargs;exact⟨so,xo,rfl,hargs⟩
   obtain⟨so,xo,rfl,rfl,rfl⟩:=e1
   obtain⟨v,d,h1,h3,h4⟩:=Dj (h.ev so) (h.ev xo) hk ts o.type
   refine iP (y:=v) ?_ h h3 h4 hn
   rw[hexec]
   simp only[eP] at h1
   simp only[builtin,OV,AU,IJ,bO,h1,dM]
   rfl
  ·cases hk
 ·rename_i f args ts ho
  unfold Dg at hk
  split at hk
  case isFalse=>cases hk
  unfold Av at hk
  split at hk
  ·exact LS (f:=f) hΓ hG ho rfl h hk hn
  ·rename_i B _
   split at hk
   ·exact LS (f:=f) hΓ hG ho rfl h hk hn
   split at hk
   ·exact LS (f:=f) (k:=fun s:St=>if WM (E5 Γ) st.ae s.ae=true then k s else none) hΓ hG ho rfl h hk fun ρ' st' a' w' hR hk'=>hn ρ' st' a' w' hR (by
     split at hk'
     ·exact hk'
     ·cases hk')
   ·cases hk
 ·rename_i t ho
  obtain⟨y,w',ρ',st',d,h1,h2,h3,h4⟩:=XD h hk
  exact iP (by unfold execOp;rw[ho];simp only[Option.map_none,bO,h1,dM];rfl) h2 h3 h4 hn
 ·rename_i t x ix ok ho
  obtain⟨y,d,h1,h3,h4⟩:=Ap h (h.ev x) (h.ev ix) hk
  exact iP (by unfold execOp;rw[ho];simp only[bO,h1,dM];rfl) h h3 h4 hn
 ·rename_i t m q v ho
  obtain⟨st',w',h1,h2,h3⟩:=PF h (h.ev m) (h.ev q) (h.ev v) hk
  unfold Oper.wp
  have hrun:(execOp a.eval o).run P w=.ok .skip w':=by unfold execOp;rw[ho];simp only[bO,h1,dM];rfl
  rw[hrun]
  exact hn ρ _ _ _ (h2.put o.dst (.top_ _)) h3
 ·rename_i t m q v ho
  obtain⟨st',w',h1,h2,h3⟩:=PF h (h.ev m) (h.ev q) (h.ev v) hk
  unfold Oper.wp
  have hrun:(execOp a.eval o).run P w=.ok .skip w':=by unfold execOp;rw[ho];simp only[bO,h1,dM];rfl
  rw[hrun]
  exact hn ρ _ _ _ (h2.put o.dst (.top_ _)) h3
 ·rename_i t m q ho
  obtain⟨y,st',w',d,h1,h2,h3,h4⟩:=Aq h (h.ev m) (h.ev q) hk
  exact iP (by unfold execOp;rw[ho];simp only[bO,h1,dM];rfl) h2 h3 h4 hn
 ·rename_i t m q v ho
  obtain⟨st',w',h1,h2,h3⟩:=UW h (h.ev m) (h.ev q) (h.ev v) hk
  unfold Oper.wp
  have hrun:(execOp a.eval o).run P w=.ok .skip w':=by unfold execOp;rw[ho];simp only[bO,h1,dM];rfl
  rw[hrun]
  exact hn ρ _ _ _ (h2.put o.dst (.top_ _)) h3
 ·cases hk
end
section
variable {R:Type} {P:Program} {Γ:FuncId→Option Callee} {w0 w:World} {F Xc:Nat→Prop} {ρ0:cn} {ρ:nT} {st:St} {a:Act} {r:R} {Q:Exit→Act→World→Prop}
theorem Rel.slot(h:Rel w0 F Xc ρ0 ρ st a w){t:Nat}{d:D}(hd:∀y,a.tmps[t]?=some y→ay w (XB st.ae ρ Xc) ρ d y):Rel w0 F Xc ρ0 ρ (st.put (some t) d) a w:=by
 refine⟨by simpa[St.put] using h.len,fun i d' y h1 h2=>?_,h.ae,h.sep,h.own,h.par,h.defers,h.frame,h.jo,h.xc,h.ext⟩
 simp only[St.put,qU] at h1
 by_cases hit:t=i
 ·subst hit
  rw[aC rfl] at h1
  split at h1
  ·cases h1;exact hd y h2
  ·cases h1
 ·rw[aA hit] at h1
  exact h.env i d' y h1 h2
theorem Ba{X:Nat→Prop}:ay w X ρ RR undef:=⟨#[],rfl,rfl,fun i s y h=>by cases h⟩
theorem zZ{ops:Array Oper}(hΓ:je P Γ)(hG:Good P w0 F):∀(l:List Nat) {ρ:nT} {st:St} {a:Act} {w:World} {k:St→Option R},Rel w0 F Xc ρ0 ρ st a w→JQ P Γ ops l st k=some r →
 (∀ρ' st' a' w',Rel w0 F Xc ρ0 ρ' st' a' w'→k st'=some r→Q .normal a' w')→wpOps P ops Q l a w
 | [],ρ,st,a,w,k,h,hk,hn=>hn ρ st a w h hk
 | i::rest,ρ,st,a,w,k,h,hk,hn=>by
  simp only[JQ] at hk
  simp only[wpOps]
  split at hk
  ·rename_i ho
   simp only[ho]
   exact zZ hΓ hG rest h hk hn
  ·rename_i o ho
   simp only[ho]
   split at hk
   ·rename_i hg
    have hw:Region.wanted o (yielded ops a.tmps)=true:=by simp[Region.wanted,hg]
    rw[aC hw]
    exact .inl (Az hΓ hG h hk fun ρ' st' a' w' hR hk'=>zZ hΓ hG rest hR hk' hn)
   ·rename_i j want hg
    split at hk
    case h_1=>cases hk
    rename_i t hdst
    have hr:=h.ev (.tmp t)
    have hev:ev st (.tmp t)=st.env.getD t D.top:=rfl
    rw[hev] at hr
    unfold Gh at hk
    split at hk
    case h_1=>
     rename_i hoff
     rw[hoff] at hr
     obtain⟨vs,hvs,hl,_⟩:=hr
     have hu:a.eval (.tmp t)=.tuple #[]:=by
      rw[hvs]
      have:vs=#[]:=by simpa using hl
      rw[this]
     have hw:Region.wanted o (yielded ops a.tmps)=false:=by
      have hy:yielded ops a.tmps j=none:=by
       simp only[yielded,hdst,uX]
       cases hc:a.tmps[t]? with
       | none=>rfl
       | some y=>
        have:a.eval (.tmp t)=y:=by simp[Act.eval,MN,hc]
        rw[this] at hu
        subst hu;rfl
      simp[Region.wanted,hg,hy]
     rw[aA (by rw[hw];decide)]
     exact zZ hΓ hG rest (h.put o.dst Ba) hk hn
    obtain⟨b,hb,hk1⟩:=B8 hr hk
    have hlt:t<a.tmps.size:=by
     apply FA
     intro hge
     have:a.eval (.tmp t)=undef:=by simp[Act.eval,MN,Array.getElem?_eq_none (Nat.le_of_not_lt hge)]
     rw[this] at hb
     cases hb
    have hat:a.tmps[t]?=some (.bool b):=by
     have:a.eval (.tmp t)=a.tmps[t]:=by simp[Act.eval,MN,vL hlt]
     rw[vL hlt,←this,hb]
    have hw:Region.wanted o (yielded ops a.tmps)=(b==want):=by
     simp only[Region.wanted,hg,yielded,hdst,uX,hat]
     cases b <;> cases want <;> rfl
    have hslot:Rel w0 F Xc ρ0 ρ (st.put (some t) (dB b)) a w:=h.slot fun y hy=>by
     rw[hat] at hy;cases hy;exact .bool b
    cases b with
    | true=>
     simp only[bF] at hk1
     cases want with
     | true=>
      rw[aC rfl] at hk1
      rw[aC (show Region.wanted o (yielded ops a.tmps)=true from hw)]
      exact .inl (Az hΓ hG hslot hk1 fun ρ' st' a' w' hR hk'=>zZ hΓ hG rest hR hk' hn)
     | false=>
      rw[aA (by decide)] at hk1
      rw[aA (by rw[hw];decide)]
      exact zZ hΓ hG rest (hslot.put o.dst Ba) hk1 hn
    | false=>
     simp only[bV] at hk1
     cases want with
     | true=>
      rw[aC rfl] at hk1
      rw[aA (by rw[hw];decide)]
      exact zZ hΓ hG rest (hslot.put o.dst Ba) hk1 hn
     | false=>
      rw[aA (by decide)] at hk1
      rw[aC (show Region.wanted o (yielded ops a.tmps)=true from hw)]
      exact .inl (Az hΓ hG hslot hk1 fun ρ' st' a' w' hR hk'=>zZ hΓ hG rest hR hk' hn)
end
inductive Sh where
 | int (k:IntKind)
 | bool
 | str
 | sl (n:Nat)
 | row (e:TypeId) (n:Nat) (key:Nat)
 | rr (e e2:TypeId) (n:Nat) (key:Nat)
 | tree
 | lit (c:C)
def Sh.ty:Sh→Type
 | .int _=>Int
 | .bool=>Bool
 | .str=>ByteArray
 | .sl _=>List T
 | .row _ _ _=>List T
 | .rr _ _ _ _=>List (List T)
 | .tree=>T
 | .lit _=>Unit
def yX:List Sh→Type
 | []=>Unit
 | s::l=>s.ty×yX l
inductive It where
 | slot (i:Nat)
 | au (i n:Nat)
 | box (k n:Nat)
 | cv (i k n:Nat)
structure Hint where
 items:List It
 af:List Sh
def SO(σ:List (Nat×Nat)):List (Nat×Nat)→List (Nat×Nat)→Bool
 | [],[]=>true
 | p::l,q::m=>σ.contains (p.1,q.1)&&p.2==q.2&&SO σ l m
 | _,_=>false
def C.same(σ:List (Nat×Nat)):C→C→Bool
 | _,.top=>true
 | .box k j,.box k' j'=>σ.contains (k,k')&&j==j'
 | .row k,.row k'=>σ.contains (k,k')
 | .fn f l,.fn f' l'=>f==f'&&SO σ l l'
 | .self u,.self u'=>u==u'
 | .t (.v v),.t (.v v')=>match vU v,vU v' with
  | some f,some f'=>f==f'
  | _,_=>false
 | _,_=>false
section
variable {R:Type}
@[irreducible] def vX(m:Nat)(l:List (List T)):List T:=l.map (T.sl m)
def JS(σ:List (Nat×Nat))(ae:List O)(s:Sh)(c:C)(f:s.ty→List (Option Nat)→List Nat→Option R):Option R:=match s with
 | .int k=>match c with
  | .t x=>ob (x.int? k) fun n=>f n [] []
  | _=>none
 | .bool=>match c with
  | .t x=>ob x.bool? fun b=>f b [] []
  | _=>none
 | .str=>match c with
  | .t x=>ob x.ik fun s=>f s [] []
  | _=>none
 | .sl n=>match c with
  | .t x=>ob (x.il n) fun l=>f l [] []
  | .row key=>match ae[key]? with
   | some (.row _ _ n' es)=>if n'=n then f es [] [key] else none
   | some (.mp _ _ n' es)=>if n'=n then f es [] [key] else none
   | _=>none
  | .cut key m lo len _=>match ae[key]? with
   | some (.row _ _ n' es)=>if n'=n∧m=n then f (oC es lo len) [] [key] else none
   | _=>none
  | .rk k0=>match BO ae 64 k0 with
   | some K=>match ae[K]? with
    | some (.rr none _ _ m l)=>if n=1 then f (vX m l) [] [K] else none
    | _=>none
   | none=>none
  | _=>none
 | .rr e e2 n _=>match c with
  | .rk k0=>match BO ae 64 k0 with
   | some K=>match ae[K]? with
    | some (.rr none e' e2' n' l)=>if e'=e∧e2'=e2∧n'=n then f l [some K] [] else none
    | _=>none
   | none=>none
  | _=>none
 | .row e n _=>match c with
  | .t (.v (.slice none 0 0))=>if 0<n∧n<1000000000 then f [] [none] [] else none
  | .row key=>match ae[key]? with
   | some (.row false e' n' es)=>if n<1000000000∧e'=e∧n'=n then f es [some key] [] else none
   | some (.mp false e' n' es)=>if 1000000000≤n∧e'=e∧n'=n then f es [some key] [] else none
   | _=>none
  | _=>none
 | .tree=>match c with
  | .t x=>f x [] []
  | _=>none
 | .lit c'=>if c.same σ c' then f () [] [] else none
def LT(σ:List (Nat×Nat))(ae:List O):(l:List Sh)→List C→(yX l→List (Option Nat)→List Nat→Option R)→Option R
 | [],[],f=>f () [] []
 | s::l,c::cs,f=>JS σ ae s c fun x rs zs=>LT σ ae l cs fun t rs' zs'=>f (x,t) (rs++rs') (zs++zs')
 | _,_,_=>none
end
def Oy:(s:Sh)→s.ty→C
 | .int k,n=>.t (.v (.int k n))
 | .bool,b=>.t (.v (.bool b))
 | .str,s=>.t (.v (.string s))
 | .sl n,l=>.t (.sl n l)
 | .row _ _ key,_=>.row key
 | .rr _ _ _ key,_=>.rk key
 | .tree,x=>.t x
 | .lit c,_=>c
def CD:(l:List Sh)→yX l→List C
 | [],_=>[]
 | s::l,t=>Oy s t.1::CD l t.2
def kF:(l:List Sh)→yX l→List (Nat×O)
 | [],_=>[]
 | .row e n key::l,t=>(key,SC e n t.1)::kF l t.2
 | .rr e e2 n key::l,t=>(key,.rr none e e2 n t.1)::kF l t.2
 | _::l,t=>kF l t.2
def iU(st:St):List It→Option (List C)
 | []=>some []
 | .slot i::l=>match st.env.getD i D.top,iU st l with
  | .s (.c c),some cs=>some (c::cs)
  | _,_=>none
 | .au i n::l=>match st.env.getD i D.top,iU st l with
  | .s (.agg a),some cs=>if a.length=n then some (a++cs) else none
  | _,_=>none
 | .box k n::l=>match st.ae[k]?,iU st l with
  | some (.box a),some cs=>if a.length=n then some (a++cs) else none
  | _,_=>none
 | .cv i _ n::l=>match st.env.getD i D.top,iU st l with
  | .s (.c (.box key 0)),some cs=>match st.ae[key]? with
   | some (.box a)=>if a.length=n then some (a++cs) else none
   | _=>none
  | _,_=>none
def eS(st:St):List It→List (Nat×Nat)
 | []=>[]
 | .box k _::l=>(k,k)::eS st l
 | .cv i k _::l=>match st.env.getD i D.top with
  | .s (.c (.box key 0))=>(key,k)::eS st l
  | _=>eS st l
 | _::l=>eS st l
def gG:List Sh→List C→List (Nat×Nat)
 | .row _ _ key::l,.row k::cs=>(k,key)::gG l cs
 | _::l,_::cs=>gG l cs
 | _,_=>[]
def fF:List It→List C→St→St
 | [],_,st=>st
 | .slot i::l,cs,st=>fF l cs.tail { st with env:=st.env.set i (.s (.c (cs.headD .top))) }
 | .au i n::l,cs,st=>fF l (cs.drop n) { st with env:=st.env.set i (.s (.agg (cs.take n))) }
 | .box k n::l,cs,st=>fF l (cs.drop n) { st with ae:=st.ae.set k (.box (cs.take n)) }
 | .cv i k n::l,cs,st=>fF l (cs.drop n) { st with env:=st.env.set i (.s (.c (.box k 0))),ae:=st.ae.set k (.box (cs.take n)) }
def qI(ae:List O):List (Nat×O)→List O
 | []=>ae
 | p::l=>qI (ae.set p.1 p.2) l
def fG:List It→List Nat
 | []=>[]
 | .box k _::l=>k::fG l
 | .cv _ k _::l=>k::fG l
 | _::l=>fG l
def dC:List Sh→List Nat
 | []=>[]
 | .row _ _ key::l=>key::dC l
 | .rr _ _ _ key::l=>key::dC l
 | _::l=>dC l
def mW(np n m:Nat):St:={ np:=np,env:=List.replicate n D.top,ae:=List.replicate np .dead++List.replicate (m-np) .fresh }
def fN(h:Hint)(np n m:Nat)(t:yX h.af):St:=
 let st:=fF h.items (CD h.af t) (mW np n m)
 { st with ae:=qI st.ae (kF h.af t) }
def Hint.ok(h:Hint)(m:Nat):Bool:=
 let bs:=fG h.items
 let rs:=dC h.af
 (bs++rs).all (fun k=>k<m)&&decide ((bs++rs).Nodup)
def U1(np:Nat):List Nat→List (Option Nat)→Bool
 | k::ks,s::ss=>(decide (np≤k)||s==some k)&&U1 np ks ss
 | _,_=>true
def H1{R:Type}(h:Hint)(st:St)(f:yX h.af→Option R):Option R:=match iU st h.items with
 | some cs=>let bp:=eS st h.items
  LT (bp++gG h.af cs) st.ae h.af cs fun t rs zs=>if h.ok st.ae.length&&U1 st.np (dC h.af) rs&&bp.all (fun p=>p.1==p.2||decide (st.np≤p.2))&&decide ((bp.map (·.1)).Nodup)&&decide (rs.filterMap id).Nodup&&zs.all (fun z=>!rs.contains (some z))&&decide (st.np≤st.ae.length) then f t else none
 | none=>none
section
variable {R:Type} {w0 w:World} {F Xc X'':Nat→Prop} {ρ0:cn} {ρ ρ'':nT} {st:St} {a:Act} {r:R}
def FO:List Nat→List (Option Nat)→Nat→Option (Option Nat)
 | k::ks,s::ss,j=>if k=j then some s else FO ks ss j
 | _,_,_=>none
def Tc:Value:=.slice none 0 0
def Xa(ρ:nT):Option Nat→Option Value
 | some k=>ρ k
 | none=>some Tc
theorem SQ:∀(ks:List Nat) (ss:List (Option Nat)) (i:Nat) (k:Nat) (s:Option Nat),ks.Nodup→ks[i]?=some k→ss[i]?=some s→FO ks ss k=some s
 | [],_,i,k,s,_,h,_=>by simp at h
 | k'::ks,[],i,k,s,_,_,h=>by simp at h
 | k'::ks,s'::ss,i,k,s,hn,h1,h2=>by
  obtain⟨hk,hn'⟩:=cY.1 hn
  cases i with
  | zero=>simp at h1 h2;subst h1;subst h2;simp[FO]
  | succ i=>
   simp at h1 h2
   have:k'≠k:=fun e=>hk (e▸mS h1)
   simp only[FO,aA this]
   exact SQ ks ss i k s hn' h1 h2
theorem PM:∀(ks:List Nat) (ss:List (Option Nat)) (k:Nat) (s:Option Nat),FO ks ss k=some s→∃i:Nat,ks[i]?=some k∧ss[i]?=some s
 | [],_,k,s,h=>by simp[FO] at h
 | k'::ks,[],k,s,h=>by simp[FO] at h
 | k'::ks,s'::ss,k,s,h=>by
  simp only[FO] at h
  split at h
  ·rename_i e;cases h;exact⟨0,by simp[e],rfl⟩
  ·obtain⟨i,h1,h2⟩:=PM ks ss k s h
   exact⟨i+1,by simpa using h1,by simpa using h2⟩
structure ju (ρ ρ'':nT) (X X'':Nat→Prop) (ae:List O) (keys:List Nat) (src:List (Option Nat)) (zs:List Nat) (σ:List (Nat×Nat)):Prop where
 sub:∀b,X'' b→X b
 len:keys.length=src.length
 rows:∀(i:Nat) k s,keys[i]?=some k→src[i]?=some s→ρ'' k=Xa ρ s
 trees:∀z∈zs,∀v b,ρ z=some v→de v b→¬X'' b
 lit:∀p∈σ,∀v,ρ p.1=some v→ρ'' p.2=some v
theorem PO{v:Value}{f:FuncId}(h:vU v=some f):v=.func (.func f) #[] #[]:=by
 unfold vU at h
 split at h
 ·split at h
  ·rename_i hemp
   simp only[cM,Array.isEmpty_iff] at hemp
   cases h
   rw[hemp.1,hemp.2]
  ·cases h
 ·cases h
theorem XL{σ:List (Nat×Nat)}(hl:∀p∈σ,∀v,ρ p.1=some v→ρ'' p.2=some v):∀{l m:List (Nat×Nat)} {vs:List Value},SO σ l m=true→vs.length=l.length →
 (∀(i:Nat) p v,l[i]?=some p→vs[i]?=some v→∃h,ρ p.1=some h∧O0 h p.2 v)→vs.length=m.length∧∀(i:Nat) p v,m[i]?=some p→vs[i]?=some v→∃h,ρ'' p.1=some h∧O0 h p.2 v
 | [],[],vs,_,hv,h=>⟨hv,fun i p v h1 _=>by simp at h1⟩
 | p::l,q::m,[],_,hv,h=>by simp at hv
 | p::l,q::m,v::vs,hc,hv,h=>by
  simp only[SO,cM,HP,OH] at hc
  obtain⟨⟨h1,h2⟩,h3⟩:=hc
  obtain⟨r1,r2⟩:=XL hl h3 (vs:=vs) (by simpa using hv) (fun i p v e1 e2=>h (i+1) p v (by simpa using e1) (by simpa using e2))
  refine⟨by simp[r1],fun i p' v' e1 e2=>?_⟩
  cases i with
  | zero=>
   simp at e1 e2
   subst e1;subst e2
   obtain⟨hh,f1,f2⟩:=h 0 p v rfl rfl
   exact⟨hh,hl _ h1 hh f1,by rw[←h2];exact f2⟩
  | succ i=>exact r2 i p' v' (by simpa using e1) (by simpa using e2)
 | [],_::_,_,hc,_,_=>by simp[SO] at hc
 | _::_,[],_,hc,_,_=>by simp[SO] at hc
theorem Pa{X:Nat→Prop}{σ:List (Nat×Nat)}{c c':C}{y:Value}(hX:∀b,X'' b→X b)(hl:∀p∈σ,∀v,ρ p.1=some v→ρ'' p.2=some v)(hs:c.same σ c'=true)(h:ch w X ρ c y):ch w X'' ρ'' c' y:=by
 unfold C.same at hs
 split at hs
 ·exact .inl rfl
 ·simp only[cM,HP,OH] at hs
  obtain⟨h0,rfl⟩:=hs
  rcases h with h | ⟨⟨v,e1,e2⟩,h1⟩
  ·cases h
  ·exact .inr ⟨⟨v,hl _ h0 v e1,e2⟩,h1⟩
 ·simp only[OH] at hs
  rcases h with h | ⟨h,h1⟩
  ·cases h
  ·exact .inr ⟨hl _ hs _ h,h1⟩
 ·simp only[cM,HP] at hs
  obtain⟨rfl,hc⟩:=hs
  rcases h with h | ⟨⟨vs,e1,e2,e3⟩,h1⟩
  ·cases h
  ·obtain⟨r1,r2⟩:=XL hl hc e2 e3
   exact .inr ⟨⟨vs,e1,r1,r2⟩,h1⟩
 ·rcases h with h | ⟨h,h1⟩
  ·cases h
  ·exact .inr ⟨trivial,h1⟩
 ·split at hs
  ·rename_i f f' e1 e2
   have:=HP.1 hs
   subst this
   rw[PO e1] at h
   rw[PO e2]
   rcases h with h | ⟨h,h1⟩
   ·cases h
   ·exact .inr ⟨by have:=Rd.cq h;subst this;exact .v _,h1⟩
  ·cases hs
 ·cases hs
theorem Pb{X X'':Nat→Prop}{hole:Option Nat}{e e2:TypeId}{n:Nat}{l:List (List T)}{vs:Array Value}{v:Value}(h:jb w X hole e e2 n l (.tuple vs))(hv:vs[0]?=some v)(hX:∀b,X'' b→X b)(hb:∀b,de (.tuple vs) b→¬X'' b)
 (hh:hole=none:=by rfl):Rd w X'' (.sl 1 (vX n l)) v:=by
 subst hh
 obtain⟨h0,ho,hs,xs,g1,g2,g3,g4,g5,g6⟩:=h
 cases g1
 have:ho=v:=by simpa using hv
 subst this
 have hlen:(vX n l).length=l.length:=by unfold vX;simp
 have hget:∀(i:Nat) t,(vX n l)[i]?=some t→∃m,l[i]?=some m∧t=.sl n m:=fun i t hi=>by
  unfold vX at hi
  rw[eW] at hi
  cases hl:l[i]? with
  | none=>simp[hl] at hi
  | some m=>simp only[hl,fH,cC] at hi;exact⟨m,rfl,hi.symm⟩
 have hflat:flat (vX n l)=vX n l:=WY fun t ht=>by
  obtain⟨i,hi,rfl⟩:=CN ht
  obtain⟨m,_,e⟩:=hget i _ (dG hi)
  rw[e];rfl
 have huni:dr 1 (vX n l):=fun t ht=>by
  obtain⟨i,hi,rfl⟩:=CN ht
  obtain⟨m,_,e⟩:=hget i _ (dG hi)
  rw[e];rfl
 have hxl:=g2.1
 rw[MP] at hxl
 have inner:∀(i:Nat) t y,(vX n l)[i]?=some t→xs[i]?=some y→Rd w X'' t y:=fun i t y h1 h2=>by
  obtain⟨m,hm,rfl⟩:=hget i t h1
  have hil:i<l.length:=(dA.1 hm).1
  have hsi:hs[i]?=some hs[i]:=dG (by omega)
  have e1:=(g4 i y _ h2 hsi).2 (by simp)
  rw[←e1] at hsi
  obtain⟨q1,ys,q2,q3⟩:=g5 i m y hm hsi
  exact JK (ρ:=fun _=>none) (X:=X) (fz:=false) (e:=e2) (l:=m) ⟨h0,q1,⟨ys,q2,q3⟩,fun hc=>by cases hc⟩ hX (fun b hyb=>hb b (.inr ⟨_,rfl,y,by simp[mS hsi],hyb⟩))
 rcases g2.2 with⟨hn | ⟨a,hn⟩,hz⟩ | ⟨g,off,cap,jE,hn,z2,z3,z4,z5,z6,z7⟩
 ·have:l=[]:=vJ hz
  subst this
  subst hn
  have:vX n []=[]:=by unfold vX;rfl
  rw[this];exact .nil 1 (by omega)
 ·have:l=[]:=vJ hz
  subst this
  subst hn
  have:vX n []=[]:=by unfold vX;rfl
  rw[this]
  have key:Rd w X'' (.sl 1 []) (.slice (some a) ([]:List T).length 0):=.sl 1 [] a 0 [] (by omega) (gU _) (by unfold maxLen;omega) (.nil 1) rfl (fun i y h=>by simp at h) (fun i t y h _=>by simp[flat] at h)
  exact key
 ·subst hn
  rw[←hlen]
  refine .sl 1 _ ⟨g,off,none⟩ cap xs (by omega) (by omega) z5 huni (by rw[hflat,hlen,hxl]) (fun i y hi=>?_) (fun i t y h1 h2=>inner i t y (by rw[←hflat];exact h1) h2)
  have hil:i<l.length:=by have:=(dA.1 hi).1;omega
  refine⟨g2.cells rfl i y hi,?_,(g4 i y _ hi (dG (by omega))).1⟩
  exact hb g (.inr ⟨_,rfl,.slice (some ⟨g,off,none⟩) l.length cap,by simp,by simp[bq];omega⟩)
theorem Pc{σ:List (Nat×Nat)}{s:Sh}{c:C}{f:s.ty→List (Option Nat)→List Nat→Option R}(h:Rel w0 F Xc ρ0 ρ st a w)(hf:JS σ st.ae s c f=some r):
 ∃x rs zs,f x rs zs=some r∧rs.length=(dC [s]).length ∧
  (∀(i:Nat) k o,(kF [s] (x,()))[i]?=some (k,o)→(dC [s])[i]?=some k∧∃sr,rs[i]?=some sr∧o.jc=true∧(∀k',sr=some k'→st.ae[k']?=some o)∧(sr=none→∃e n,o=.row false e n []∧(0<n∧n<1000000000))) ∧
  (∀z∈zs,∃o,st.ae[z]?=some o∧o.oa=true)∧(∀p∈gG [s] [c],dC [s]=[p.2]∧rs=[some p.1]) ∧
  ∀(ρ'':nT) (X'':Nat→Prop),ju ρ ρ'' (XB st.ae ρ Xc) X'' st.ae (dC [s]) rs zs σ→∀y,ch w (XB st.ae ρ Xc) ρ c y→ch w X'' ρ'' (Oy s x) y:=by
 have norow:∀{P:Nat→Nat→O→Prop},∀(i:Nat) k o,([]:List (Nat×O))[i]?=some (k,o)→P i k o:=fun i k o h=>by simp at h
 cases s with
 | int kd=>
  simp only[JS] at hf
  split at hf
  ·rename_i x
   obtain⟨n,hn,hf⟩:=bK hf
   refine⟨n,[],[],hf,rfl,norow,by simp,by simp[gG],fun ρ'' X'' _ y hy=>?_⟩
   rcases hy with hy | ⟨hy,h1⟩
   ·cases hy
   ·have:=Ad hy hn;subst this;exact .inr ⟨.v _,rfl⟩
  ·cases hf
 | bool=>
  simp only[JS] at hf
  split at hf
  ·rename_i x
   obtain⟨n,hn,hf⟩:=bK hf
   refine⟨n,[],[],hf,rfl,norow,by simp,by simp[gG],fun ρ'' X'' _ y hy=>?_⟩
   rcases hy with hy | ⟨hy,h1⟩
   ·cases hy
   ·have:=UK hy hn;subst this;exact .inr ⟨.v _,rfl⟩
  ·cases hf
 | str=>
  simp only[JS] at hf
  split at hf
  ·rename_i x
   obtain⟨n,hn,hf⟩:=bK hf
   refine⟨n,[],[],hf,rfl,norow,by simp,by simp[gG],fun ρ'' X'' _ y hy=>?_⟩
   rcases hy with hy | ⟨hy,h1⟩
   ·cases hy
   ·have:=Ae hy hn;subst this;exact .inr ⟨.v _,rfl⟩
  ·cases hf
 | sl n=>
  simp only[JS] at hf
  split at hf
  ·rename_i x
   obtain⟨l,hl,hf⟩:=bK hf
   refine⟨l,[],[],hf,rfl,norow,by simp,by simp[gG],fun ρ'' X'' ht y hy=>?_⟩
   rcases hy with hy | ⟨hy,h1⟩
   ·cases hy
   ·unfold T.il at hl
    split at hl
    ·split at hl
     case isFalse=>cases hl
     rename_i hnm
     cases hl
     have:=Rd.cq hy
     subst this
     exact .inr ⟨.nil n hnm,rfl⟩
    ·split at hl
     ·rename_i hk
      cases hl;subst hk
      exact .inr ⟨Rd.ie hy ht.sub,h1⟩
     ·cases hl
    ·cases hl
  ·rename_i key
   split at hf
   ·rename_i fz e n' es hob
    split at hf
    ·rename_i hn
     subst hn
     refine⟨es,[],[key],hf,rfl,norow,fun z hz=>by simp at hz;subst hz;exact⟨_,hob,rfl⟩,by simp[gG],fun ρ'' X'' ht y hy=>?_⟩
     rcases hy with hy | ⟨hy,h1⟩
     ·cases hy
     ·obtain⟨v,e1,e2⟩:=h.ae key _ hob
      have hyy:ρ key=some y:=hy
      rw[hyy] at e1
      cases e1
      exact .inr ⟨JK e2 ht.sub (fun b hb=>ht.trees key (by simp) y b hyy (.inl hb)),h1⟩
    ·cases hf
   ·rename_i fz e n' es hob
    split at hf
    ·rename_i hn
     subst hn
     refine⟨es,[],[key],hf,rfl,norow,fun z hz=>by simp at hz;subst hz;exact⟨_,hob,rfl⟩,by simp[gG],fun ρ'' X'' ht y hy=>?_⟩
     rcases hy with hy | ⟨hy,h1⟩
     ·cases hy
     ·obtain⟨v,e1,e2⟩:=h.ae key _ hob
      have hyy:ρ key=some y:=hy
      rw[hyy] at e1
      cases e1
      exact .inr ⟨UN e2 ht.sub (fun b hb=>ht.trees key (by simp) y b hyy (.inl hb)),h1⟩
    ·cases hf
   ·cases hf
  ·rename_i key m lo len tg
   split at hf
   ·rename_i fz e n' es hob
    split at hf
    ·rename_i hn
     obtain⟨rfl,rfl⟩:=hn
     refine⟨_,[],[key],hf,rfl,norow,fun z hz=>by simp at hz;subst hz;exact⟨_,hob,rfl⟩,by simp[gG],fun ρ'' X'' ht y hy=>?_⟩
     rcases hy with hy | ⟨⟨v,q1,q2⟩,h1⟩
     ·cases hy
     ·obtain⟨v',e1,e2⟩:=h.ae key _ hob
      rw[q1] at e1
      cases e1
      exact .inr ⟨O2 e2 q2 ht.sub (fun b hb=>ht.trees key (by simp) v b q1 (.inl hb)),h1⟩
    ·cases hf
   ·cases hf
  ·rename_i k0
   split at hf
   ·rename_i K hK
    split at hf
    ·rename_i m l hob
     split at hf
     ·rename_i hn
      subst hn
      refine⟨_,[],[K],hf,rfl,norow,fun z hz=>by simp at hz;subst hz;exact⟨_,hob,rfl⟩,by simp[gG],fun ρ'' X'' ht y hy=>?_⟩
      rcases hy with hy | ⟨⟨vs,q1,q2⟩,h1⟩
      ·cases hy
      ·obtain⟨hole,_,_,_,_,vs',f1,f2,f3,f4⟩:=DD h hK q1
       rw[hob] at f1
       cases f1
       exact .inr ⟨Pb f4 (f3.trans q2) ht.sub (fun b hb=>ht.trees K (by simp) _ b f2 hb),h1⟩
     ·cases hf
    ·cases hf
   ·cases hf
  ·cases hf
 | rr e e2 n key=>
  simp only[JS] at hf
  split at hf
  ·rename_i k0
   split at hf
   ·rename_i K hK
    split at hf
    ·rename_i e' e2' n' l hob
     split at hf
     ·rename_i hn
      obtain⟨rfl,rfl,rfl⟩:=hn
      refine⟨l,[some K],[],hf,rfl,fun i k o hi=>?_,by simp,by simp[gG],fun ρ'' X'' ht y hy=>?_⟩
      ·cases i with
       | zero=>
        simp only[kF,AT,cC,yH] at hi
        obtain⟨rfl,rfl⟩:=hi
        exact⟨rfl,some K,rfl,rfl,fun k'' hk=>by cases hk;exact hob,by simp⟩
       | succ i=>simp[kF] at hi
      ·rcases hy with hy | ⟨⟨vs,q1,q2⟩,h1⟩
       ·cases hy
       ·obtain⟨hole,_,_,_,_,vs',f1,f2,f3,f4⟩:=DD h hK q1
        exact .inr ⟨⟨vs',(ht.rows 0 key (some K) rfl rfl).trans f2,f3.trans q2⟩,h1⟩
     ·cases hf
    ·cases hf
   ·cases hf
  ·cases hf
 | row e n key=>
  simp only[JS] at hf
  split at hf
  ·split at hf
   ·rename_i hn
    refine⟨[],[none],[],hf,rfl,fun i k o hi=>?_,by simp,by simp[gG],fun ρ'' X'' ht y hy=>?_⟩
    ·cases i with
     | zero=>
      simp only[kF,AT,cC,yH] at hi
      obtain⟨rfl,rfl⟩:=hi
      exact⟨rfl,none,rfl,IM _ _ _,by simp,fun _=>⟨e,n,by unfold SC;rw[aC hn.2],hn⟩⟩
     | succ i=>simp[kF] at hi
    ·rcases hy with hy | ⟨hy,h1⟩
     ·cases hy
     ·have:=Rd.cq hy
      subst this
      exact .inr ⟨ht.rows 0 key none rfl rfl,rfl⟩
   ·cases hf
  ·rename_i k'
   split at hf
   ·rename_i e' n' es hob
    split at hf
    ·rename_i hc
     obtain⟨hnm,rfl,rfl⟩:=hc
     refine⟨es,[some k'],[],hf,rfl,fun i k o hi=>?_,by simp,fun p hp=>by simp only[gG,OU] at hp;subst hp;exact⟨rfl,rfl⟩,fun ρ'' X'' ht y hy=>?_⟩
     ·cases i with
      | zero=>
       simp only[kF,AT,cC,yH] at hi
       obtain⟨rfl,rfl⟩:=hi
       exact⟨rfl,some k',rfl,IM _ _ _,fun k'' hk=>by cases hk;unfold SC;rw[aC hnm];exact hob,by simp⟩
      | succ i=>simp[kF] at hi
     ·rcases hy with hy | ⟨hy,h1⟩
      ·cases hy
      ·exact .inr ⟨(ht.rows 0 key (some k') rfl rfl).trans hy,h1⟩
    ·cases hf
   ·rename_i e' n' es hob
    split at hf
    ·rename_i hc
     obtain⟨hnm,rfl,rfl⟩:=hc
     refine⟨es,[some k'],[],hf,rfl,fun i k o hi=>?_,by simp,fun p hp=>by simp only[gG,OU] at hp;subst hp;exact⟨rfl,rfl⟩,fun ρ'' X'' ht y hy=>?_⟩
     ·cases i with
      | zero=>
       simp only[kF,AT,cC,yH] at hi
       obtain⟨rfl,rfl⟩:=hi
       exact⟨rfl,some k',rfl,IM _ _ _,fun k'' hk=>by cases hk;unfold SC;rw[aA (by omega)];exact hob,by simp⟩
      | succ i=>simp[kF] at hi
     ·rcases hy with hy | ⟨hy,h1⟩
      ·cases hy
      ·exact .inr ⟨(ht.rows 0 key (some k') rfl rfl).trans hy,h1⟩
    ·cases hf
   ·cases hf
  ·cases hf
 | tree=>
  simp only[JS] at hf
  split at hf
  ·rename_i x
   refine⟨x,[],[],hf,rfl,norow,by simp,by simp[gG],fun ρ'' X'' ht y hy=>?_⟩
   rcases hy with hy | ⟨hy,h1⟩
   ·cases hy
   ·exact .inr ⟨Rd.ie hy ht.sub,h1⟩
  ·cases hf
 | lit c'=>
  simp only[JS] at hf
  split at hf
  ·rename_i hs
   refine⟨(),[],[],hf,rfl,norow,by simp,by simp[gG],fun ρ'' X'' ht y hy=>Pa ht.sub ht.lit hs hy⟩
  ·cases hf
theorem AA(s:Sh)(l:List Sh):dC (s::l)=dC [s]++dC l:=by cases s <;> rfl
theorem RS(s:Sh)(l:List Sh)(c:C)(cs:List C):gG (s::l) (c::cs)=gG [s] [c]++gG l cs:=by cases s <;> cases c <;> simp[gG]
theorem XM(s:Sh)(l:List Sh)(x:s.ty)(t:yX l):kF (s::l) (x,t)=kF [s] (x,())++kF l t:=by cases s <;> rfl
theorem qK:∀(l:List Sh) (t:yX l),(kF l t).length=(dC l).length
 | [],_=>rfl
 | .int _::l,t=>qK l t.2
 | .bool::l,t=>qK l t.2
 | .str::l,t=>qK l t.2
 | .sl _::l,t=>qK l t.2
 | .row _ _ _::l,t=>by simp[kF,dC,qK l t.2]
 | .rr _ _ _ _::l,t=>by simp[kF,dC,qK l t.2]
 | .tree::l,t=>qK l t.2
 | .lit _::l,t=>qK l t.2
theorem Dl{σ:List (Nat×Nat)}(h:Rel w0 F Xc ρ0 ρ st a w):∀(l:List Sh) (cs:List C) (f:yX l→List (Option Nat)→List Nat→Option R),LT σ st.ae l cs f=some r →
 ∃t rs zs,f t rs zs=some r∧rs.length=(dC l).length ∧
  (∀(i:Nat) k o,(kF l t)[i]?=some (k,o)→(dC l)[i]?=some k∧∃sr,rs[i]?=some sr∧o.jc=true∧(∀k',sr=some k'→st.ae[k']?=some o)∧(sr=none→∃e n,o=.row false e n []∧(0<n∧n<1000000000))) ∧
  (∀z∈zs,∃o,st.ae[z]?=some o∧o.oa=true)∧(∀p∈gG l cs,∃i:Nat,(dC l)[i]?=some p.2∧rs[i]?=some (some p.1)) ∧
  ∀(ρ'':nT) (X'':Nat→Prop),ju ρ ρ'' (XB st.ae ρ Xc) X'' st.ae (dC l) rs zs σ→∀ys,bu w (XB st.ae ρ Xc) ρ cs ys→bu w X'' ρ'' (CD l t) ys
 | [],[],f,hf=>⟨(),[],[],hf,rfl,fun i k o hi=>by simp[kF] at hi,by simp,by simp[gG],fun _ _ _ ys hy=>⟨hy.1,fun i c y h1 _=>by simp[CD] at h1⟩⟩
 | [],_::_,f,hf=>by simp[LT] at hf
 | _::_,[],f,hf=>by simp[LT] at hf
 | s::l,c::cs,f,hf=>by
  simp only[LT] at hf
  obtain⟨x,Ff,zs1,hf1,len1,row1,z1,Xn,turn1⟩:=Pc h hf
  obtain⟨t,WO,zs2,hf2,len2,row2,z2,Xm,turn2⟩:=Dl h l cs _ hf1
  have hlen1:=qK [s] (x,())
  refine⟨(x,t),Ff++WO,zs1++zs2,hf2,by rw[tT,AA,tT,len1,len2],fun i k o hi=>?_,fun z hz=>?_,fun p hp=>?_,fun ρ'' X'' ht ys hy=>?_⟩
  ·rw[XM,sC] at hi
   rw[AA,sC,sC]
   split at hi
   ·rename_i hlt
    rw[aC (by omega),aC (by omega)]
    exact row1 i k o hi
   ·rename_i hlt
    rw[aA (by omega),aA (by omega),len1]
    rw[hlen1] at hi
    exact row2 _ k o hi
  ·rcases fK.1 hz with hz | hz
   ·exact z1 z hz
   ·exact z2 z hz
  ·rw[RS] at hp
   rw[AA]
   rcases fK.1 hp with hp | hp
   ·obtain⟨e1,e2⟩:=Xn p hp
    exact⟨0,by rw[e1];rfl,by rw[e2];rfl⟩
   ·obtain⟨i,e1,e2⟩:=Xm p hp
    exact⟨i+Ff.length,by rw[sC,aA (by omega),←len1,KX];exact e1,by rw[sC,aA (by omega),KX];exact e2⟩
  ·cases ys with
   | nil=>simp[bu] at hy
   | cons y ys=>
    have hk:=ht.rows
    rw[AA] at hk
    have t1:ju ρ ρ'' (XB st.ae ρ Xc) X'' st.ae (dC [s]) Ff zs1 σ:=
     ⟨ht.sub,len1.symm,fun i k sr h1 h2=>hk i k sr (by rw[sC,aC (dA.1 h1).1];exact h1) (by rw[sC,aC (dA.1 h2).1];exact h2),
      fun z hz=>ht.trees z (fK.2 (.inl hz)),ht.lit⟩
    have t2:ju ρ ρ'' (XB st.ae ρ Xc) X'' st.ae (dC l) WO zs2 σ:=
     ⟨ht.sub,len2.symm,fun i k sr h1 h2=>hk (i+Ff.length) k sr (by rw[sC,aA (by omega),←len1,KX];exact h1) (by rw[sC,aA (by omega),KX];exact h2),
      fun z hz=>ht.trees z (fK.2 (.inr hz)),ht.lit⟩
    have hy2:bu w (XB st.ae ρ Xc) ρ cs ys:=⟨by simpa using hy.1,fun i c y h1 h2=>hy.2 (i+1) c y (by simpa using h1) (by simpa using h2)⟩
    have r2:=turn2 ρ'' X'' t2 ys hy2
    refine⟨by simp[CD,r2.1],fun i c' y' h1 h2=>?_⟩
    cases i with
    | zero=>simp[CD] at h1 h2;subst h1;subst h2;exact turn1 ρ'' X'' t1 _ (hy.2 0 c _ rfl rfl)
    | succ i=>exact r2.2 i c' y' (by simpa[CD] using h1) (by simpa using h2)
theorem pZ(h:Rel w0 F Xc ρ0 ρ st a w):∀(items:List It) (cs:List C),iU st items=some cs→∃ys,bu w (XB st.ae ρ Xc) ρ cs ys
 | [],cs,hg=>by simp only[iU,cC] at hg;subst hg;exact⟨[],rfl,fun i c y h1 _=>by simp at h1⟩
 | .slot i::l,cs,hg=>by
  simp only[iU] at hg
  split at hg
  ·rename_i c cs' he hg'
   cases hg
   obtain⟨ys,hy⟩:=pZ h l cs' hg'
   have hr:=h.ev (.tmp i)
   have:ev st (.tmp i)=.s (.c c):=he
   rw[this] at hr
   exact⟨_,(bu.one (c:=c) hr).append hy⟩
  ·cases hg
 | .au i n::l,cs,hg=>by
  simp only[iU] at hg
  split at hg
  ·rename_i c cs' he hg'
   split at hg
   ·cases hg
    obtain⟨ys,hy⟩:=pZ h l cs' hg'
    have hr:=h.ev (.tmp i)
    have:ev st (.tmp i)=.s (.agg c):=he
    rw[this] at hr
    obtain⟨vs,_,hvs⟩:=hr
    exact⟨_,hvs.append hy⟩
   ·cases hg
  ·cases hg
 | .box k n::l,cs,hg=>by
  simp only[iU] at hg
  split at hg
  ·rename_i c cs' ho hg'
   split at hg
   ·cases hg
    obtain⟨ys,hy⟩:=pZ h l cs' hg'
    obtain⟨v,_,g,zs,ty,_,_,_,hz⟩:=h.ae k _ ho
    exact⟨_,hz.append hy⟩
   ·cases hg
  ·cases hg
 | .cv i k n::l,cs,hg=>by
  simp only[iU] at hg
  split at hg
  ·rename_i key cs' he hg'
   split at hg
   ·rename_i c ho
    split at hg
    ·cases hg
     obtain⟨ys,hy⟩:=pZ h l cs' hg'
     obtain⟨v,_,g,zs,ty,_,_,_,hz⟩:=h.ae key _ ho
     exact⟨_,hz.append hy⟩
    ·cases hg
   ·cases hg
  ·cases hg
end
section
variable {R:Type} {w0 w:World} {F Xc X X'':Nat→Prop} {ρ0:cn} {ρ ρ'':nT} {st:St} {a:Act} {r:R}
theorem dL{α β γ:Type}(m:Option α)(f:α→Option β)(g:β→Option γ):(ob m f).bind g=ob m fun a=>(f a).bind g:=by cases m <;> rfl
theorem PP{R:Type}{σ:List (Nat×Nat)}{ae:List O}{s:Sh}{c:C}(f:s.ty→List (Option Nat)→List Nat→Option R):JS σ ae s c f=(JS σ ae s c fun x r z=>some (x,r,z)).bind fun p=>f p.1 p.2.1 p.2.2:=by
 cases s <;> simp only[JS] <;> repeat' (first | split | dsimp only)
 all_goals first
  | rfl
  | (simp_all [dL];done)
theorem JT{R:Type}{σ:List (Nat×Nat)}{ae:List O}:∀(l:List Sh) (cs:List C) (f:yX l→List (Option Nat)→List Nat→Option R),LT σ ae l cs f=(LT σ ae l cs fun x r z=>some (x,r,z)).bind fun p=>f p.1 p.2.1 p.2.2
 | [],[],f=>rfl
 | [],_::_,f=>rfl
 | _::_,[],f=>rfl
 | s::l,c::cs,f=>by
  simp only[LT]
  refine(PP _).trans (tW ?_ (fL (fun z:Option (yX (s::l)×List (Option Nat)×List Nat)=>z.bind fun p=>f p.1 p.2.1 p.2.2) (PP _)).symm)
  rw[gB]
  refine fL _ (funext fun p=>?_)
  refine(JT l cs _).trans (tW ?_ (fL (fun z:Option (yX (s::l)×List (Option Nat)×List Nat)=>z.bind fun p=>f p.1 p.2.1 p.2.2) (JT l cs _)).symm)
  rw[gB]
  rfl
theorem Gk{σ:List (Nat×Nat)}{c:C}{t:TypeId}(h:c.same σ (.self t)=true):c=.self t:=by
 unfold C.same at h
 split at h <;> first
  | (rename_i e;cases e;done)
  | (rename_i e1 e2;cases e2;done)
  | skip
 all_goals simp_all
theorem Gm{s:Sh}{x:s.ty}{t:TypeId}(h:Oy s x=.self t):s=.lit (.self t):=by
 cases s <;> simp[Oy] at h
 subst h;rfl
theorem SR{R:Type}{σ:List (Nat×Nat)}{ae:List O}{r:R}:∀(l:List Sh) (cs:List C) {f:yX l→List (Option Nat)→List Nat→Option R},LT σ ae l cs f=some r→∀t:yX l,cd cs (CD l t)
 | [],[],f,_,t,i,u,hi=>by simp[CD] at hi
 | [],_::_,f,h,_,_,_,_=>by simp[LT] at h
 | _::_,[],f,h,_,_,_,_=>by simp[LT] at h
 | s::l,c::cs,f,h,t,i,u,hi=>by
  simp only[LT] at h
  cases i with
  | zero=>
   simp only[CD,AT,cC] at hi ⊢
   have hs:=Gm hi
   subst hs
   simp only[JS] at h
   split at h
   ·rename_i hc;exact Gk hc
   ·cases h
  | succ i=>
   rw[PP] at h
   obtain⟨p,_,h2⟩:=pV.1 h
   simpa using SR l cs h2 t.2 i u (by simpa[CD] using hi)
def bk(w:World)(X:Nat→Prop)(ρ:nT)(X'':Nat→Prop)(ρ'':nT)(cs cs':List C):Prop:=(∀ys,bu w X ρ cs ys→bu w X'' ρ'' cs' ys)∧cd cs cs'
theorem bk.right{l m m':List C}(h:bk w X ρ X'' ρ'' (l++m) m'){ys:List Value}(hy:bu w X ρ l ys):bk w X ρ X'' ρ'' m (m'.drop l.length):=⟨fun zs hz=>by
 have:=(h.1 _ (hy.append hz)).drop l.length
 rwa[←hy.1,List.drop_left,hy.1] at this,h.2.right⟩
theorem bk.left{l m m':List C}(h:bk w X ρ X'' ρ'' (l++m) m'){zs:List Value}(hz:bu w X ρ m zs):bk w X ρ X'' ρ'' l (m'.take l.length):=⟨fun ys hy=>by
 have:=(h.1 _ (hy.append hz)).take l.length
 rwa[←hy.1,T5,hy.1] at this,h.2.left⟩
def ey(w:World)(X'':Nat→Prop)(ρ'':nT)(a:Act)(env:List D):Prop:=∀(i:Nat) d y,env[i]?=some d→a.tmps[i]?=some y→ay w X'' ρ'' d y
theorem ey.set{env:List D}(h:ey w X'' ρ'' a env){j:Nat}{d:D}(hd:∀y,a.tmps[j]?=some y→ay w X'' ρ'' d y):ey w X'' ρ'' a (env.set j d):=fun i d' y h1 h2=>by
 rw[qU] at h1
 split at h1
 ·rename_i e
  subst e
  split at h1
  ·cases h1;exact hd y h2
  ·cases h1
 ·exact h i d' y h1 h2
theorem PQ{i:Nat}{y:Value}(h:a.tmps[i]?=some y):a.eval (.tmp i)=y:=by
 obtain⟨hlt,rfl⟩:=AQ.1 h
 simp[Act.eval,MN,vL hlt]
theorem yM(h:Rel w0 F Xc ρ0 ρ st a w):∀(items:List It) (cs cs':List C) (st0:St),(∀p∈eS st items,ρ'' p.2=ρ p.1)→iU st items=some cs→bk w (XB st.ae ρ Xc) ρ X'' ρ'' cs cs'→ey w X'' ρ'' a st0.env→ey w X'' ρ'' a (fF items cs' st0).env
 | [],_,_,_,_,_,_,he=>he
 | .slot i::l,cs,cs',st0,hbp,hg,hr,he=>by
  simp only[iU] at hg
  split at hg
  ·rename_i c cs1 hc hg'
   cases hg
   obtain⟨ys1,hy1⟩:=pZ h l cs1 hg'
   have hev:ay w (XB st.ae ρ Xc) ρ (.s (.c c)) (a.eval (.tmp i)):=by have:=h.ev (.tmp i);rwa[show ev st (.tmp i)=.s (.c c) from hc] at this
   have h1:bu w (XB st.ae ρ Xc) ρ [c] [a.eval (.tmp i)]:=bu.one hev
   simp only[fF]
   refine yM h l cs1 cs'.tail _ hbp hg' ?_ (he.set fun y hy=>?_)
   ·have:=bk.right (l:=[c]) (m:=cs1) hr h1
    rwa[T4,List.drop_one] at this
   ·have:=(bk.left (l:=[c]) (m:=cs1) hr hy1).1 _ h1
    cases cs' with
    | nil=>simp[bu] at this
    | cons c' cs'=>
     have hh:=this.2 0 c' _ rfl rfl
     rw[PQ hy] at hh
     exact hh
  ·cases hg
 | .au i n::l,cs,cs',st0,hbp,hg,hr,he=>by
  simp only[iU] at hg
  split at hg
  ·rename_i c cs1 hc hg'
   split at hg
   ·rename_i hn
    cases hg
    obtain⟨ys1,hy1⟩:=pZ h l cs1 hg'
    have hev:ay w (XB st.ae ρ Xc) ρ (.s (.agg c)) (a.eval (.tmp i)):=by have:=h.ev (.tmp i);rwa[show ev st (.tmp i)=.s (.agg c) from hc] at this
    obtain⟨vs,hvs,hl⟩:=hev
    simp only[fF]
    subst hn
    refine yM h l cs1 _ _ hbp hg' (bk.right hr hl) (he.set fun y hy=>?_)
    rw[PQ hy] at hvs
    exact⟨vs,hvs,(bk.left hr hy1).1 _ hl⟩
   ·cases hg
  ·cases hg
 | .box k n::l,cs,cs',st0,hbp,hg,hr,he=>by
  simp only[iU] at hg
  split at hg
  ·rename_i c cs1 hc hg'
   split at hg
   ·rename_i hn
    cases hg
    obtain⟨v,_,g,zs,ty,_,_,_,hz⟩:=h.ae k _ hc
    simp only[fF]
    subst hn
    exact yM h l cs1 _ _ (fun p hp=>hbp p (by simp only[eS,cN];exact .inr hp)) hg' (bk.right hr hz) he
   ·cases hg
  ·cases hg
 | .cv i k n::l,cs,cs',st0,hbp,hg,hr,he=>by
  simp only[iU] at hg
  split at hg
  ·rename_i key cs1 hc hg'
   split at hg
   ·rename_i c ho
    split at hg
    ·rename_i hn
     cases hg
     have hbp0:eS st (.cv i k n::l)=(key,k)::eS st l:=by simp only[eS,hc]
     rw[hbp0] at hbp
     obtain⟨v,_,g,zs,ty,_,_,_,hz⟩:=h.ae key _ ho
     have hev:ay w (XB st.ae ρ Xc) ρ (.s (.c (.box key 0))) (a.eval (.tmp i)):=by have:=h.ev (.tmp i);rwa[show ev st (.tmp i)=.s (.c (.box key 0)) from hc] at this
     simp only[fF]
     subst hn
     refine yM h l cs1 _ _ (fun p hp=>hbp p (by simp[hp])) hg' (bk.right hr hz) (he.set fun y hy=>?_)
     rw[PQ hy] at hev
     rcases hev with hev | ⟨⟨v',e1,e2⟩,h1⟩
     ·cases hev
     ·exact .inr ⟨⟨v',(hbp (key,k) (by simp)).trans e1,e2⟩,h1⟩
    ·cases hg
   ·cases hg
  ·cases hg
theorem qL:∀(items:List It) (cs':List C) (st0:St),(fF items cs' st0).np=st0.np∧(fF items cs' st0).env.length=st0.env.length∧(fF items cs' st0).ae.length=st0.ae.length
 | [],_,_=>⟨rfl,rfl,rfl⟩
 | .slot i::l,cs',st0=>by obtain⟨h1,h2,h3⟩:=qL l cs'.tail { st0 with env:=st0.env.set i (.s (.c (cs'.headD .top))) };exact⟨h1,h2.trans (cW ..),h3⟩
 | .au i n::l,cs',st0=>by obtain⟨h1,h2,h3⟩:=qL l (cs'.drop n) { st0 with env:=st0.env.set i (.s (.agg (cs'.take n))) };exact⟨h1,h2.trans (cW ..),h3⟩
 | .box k n::l,cs',st0=>by obtain⟨h1,h2,h3⟩:=qL l (cs'.drop n) { st0 with ae:=st0.ae.set k (.box (cs'.take n)) };exact⟨h1,h2,h3.trans (cW ..)⟩
 | .cv i k n::l,cs',st0=>by obtain⟨h1,h2,h3⟩:=qL l (cs'.drop n) { st0 with env:=st0.env.set i (.s (.c (.box k 0))),ae:=st0.ae.set k (.box (cs'.take n)) };exact⟨h1,h2.trans (cW ..),h3.trans (cW ..)⟩
theorem wA(h:Rel w0 F Xc ρ0 ρ st a w):∀(items:List It) (cs cs':List C) (st0:St),iU st items=some cs→bk w (XB st.ae ρ Xc) ρ X'' ρ'' cs cs'→(fG items).Nodup→(∀k∈fG items,k<st0.ae.length) →
 ∀k,(k∉fG items→(fF items cs' st0).ae[k]?=st0.ae[k]?) ∧
  (k∈fG items→∃q l l',(q,k)∈eS st items∧st.ae[q]?=some (.box l)∧(fF items cs' st0).ae[k]?=some (.box l')∧bk w (XB st.ae ρ Xc) ρ X'' ρ'' l l')
 | [],_,_,_,_,_,_,_,k=>⟨fun _=>rfl,fun hk=>by simp[fG] at hk⟩
 | .slot i::l,cs,cs',st0,hg,hr,hn,hb,k=>by
  simp only[iU] at hg
  split at hg
  ·rename_i c cs1 hc hg'
   cases hg
   have hev:ay w (XB st.ae ρ Xc) ρ (.s (.c c)) (a.eval (.tmp i)):=by have:=h.ev (.tmp i);rwa[show ev st (.tmp i)=.s (.c c) from hc] at this
   have h1:bu w (XB st.ae ρ Xc) ρ [c] [a.eval (.tmp i)]:=bu.one hev
   have hr':=bk.right (l:=[c]) (m:=cs1) hr h1
   rw[T4,List.drop_one] at hr'
   exact wA h l cs1 _ { st0 with env:=st0.env.set i (.s (.c (cs'.headD .top))) } hg' hr' hn hb k
  ·cases hg
 | .au i n::l,cs,cs',st0,hg,hr,hn,hb,k=>by
  simp only[iU] at hg
  split at hg
  ·rename_i c cs1 hc hg'
   split at hg
   ·rename_i hnn
    cases hg
    have hev:ay w (XB st.ae ρ Xc) ρ (.s (.agg c)) (a.eval (.tmp i)):=by have:=h.ev (.tmp i);rwa[show ev st (.tmp i)=.s (.agg c) from hc] at this
    obtain⟨vs,hvs,hl⟩:=hev
    subst hnn
    exact wA h l cs1 _ { st0 with env:=st0.env.set i (.s (.agg (cs'.take c.length))) } hg' (bk.right hr hl) hn hb k
   ·cases hg
  ·cases hg
 | .box q n::l,cs,cs',st0,hg,hr,hn,hb,k=>by
  simp only[iU] at hg
  split at hg
  ·rename_i c cs1 hc hg'
   split at hg
   ·rename_i hnn
    cases hg
    obtain⟨v,_,g,zs,ty,_,_,_,hz⟩:=h.ae q _ hc
    subst hnn
    simp only[fG] at hn hb
    obtain⟨hq,hn'⟩:=cY.1 hn
    obtain⟨e1,e2⟩:=wA h l cs1 _ { st0 with ae:=st0.ae.set q (.box (cs'.take c.length)) } hg' (bk.right hr hz) hn' (fun k hk=>by simpa using hb k (by simp[hk])) k
    obtain⟨ys1,hy1⟩:=pZ h l cs1 hg'
    simp only[fF,fG,cN,EK]
    refine⟨fun hk=>?_,fun hk=>?_⟩
    ·rw[e1 hk.2,fC (fun e=>hk.1 e.symm)]
    ·by_cases hkl:k∈fG l
     ·obtain⟨q',l1,l2,r1,r2,r3,r4⟩:=e2 hkl
      exact⟨q',l1,l2,by simp only[eS,cN];exact .inr r1,r2,r3,r4⟩
     ·have hkq:k=q:=hk.resolve_right hkl
      subst hkq
      refine⟨k,c,cs'.take c.length,by simp[eS],hc,?_,bk.left hr hy1⟩
      rw[e1 hkl,iI (hb k (by simp))]
   ·cases hg
  ·cases hg
 | .cv i q n::l,cs,cs',st0,hg,hr,hn,hb,k=>by
  simp only[iU] at hg
  split at hg
  ·rename_i key cs1 hc hg'
   split at hg
   ·rename_i c ho
    split at hg
    ·rename_i hnn
     cases hg
     have hbp0:eS st (.cv i q n::l)=(key,q)::eS st l:=by simp only[eS,hc]
     obtain⟨v,_,g,zs,ty,_,_,_,hz⟩:=h.ae key _ ho
     subst hnn
     simp only[fG] at hn hb
     obtain⟨hq,hn'⟩:=cY.1 hn
     obtain⟨e1,e2⟩:=wA h l cs1 _ { st0 with env:=st0.env.set i (.s (.c (.box q 0))),ae:=st0.ae.set q (.box (cs'.take c.length)) } hg' (bk.right hr hz) hn' (fun k hk=>by simpa using hb k (by simp[hk])) k
     obtain⟨ys1,hy1⟩:=pZ h l cs1 hg'
     simp only[fF,fG,cN,EK]
     refine⟨fun hk=>?_,fun hk=>?_⟩
     ·rw[e1 hk.2,fC (fun e=>hk.1 e.symm)]
     ·by_cases hkl:k∈fG l
      ·obtain⟨q',l1,l2,r1,r2,r3,r4⟩:=e2 hkl
       exact⟨q',l1,l2,by rw[hbp0];simp[r1],r2,r3,r4⟩
      ·have hkq:k=q:=hk.resolve_right hkl
       subst hkq
       refine⟨key,c,cs'.take c.length,by rw[hbp0];simp,ho,?_,bk.left hr hy1⟩
       rw[e1 hkl,iI (hb k (by simp))]
    ·cases hg
   ·cases hg
  ·cases hg
theorem tY:∀(l:List (Nat×O)) (ae:List O) (k:Nat),k∉l.map (·.1)→(qI ae l)[k]?=ae[k]?
 | [],_,_,_=>rfl
 | p::l,ae,k,h=>by
  simp only[qI]
  rw[tY l _ k (fun hm=>h (by simp at hm ⊢;exact .inr hm)),fC (fun e=>h (by simp[e]))]
theorem PR:∀(l:List (Nat×O)) (ae:List O) (i k:Nat) (o:O),(l.map (·.1)).Nodup→l[i]?=some (k,o)→k<ae.length→(qI ae l)[k]?=some o
 | [],_,i,k,o,_,h,_=>by simp at h
 | p::l,ae,i,k,o,hn,h,hk=>by
  simp only[qI]
  simp only[AU] at hn
  obtain⟨hp,hn'⟩:=cY.1 hn
  cases i with
  | zero=>
   simp at h
   subst h
   rw[tY l _ k hp,iI hk]
  | succ i=>exact PR l _ i k o hn' (by simpa using h) (by simpa using hk)
theorem M3:∀(l:List (Nat×O)) (ae:List O),(qI ae l).length=ae.length
 | [],_=>rfl
 | p::l,ae=>by simp only[qI];rw[M3 l];simp
theorem Gn(np n m:Nat)(a:Act):ey w X'' ρ'' a (mW np n m).env:=fun i d y h1 _=>by
 simp only[mW,K6] at h1
 split at h1
 ·cases h1;exact .top_ y
 ·cases h1
theorem A7{np n m k:Nat}(hm:np≤m):(mW np n m).ae[k]?=if k<np then some .dead else if k<m then some .fresh else none:=by
 simp only[mW,sC,K6,OR]
 by_cases h1:k<np
 ·simp[h1]
 ·by_cases h2:k<m
  ·simp[h1,h2];omega
  ·simp[h1,h2];omega
theorem iV:∀(l:List Sh) (t:yX l),(kF l t).map (·.1)=dC l
 | [],_=>rfl
 | .int _::l,t=>iV l t.2
 | .bool::l,t=>iV l t.2
 | .str::l,t=>iV l t.2
 | .sl _::l,t=>iV l t.2
 | .row _ _ _::l,t=>by simp[kF,dC,iV l t.2]
 | .rr _ _ _ _::l,t=>by simp[kF,dC,iV l t.2]
 | .tree::l,t=>iV l t.2
 | .lit _::l,t=>iV l t.2
theorem sH:∀(items:List It) (cs:List C),iU st items=some cs→∀p∈eS st items,∃l,st.ae[p.1]?=some (.box l)
 | [],_,_,p,hk=>by simp[eS] at hk
 | .slot i::l,cs,hg,p,hk=>by
  simp only[iU] at hg
  split at hg
  ·rename_i hg';exact sH l _ hg' p hk
  ·cases hg
 | .au i n::l,cs,hg,p,hk=>by
  simp only[iU] at hg
  split at hg
  ·rename_i hg';exact sH l _ hg' p hk
  ·cases hg
 | .box q n::l,cs,hg,p,hk=>by
  simp only[iU] at hg
  split at hg
  ·rename_i c cs1 hc hg'
   simp only[eS,cN] at hk
   rcases hk with rfl | hk
   ·exact⟨c,hc⟩
   ·exact sH l _ hg' p hk
  ·cases hg
 | .cv i q n::l,cs,hg,p,hk=>by
  simp only[iU] at hg
  split at hg
  ·rename_i key cs1 hc hg'
   split at hg
   ·rename_i c ho
    simp only[eS,hc,cN] at hk
    rcases hk with rfl | hk
    ·exact⟨c,ho⟩
    ·exact sH l _ hg' p hk
   ·cases hg
  ·cases hg
theorem tZ:∀(items:List It) (cs:List C),iU st items=some cs→(eS st items).map (·.2)=fG items
 | [],_,_=>rfl
 | .slot i::l,cs,hg=>by
  simp only[iU] at hg
  split at hg
  ·rename_i hg';exact tZ l _ hg'
  ·cases hg
 | .au i n::l,cs,hg=>by
  simp only[iU] at hg
  split at hg
  ·rename_i hg';exact tZ l _ hg'
  ·cases hg
 | .box q n::l,cs,hg=>by
  simp only[iU] at hg
  split at hg
  ·rename_i c cs1 hc hg'
   simp only[eS,fG,AU,tZ l _ hg']
  ·cases hg
 | .cv i q n::l,cs,hg=>by
  simp only[iU] at hg
  split at hg
  ·rename_i key cs1 hc hg'
   simp only[eS,hc,fG,AU,tZ l _ hg']
  ·cases hg
theorem sW:∀(items:List It) (cs':List C) (st0:St) (k:Nat),k∉fG items→(fF items cs' st0).ae[k]?=st0.ae[k]?
 | [],_,_,_,_=>rfl
 | .slot i::l,cs',st0,k,hk=>sW l _ { st0 with env:=st0.env.set i (.s (.c (cs'.headD .top))) } k hk
 | .au i n::l,cs',st0,k,hk=>sW l _ { st0 with env:=st0.env.set i (.s (.agg (cs'.take n))) } k hk
 | .box q n::l,cs',st0,k,hk=>by
  simp only[fG,cN,EK] at hk
  simp only[fF]
  rw[sW l _ _ k hk.2,fC (fun e=>hk.1 e.symm)]
 | .cv i q n::l,cs',st0,k,hk=>by
  simp only[fG,cN,EK] at hk
  simp only[fF]
  rw[sW l _ _ k hk.2,fC (fun e=>hk.1 e.symm)]
theorem RT{rs:List (Option Nat)}(h:(rs.filterMap id).Nodup){i j k:Nat}(h1:rs[i]?=some (some k))(h2:rs[j]?=some (some k)):i=j:=by
 induction rs generalizing i j with
 | nil=>simp at h1
 | cons s rs ih=>
  have key:∀q,rs[q]?=some (some k)→s=some k→False:=fun q hq e=>by
   subst e
   simp only[K8,K9] at h
   have:=(cY.1 h).1
   exact this (MM.2 ⟨some k,mS hq,rfl⟩)
  have hnd:(rs.filterMap id).Nodup:=by
   cases s with
   | none=>simpa using h
   | some v=>simp only[K8,K9] at h;exact(cY.1 h).2
  cases i with
  | zero=>
   cases j with
   | zero=>rfl
   | succ j=>simp at h1 h2;exact(key j h2 h1).elim
  | succ i=>
   cases j with
   | zero=>simp at h1 h2;exact(key i h1 h2).elim
   | succ j=>simp at h1 h2;rw[ih hnd h1 h2]
def I0:List (Nat×Nat)→Nat→Option Nat
 | [],_=>none
 | p::l,k=>if p.2=k then some p.1 else I0 l k
theorem PS:∀{l:List (Nat×Nat)} {p:Nat×Nat},(l.map (·.2)).Nodup→p∈l→I0 l p.2=some p.1
 | [],p,_,h=>by cases h
 | q::l,p,hn,h=>by
  simp only[AU] at hn
  obtain⟨h1,h2⟩:=cY.1 hn
  unfold I0
  rcases cN.1 h with rfl | h
  ·rw[aC rfl]
  ·have hne:¬q.2=p.2:=fun e=>h1 (e▸lE.2 ⟨p,h,rfl⟩)
   rw[aA hne,PS h2 h]
theorem M4:∀{l:List (Nat×Nat)} {k:Nat},k∉l.map (·.2)→I0 l k=none
 | [],_,_=>rfl
 | q::l,k,h=>by
  simp only[AU,cN,EK] at h
  unfold I0
  rw[aA (fun e=>h.1 e.symm),M4 h.2]
theorem XN:∀{l:List (Nat×Nat)} {q k k':Nat},(l.map (·.1)).Nodup→(q,k)∈l→(q,k')∈l→k=k'
 | [],_,_,_,_,h,_=>by cases h
 | p::l,q,k,k',hn,h,h'=>by
  simp only[AU] at hn
  obtain⟨h1,h2⟩:=cY.1 hn
  rcases cN.1 h with e | h <;> rcases cN.1 h' with e' | h'
  ·rw[←e] at e';cases e';rfl
  ·rw[←e] at h1;exact(h1 (lE.2 ⟨_,h',rfl⟩)).elim
  ·rw[←e'] at h1;exact(h1 (lE.2 ⟨_,h,rfl⟩)).elim
  ·exact XN h2 h h'
theorem PT{np:Nat}:∀{ks:List Nat} {ss:List (Option Nat)} {i k:Nat} {s:Option Nat},U1 np ks ss=true→ks[i]?=some k→ss[i]?=some s→np≤k∨s=some k
 | [],_,i,k,s,_,h,_=>by simp at h
 | k'::ks,[],i,k,s,_,_,h=>by simp at h
 | k'::ks,s'::ss,i,k,s,hk,h1,h2=>by
  simp only[U1,cM,pD,cK,HP] at hk
  cases i with
  | zero=>simp at h1 h2;subst h1;subst h2;exact hk.1
  | succ i=>exact PT hk.2 (by simpa using h1) (by simpa using h2)
theorem LU{h:Hint}{f:yX h.af→Option R}(hex:ρ0.ex=[])(hR:Rel w0 F Xc ρ0 ρ st a w)(hf:H1 h st f=some r):
 ∃t,f t=some r∧(∀k∈fG h.items++dC h.af,k<st.ae.length)∧∃ρ'',(∀k,st.ae.length≤k→ρ'' k=none)∧Rel w0 F Xc ρ0 ρ'' (fN h st.np st.env.length st.ae.length t) a w:=by
 unfold H1 at hf
 split at hf
 case h_2=>cases hf
 rename_i cs hg
 dsimp only at hf
 obtain⟨t,rs,zs,hf1,hlen,hrows,hzs,hpairs,hturn⟩:=Dl hR h.af cs _ hf
 split at hf1
 case isFalse=>cases hf1
 rename_i hc
 simp only[cM,cK] at hc
 obtain⟨⟨⟨⟨⟨⟨hok,hkeep⟩,hbk⟩,hbn⟩,hnd⟩,hz⟩,hnpm⟩:=hc
 unfold Hint.ok at hok
 simp only[cM,cK,jF] at hok
 obtain⟨hk1,hk3⟩:=hok
 have hbpk:=tZ h.items cs hg
 have hbd:((eS st h.items).map (·.2)).Nodup:=by rw[hbpk];exact(rT.1 hk3).1
 obtain⟨hb3,hr3,hdis⟩:=rT.1 hk3
 refine⟨t,hf1,hk1,?_⟩
 let ρ'':nT:=fun k=>match I0 (eS st h.items) k with
  | some q=>ρ q
  | none=>match FO (dC h.af) rs k with
   | some s=>Xa ρ s
   | none=>if k<st.np then ρ k else none
 let objs'':List O:=(fN h st.np st.env.length st.ae.length t).ae
 have hρbox:∀p∈eS st h.items,ρ'' p.2=ρ p.1:=fun p hp=>by simp only[ρ'',PS hbd hp]
 have hpn:∀k,k∉fG h.items→I0 (eS st h.items) k=none:=fun k hk=>M4 (by rw[hbpk];exact hk)
 have hsrc:∀k∈fG h.items,∃q,(q,k)∈eS st h.items:=fun k hk=>by
  rw[←hbpk] at hk
  obtain⟨p,hp,rfl⟩:=lE.1 hk
  exact⟨p.1,hp⟩
 have hnotbox:∀k,k∈dC h.af→k∉fG h.items:=fun k hk hb=>hdis k hb k hk rfl
 have hρrow:∀(i:Nat) k s,(dC h.af)[i]?=some k→rs[i]?=some s→ρ'' k=Xa ρ s:=fun i k s h1 h2=>by
  simp only[ρ'',hpn k (hnotbox k (mS h1)),SQ _ _ i k s hr3 h1 h2]
 have hsrcnone:∀k,k∉dC h.af→FO (dC h.af) rs k=none:=fun k hk=>by
  cases hs:FO (dC h.af) rs k with
  | none=>rfl
  | some s=>obtain⟨i,h1,_⟩:=PM _ _ _ _ hs;exact(hk (mS h1)).elim
 have hlenO:(fF h.items (CD h.af t) (mW st.np st.env.length st.ae.length)).ae.length=st.ae.length:=by
  rw[(qL _ _ _).2.2];simp[mW];omega
 have hnprow:∀(i:Nat) k o,(kF h.af t)[i]?=some (k,o)→objs''[k]?=some o:=fun i k o hi=>by
  refine PR _ _ i k o (by rw[iV];exact hr3) hi ?_
  rw[hlenO]
  exact hk1 k (fK.2 (.inr (mS (hrows i k o hi).1)))
 have hother:∀k,k∉fG h.items→k∉dC h.af→objs''[k]?=(mW st.np st.env.length st.ae.length).ae[k]?:=fun k hb hr=>by
  show (qI _ _)[k]?=_
  rw[tY _ _ k (by rw[iV];exact hr),sW h.items _ _ k hb]
 have hrowi:∀k,k∈dC h.af→∃(i:Nat) (o:O) (sr:Option Nat),(dC h.af)[i]?=some k∧objs''[k]?=some o∧rs[i]?=some sr∧o.jc=true∧(∀k',sr=some k'→st.ae[k']?=some o)∧(sr=none→∃e n,o=.row false e n []∧(0<n∧n<1000000000)):=fun k hk=>by
  rw[←iV h.af t] at hk
  obtain⟨p,hp,rfl⟩:=lE.1 hk
  obtain⟨i,hi,he⟩:=CN hp
  have hget:(kF h.af t)[i]?=some (p.1,p.2):=by rw[dG hi,he]
  obtain⟨h1,sr,h2,h3⟩:=hrows i p.1 p.2 hget
  exact⟨i,p.2,sr,h1,hnprow i p.1 p.2 hget,h2,h3⟩
 have hHas:∀k b,Has objs'' ρ'' k b→(∃q,(q,k)∈eS st h.items∧Has st.ae ρ q b)∨∃i k',(dC h.af)[i]?=some k∧rs[i]?=some (some k')∧Has st.ae ρ k' b∧∃o,st.ae[k']?=some o∧o.jc=true:=fun k b hh=>by
  obtain⟨o,v,h1,h2,h3,h4⟩:=hh
  by_cases hb:k∈fG h.items
  ·obtain⟨q,hq⟩:=hsrc k hb
   obtain⟨l,hl⟩:=sH h.items cs hg _ hq
   exact .inl ⟨q,hq,_,v,hl,rfl,(hρbox _ hq)▸h3,h4⟩
  ·by_cases hr:k∈dC h.af
   ·obtain⟨i,o',sr,q1,q2,q3,q4,q5,q6⟩:=hrowi k hr
    rw[hρrow i k sr q1 q3] at h3
    cases sr with
    | none=>simp only[Xa,cC] at h3;subst h3;have h5:=h4.one rfl;simp[Tc,bq] at h5
    | some k'=>
     refine .inr ⟨i,k',q1,q3,⟨o',v,q5 k' rfl,O.jd q4,h3,h4⟩,o',q5 k' rfl,q4⟩
   ·rw[hother k hb hr,A7 hnpm] at h1
    split at h1
    ·cases h1;cases h2
    ·split at h1
     ·cases h1;cases h2
     ·cases h1
 have hXX:∀b,XB objs'' ρ'' Xc b→XB st.ae ρ Xc b:=fun b hb=>by
  rcases hb with⟨k,hk⟩ | hb
  ·rcases hHas k b hk with⟨q,_,hh⟩ | ⟨i,k',_,_,hh,_⟩
   ·exact .inl ⟨q,hh⟩
   ·exact .inl ⟨k',hh⟩
  ·exact .inr hb
 have hT:ju ρ ρ'' (XB st.ae ρ Xc) (XB objs'' ρ'' Xc) st.ae (dC h.af) rs zs (eS st h.items++gG h.af cs):=by
  refine⟨hXX,hlen.symm,hρrow,fun z hzm v b hv hb hx=>?_,fun p hp v hv=>?_⟩
  ·obtain⟨oz,hzo,hzy⟩:=hzs z hzm
   have hzr:some z∉rs:=fun hm=>by
    have:=jF.1 hz z hzm
    simp[hm] at this
   cases hzf:oz.frozen with
   | true=>
    have hko:=hR.ae z _ hzo
    cases oz with
    | row fz e n l=>
     obtain⟨v',e1,e2⟩:=hko
     rw[hv] at e1
     cases e1
     exact e2.frozen hzf b (hb.one (Oh e2)) (hXX b hx)
    | mp fz e n l=>
     obtain⟨v',e1,e2⟩:=hko
     rw[hv] at e1
     cases e1
     exact e2.frozen hzf b (hb.one (Sj e2)) (hXX b hx)
    | box l=>cases hzy
    | cu l=>cases hzy
    | rr hole e e2 n l=>cases hzf
    | fwd l=>cases hzy
    | dead=>cases hzy
    | fresh=>cases hzy
   | false=>
    have hHz:Has st.ae ρ z b:=⟨_,v,hzo,O.js hzy hzf,hv,hb⟩
    rcases hx with⟨k,hk⟩ | hx
    ·rcases hHas k b hk with⟨q,hkb,hh⟩ | ⟨i,k',_,q,hh,_⟩
     ·have:=hR.sep q z b hh hHz
      subst this
      obtain⟨l',hl'⟩:=sH h.items cs hg _ hkb
      rw[hzo] at hl';cases hl';cases hzy
     ·have:=hR.sep k' z b hh hHz
      subst this
      exact hzr (mS q)
    ·exact hR.xc b hHz.ki hx
  ·rcases fK.1 hp with hp | hp
   ·rw[hρbox p hp];exact hv
   ·obtain⟨i,e1,e2⟩:=hpairs p hp
    rw[hρrow i _ _ e1 e2];exact hv
 have hRef:bk w (XB st.ae ρ Xc) ρ (XB objs'' ρ'' Xc) ρ'' cs (CD h.af t):=⟨hturn ρ'' _ hT,SR h.af cs hf t⟩
 have hnpE:=qL h.items (CD h.af t) (mW st.np st.env.length st.ae.length)
 have hbm:∀k∈fG h.items,k<(mW st.np st.env.length st.ae.length).ae.length:=fun k hk=>by
  have:=hk1 k (fK.2 (.inl hk))
  simp[mW];omega
 refine⟨ρ'',fun k hk=>?_,by rw[show (fN h st.np st.env.length st.ae.length t).env.length=st.env.length by rw[show (fN h st.np st.env.length st.ae.length t).env.length=_ from hnpE.2.1];simp[mW]];exact hR.len,
  yM hR h.items cs _ _ hρbox hg hRef (Gn _ _ _ _),fun k o ho=>?_,fun k k' b hk hk'=>?_,fun b hb=>?_,fun k hk=>?_,hR.defers,hR.frame,hR.jo,fun b hb=>?_,fun p hp=>by rw[hex] at hp;simp at hp⟩
 ·have hb:k∉fG h.items:=fun hb=>by have:=hk1 k (fK.2 (.inl hb));omega
  have hr:k∉dC h.af:=fun hr=>by have:=hk1 k (fK.2 (.inr hr));omega
  show ρ'' k=none
  simp only[ρ'',hpn k hb,hsrcnone k hr]
  rw[aA (by omega)]
 ·-- the objects
  have ho':objs''[k]?=some o:=ho
  by_cases hb:k∈fG h.items
  ·obtain⟨q,l,l',q0,q1,q2,q3⟩:=(wA hR h.items cs _ _ hg hRef hb3 hbm k).2 hb
   have:objs''[k]?=some (.box l'):=by
    show (qI _ _)[k]?=_
    rw[tY _ _ k (by rw[iV];exact fun hr=>hnotbox k hr hb)]
    exact q2
   rw[this] at ho'
   cases ho'
   obtain⟨v,e1,g,ys,ty,e2,e3,e0,e4⟩:=hR.ae q _ q1
   exact⟨v,(hρbox _ q0).trans e1,g,ys,ty,e2,e3,q3.2.head e0,q3.1 _ e4⟩
  ·by_cases hr:k∈dC h.af
   ·obtain⟨i,o',sr,q1,q2,q3,q4,q5,q6⟩:=hrowi k hr
    rw[q2] at ho'
    cases ho'
    have hρk:=hρrow i k sr q1 q3
    cases sr with
    | none=>
     obtain⟨e,n,rfl,hn⟩:=q6 rfl
     exact⟨Tc,hρk,hn,.nil n,⟨[],rowAt.nil w e n,⟨rfl,fun i t y h1 _=>by simp[flat] at h1⟩⟩,fun hc=>by cases hc⟩
    | some k'=>
     have hk':=q5 k' rfl
     have hko:=hR.ae k' _ hk'
     cases o with
     | row fz e n l=>
      obtain⟨v,e1,e2⟩:=hko
      have e3:=e2.step (X':=XB objs'' ρ'' Xc) (.refl (fun _=>False) w) (fun _ hb=>False.elim hb) (fun b hb=>.inl (hXX b hb)) (.refl ρ) (fun _ _ h=>h)
      exact⟨v,hρk.trans e1,e3⟩
     | mp fz e n l=>
      obtain⟨v,e1,e2⟩:=hko
      have e3:=e2.step (X':=XB objs'' ρ'' Xc) (.refl (fun _=>False) w) (fun _ hb=>False.elim hb) (fun b hb=>.inl (hXX b hb)) (.refl ρ) (fun _ _ h=>h)
      exact⟨v,hρk.trans e1,e3⟩
     | rr hole e e2' n l=>
      obtain⟨v,e1,e2⟩:=hko
      have e3:=jb.step (X':=XB objs'' ρ'' Xc) e2 (.refl (fun _=>False) w) (fun _ hb=>False.elim hb) (fun b hb=>.inl (hXX b hb)) (fun _ _ h=>h)
      exact⟨v,hρk.trans e1,e3⟩
     | fwd l=>cases q4
     | box l=>cases q4
     | cu l=>cases q4
     | dead=>cases q4
     | fresh=>cases q4
   ·rw[hother k hb hr,A7 hnpm] at ho'
    split at ho'
    ·cases ho';trivial
    ·split at ho'
     ·cases ho'
      show ρ'' k=none
      simp only[ρ'',hpn k hb,hsrcnone k hr]
      rw[aA (by assumption)]
     ·cases ho'
 ·-- apart
  rcases hHas k b hk with⟨p,hkb,hh⟩ | ⟨i,q,q1,q2,hh,oq,hq,hqf⟩ <;> rcases hHas k' b hk' with⟨p',hkb',hh'⟩ | ⟨i',q',q1',q2',hh',oq',hq',hqf'⟩
  ·have:=hR.sep p p' b hh hh'
   subst this
   exact XN hbn hkb hkb'
  ·have:=hR.sep p q' b hh hh'
   subst this
   obtain⟨l'',hl''⟩:=sH h.items cs hg _ hkb
   rw[hq'] at hl'';cases hl'';cases hqf'
  ·have:=hR.sep q p' b hh hh'
   subst this
   obtain⟨l'',hl''⟩:=sH h.items cs hg _ hkb'
   rw[hq] at hl'';cases hl'';cases hqf
  ·have:=hR.sep q q' b hh hh'
   subst this
   have:=RT hnd q2 q2'
   subst this
   rw[q1] at q1'
   cases q1'
   rfl
 ·obtain⟨k,hk⟩:=hb
  rcases hHas k b hk with⟨_,_,hh⟩ | ⟨_,k',_,_,hh,_⟩
  ·exact hR.own b hh.ki
  ·exact hR.own b hh.ki
 ·have hk':k<st.np:=by rw[←show (fN h st.np st.env.length st.ae.length t).np=st.np from hnpE.1];exact hk
  rw[←hR.par k hk']
  by_cases hb:k∈fG h.items
  ·obtain⟨q,hq⟩:=hsrc k hb
   have:=jF.1 hbk _ hq
   simp only[pD,HP,cK] at this
   rcases this with this | this
   ·have e:=hρbox _ hq
    rw[←this]
    rw[←this] at e
    exact e
   ·omega
  ·by_cases hr:k∈dC h.af
   ·obtain⟨i,_,sr,q1,_,q3,_⟩:=hrowi k hr
    have:=PT hkeep q1 q3
    rcases this with this | this
    ·omega
    ·subst this
     exact hρrow i k _ q1 q3
   ·show ρ'' k=ρ k
    simp only[ρ'',hpn k hb,hsrcnone k hr,aC hk']
 ·obtain⟨k,hk⟩:=hb
  rcases hHas k b hk with⟨_,_,hh⟩ | ⟨_,k',_,_,hh,_⟩
  ·exact hR.xc b hh.ki
  ·exact hR.xc b hh.ki
theorem Ka{h:Hint}{f:yX h.af→Option R}(hex:ρ0.ex=[])(hR:Rel w0 F Xc ρ0 ρ st a w)(hf:H1 h st f=some r):
 ∃t,f t=some r∧∃ρ'',Rel w0 F Xc ρ0 ρ'' (fN h st.np st.env.length st.ae.length t) a w:=by
 obtain⟨t,h1,_,ρ'',_,h2⟩:=LU hex hR hf
 exact⟨t,h1,ρ'',h2⟩
def wB:List It→List Nat
 | []=>[]
 | .slot i::l=>i::wB l
 | .au i _::l=>i::wB l
 | .box _ _::l=>wB l
 | .cv i _ _::l=>i::wB l
theorem kQ{α:Type}{l l':List α}{n j:Nat}{d:α}(hl:n≤l.length)(hl':n≤l'.length)(h:∀i,i<n→l[i]?=l'[i]?):∀i,i<n→(l.set j d)[i]?=(l'.set j d)[i]?:=fun i hi=>by
 rw[qU,qU]
 by_cases hj:j=i
 ·rw[aC hj,aC hj,aC (by omega),aC (by omega)]
 ·rw[aA hj,aA hj,h i hi]
theorem wC{n m:Nat}:∀(items:List It) (cs:List C) (s s':St),n≤s.env.length→n≤s'.env.length→m≤s.ae.length→m≤s'.ae.length→(∀i,i<n→s.env[i]?=s'.env[i]?)→(∀i,i<m→s.ae[i]?=s'.ae[i]?) →
 (∀i,i<n→(fF items cs s).env[i]?=(fF items cs s').env[i]?)∧∀i,i<m→(fF items cs s).ae[i]?=(fF items cs s').ae[i]?
 | [],_,s,s',_,_,_,_,h1,h2=>⟨h1,h2⟩
 | .slot i::l,cs,s,s',e1,e2,e3,e4,h1,h2=>wC l _ { s with env:=s.env.set i _ } { s' with env:=s'.env.set i _ } (by simpa using e1) (by simpa using e2) e3 e4 (kQ e1 e2 h1) h2
 | .au i n::l,cs,s,s',e1,e2,e3,e4,h1,h2=>wC l _ { s with env:=s.env.set i _ } { s' with env:=s'.env.set i _ } (by simpa using e1) (by simpa using e2) e3 e4 (kQ e1 e2 h1) h2
 | .box k n::l,cs,s,s',e1,e2,e3,e4,h1,h2=>wC l _ { s with ae:=s.ae.set k _ } { s' with ae:=s'.ae.set k _ } e1 e2 (by simpa using e3) (by simpa using e4) h1 (kQ e3 e4 h2)
 | .cv i k n::l,cs,s,s',e1,e2,e3,e4,h1,h2=>wC l _ { s with env:=s.env.set i _,ae:=s.ae.set k _ } { s' with env:=s'.env.set i _,ae:=s'.ae.set k _ } (by simpa using e1) (by simpa using e2) (by simpa using e3) (by simpa using e4) (kQ e1 e2 h1) (kQ e3 e4 h2)
theorem JU{m:Nat}:∀(l:List (Nat×O)) (o o':List O),m≤o.length→m≤o'.length→(∀i,i<m→o[i]?=o'[i]?)→∀i,i<m→(qI o l)[i]?=(qI o' l)[i]?
 | [],_,_,_,_,h=>h
 | p::l,o,o',e1,e2,h=>JU l _ _ (by simpa using e1) (by simpa using e2) (kQ e1 e2 h)
theorem M5{h:Hint}{np n n' m m':Nat}{t:yX h.af}(hn:n≤n')(hm:m≤m')(hnp:np≤m):
 (∀i,i<n→(fN h np n m t).env[i]?=(fN h np n' m' t).env[i]?)∧∀i,i<m→(fN h np n m t).ae[i]?=(fN h np n' m' t).ae[i]?:=by
 have h1:(mW np n m).env.length=n:=by simp[mW]
 have h2:(mW np n' m').env.length=n':=by simp[mW]
 have h3:(mW np n m).ae.length=m:=by simp[mW];omega
 have h4:(mW np n' m').ae.length=m':=by simp[mW];omega
 obtain⟨a1,a2⟩:=wC (n:=n) (m:=m) h.items (CD h.af t) (mW np n m) (mW np n' m') (by omega) (by omega) (by omega) (by omega)
  (fun i hi=>by simp only[mW,K6];rw[aC hi,aC (by omega)])
  (fun i hi=>by rw[A7 hnp,A7 (by omega)];by_cases hk:i<np <;> simp[hk,hi];omega)
 refine⟨a1,JU _ _ _ ?_ ?_ a2⟩
 ·rw[(qL _ _ _).2.2,h3];exact gU _
 ·rw[(qL _ _ _).2.2,h4];exact hm
theorem yN:∀(items:List It) (cs:List C) (s:St) (i:Nat),i∉wB items→(fF items cs s).env[i]?=s.env[i]?
 | [],_,_,_,_=>rfl
 | .slot j::l,cs,s,i,h=>by
  simp only[wB,cN,EK] at h
  simp only[fF]
  rw[yN l _ _ i h.2,fC (fun e=>h.1 e.symm)]
 | .au j n::l,cs,s,i,h=>by
  simp only[wB,cN,EK] at h
  simp only[fF]
  rw[yN l _ _ i h.2,fC (fun e=>h.1 e.symm)]
 | .box k n::l,cs,s,i,h=>by
  simp only[wB] at h
  simp only[fF]
  rw[yN l _ _ i h]
 | .cv j k n::l,cs,s,i,h=>by
  simp only[wB,cN,EK] at h
  simp only[fF]
  rw[yN l _ _ i h.2,fC (fun e=>h.1 e.symm)]
theorem DM{h:Hint}{np n m:Nat}{t:yX h.af}(hm:np≤m):(fN h np n m t).np=np∧(fN h np n m t).env.length=n∧(fN h np n m t).ae.length=m:=by
 obtain⟨h1,h2,h3⟩:=qL h.items (CD h.af t) (mW np n m)
 refine⟨h1,h2.trans (by simp[mW]),?_⟩
 show (qI _ _).length=_
 rw[M3,h3]
 simp[mW];omega
theorem G6{R:Type}{h:Hint}{st:St}(f:yX h.af→Option R):H1 h st f=(H1 h st some).bind f:=by
 unfold H1
 split
 ·dsimp only
  refine(JT _ _ _).trans (tW ?_ (fL (fun z:Option (yX h.af)=>z.bind f) (JT _ _ _)).symm)
  rw[gB]
  refine fL _ (funext fun p=>?_)
  split <;> rfl
 ·rfl
end
inductive Pos where
 | slot (i:Nat)
 | agg (i j:Nat)
 | box (k j:Nat)
 | cv (i j:Nat)
def Vj:It→List Pos
 | .slot i=>[.slot i]
 | .au i n=>(List.range n).map fun j=>.agg i j
 | .box k n=>(List.range n).map fun j=>.box k j
 | .cv i _ n=>(List.range n).map fun j=>.cv i j
def St.at(st:St):Pos→Option C
 | .slot i=>match st.env[i]? with
  | some (.s (.c c))=>some c
  | _=>none
 | .agg i j=>match st.env[i]? with
  | some (.s (.agg l))=>l[j]?
  | _=>none
 | .box k j=>match st.ae[k]? with
  | some (.box l)=>l[j]?
  | _=>none
 | .cv i j=>match st.env[i]? with
  | some (.s (.c (.box k 0)))=>match st.ae[k]? with
   | some (.box l)=>l[j]?
   | _=>none
  | _=>none
def St.wr(st:St)(c:C):Pos→St
 | .slot i=>{ st with env:=st.env.set i (.s (.c c)) }
 | .agg i j=>match st.env[i]? with
  | some (.s (.agg l))=>{ st with env:=st.env.set i (.s (.agg (l.set j c))) }
  | _=>st
 | .box k j=>match st.ae[k]? with
  | some (.box l)=>{ st with ae:=st.ae.set k (.box (l.set j c)) }
  | _=>st
 | .cv i j=>match st.env[i]? with
  | some (.s (.c (.box k 0)))=>match st.ae[k]? with
   | some (.box l)=>{ st with ae:=st.ae.set k (.box (l.set j c)) }
   | _=>st
  | _=>st
def XO(st:St)(p:Pos)(s:Sh):St:=match s with
 | .row e n _=>match st.at p with
  | some (.cut key m lo len _)=>match st.ae[key]? with
   | some (.row false e' n' es)=>if e'=e∧n'=n∧m=n then match AX st with
    | some K=>St.wr { st with ae:=(st.ae.set key .dead).set K (.row false e n (oC es lo len)) } (.row K) p
    | none=>st
    else st
   | _=>st
  | _=>st
 | _=>st
def NI(st:St):List Pos→List Sh→St
 | p::ps,s::ss=>NI (XO st p s) ps ss
 | _,_=>st
def Gp(h:Hint)(st:St):St:=NI st (h.items.flatMap Vj) h.af
theorem Td(st:St)(c:C)(p:Pos):(st.wr c p).np=st.np∧(st.wr c p).env.length=st.env.length∧(st.wr c p).ae.length=st.ae.length:=by
 unfold St.wr
 cases p <;> dsimp only <;> repeat' (first | split | exact⟨rfl,rfl,rfl⟩ | exact⟨rfl,cW ..,rfl⟩ | exact⟨rfl,rfl,cW ..⟩)
theorem Kb(st:St)(p:Pos)(s:Sh):(XO st p s).np=st.np∧(XO st p s).env.length=st.env.length∧(XO st p s).ae.length=st.ae.length:=by
 unfold XO
 repeat' (first | split | exact⟨rfl,rfl,rfl⟩)
 obtain⟨h1,h2,h3⟩:=Td { st with ae:=_ } _ p
 exact⟨h1,h2,by rw[h3];simp⟩
theorem XP:∀(ps:List Pos) (ss:List Sh) (st:St),(NI st ps ss).np=st.np∧(NI st ps ss).env.length=st.env.length∧(NI st ps ss).ae.length=st.ae.length
 | [],_,st=>by unfold NI;exact⟨rfl,rfl,rfl⟩
 | p::ps,[],st=>by unfold NI;exact⟨rfl,rfl,rfl⟩
 | p::ps,s::ss,st=>by
  unfold NI
  obtain⟨h1,h2,h3⟩:=XP ps ss (XO st p s)
  obtain⟨g1,g2,g3⟩:=Kb st p s
  exact⟨h1.trans g1,h2.trans g2,h3.trans g3⟩
theorem XQ(h:Hint)(st:St):(Gp h st).np=st.np∧(Gp h st).env.length=st.env.length∧(Gp h st).ae.length=st.ae.length:=XP _ _ st
section
variable {w0 w:World} {F Xc:Nat→Prop} {ρ0:cn} {ρ:nT} {st:St} {a:Act}
theorem bu.set{X:Nat→Prop}{l:List C}{ys:List Value}(h:bu w X ρ l ys){j:Nat}{c:C}(hc:∀y,ys[j]?=some y→ch w X ρ c y):bu w X ρ (l.set j c) ys:=by
 refine⟨by simp[h.1],fun i c' y h1 h2=>?_⟩
 rw[qU] at h1
 split at h1
 ·rename_i e
  subst e
  split at h1
  ·cases h1;exact hc y h2
  ·cases h1
 ·exact h.2 i c' y h1 h2
theorem Rel.oc(h:Rel w0 F Xc ρ0 ρ st a w){k:Nat}{l l':List C}(ho:st.ae[k]?=some (.box l))(hs:cd l l')(hl:∀v g ys ty,ρ k=some v→v=.pointer (some ⟨g,0,none⟩)→w.heap[g]?=some (.cells ys ty (0,0))→bu w (XB st.ae ρ Xc) ρ l ys.toList→bu w (XB st.ae ρ Xc) ρ l' ys.toList):
 Rel w0 F Xc ρ0 ρ { st with ae:=st.ae.set k (.box l') } a w:=by
 have hlt:k<st.ae.length:=(dA.1 ho).1
 obtain⟨v,e1,g,ys,ty,e2,e3,e4,e5⟩:=h.ae k _ ho
 have hH:∀b,Has (st.ae.set k (.box l')) ρ k b→Has st.ae ρ k b:=fun b ⟨o',v',q1,q2,q3,q4⟩=>⟨_,v',ho,rfl,q3,q4⟩
 have hs0:cf (fun _=>False) w w:=.refl _ w
 refine h.change (st.ae.set k (.box l')) ρ (·=k) hs0 (fun j hj=>⟨by rw[fC (fun e=>hj e.symm)],rfl⟩) (.refl _) (fun _ hb=>hb.elim)
  (fun j b hj hh=>?_) (fun j j' b hj hj' _ _=>hj.trans hj'.symm) (fun hX j o' hj hoj=>?_) (fun _ _=>rfl)
 ·subst hj;exact .inl ⟨j,rfl,hH b hh⟩
 ·subst hj
  rw[iI hlt] at hoj
  cases hoj
  exact⟨v,e1,g,ys,ty,e2,e3,hs.head e4,(hl v g ys ty e1 e2 e3 e5).step hs0 (fun _ h=>h.elim) hX (.refl _)⟩
theorem cd.setRow{l:List C}{j K:Nat}:cd l (l.set j (.row K)):=fun i t hi=>by
 rw[qU] at hi
 split at hi
 ·split at hi <;> cases hi
 ·exact hi
theorem Pd(h:Rel w0 F Xc ρ0 ρ st a w)(p:Pos)(s:Sh):∃ρ',Rel w0 F Xc ρ0 ρ' (XO st p s) a w:=by
 unfold XO
 split
 case h_2=>exact⟨ρ,h⟩
 rename_i e n _
 split
 case h_2=>exact⟨ρ,h⟩
 rename_i key m lo len tg hat
 split
 case h_2=>exact⟨ρ,h⟩
 rename_i e' n' es hob
 split
 case isFalse=>exact⟨ρ,h⟩
 rename_i hcond
 obtain⟨rfl,rfl,rfl⟩:=hcond
 split
 case h_2=>exact⟨ρ,h⟩
 rename_i K hK
 obtain⟨k1,k2⟩:=MU hK
 have hklt:key<st.ae.length:=(dA.1 hob).1
 have hKk:K≠key:=fun e=>by rw[e,hob] at k2;cases k2
 have step:∀y,ch w (XB st.ae ρ Xc) ρ (.cut key m lo len tg) y→∃ρ',Rel w0 F Xc ρ0 ρ' { st with ae:=(st.ae.set key .dead).set K (.row false e' m (oC es lo len)) } a w∧ρ' K=some y∧fu ρ ρ'∧y.oneCell'=true:=by
  intro y hy
  rcases hy with hy | ⟨⟨v,q1,q2⟩,h1⟩
  ·cases hy
  obtain⟨hv,e1,e2⟩:=h.ae key _ hob
  rw[q1] at e1
  cases e1
  obtain⟨hlen,huc,_,_⟩:=GX e2 q2
  obtain⟨h0,hu0,⟨xs,hown0,hr0⟩,_⟩:=e2
  obtain⟨d,rfl⟩:∃d,K=st.np+d:=⟨K-st.np,by omega⟩
  obtain⟨ρ',r1,r2,r3⟩:=O5 h h0 hob q1 (fun b hb=>q2.bq hb) w d (oC es lo len) y _ (by rw[fC (fun e=>hKk e.symm)];exact k2) (by rw[hlen];exact q2.row hown0) huc (ZQ w _) (.inl rfl) (by
   have hfl:flat (oC es lo len)=((flat es).drop (lo*m)).take (len*m):=by unfold oC;rw[(hu0.drop lo).dd,hu0.cr]
   rw[hfl]
   have hxl:=hr0.1
   refine⟨by simp[hxl],fun i t z h1 h2=>?_⟩
   rw[pW] at h1 h2
   split at h1
   ·rename_i hlt
    rw[aC hlt] at h2
    rw[tV] at h1 h2
    exact hr0.2 _ t z h1 h2
   ·cases h1)
  exact⟨ρ',r1,r2,r3,h1⟩
 have other:∀(k:Nat) (l:List C),st.ae[k]?=some (.box l)→((st.ae.set key .dead).set K (.row false e' m (oC es lo len)))[k]?=some (.box l):=fun k l hk=>by
  have h1:K≠k:=fun e=>by rw[e,hk] at k2;cases k2
  have h2:key≠k:=fun e=>by rw[e,hk] at hob;cases hob
  rw[fC h1,fC h2];exact hk
 have boxcase:∀(k:Nat) (l:List C) (j:Nat),st.ae[k]?=some (.box l)→l[j]?=some (.cut key m lo len tg) →
  ∃ρ',Rel w0 F Xc ρ0 ρ' { st with ae:=((st.ae.set key .dead).set K (.row false e' m (oC es lo len))).set k (.box (l.set j (.row K))) } a w:=by
  intro k l j hk hj
  obtain⟨v,e1,g,ys,ty,e2,e3,e4,e5⟩:=h.ae k _ hk
  have hjl:j<ys.toList.length:=by rw[e5.1];exact(dA.1 hj).1
  obtain⟨ρ',r1,r2,r3,r4⟩:=step _ (e5.2 j _ _ hj (dG hjl))
  refine⟨ρ',r1.oc (other k l hk) cd.setRow fun v' g' ys' ty' f1 f2 f3 f4=>f4.set fun y hy=>?_⟩
  rw[r3 _ _ e1] at f1
  cases f1
  rw[e2] at f2
  cases f2
  rw[e3] at f3
  cases f3
  rw[dG hjl] at hy
  cases hy
  exact .inr ⟨r2,r4⟩
 cases p with
 | slot i=>
  simp only[St.at] at hat
  split at hat
  ·rename_i c hi
   cases hat
   have hil:i<a.tmps.size:=by rw[h.len];exact(dA.1 hi).1
   obtain⟨ρ',r1,r2,r3,r4⟩:=step _ (h.env i _ _ hi (vL hil))
   refine⟨ρ',r1.slot (d:=.s (.c (.row K))) fun y hy=>?_⟩
   rw[vL hil] at hy
   cases hy
   exact .inr ⟨r2,r4⟩
  ·cases hat
 | agg i j=>
  simp only[St.at] at hat
  split at hat
  ·rename_i l hi
   have hil:i<a.tmps.size:=by rw[h.len];exact(dA.1 hi).1
   have hd:=h.env i _ _ hi (vL hil)
   obtain⟨cs,hcs,hl⟩:=hd
   have hjl:j<cs.toList.length:=by rw[hl.1];exact(dA.1 hat).1
   obtain⟨ρ',r1,r2,r3,r4⟩:=step _ (hl.2 j _ _ hat (dG hjl))
   have hd':=r1.env i _ _ hi (vL hil)
   obtain⟨cs',hcs',hl'⟩:=hd'
   rw[hcs] at hcs'
   cases hcs'
   simp only[St.wr,hi]
   refine⟨ρ',r1.slot (d:=.s (.agg (l.set j (.row K)))) fun y hy=>?_⟩
   rw[vL hil] at hy
   cases hy
   refine⟨cs,hcs,hl'.set fun y hy=>?_⟩
   rw[dG hjl] at hy
   cases hy
   exact .inr ⟨r2,r4⟩
  ·cases hat
 | box k j=>
  simp only[St.at] at hat
  split at hat
  ·rename_i l hk
   have ho:=other k l hk
   simp only[St.wr,ho]
   exact boxcase k l j hk hat
  ·cases hat
 | cv i j=>
  simp only[St.at] at hat
  split at hat
  ·rename_i k hi
   split at hat
   ·rename_i l hk
    have ho:=other k l hk
    simp only[St.wr,hi,ho]
    exact boxcase k l j hk hat
   ·cases hat
  ·cases hat
theorem Dm:∀(ps:List Pos) (ss:List Sh) {st:St} {ρ:nT},Rel w0 F Xc ρ0 ρ st a w→∃ρ',Rel w0 F Xc ρ0 ρ' (NI st ps ss) a w
 | [],_,st,ρ,h=>by unfold NI;exact⟨ρ,h⟩
 | p::ps,[],st,ρ,h=>by unfold NI;exact⟨ρ,h⟩
 | p::ps,s::ss,st,ρ,h=>by
  unfold NI
  obtain⟨ρ1,h1⟩:=Pd h p s
  exact Dm ps ss h1
theorem Dn(hh:Hint)(h:Rel w0 F Xc ρ0 ρ st a w):∃ρ',Rel w0 F Xc ρ0 ρ' (Gp hh st) a w:=Dm _ _ h
end
inductive ed where
 | normal
 | exit (id:Nat)
 | ret
 deriving DecidableEq
def ed.ex:ed→Exit
 | .normal=>.normal
 | .exit id=>.exit id
 | .ret=>.ret
inductive bg where
 | skip
 | ret
 | exit (id:Nat)
 | region (id:Nat) (ops:Array Oper) (draw:Bool)
 | seq (x y:bg)
 | cond (c:Operand) (x y:bg)
 | block (id:Nat) (x:bg)
 | scope (x:bg)
 | label (l:Nat)
 | loop (h:Hint) (xs:List (ed×Hint)) (x:bg)
 | join (xs:List (ed×Hint)) (x:bg)
 | kq (n:Nat) (x:bg)
def bg.code:bg→Code
 | .skip=>.skip
 | .ret=>.ret
 | .exit id=>.exit id
 | .region id ops draw=>.region id ops draw
 | .seq x y=>.seq x.code y.code
 | .cond c x y=>.cond c x.code y.code
 | .block id x=>.block id x.code
 | .scope x=>.scope x.code
 | .label l=>.label l
 | .loop _ _ x=>.loop x.code
 | .join _ x=>x.code
 | .kq _ x=>.loop x.code
def bg.flat:bg→Bool
 | .seq x y=>x.flat&&y.flat
 | .cond _ x y=>x.flat&&y.flat
 | .block _ x=>x.flat
 | .scope x=>x.flat
 | .loop _ _ _=>false
 | .join _ _=>false
 | .kq _ x=>x.flat
 | _=>true
def DN{S E:Type}(F:S→Option (S⊕E)):Nat→S→Option E
 | 0,_=>none
 | n+1,s=>match F s with
  | some (.inl s')=>DN F n s'
  | some (.inr e)=>some e
  | none=>none
open Classical in
noncomputable def bH{S E:Type}(F:S→Option (S⊕E))(s:S):Option E:=if h:∃n e,DN F n s=some e then DN F (Classical.choose h) s else none
theorem SS{S E:Type}{F:S→Option (S⊕E)}:∀{n:Nat} {s:S} {e:E},DN F n s=some e→DN F (n+1) s=some e
 | 0,s,e,h=>by simp[DN] at h
 | n+1,s,e,h=>by
  rw[DN] at h ⊢
  split at h
  ·exact SS h
  ·exact h
  ·cases h
theorem Do{S E:Type}{F:S→Option (S⊕E)}{n m:Nat}{s:S}{e:E}(h:DN F n s=some e)(hm:n≤m):DN F m s=some e:=by
 obtain⟨d,rfl⟩:=Nat.le.dest hm
 induction d with
 | zero=>exact h
 | succ d ih=>exact SS (ih (HQ _ _))
theorem xJ{S E:Type}{F:S→Option (S⊕E)}{s:S}{e:E}:bH F s=some e↔∃n,DN F n s=some e:=by
 unfold bH
 constructor
 ·intro h
  split at h
  ·exact⟨_,h⟩
  ·cases h
 ·rintro ⟨n,h⟩
  have hex:∃n e,DN F n s=some e:=⟨n,e,h⟩
  rw[LA hex]
  obtain⟨e',he'⟩:=LB hex
  have h1:=Do he' (Nat.le_max_left (Classical.choose hex) n)
  have h2:=Do h (Nat.le_max_right (Classical.choose hex) n)
  rw[he']
  rw[h1] at h2
  exact h2
theorem XR{S E:Type}(F:S→Option (S⊕E))(s:S):bH F s=match F s with
 | some (.inl s')=>bH F s'
 | some (.inr e)=>some e
 | none=>none:=by
 cases hF:F s with
 | none=>
  cases hl:bH F s with
  | none=>rfl
  | some e=>
   obtain⟨n,hn⟩:=xJ.1 hl
   cases n with
   | zero=>simp[DN] at hn
   | succ n=>simp[DN,hF] at hn
 | some x=>
  cases x with
  | inr e=>exact xJ.2 ⟨1,by simp[DN,hF]⟩
  | inl s'=>
   simp only
   cases hl:bH F s' with
   | some e=>
    obtain⟨n,hn⟩:=xJ.1 hl
    exact xJ.2 ⟨n+1,by simp[DN,hF,hn]⟩
   | none=>
    cases hl2:bH F s with
    | none=>rfl
    | some e=>
     obtain⟨n,hn⟩:=xJ.1 hl2
     cases n with
     | zero=>simp[DN] at hn
     | succ n=>
      simp only[DN,hF] at hn
      rw[xJ.2 ⟨n,hn⟩] at hl;cases hl
def EP:List (ed×Hint)→Type
 | []=>Empty
 | p::l=>yX p.2.af⊕EP l
section
variable {R:Type}
def ST(np n m:Nat)(h:Hint)(st:St)(f:yX h.af→Option R):Option R:=if st.np=np∧st.env.length=n∧st.ae.length=m then H1 h (Gp h st) f else none
def PU(np n m:Nat):(xs:List (ed×Hint))→ed→St→(EP xs→Option R)→Option R
 | [],_,_,_=>none
 | p::l,x,st,f=>if p.1=x then ST np n m p.2 st fun t=>f (.inl t) else PU np n m l x st fun q=>f (.inr q)
def fJ{α β:Type}(q:α⊕β)(f:α→Option R)(g:β→Option R):Option R:=match q with
 | .inl t=>f t
 | .inr q=>g q
def gW(_:Empty):Option R:=none
def N3(np n m:Nat):(xs:List (ed×Hint))→EP xs→(ed→St→Option R)→Option R
 | [],q,_=>gW q
 | p::l,q,k=>fJ (α:=yX p.2.af) (β:=EP l) q (fun t=>k p.1 (fN p.2 np n m t)) fun q=>N3 np n m l q k
end
open Classical in
noncomputable def PV{R:Type}(a b:Option R):Option R:=if a=b then a else none
theorem Bb{R:Type}{a b:Option R}{r:R}(h:PV a b=some r):a=some r∧b=some r:=by
 unfold PV at h
 split at h
 ·rename_i e;exact⟨h,e▸h⟩
 ·cases h
def Kc{R:Type}(F:St→(ed→St→Option R)→Option R):Nat→St→(ed→St→Option R)→Option R
 | 0,_,_=>none
 | n+1,st,k=>F st fun e st'=>match e with
  | .normal=>Kc F n st' k
  | e=>k e st'
noncomputable def Kd{R:Type}(fg:Bool)(d:D)(a b:Option R):Option R:=match fg,d with
 | true,.s (.c .fg)=>PV a b
 | _,d=>RG d fun q=>bif q then a else b
section
variable (P:Program) (Γ:FuncId→Option Callee) (dok:Array Oper→Bool) (np n m:Nat) (fg:Bool)
noncomputable def lV:bg→(R:Type)→St→(ed→St→Option R)→Option R
 | .skip,_,st,k=>k .normal st
 | .ret,_,st,k=>k .ret st
 | .exit id,_,st,k=>k (.exit id) st
 | .region _ ops draw,_,st,k=>if draw=false∨dok ops=true then JQ P Γ ops (List.range ops.size) st fun st=>k .normal st else none
 | .seq x y,R,st,k=>lV x R st fun e st=>match e with
  | .normal=>lV y R st k
  | e=>k e st
 | .cond c x y,R,st,k=>Kd fg (ev st c) (lV x R st k) (lV y R st k)
 | .block id x,R,st,k=>lV x R st fun e st=>match e with
  | .exit j=>if j=id then k .normal st else k (.exit j) st
  | e=>k e st
 | .scope x,R,st,k=>lV x R st k
 | .label _,_,st,k=>k .normal st
 | .loop h xs x,R,st,k=>ST np n m h st fun s0=>ob (bH (fun s=>lV x (yX h.af⊕EP xs) (fN h np n m s) fun e st'=>match e with
  | .normal=>ST np n m h st' fun s'=>some (.inl s')
  | e=>PU np n m xs e st' fun q=>some (.inr q)) s0) fun q=>N3 np n m xs q k
 | .join xs x,R,st,k=>ob (lV x (EP xs) st fun e st'=>PU np n m xs e st' some) fun q=>N3 np n m xs q k
 | .kq i x,R,st,k=>Kc (fun st k=>lV x R st k) i st k
end
section
variable {R:Type} {P:Program} {Γ:FuncId→Option Callee} {dok:Array Oper→Bool} {w0:World} {F Xc:Nat→Prop} {ρ0:cn} {r:R}
def U2(P:Program)(Γ:FuncId→Option Callee)(dok:Array Oper→Bool):Prop:=
 ∀(ops:Array Oper),dok ops=true→∀{R:Type} (w0:World) (F Xc:Nat→Prop) (ρ0:cn) (ρ:nT) (st:St) (a:Act) (w:World) (k:St→Option R) (r:R) (Q:Exit→Act→World→Prop) (t:Nat),
  Good P w0 F→Rel w0 F Xc ρ0 ρ st a w→JQ P Γ ops (List.range ops.size) st k=some r→(∀ρ' st' a' w',Rel w0 F Xc ρ0 ρ' st' a' w'→k st'=some r→Q .normal a' w') →
  wpOps P ops Q (Region.schedule (P.follows .mixedOrders) ops t) a w
theorem PW{np n m:Nat}{h:Hint}{f:yX h.af→Option R}{st:St}{ρ:nT}{a:Act}{w:World}(hex:ρ0.ex=[])(hR:Rel w0 F Xc ρ0 ρ st a w)(hf:ST np n m h st f=some r):
 ∃t,f t=some r∧∃ρ'',Rel w0 F Xc ρ0 ρ'' (fN h np n m t) a w:=by
 unfold ST at hf
 split at hf
 ·rename_i hd
  obtain⟨h1,h2,h3⟩:=hd
  subst h1;subst h2;subst h3
  obtain⟨ρ1,hR1⟩:=Dn h hR
  obtain⟨e1,e2,e3⟩:=XQ h st
  have:=Ka hex hR1 hf
  rw[e1,e2,e3] at this
  exact this
 ·cases hf
theorem JV{np n m:Nat}(hex:ρ0.ex=[]):∀(xs:List (ed×Hint)) (e:ed) (st:St) (f:EP xs→Option R) {ρ:nT} {a:Act} {w:World},Rel w0 F Xc ρ0 ρ st a w →
 PU np n m xs e st f=some r→∃q,f q=some r∧∃ρ'' st'',Rel w0 F Xc ρ0 ρ'' st'' a w∧∀{R':Type} (k:ed→St→Option R'),N3 np n m xs q k=k e st''
 | [],e,st,f,ρ,a,w,h,hf=>by simp[PU] at hf
 | p::l,e,st,f,ρ,a,w,h,hf=>by
  simp only[PU] at hf
  split at hf
  ·rename_i he
   obtain⟨t,ht,ρ'',hR⟩:=PW hex h hf
   exact⟨.inl t,ht,ρ'',_,hR,fun k=>by subst he;rfl⟩
  ·obtain⟨q,hq,ρ'',st'',hR,hk⟩:=JV hex l e st _ h hf
   exact⟨.inr q,hq,ρ'',st'',hR,fun k=>hk k⟩
theorem pJ{np n m:Nat}{fg:Bool}(hΓ:je P Γ)(hD:U2 P Γ dok)(hG:Good P w0 F):∀(c:bg) (_:ρ0.ex=[]∨c.flat=true) (R:Type) (r:R) {ρ:nT} {st:St} {a:Act} {w:World} {k:ed→St→Option R} {Q:Exit→Act→World→Prop},Rel w0 F Xc ρ0 ρ st a w →
 lV P Γ dok np n m fg c R st k=some r→(∀ρ' st' a' w' e,Rel w0 F Xc ρ0 ρ' st' a' w'→k e st'=some r→Q e.ex a' w')→c.code.wp P Q a w
 | .skip,hx,R,r,ρ,st,a,w,k,Q,h,hk,hn=>wp_skip (hn ρ st a w .normal h hk)
 | .ret,hx,R,r,ρ,st,a,w,k,Q,h,hk,hn=>wp_ret (hn ρ st a w .ret h hk)
 | .exit id,hx,R,r,ρ,st,a,w,k,Q,h,hk,hn=>wp_exit (hn ρ st a w (.exit id) h hk)
 | .region id ops draw,hx,R,r,ρ,st,a,w,k,Q,h,hk,hn=>by
  simp only[lV] at hk
  split at hk
  ·rename_i hd
   cases draw with
   | false=>exact wp_region (zZ hΓ hG _ h hk fun ρ' st' a' w' hR hk'=>hn ρ' st' a' w' .normal hR hk')
   | true=>
    have hd':dok ops=true:=by rcases hd with hd | hd;cases hd;exact hd
    refine wp_region_draw fun t=>?_
    exact hD ops hd' w0 F Xc ρ0 ρ st a _ (fun st=>k .normal st) r Q t hG (h.world (cf.drew _ w)) hk fun ρ' st' a' w' hR hk'=>hn ρ' st' a' w' .normal hR hk'
  ·cases hk
 | .seq x y,hx,R,r,ρ,st,a,w,k,Q,h,hk,hn=>by
  simp only[lV] at hk
  refine wp_seq (pJ hΓ hD hG x (hx.imp (fun h=>h) fun hf=>(iC.1 (show (x.flat&&y.flat)=true from hf)).1) R r h hk fun ρ' st' a' w' e hR hk'=>?_)
  cases e with
  | normal=>exact pJ hΓ hD hG y (hx.imp (fun h=>h) fun hf=>(iC.1 (show (x.flat&&y.flat)=true from hf)).2) R r hR hk' hn
  | exit id=>exact hn ρ' st' a' w' (.exit id) hR hk'
  | ret=>exact hn ρ' st' a' w' .ret hR hk'
 | .cond c x y,hx,R,r,ρ,st,a,w,k,Q,h,hk,hn=>by
  simp only[lV] at hk
  unfold Kd at hk
  split at hk
  ·rename_i hd
   obtain⟨k1,k2⟩:=Bb hk
   have hc:=h.ev c
   rw[hd] at hc
   rcases hc with hc | ⟨⟨b,hb⟩,_⟩
   ·cases hc
   ·cases b with
    | true=>exact wp_cond_true hb (pJ hΓ hD hG x (hx.imp (fun h=>h) fun hf=>(iC.1 (show (x.flat&&y.flat)=true from hf)).1) R r h k1 hn)
    | false=>exact wp_cond_false hb (pJ hΓ hD hG y (hx.imp (fun h=>h) fun hf=>(iC.1 (show (x.flat&&y.flat)=true from hf)).2) R r h k2 hn)
  obtain⟨b,hb,hk1⟩:=B8 (h.ev c) hk
  cases b with
  | true=>exact wp_cond_true hb (pJ hΓ hD hG x (hx.imp (fun h=>h) fun hf=>(iC.1 (show (x.flat&&y.flat)=true from hf)).1) R r h hk1 hn)
  | false=>exact wp_cond_false hb (pJ hΓ hD hG y (hx.imp (fun h=>h) fun hf=>(iC.1 (show (x.flat&&y.flat)=true from hf)).2) R r h hk1 hn)
 | .block id x,hx,R,r,ρ,st,a,w,k,Q,h,hk,hn=>by
  simp only[lV] at hk
  refine wp_block (pJ hΓ hD hG x (hx.imp (fun h=>h) fun hf=>(show x.flat=true from hf)) R r h hk fun ρ' st' a' w' e hR hk'=>?_)
  cases e with
  | normal=>exact hn ρ' st' a' w' .normal hR hk'
  | exit j=>
   simp only at hk'
   show if j=id then Q .normal a' w' else Q (.exit j) a' w'
   split
   ·rename_i hj;rw[aC hj] at hk';exact hn ρ' st' a' w' .normal hR hk'
   ·rename_i hj;rw[aA hj] at hk';exact hn ρ' st' a' w' (.exit j) hR hk'
  | ret=>exact hn ρ' st' a' w' .ret hR hk'
 | .scope x,hx,R,r,ρ,st,a,w,k,Q,h,hk,hn=>by
  simp only[lV] at hk
  exact wp_scope_straight (pJ hΓ hD hG x (hx.imp (fun h=>h) fun hf=>(show x.flat=true from hf)) R r h hk fun ρ' st' a' w' e hR hk'=>by
   have:=hn ρ' st' a' w' e hR hk'
   cases e <;> exact this)
 | .label l,hx,R,r,ρ,st,a,w,k,Q,h,hk,hn=>wp_label (hn ρ st a w .normal h hk)
 | .loop hh xs x,hx,R,r,ρ,st,a,w,k,Q,h,hk,hn=>by
  have hex:ρ0.ex=[]:=hx.resolve_right (by simp[bg.flat])
  simp only[lV] at hk
  obtain⟨s0,hk1,ρ1,h1⟩:=PW hex h hk
  obtain⟨q,hq,hk2⟩:=bK hk1
  obtain⟨i,hi⟩:=xJ.1 hq
  refine wp_loop_rounds i ?_
  clear hk hk1 hq h
  induction i generalizing s0 ρ1 a w with
  | zero=>simp[DN] at hi
  | succ i ih=>
   rw[rounds_succ]
   rw[DN] at hi
   cases hF:(lV P Γ dok np n m fg x (yX hh.af⊕EP xs) (fN hh np n m s0) fun e st'=>match e with
    | .normal=>ST np n m hh st' fun s'=>some (.inl s')
    | e=>PU np n m xs e st' fun q=>some (.inr q)) with
   | none=>rw[hF] at hi;cases hi
   | some res=>
    rw[hF] at hi
    refine pJ hΓ hD hG x (.inl hex) _ res h1 hF fun ρ' st' a' w' e hR hk'=>?_
    cases e with
    | normal=>
     obtain⟨s',hs',ρ2,h2⟩:=PW hex hR hk'
     cases hs'
     exact ih (a:=a') (w:=w') (s0:=s') (ρ1:=ρ2) h2 hi
    | exit id=>
     obtain⟨q',hq',ρ2,st2,h2,hu⟩:=JV hex xs (.exit id) st' _ hR hk'
     cases hq'
     simp only[cC] at hi
     subst hi
     rw[hu] at hk2
     exact hn ρ2 st2 a' w' (.exit id) h2 hk2
    | ret=>
     obtain⟨q',hq',ρ2,st2,h2,hu⟩:=JV hex xs .ret st' _ hR hk'
     cases hq'
     simp only[cC] at hi
     subst hi
     rw[hu] at hk2
     exact hn ρ2 st2 a' w' .ret h2 hk2
 | .join xs x,hx,R,r,ρ,st,a,w,k,Q,h,hk,hn=>by
  have hex:ρ0.ex=[]:=hx.resolve_right (by simp[bg.flat])
  simp only[lV] at hk
  obtain⟨q,hq,hk2⟩:=bK hk
  refine pJ hΓ hD hG x (.inl hex) _ q h hq fun ρ' st' a' w' e hR hk'=>?_
  obtain⟨q',hq',ρ2,st2,h2,hu⟩:=JV hex xs e st' _ hR hk'
  cases hq'
  rw[hu] at hk2
  exact hn ρ2 st2 a' w' e h2 hk2
 | .kq i x,hx,R,r,ρ,st,a,w,k,Q,h,hk,hn=>by
  simp only[lV] at hk
  refine wp_loop_rounds i ?_
  induction i generalizing st ρ a w with
  | zero=>simp[Kc] at hk
  | succ i ih=>
   rw[rounds_succ]
   simp only[Kc] at hk
   refine pJ hΓ hD hG x (hx.imp (fun h=>h) fun hf=>(show x.flat=true from hf)) R r h hk fun ρ' st' a' w' e hR hk'=>?_
   cases e with
   | normal=>exact ih (hx.imp (fun h=>h) fun hf=>(show x.flat=true from hf)) ρ' st' a' w' hR hk'
   | exit id=>exact hn ρ' st' a' w' (.exit id) hR hk'
   | ret=>exact hn ρ' st' a' w' .ret hR hk'
end
structure br where
 na:Nat
 np:Nat
 ez:Hint
 im:Nat
 kept:List Nat
 dt:Nat
 bw:Hint
 oe:Nat
def br.no(sg:br):Nat:=sg.im+sg.kept.length
def PX:List Sh→List (Option (TypeId×Nat))
 | []=>[]
 | .row e n _::l=>some (e,n)::PX l
 | _::l=>none::PX l
section
variable {R:Type} (P:Program) (Γ:FuncId→Option Callee) (dok:Array Oper→Bool)
def JW(st:St):List ResultVar→(List S1→Option R)→Option R
 | [],k=>k []
 | .tmp t::l,k=>match st.env.getD t D.top with
  | .s s=>JW st l fun rs=>k (s::rs)
  | _=>none
 | .cell x t::l,k=>vQ P st t (ev st (.tmp x)) fun d=>match d with
  | .s s=>JW st l fun rs=>k (s::rs)
  | _=>none
def Kf(nt:Nat)(sg:br)(t:yX sg.ez.af):St:=fN sg.ez sg.np nt (sg.np+sg.oe) t
def Dp(ae:List O)(k:Nat):D:=match ae[k]? with
 | some (.row _ _ _ _)=>.s (.c (.row k))
 | _=>D.top
def PY(sg:br)(rs:List S1)(ae:List O):St:={ np:=sg.np,env:=rs.map .s++sg.kept.map (Dp ae),ae:=ae }
def Te(rv:List ResultVar)(sg:br)(st:St):Option (yX sg.bw.af):=if st.np=sg.np then JW P st rv fun rs=>if rs.length=sg.im∧sg.np+sg.dt≤st.ae.length then H1 sg.bw (Gp sg.bw (PY sg rs st.ae)) some else none else none
noncomputable def Kg(code:bg)(rv:List ResultVar)(nt:Nat)(sg:br)(t:yX sg.ez.af):Option (yX sg.bw.af):=
 lV P Γ dok sg.np nt (sg.np+sg.oe) true code (yX sg.bw.af) (Kf nt sg t) fun e st=>match e with
  | .exit _=>none
  | _=>Te P rv sg st
end
def XS(sg:br)(args:List S1)(po:List O):St:={ np:=sg.np,env:=args.map .s,ae:=po }
def aD(sg:br)(U:yX sg.ez.af→Option (yX sg.bw.af)):Callee where
 rows:=PX sg.ez.af
 call args po k:=if args.length=sg.na∧po.length=sg.np then H1 sg.ez (XS sg args po) fun t=>ob (U t) fun q=>
  match Gb ((fN sg.bw sg.np sg.no (sg.np+sg.dt) q).env.take sg.im) with
  | some rs=>k rs (fN sg.bw sg.np sg.no (sg.np+sg.dt) q).ae
  | none=>none
  else none
def br.ok(sg:br)(nt:Nat):Bool:=
 decide (sg.na≤nt)&&(wB sg.ez.items).all (fun i=>decide (i<sg.na))&&(fG sg.bw.items++dC sg.bw.af).all (fun k=>decide (k<sg.np+sg.dt))&&sg.kept.all (fun k=>decide (k<sg.np))
section
variable {R:Type} {P:Program} {w0 w:World} {F Xc X X'':Nat→Prop} {ρ0:cn} {ρ ρ'':nT} {st:St} {a:Act} {r:R}
theorem Pe(h:Rel w0 F Xc ρ0 ρ st a w)(t:Nat):ay w (XB st.ae ρ Xc) ρ (st.env.getD t D.top) (a.tmps.getD t undef):=by
 rw[jY]
 cases hd:st.env[t]? with
 | none=>exact .inl rfl
 | some d=>
  have hlt:t<a.tmps.size:=by rw[h.len];exact(dA.1 hd).1
  have e1:a.tmps[t]?=some a.tmps[t]:=vL hlt
  rw[MN,e1]
  exact h.env t d _ hd e1
theorem Bc{t:TypeId}{v y:Value}{w':World}(h:(Instr.loadAt t v).run P w=.ok y w'):((asAddr v).run P w).andThen (fun a w₁=>(loadVar t a).run P w₁)=.ok y w':=by
 unfold Instr.loadAt at h
 rw[bO] at h
 cases v with
 | pointer p=>
  cases p with
  | none=>have h':Result.halt _ _=Result.ok y w':=h;cases h'
  | some ad=>simpa[Instr.sureAddr,asAddr] using h
 | _=>have h':Result.halt _ _=Result.ok y w':=h;cases h'
theorem N4(h:Rel w0 F Xc ρ0 ρ st a w):∀(l:List ResultVar) (k:List S1→Option R),JW P st l k=some r →
 ∃rs vs,k rs=some r∧cy w (XB st.ae ρ Xc) ρ rs vs∧rs.length=l.length ∧
  (l.mapM (m:=Sem) fun
   | .tmp t=>pure (a.tmps.getD t undef)
   | .cell x t=>do loadVar t (←asAddr (a.tmps.getD x undef))).run P w=.ok vs w
 | [],k,hk=>⟨[],[],hk,⟨rfl,fun i s y h1 _=>by simp at h1⟩,rfl,rfl⟩
 | .tmp t::l,k,hk=>by
  simp only[JW] at hk
  split at hk
  ·rename_i s hs
   have hd:=Pe h t
   rw[hs] at hd
   obtain⟨rs,vs,q1,q2,q3,q4⟩:=N4 h l _ hk
   refine⟨s::rs,a.tmps.getD t undef::vs,q1,.cons hd q2,by simp[q3],?_⟩
   rw[ZI,bO]
   simp only[iL,dM]
   rw[bO,q4]
   rfl
  ·cases hk
 | .cell x t::l,k,hk=>by
  simp only[JW] at hk
  have hx:=h.ev (.tmp x)
  obtain⟨d,y,e1,e2,e3⟩:=WT h hx hk
  split at e3
  ·rename_i s
   obtain⟨rs,vs,q1,q2,q3,q4⟩:=N4 h l _ e3
   refine⟨s::rs,y::vs,q1,.cons e2 q2,by simp[q3],?_⟩
   have e4:((asAddr (a.tmps.getD x undef)).run P w).andThen (fun a w₁=>(loadVar t a).run P w₁)=.ok y w:=Bc e1
   rw[ZI,bO]
   simp only[bO,e4,dM,q4]
   rfl
  ·cases e3
theorem Rk{rs:List S1}{vs:List Value}(h:cy w X ρ rs vs):ew w X ρ rs (if h:vs.toArray.size=1 then vs.toArray[0] else .tuple vs.toArray):=by
 match rs,vs,h with
 | [],[],h=>exact⟨#[],rfl,h⟩
 | [s],[v],h=>exact h.2 0 s v rfl rfl
 | s::s'::l,v::v'::vl,h=>exact⟨(v::v'::vl).toArray,by simp,h⟩
 | [],_::_,h=>have:=h.1;simp at this
 | _::_,[],h=>have:=h.1;simp at this
 | [_],_::_::_,h=>have:=h.1;simp at this
 | _::_::_,[_],h=>have:=h.1;simp at this
end
section
variable {R:Type} {P:Program} {w0 w:World} {F Xc X X'':Nat→Prop} {ρ0:cn} {ρ ρ'':nT} {st:St} {a:Act} {r:R}
theorem Rel.bare{ae:List O}{env:List D}{vals:List Value}{np:Nat}(hlen:env.length=vals.length)(henv:∀(i:Nat) d y,env[i]?=some d→vals[i]?=some y→ay w (XB ae ρ Xc) ρ d y)
 (hok:∀(k:Nat) o,ae[k]?=some o→Ut w (XB ae ρ Xc) ρ k o) (hsep:Wx ae ρ) (hown:∀b,BM ae ρ b→w0.heap.size≤b∨F b) (hpar:∀k,k<np→ρ k=ρ0.nv k) (hfr:cf F w0 w)
 (hxl:∀b,Xc b→b<w0.heap.size) (hxc:∀b,BM ae ρ b→¬Xc b) (hext:∀p∈ρ0.ex,ay w (XB ae ρ Xc) ρ p.1 p.2):Rel w0 F Xc ρ0 ρ { np:=np,env:=env,ae:=ae } { tmps:=vals.toArray,defers:=[] } w:=
 ⟨by simp[hlen],fun i d y h1 h2=>henv i d y h1 (by simpa using h2),hok,hsep,hown,hpar,rfl,hfr,hxl,hxc,hext⟩
theorem Rel.mr{h:Hint}{np n n' m m':Nat}{t:yX h.af}{vals:List Value}(hR:Rel w0 F Xc ρ0 ρ (fN h np n m t) { tmps:=vals.toArray,defers:=[] } w)(hn:n≤n')(hm:m≤m')(hnp:np≤m)(hv:vals.length=n)
 (hs:∀i∈wB h.items,i<n) (hk:∀k∈fG h.items++dC h.af,k<m) (hno:∀k,m≤k→ρ k=none):
 Rel w0 F Xc ρ0 ρ (fN h np n' m' t) { tmps:=vals.toArray++Array.replicate (n'-vals.toArray.size) undef,defers:=[] } w:=by
 obtain⟨e1,e2⟩:=M5 (h:=h) (t:=t) hn hm hnp
 obtain⟨l1,l2,l3⟩:=DM (h:=h) (n:=n) (t:=t) hnp
 obtain⟨L1,L2,L3⟩:=DM (h:=h) (n:=n') (t:=t) (show np≤m' by omega)
 have bw:∀k,m≤k→(fN h np n' m' t).ae[k]?=some .fresh∨(fN h np n' m' t).ae[k]?=none:=fun k hk'=>by
  have h1:k∉fG h.items:=fun hb=>by have:=hk k (fK.2 (.inl hb));omega
  have h2:k∉dC h.af:=fun hb=>by have:=hk k (fK.2 (.inr hb));omega
  have:(fN h np n' m' t).ae[k]?=(mW np n' m').ae[k]?:=by
   show (qI _ _)[k]?=_
   rw[tY _ _ k (by rw[iV];exact h2),sW h.items _ _ k h1]
  rw[this,A7 (by omega),aA (by omega)]
  by_cases hkm:k<m'
  ·rw[aC hkm];exact .inl rfl
  ·rw[aA hkm];exact .inr rfl
 have hHas:∀k b,Has (fN h np n' m' t).ae ρ k b↔Has (fN h np n m t).ae ρ k b:=fun k b=>by
  by_cases hkm:k<m
  ·unfold Has;rw[e2 k hkm]
  ·constructor
   ·rintro ⟨o,v,h1,h2,h3,h4⟩
    rw[hno k (by omega)] at h3;cases h3
   ·rintro ⟨o,v,h1,h2,h3,h4⟩
    rw[hno k (by omega)] at h3;cases h3
 have hmut:∀b,BM (fN h np n' m' t).ae ρ b↔BM (fN h np n m t).ae ρ b:=fun b=>⟨fun⟨k,hh⟩=>⟨k,(hHas k b).1 hh⟩,fun⟨k,hh⟩=>⟨k,(hHas k b).2 hh⟩⟩
 have hXe:XB (fN h np n' m' t).ae ρ Xc=XB (fN h np n m t).ae ρ Xc:=by funext b;unfold XB;rw[propext (hmut b)]
 refine⟨by simp[L2];omega,fun i d y h1 h2=>?_,fun k o ho=>?_,fun k k' b h1 h2=>hR.sep k k' b ((hHas k b).1 h1) ((hHas k' b).1 h2),fun b hb=>hR.own b ((hmut b).1 hb),fun k hk=>?_,rfl,hR.frame,hR.jo,fun b hb=>hR.xc b ((hmut b).1 hb),fun p hp=>by rw[hXe];exact hR.ext p hp⟩
 ·rw[hXe]
  by_cases hi:i<n
  ·rw[←e1 i hi] at h1
   refine hR.env i d y h1 ?_
   rw[Array.getElem?_append_left (by simp;omega)] at h2
   exact h2
  ·have h3:(fN h np n' m' t).env[i]?=(mW np n' m').env[i]?:=yN h.items _ _ i (fun hm=>by have:=hs i hm;omega)
   rw[h3] at h1
   simp only[mW,K6] at h1
   split at h1
   ·cases h1;exact .top_ y
   ·cases h1
 ·rw[hXe]
  by_cases hkm:k<m
  ·exact hR.ae k o (by rw[e2 k hkm];exact ho)
  ·rcases bw k (by omega) with hh | hh
   ·rw[hh] at ho;cases ho;exact hno k (by omega)
   ·rw[hh] at ho;cases ho
 ·rw[L1] at hk
  exact hR.par k (by rw[l1];exact hk)
theorem XT{Γ:FuncId→Option Callee}{dok:Array Oper→Bool}{f:FuncId}{fn:Func}{code:bg}{rv:List ResultVar}{nt:Nat}{sg:br}{U:yX sg.ez.af→Option (yX sg.bw.af)}
 (hΓ:je P Γ) (hD:U2 P Γ dok) (hf:P.funcs[f]?=some fn) (hb:fn.body=some code.code) (hnt:fn.ntmps=nt) (hrv:fn.results.toList=rv) (hs:sg.ok nt=true)
 (hU:∀t q,U t=some q→Kg P Γ dok code rv nt sg t=some q):(aD sg U).OK P f:=by
 refine⟨?_,fun I h=>(by cases h),fun I h=>(by cases h)⟩
 intro R args po k r hk
 simp only[aD] at hk
 split at hk
 case isFalse=>cases hk
 rename_i hlens
 obtain⟨hna,hnp⟩:=hlens
 unfold br.ok at hs
 simp only[cM,cK,jF] at hs
 obtain⟨⟨⟨hs1,hs2⟩,hs3⟩,hs4⟩:=hs
 rw[G6] at hk
 cases hpk:H1 sg.ez (XS sg args po) some with
 | none=>rw[hpk] at hk;cases hk
 | some t=>
 rw[hpk] at hk
 simp only[uX] at hk
 obtain⟨q,hq,hk1⟩:=bK hk
 split at hk1
 case h_2=>cases hk1
 rename_i rs hrs
 refine⟨rs,_,hk1,?_⟩
 have hs1s:=LP hrs
 intro w Xc ρ vals hok hsep hxl hxc hgood hargs
 have hvl:vals.length=sg.na:=by rw[←hargs.1] at hna;rw[←hna,hargs.1]
 have hR0:Rel w (BM po ρ) Xc ⟨ρ,[]⟩ ρ (XS sg args po) { tmps:=vals.toArray,defers:=[] } w:=
  Rel.bare (by rw[cS];exact hargs.1.symm) (fun i d y h1 h2=>by
   rw[eW] at h1
   cases ha:args[i]? with
   | none=>simp[ha] at h1
   | some s=>
    simp only[ha,fH,cC] at h1
    subst h1
    exact hargs.2 i s y ha h2) hok hsep (fun b hb=>.inr hb) (fun _ _=>rfl) (.refl _ _) hxl hxc (fun p hp=>by simp at hp)
 obtain⟨t',ht',hkk,ρ1,hno,hR1⟩:=LU rfl hR0 hpk
 cases ht'
 have hRel:=Rel.mr (n':=nt) (m':=sg.np+sg.oe) hR1 (by simp only[XS,cS];omega) (by simp only[XS];omega) (by simp only[XS];omega) (by simp only[XS,cS];omega)
  (fun i hi=>by have:=hs2 i hi;simp only[XS,cS];omega) hkk hno
 have hbody:=hU t q hq
 unfold Kg Kf at hbody
 rw[←hnt] at hRel hbody
 refine calls_of_wp hf hb (pJ hΓ hD hgood code (.inl rfl) _ q hRel hbody fun ρ' st' a' w' e hR hk3=>?_)
 have key:Te P rv sg st'=some q→a'.defers=[]∧∃v,(results fn a'.tmps).run P w'=.ok v w'∧Vd w Xc ρ po rs (fN sg.bw sg.np sg.no (sg.np+sg.dt) q).ae (.returned v) w':=by
  intro hk4
  refine⟨hR.defers,?_⟩
  unfold Te at hk4
  split at hk4
  case isFalse=>cases hk4
  rename_i hnp'
  obtain⟨Ff,vs,p1,p2,p3,p4⟩:=N4 hR rv _ hk4
  split at p1
  case isFalse=>cases p1
  rename_i hrl0
  obtain⟨hrl,hmM⟩:=hrl0
  have hkv:∀k:Nat,∃v,ay w' (XB st'.ae ρ' Xc) ρ' (Dp st'.ae k) v:=fun k=>by
   unfold Dp
   split
   ·rename_i fz e n l ho
    obtain⟨v,e1,e2⟩:=hR.ae k _ ho
    obtain⟨_,_,⟨xs,hown,_⟩,_⟩:=e2
    exact⟨v,.one (c:=.row k) e1 hown.one⟩
   ·exact⟨undef,.top_ _⟩
  have hkvs:∃kv:List Value,kv.length=sg.kept.length∧∀(i:Nat) d y,(sg.kept.map (Dp st'.ae))[i]?=some d→kv[i]?=some y→ay w' (XB st'.ae ρ' Xc) ρ' d y:=by
   refine⟨sg.kept.map fun k=>Classical.choose (hkv k),by simp,fun i d y h1 h2=>?_⟩
   rw[eW] at h1 h2
   cases hk:sg.kept[i]? with
   | none=>simp[hk] at h1
   | some k=>
    simp only[hk,fH,cC] at h1 h2
    subst h1;subst h2
    exact LB (hkv k)
  obtain⟨kv,hkl,hkd⟩:=hkvs
  have hR2:Rel w (BM po ρ) Xc ⟨ρ,[]⟩ ρ' (PY sg Ff st'.ae) { tmps:=(vs++kv).toArray,defers:=[] } w':=
   Rel.bare (by simp[p2.1,hkl]) (fun i d y h1 h2=>by
    rw[sC] at h1 h2
    rw[cS] at h1
    rw[p2.1] at h2
    split at h1
    ·rename_i hi
     rw[aC hi] at h2
     rw[eW] at h1
     cases ha:Ff[i]? with
     | none=>simp[ha] at h1
     | some s=>
      simp only[ha,fH,cC] at h1
      subst h1
      exact p2.2 i s y ha h2
    ·rename_i hi
     rw[aA hi] at h2
     exact hkd _ d y h1 h2) hR.ae hR.sep hR.own (fun k hk=>hR.par k (by rw[hnp'];exact hk)) hR.frame hR.jo hR.xc (fun p hp=>by simp at hp)
  obtain⟨ρm,hR2m⟩:=Dn sg.bw hR2
  obtain⟨m1,m2,m3⟩:=XQ sg.bw (PY sg Ff st'.ae)
  obtain⟨q',hq',_,ρ2,_,hR3⟩:=LU rfl hR2m p1
  cases hq'
  rw[m1,m2,m3] at hR3
  have hel:(PY sg Ff st'.ae).env.length=sg.no:=by simp[PY,br.no,hrl]
  rw[hel] at hR3
  have hm0:(PY sg Ff st'.ae).ae.length=st'.ae.length:=rfl
  have hn0:(PY sg Ff st'.ae).np=sg.np:=rfl
  rw[hm0,hn0] at hR3
  obtain⟨e1,e2⟩:=M5 (h:=sg.bw) (t:=q) (np:=sg.np) (n:=sg.no) (n':=sg.no) (gU _) hmM (HQ _ _)
  obtain⟨l1,l2,l3⟩:=DM (h:=sg.bw) (t:=q) (n:=sg.no) (show sg.np≤sg.np+sg.dt from HQ _ _)
  obtain⟨L1,L2,L3⟩:=DM (h:=sg.bw) (t:=q) (n:=sg.no) (show sg.np≤st'.ae.length by omega)
  have hHas:∀k b,Has (fN sg.bw sg.np sg.no (sg.np+sg.dt) q).ae ρ2 k b→Has (fN sg.bw sg.np sg.no st'.ae.length q).ae ρ2 k b:=fun k b ⟨o,v,h1,h2,h3,h4⟩=>by
   have hk:k<sg.np+sg.dt:=by rw[←l3];exact(dA.1 h1).1
   exact⟨o,v,by rw[←e2 k hk];exact h1,h2,h3,h4⟩
  have hX:∀b,XB (fN sg.bw sg.np sg.no (sg.np+sg.dt) q).ae ρ2 Xc b→XB (fN sg.bw sg.np sg.no st'.ae.length q).ae ρ2 Xc b:=fun b hb=>by
   rcases hb with⟨k,hk⟩ | hb
   ·exact .inl ⟨k,hHas k b hk⟩
   ·exact .inr hb
  have hsame:cf (fun _=>False) w' w':=.refl _ w'
  refine⟨(if h:vs.toArray.size=1 then vs.toArray[0] else .tuple vs.toArray),?_,_,ρ2,rfl,hR3.frame,fun k hk=>?_,?_,fun k o ho=>?_,fun k k' b h1 h2=>hR3.sep k k' b (hHas k b h1) (hHas k' b h2),fun k b hb=>?_,Rk ?_⟩
  ·unfold results
   rw[bO,ZR,hrv,ZS]
   exact fL (fun z:Result (List Value)=>(z.andThen fun l w'=>(Result.ok l.toArray w':Result (Array Value))).andThen fun vs w'=>
    (pure (if h:vs.size=1 then vs[0] else .tuple vs):Sem Value).run P w') p4
  ·exact hR3.par k (by rw[L1];omega)
  ·rw[l3];omega
  ·have hk:k<sg.np+sg.dt:=by rw[←l3];exact(dA.1 ho).1
   have:=hR3.ae k o (by rw[←e2 k hk];exact ho)
   cases o with
   | dead=>trivial
   | fresh=>exact this
   | box l=>obtain⟨v,f1,f2⟩:=this;exact⟨v,f1,f2.step hsame (fun _ h=>h.elim) (fun b hb=>.inl (hX b hb)) (.refl _) (fun _ _ h=>h)⟩
   | row fz e n l=>obtain⟨v,f1,f2⟩:=this;exact⟨v,f1,f2.step hsame (fun _ h=>h.elim) (fun b hb=>.inl (hX b hb)) (.refl _) (fun _ _ h=>h)⟩
   | mp fz e n l=>obtain⟨v,f1,f2⟩:=this;exact⟨v,f1,f2.step hsame (fun _ h=>h.elim) (fun b hb=>.inl (hX b hb)) (.refl _) (fun _ _ h=>h)⟩
   | cu l=>obtain⟨v,f1,f2⟩:=this;exact⟨v,f1,f2.step hsame (fun _ h=>h.elim) (fun b hb=>.inl (hX b hb)) (.refl _) (fun _ _ h=>h)⟩
   | rr hole e e2 n l=>obtain⟨v,f1,f2⟩:=this;exact⟨v,f1,ct.step (o:=.rr hole e _ n l) (ρ:=ρ2) f2 hsame (fun _ h=>h.elim) (fun b hb=>.inl (hX b hb)) (.refl _) (fun _ _ h=>h)⟩
   | fwd l=>exact this
  ·rcases hR3.own b ⟨k,hHas k b hb⟩ with h' | ⟨k',h'⟩
   ·exact .inr h'
   ·exact .inl ⟨k',h'⟩
  ·have hrsl:rs.length=sg.im:=by
    have:=fL List.length hs1s
    rw[mU,l2,cS] at this
    simp only[br.no] at this
    omega
   refine⟨by rw[p2.1,hrl,hrsl],fun i s y h1 h2=>?_⟩
   have hi:i<sg.im:=by rw[←hrsl];exact(dA.1 h1).1
   have h3:(fN sg.bw sg.np sg.no (sg.np+sg.dt) q).env[i]?=some (.s s):=by
    have:=fL (fun z=>z[i]?) hs1s
    simp only[pW,hi,eP,eW,h1,fH] at this
    exact this
   rw[e1 i (by simp only[br.no];omega)] at h3
   have h4:=hR3.env i (.s s) y h3 (by
    have hvi:i<vs.length:=(dA.1 h2).1
    simp only[KZ,sC,hvi,eP]
    exact h2)
   exact ek.step h4 hsame (fun _ h=>h.elim) (fun b hb=>.inl (hX b hb)) (.refl _)
 cases e with
 | normal=>exact key hk3
 | ret=>exact key hk3
 | exit id=>cases hk3
end
inductive HT where
 | leaf
 | seq (x y:HT)
 | one (x:HT)
 | cond (x y:HT)
 | loop (h:Hint) (xs:List (ed×Hint)) (x:HT)
 | join (xs:List (ed×Hint)) (x:HT)
 | kq (n:Nat) (x:HT)
def xK:Code→Option bg
 | .skip=>some .skip
 | .region id ops draw=>some (.region id ops draw)
 | .seq x y=>match xK x,xK y with
  | some a,some b=>some (.seq a b)
  | _,_=>none
 | .cond c x y=>match xK x,xK y with
  | some a,some b=>some (.cond c a b)
  | _,_=>none
 | .block id x=>match xK x with
  | some a=>some (.block id a)
  | none=>none
 | .scope x=>match xK x with
  | some a=>some (.scope a)
  | none=>none
 | .label l=>some (.label l)
 | .exit id=>some (.exit id)
 | .ret=>some .ret
 | _=>none
def M6:HT→Code→Option bg
 | .leaf,c=>xK c
 | .seq hx hy,.seq x y=>match M6 hx x,M6 hy y with
  | some a,some b=>some (.seq a b)
  | _,_=>none
 | .cond hx hy,.cond c x y=>match M6 hx x,M6 hy y with
  | some a,some b=>some (.cond c a b)
  | _,_=>none
 | .one hx,.block id x=>match M6 hx x with
  | some a=>some (.block id a)
  | none=>none
 | .one hx,.scope x=>match M6 hx x with
  | some a=>some (.scope a)
  | none=>none
 | .loop h xs hx,.loop x=>match M6 hx x with
  | some a=>some (.loop h xs a)
  | none=>none
 | .join xs hx,c=>match M6 hx c with
  | some a=>some (.join xs a)
  | none=>none
 | .kq n hx,.loop x=>match M6 hx x with
  | some a=>some (.kq n a)
  | none=>none
 | _,_=>none
theorem XU:∀{c:Code} {a:bg},xK c=some a→a.code=c:=by
 intro c
 induction c with
 | skip=>intro a h;cases h;rfl
 | region id ops draw=>intro a h;cases h;rfl
 | exit id=>intro a h;cases h;rfl
 | ret=>intro a h;cases h;rfl
 | seq x y ihx ihy=>
  intro a h
  simp only[xK] at h
  split at h
  ·rename_i h1 h2;cases h;simp only[bg.code,ihx h1,ihy h2]
  ·cases h
 | cond c x y ihx ihy=>
  intro a h
  simp only[xK] at h
  split at h
  ·rename_i h1 h2;cases h;simp only[bg.code,ihx h1,ihy h2]
  ·cases h
 | block id x ihx=>
  intro a h
  simp only[xK] at h
  split at h
  ·rename_i h1;cases h;simp only[bg.code,ihx h1]
  ·cases h
 | scope x ihx=>
  intro a h
  simp only[xK] at h
  split at h
  ·rename_i h1;cases h;simp only[bg.code,ihx h1]
  ·cases h
 | label l=>intro a h;cases h;rfl
 | _=>intro a h;simp[xK] at h
theorem Kh:∀{t:HT} {c:Code} {a:bg},M6 t c=some a→a.code=c:=by
 intro t
 induction t with
 | leaf=>intro c a h;exact XU (by simpa[M6] using h)
 | seq hx hy ihx ihy=>
  intro c a h
  cases c with
  | seq x y=>
   simp only[M6] at h
   split at h
   ·rename_i h1 h2;cases h;simp only[bg.code,ihx h1,ihy h2]
   ·cases h
  | _=>simp[M6] at h
 | cond hx hy ihx ihy=>
  intro c a h
  cases c with
  | cond c x y=>
   simp only[M6] at h
   split at h
   ·rename_i h1 h2;cases h;simp only[bg.code,ihx h1,ihy h2]
   ·cases h
  | _=>simp[M6] at h
 | one hx ihx=>
  intro c a h
  cases c with
  | block id x=>
   simp only[M6] at h
   split at h
   ·rename_i h1;cases h;simp only[bg.code,ihx h1]
   ·cases h
  | scope x=>
   simp only[M6] at h
   split at h
   ·rename_i h1;cases h;simp only[bg.code,ihx h1]
   ·cases h
  | _=>simp[M6] at h
 | loop hd xs hx ihx=>
  intro c a h
  cases c with
  | loop x=>
   simp only[M6] at h
   split at h
   ·rename_i h1;cases h;simp only[bg.code,ihx h1]
   ·cases h
  | _=>simp[M6] at h
 | join xs hx ihx=>
  intro c a h
  simp only[M6] at h
  split at h
  ·rename_i h1;cases h;simp only[bg.code,ihx h1]
  ·cases h
 | kq n hx ihx=>
  intro c a h
  cases c with
  | loop x=>
   simp only[M6] at h
   split at h
   ·rename_i h1;cases h;simp only[bg.code,ihx h1]
   ·cases h
  | _=>simp[M6] at h
def U4(t:HT)(fn:Func):bg:=match fn.body with
 | some c=>(M6 t c).getD .skip
 | none=>.skip
def JX(t:HT)(fn:Func):Bool:=match fn.body with
 | some c=>(M6 t c).isSome
 | none=>false
theorem SU{t:HT}{fn:Func}(h:JX t fn=true):fn.body=some (U4 t fn).code:=by
 unfold JX at h
 unfold U4
 cases hb:fn.body with
 | none=>simp[hb] at h
 | some c=>
  simp only[hb] at h ⊢
  cases ha:M6 t c with
  | none=>simp[ha] at h
  | some a=>simp only[ha,Option.getD_some,Kh ha]
def sI:List (FuncId×Callee)→FuncId→Option Callee
 | [],_=>none
 | p::l,f=>if p.1=f then some p.2 else sI l f
theorem je.nil{P:Program}:je P (sI []):=fun f A h=>by cases h
theorem je.cons{P:Program}{f:FuncId}{A:Callee}{l:List (FuncId×Callee)}(hc:A.ext=none→FI P f)(hA:A.OK P f)(hl:je P (sI l)):je P (sI ((f,A)::l)):=fun g B h=>by
 simp only[sI] at h
 split at h
 ·rename_i e;cases h;subst e;exact⟨hc,hA⟩
 ·exact hl g B h
def St.bare(st:St):St:={ st with env:=List.replicate st.env.length D.top }
section
variable {R:Type} {P:Program} {Γ:FuncId→Option Callee}
theorem SV(st:St)(dst:Option Nat)(o:O)(k:St→Nat→Option R):qV st dst o k=(qV st.bare dst o fun s key=>some (s.ae,key)).bind fun p=>k { st with ae:=p.1 } p.2:=by
 have hfi:AX st.bare=AX st:=rfl
 have h1:st.bare.ae=st.ae:=rfl
 have h2:st.bare.np=st.np:=rfl
 have h3:st.bare.env.length=st.env.length:=by simp[St.bare]
 cases dst with
 | none=>rfl
 | some d=>
  simp only[qV,hfi,h1,h2,h3]
  split
  ·rfl
  ·split
   ·rfl
   ·split <;> rfl
theorem qM(st:St)(dst:Option Nat)(o:O)(f:Nat→D)(k:St→D→Option R):qV st dst o (fun s key=>k s (f key))=(qV st.bare dst o fun s key=>some (s.ae,f key)).bind fun p=>k { st with ae:=p.1 } p.2:=by
 have hfi:AX st.bare=AX st:=rfl
 have h1:st.bare.ae=st.ae:=rfl
 have h2:st.bare.np=st.np:=rfl
 have h3:st.bare.env.length=st.env.length:=by simp[St.bare]
 cases dst with
 | none=>rfl
 | some d=>
  simp only[qV,hfi,h1,h2,h3]
  split
  ·rfl
  ·split
   ·rfl
   ·split <;> rfl
theorem PZ(st:St)(ae:List O)(dst:Option Nat)(o:O)(f:Nat→D)(k:St→D→Option R):qV { st with ae:=ae } dst o (fun s key=>k s (f key))=(qV { st.bare with ae:=ae } dst o fun s key=>some (s.ae,f key)).bind fun p=>k { st with ae:=p.1 } p.2:=by
 have h:=qM { st with ae:=ae } dst o f k
 exact h
theorem DO(st:St)(t:TypeId)(d:D)(k:D→Option R):vQ P st t d k=(vQ P st.bare t d some).bind k:=by
 unfold vQ AI St.bare
 repeat' (first | split | dsimp only)
 all_goals first
  | rfl
  | simp_all [dL]
theorem Be{R S:Type}(t:TypeId)(c:C)(f:T→Option R)(g:R→Option S):MT P t c (fun x=>(f x).bind g)=(MT P t c f).bind g:=by
 unfold MT
 split
 ·rw[dL]
 ·rw[dL]
 ·rw[dL]
 ·split
  ·split
   ·rw[dL]
   ·rfl
  ·rfl
 ·split <;> rfl
theorem sJ{R S:Type}:∀(ts:List TypeId) (cs:List C) (f:List T→Option R) (g:R→Option S),oW P ts cs (fun x=>(f x).bind g)=(oW P ts cs f).bind g
 | [],[],_,_=>rfl
 | [],_::_,_,_=>rfl
 | _::_,[],_,_=>rfl
 | t::ts,c::cs,f,g=>by
  simp only[oW]
  rw[←Be]
  congr 1
  funext x
  exact sJ ts cs _ g
theorem XW(st:St)(t:TypeId)(d v:D)(k:St→Option R):AW P st t d v k=(AW P st.bare t d v fun s=>some s.ae).bind fun p=>k { st with ae:=p }:=by
 have hb:st.bare.ae=st.ae:=rfl
 unfold AW AI
 simp only[hb]
 repeat' (first | split | dsimp only)
 all_goals first
  | rfl
  | (rw[←sJ];simp only[dL,uX,Option.bind_none];done)
  | (rw[←sJ];rfl)
  | simp_all [dL]
theorem U5(op:BinOp)(kd:IntKind)(a b:Int)(k:D→Option R):GW op kd a b k=(GW op kd a b some).bind k:=by
 unfold GW
 repeat' (first | split | dsimp only)
 all_goals first
  | rfl
  | simp_all [dL]
theorem Bf(op:BinOp)(kd:IntKind)(a b:Int)(k:D→Option R):vO op kd a b k=(vO op kd a b some).bind k:=by
 unfold vO
 repeat' (first | split | dsimp only)
 all_goals first
  | rfl
  | simp_all [dL]
theorem Bg(op:BinOp)(a b:ByteArray)(k:D→Option R):SD op a b k=(SD op a b some).bind k:=by
 unfold SD
 repeat' (first | split | dsimp only)
 all_goals first
  | rfl
  | simp_all [dL]
theorem Kj(op:UnOp)(t:TypeId)(x:D)(k:D→Option R):Sf (P:=P) op t x k=(Sf (P:=P) op t x some).bind k:=by
 unfold Sf RE RG Q9
 repeat' (first | split | dsimp only)
 all_goals first
  | rfl
  | simp_all [dL]
theorem Gr(x:D)(k:D→Option R):Gg x k=(Gg x some).bind k:=by
 unfold Gg AI
 repeat' (first | split | dsimp only)
 all_goals first
  | rfl
  | simp_all [dL]
theorem XX(t:TypeId)(parts:List (Nat×D))(k:D→Option R):IP P t parts k=(IP P t parts some).bind k:=by
 unfold IP
 repeat' (first | split | dsimp only)
 all_goals first
  | rfl
  | simp_all [dL]
theorem P0(fn:Fn)(f c:List D)(k:D→Option R):xF fn f c k=(xF fn f c some).bind k:=by
 unfold xF
 repeat' (first | split | dsimp only)
 all_goals first
  | rfl
  | simp_all [dL]
theorem yO(st:St)(t:TypeId)(x:D)(lo hi mx:Option D)(k:D→Option R):CB P st t x lo hi mx k=(CB P st.bare t x lo hi mx some).bind k:=by
 have hc:∀n c,Ak st.bare n c=Ak st n c:=fun _ _=>rfl
 unfold CB DG rM WL AI Q9
 simp only[hc]
 repeat' (first | split | dsimp only)
 all_goals first
  | rfl
  | simp_all [dL]
theorem NJ(t:TypeId)(x:D)(f:Nat)(k:D→Option R):uN P t x f k=(uN P t x f some).bind k:=by
 unfold uN AI
 repeat' (first | split | dsimp only)
 all_goals first
  | rfl
  | simp_all [dL]
theorem XY(t:TypeId)(x:D)(f:Nat)(k:D→Option R):LJ P t x f k=(LJ P t x f some).bind k:=rfl
theorem Bh(st:St)(s t:TypeId)(x:D)(k:D→Option R):SK P st s t x k=(SK P st.bare s t x some).bind k:=rfl
theorem ES(st:St)(t:TypeId)(x ix:D)(k:D→Option R):kE P st t x ix k=(kE P st.bare t x ix some).bind k:=by
 unfold kE AI rM Q9 St.bare
 repeat' (first | split | dsimp only)
 all_goals first
  | rfl
  | (simp_all [dL];done)
  | (simp only[dL];congr 1;funext i;refine tW ?_ (MX _ _);congr 1;funext j;split <;> rfl)
theorem XZ(t:TypeId)(x ix:D)(k:D→Option R):LL P t x ix k=(LL P t x ix some).bind k:=rfl
theorem RU(x:D)(i:Nat)(k:D→Option R):A1 x i k=(A1 x i some).bind k:=by
 unfold A1
 repeat' (first | split | dsimp only)
 all_goals first
  | rfl
  | simp_all [dL]
theorem Gt(st:St)(t:TypeId)(x:D)(k:D→Option R):E4 P st t x k=(E4 P st.bare t x some).bind k:=by
 unfold E4 WL AI Q9 St.bare
 repeat' (first | split | dsimp only)
 all_goals first
  | rfl
  | simp_all [dL]
theorem Gu(op:BinOp)(t yt:TypeId)(x y:D)(k:D→Option R):Fj P op t yt x y k=(Fj P op t yt x y some).bind k:=by
 unfold Fj RE WL RG Q9
 repeat' (first | split | dsimp only)
 all_goals first
  | rfl
  | (simp only[dL,←Bf,←U5,←Bg];done)
  | simp_all [dL]
theorem LV{rc:∀{R:Type},TypeId→S1→S1→(Bool→Option R)→Option R}(hrc:∀{R:Type} (t:TypeId) (x y:S1) (k:Bool→Option R),rc t x y k=(rc t x y some).bind k)(cs ds:List C):
 ∀(fs:List Field) {R:Type} (k:Bool→Option R),UO P rc cs ds fs k=(UO P rc cs ds fs some).bind k
 | [],R,k=>rfl
 | f::fs,R,k=>by
  simp only[UO]
  split
  ·rfl
  split
  case h_2=>rfl
  split
  case h_2=>rfl
  rw[hrc,hrc (k:=fun b=>UO P rc cs ds fs fun r=>some (tQ b r)),gB]
  congr 1;funext b
  rw[LV hrc cs ds fs,LV hrc cs ds fs (k:=fun r=>some (tQ b r)),gB]
  rfl
theorem LW{rc:∀{R:Type},TypeId→S1→S1→(Bool→Option R)→Option R}(hrc:∀{R:Type} (t:TypeId) (x y:S1) (k:Bool→Option R),rc t x y k=(rc t x y some).bind k)(e:TypeId)(n:Nat)(ag:Bool)(cs ds:List C):
 ∀(is:List Nat) {R:Type} (k:Bool→Option R),UP rc e n ag cs ds is k=(UP rc e n ag cs ds is some).bind k
 | [],R,k=>rfl
 | i::is,R,k=>by
  simp only[UP]
  split
  case h_2=>rfl
  rw[hrc,hrc (k:=fun b=>UP rc e n ag cs ds is fun r=>some (tQ b r)),gB]
  congr 1;funext b
  rw[LW hrc e n ag cs ds is,LW hrc e n ag cs ds is (k:=fun r=>some (tQ b r)),gB]
  rfl
theorem AL:∀(d:Nat) {R:Type} (t:TypeId) (x y:S1) (k:Bool→Option R),IL P d t x y k=(IL P d t x y some).bind k
 | 0,R,t,x,y,k=>rfl
 | d+1,R,t,x,y,k=>by
  simp only[IL]
  split
  ·unfold RE Q9;repeat' (first | split | dsimp only)
   all_goals first
    | rfl
    | (simp only[dL];done)
    | simp_all [dL]
  ·unfold RG Q9;repeat' (first | split | dsimp only)
   all_goals first
    | rfl
    | (simp only[dL];done)
    | simp_all [dL]
  ·unfold WL Q9;repeat' (first | split | dsimp only)
   all_goals first
    | rfl
    | (simp only[dL];done)
    | simp_all [dL]
  ·split
   ·rfl
   split
   case h_2=>rfl
   exact LV (AL d) _ _ _ k
  ·split
   case h_2=>rfl
   exact LW (AL d) _ _ _ _ _ _ k
  ·rfl
theorem Gv(op:BinOp)(t yt:TypeId)(x y:D)(k:D→Option R):Fo P op t yt x y k=(Fo P op t yt x y some).bind k:=by
 unfold Fo
 split
 ·split
  ·rfl
  unfold Oi
  split
  ·split
   ·split
    ·dsimp only;rw[AL,AL (k:=fun b=>some (dB b)),gB];rfl
    ·split
     ·dsimp only;rw[AL,AL (k:=fun b=>some (dB (!b))),gB];rfl
     ·rfl
   ·rfl
  ·rfl
 ·exact Gu op t yt x y k
theorem SW(st:St)(eq:Bool)(c:C)(k:D→Option R):As st eq c k=(As st.bare eq c some).bind k:=by
 have hb:st.bare.ae=st.ae:=rfl
 have hbif:∀(q:Bool) (d d':D),(bif q then k d else k d')=(bif q then some d else some d').bind k:=fun q d d'=>by cases q <;> rfl
 unfold As
 rw[hb]
 split
 ·rfl
 ·split
  ·exact hbif _ _ _
  ·rfl
 ·split
  ·exact hbif _ _ _
  ·rfl
 ·rfl
theorem Gw(st:St)(op:BinOp)(t yt:TypeId)(x y:D)(k:D→Option R):RP P st op t yt x y k=(RP P st.bare op t yt x y some).bind k:=by
 unfold RP AI
 split
 ·split
  ·split
   ·split
    ·exact SW _ _ _ _
    ·split
     ·exact SW _ _ _ _
     ·rfl
   ·rfl
  ·rfl
 ·exact Gv op t yt x y k
theorem M7(st:St)(dst:Option Nat)(e:TypeId)(k:St→D→Option R):uM P st dst e k=(uM P st.bare dst e fun s d=>some (s.ae,d)).bind fun p=>k { st with ae:=p.1 } p.2:=by
 unfold uM
 repeat' (first | split | dsimp only)
 all_goals first
  | rfl
  | exact qM st dst _ (fun key=>.s (.c (.box key 0))) k
  | simp_all
theorem Gx(st:St)(dst:Option Nat)(v:D)(k:St→D→Option R):W0 st dst v k=(W0 st.bare dst v fun s d=>some (s.ae,d)).bind fun p=>k { st with ae:=p.1 } p.2:=by
 unfold W0
 repeat' (first | split | dsimp only)
 all_goals first
  | rfl
  | exact qM st dst _ (fun key=>.s (.c (.box key 0))) k
  | simp_all
theorem NK(st:St)(dst:Option Nat)(t:TypeId)(l c:D)(k:St→D→Option R):sF P st dst t l c k=(sF P st.bare dst t l c fun s d=>some (s.ae,d)).bind fun p=>k { st with ae:=p.1 } p.2:=by
 unfold sF rM Q9
 repeat' (first | split | dsimp only)
 all_goals first
  | rfl
  | (simp only[dL];congr 1;funext i;congr 1;funext j;congr 1;funext q;exact qM st dst _ (fun key=>.s (.c (.row key))) k)
  | simp_all [dL]
theorem U6(st:St)(dst:Option Nat)(t:TypeId)(l c:D)(k:St→D→Option R):BV P st dst t l c k=(BV P st.bare dst t l c fun s d=>some (s.ae,d)).bind fun p=>k { st with ae:=p.1 } p.2:=by
 unfold BV rM Q9
 repeat' (first | split | dsimp only)
 all_goals first
  | rfl
  | (simp only[dL];congr 1;funext i;congr 1;funext j;congr 1;funext q;exact qM st dst _ (fun key=>.s (.c (.rk key))) k)
  | simp_all [dL]
theorem JY(st:St)(dst:Option Nat)(t:TypeId)(n:Nat)(parts:List (Nat×D))(k:St→D→Option R):oD P st dst t n parts k=(oD P st.bare dst t n parts fun s d=>some (s.ae,d)).bind fun p=>k { st with ae:=p.1 } p.2:=by
 have hb:st.bare.ae=st.ae:=rfl
 unfold oD
 simp only[hb]
 repeat' (first | split | dsimp only)
 all_goals first
  | rfl
  | exact PZ st _ dst _ (fun key=>.s (.c (.row key))) k
  | (rw[←sJ];congr 1;funext ts;exact PZ st _ dst _ (fun key=>.s (.c (.row key))) k)
  | simp_all [dL]
theorem LX(st:St)(dst:Option Nat)(t:TypeId)(n:Nat)(parts:List (Nat×D))(k:St→D→Option R):kP P st dst t n parts k=(kP P st.bare dst t n parts fun s d=>some (s.ae,d)).bind fun p=>k { st with ae:=p.1 } p.2:=by
 unfold kP
 split
 ·split
  ·split
   ·split
    ·exact qM st dst _ (fun key=>.s (.c (.row key))) k
    ·rfl
   ·rfl
  ·rfl
 ·exact JY st dst t n parts k
theorem BX(st:St)(n:Nat)(c:C)(k:List T→Option R):yV st n c k=(yV st.bare n c some).bind k:=by
 have hb:st.bare.ae=st.ae:=rfl
 cases c with
 | t x=>simp only[yV,dL];rfl
 | row key=>
  simp only[yV,hb]
  cases st.ae[key]? with
  | none=>rfl
  | some o=>cases o with
   | row fz e n' es=>by_cases h:n'=n <;> simp[h]
   | _=>rfl
 | cut key m lo len tg=>
  simp only[yV,hb]
  cases st.ae[key]? with
  | none=>rfl
  | some o=>cases o with
   | row fz e n' es=>by_cases h:n'=n∧m=n <;> simp[h]
   | _=>rfl
 | _=>rfl
theorem SX(st:St)(e:TypeId)(n:Nat)(c:C)(k:St→List T→Option R):ND st e n c k=(ND st.bare e n c fun s l=>some (s.ae,l)).bind fun p=>k { st with ae:=p.1 } p.2:=by
 unfold ND St.bare
 repeat' (first | split | dsimp only)
 all_goals first
  | rfl
  | simp_all [dL]
theorem SY(mx:Bool)(t:TypeId)(x y:D)(k:D→Option R):PI P mx t x y k=(PI P mx t x y some).bind k:=by
 unfold PI RE WL Q9
 repeat' (first | split | dsimp only)
 all_goals first
  | rfl
  | simp_all [dL]
theorem Bi(st:St)(t:TypeId)(s x:D)(k:St→D→Option R):SE P st t s x k=(SE P st.bare t s x fun s d=>some (s.ae,d)).bind fun p=>k { st with ae:=p.1 } p.2:=rfl
theorem U7(st:St)(dst:Option Nat)(t u:TypeId)(s x:D)(k:St→D→Option R):BU P st dst t u s x k=(BU P st.bare dst t u s x fun s d=>some (s.ae,d)).bind fun p=>k { st with ae:=p.1 } p.2:=by
 have fin:∀(e:TypeId) (n:Nat) (c:C) (m:List T) (b:Nat),(ND st e n c fun st' l=>ob (qH l m b) fun q=>qV st' dst (.row false e n q) fun st key=>k st (.s (.c (.row key)))) =
  (ND st.bare e n c fun st' l=>ob (qH l m b) fun q=>qV st' dst (.row false e n q) fun s key=>some (s.ae,.s (.c (.row key)))).bind fun p=>k { st with ae:=p.1 } p.2:=fun e n c m b=>by
  rw[SX,SX st.bare e n c (fun st' l=>ob (qH l m b) fun q=>qV st' dst (.row false e n q) fun s key=>(some (s.ae,D.s (.c (.row key))):Option (List O×D)))]
  have hbb:st.bare.bare=st.bare:=by simp[St.bare]
  rw[hbb,gB]
  congr 1
  funext p
  rw[dL]
  congr 1
  funext q
  rw[qM { st with ae:=p.1 } dst _ (fun key=>.s (.c (.row key))) k,qM { st.bare with ae:=p.1 } dst _ (fun key=>.s (.c (.row key))) (fun s d=>some (s.ae,d)),gB]
  have h3:(St.bare { st.bare with ae:=p.1 })=St.bare { st with ae:=p.1 }:=by simp[St.bare]
  rw[h3]
  rfl
 unfold BU
 split
 ·split
  ·split
   ·split
    ·unfold AI
     split
     ·dsimp only
      split
      ·split
       ·have hbb:st.bare.bare=st.bare:=by simp[St.bare]
        refine(BX st _ _ _).trans (tW ?_ (fL (fun z:Option (List O×D)=>z.bind fun p=>k { st with ae:=p.1 } p.2) (BX st.bare _ _ _)).symm)
        rw[hbb,gB]
        exact fL _ (funext fun m=>fin _ _ _ _ _)
       ·rfl
      ·split
       ·unfold WL Q9
        split
        ·simp only[dL]
         exact fL _ (funext fun m=>fin _ _ _ _ _)
        ·rfl
       ·rfl
     ·rfl
    ·rfl
   ·rfl
  ·rfl
 ·rfl
theorem Bj(st:St)(dst:Option Nat)(t u:TypeId)(key i:Nat)(x:D)(k:St→D→Option R):MV P st dst t u key i x k=(MV P st.bare dst t u key i x fun s d=>some (s.ae,d)).bind fun p=>k { st with ae:=p.1 } p.2:=by
 have hbo:st.bare.ae=st.ae:=rfl
 have hbb:st.bare.bare=st.bare:=by simp[St.bare]
 have fin:∀(o:O),(qV st dst o fun st' K=>k { st' with ae:=st'.ae.set key (.fwd K) } (.s (.c (.fh K i)))) =
  (qV st.bare dst o fun s K=>some (s.ae.set key (.fwd K),D.s (.c (.fh K i)))).bind fun p=>k { st with ae:=p.1 } p.2:=fun o=>by
  have e1:=SV st dst o fun st' K=>k { st' with ae:=st'.ae.set key (.fwd K) } (.s (.c (.fh K i)))
  have e2:=SV st.bare dst o fun s K=>(some (s.ae.set key (.fwd K),D.s (.c (.fh K i))):Option (List O×D))
  refine e1.trans (tW ?_ (fL (fun z:Option (List O×D)=>z.bind fun p=>k { st with ae:=p.1 } p.2) e2).symm)
  rw[hbb,gB]
  rfl
 unfold MV
 split
 ·split
  ·split
   ·split
    ·unfold AI
     split
     ·dsimp only
      refine(BX st _ _ _).trans (tW ?_ (fL (fun z:Option (List O×D)=>z.bind fun p=>k { st with ae:=p.1 } p.2) (BX st.bare _ _ _)).symm)
      rw[hbb,gB]
      refine fL _ (funext fun m=>?_)
      simp only[hbo]
      split
      ·split
       ·simp only[dL]
        refine fL _ (funext fun old=>fL _ (funext fun q=>?_))
        exact fin _
       ·rfl
      ·rfl
     ·rfl
    ·rfl
   ·rfl
  ·rfl
 ·rfl
theorem U8(st:St)(dst:Option Nat)(t u:TypeId)(s x:D)(k:St→D→Option R):zW P st dst t u s x k=(zW P st.bare dst t u s x fun s d=>some (s.ae,d)).bind fun p=>k { st with ae:=p.1 } p.2:=by
 unfold zW
 split
 ·exact Bj _ _ _ _ _ _ _ _
 ·exact U7 _ _ _ _ _ _ _
end
theorem X1{R:Type}{P:Program}(st:St)(t:TypeId)(x:D)(lo hi mx:Option D)(k:St→D→Option R):AZ P st t x lo hi mx k=(AZ P st.bare t x lo hi mx fun s d=>some (s.ae,d)).bind fun p=>k { st with ae:=p.1 } p.2:=by
 have hb:st.bare.ae=st.ae:=rfl
 unfold AZ
 split
 ·split
  ·rfl
  ·rfl
 ·have hbb:st.bare.bare=st.bare:=by simp[St.bare]
  have e2:=yO (P:=P) st.bare t x lo hi mx (fun d=>(some (st.bare.ae,d):Option (List O×D)))
  rw[hbb] at e2
  refine(yO st t x lo hi mx fun d=>k st d).trans (tW ?_ (fL (fun z:Option (List O×D)=>z.bind fun p=>k { st with ae:=p.1 } p.2) e2).symm)
  rw[gB]
  rfl
section
variable {R S:Type} {P:Program}
theorem Yi{α:Type}(m:Option α)(f:α→Option R)(g:R→Option S):(ob m f).bind g=ob m fun a=>(f a).bind g:=by cases m <;> rfl
theorem Kk(kd:IntKind)(d:D)(f:Int→Option R)(g:R→Option S):(RE kd d f).bind g=RE kd d fun c=>(f c).bind g:=by
 unfold RE Q9
 split
 ·exact Yi _ _ _
 ·rfl
theorem Gy(c:Nat)(d:D)(f:T→Option R)(g:R→Option S):(Ou c d f).bind g=Ou c d fun t=>(f t).bind g:=by
 match c with
 | 0=>exact Kk _ _ _ _
 | _+1=>rfl
theorem X2(ts:List TypeId)(cs:List C)(f:List T→Option R)(g:R→Option S):(oW P ts cs f).bind g=oW P ts cs fun ts=>(f ts).bind g:=(sJ ts cs f g).symm
theorem U9(st:St)(t:TypeId)(x ix:D)(ok:Bool)(k:D→Option R):G3 P st t x ix ok k=(G3 P st.bare t x ix ok some).bind k:=rfl
theorem RV(st:St)(dst:Option Nat)(t:TypeId)(k:St→D→Option R):A4 P st dst t k=(A4 P st.bare dst t fun s d=>some (s.ae,d)).bind fun p=>k { st with ae:=p.1 } p.2:=by
 unfold A4
 repeat' (first | split | dsimp only)
 all_goals first
  | rfl
  | exact qM st dst _ (fun key=>.s (.c (.row key))) k
theorem JZ(st:St)(t:TypeId)(m q v:D)(k:St→Option R):zY P st t m q v k=(zY P st.bare t m q v fun s=>some s.ae).bind fun p=>k { st with ae:=p }:=by
 have hb:st.bare.ae=st.ae:=rfl
 unfold zY
 split
 ·split
  ·rw[Gy]
   congr 1
   funext kk
   simp only[hb]
   split
   ·split
    ·split
     ·split
      ·rw[X2]
       congr 1
       funext ts
       split <;> rfl
      ·rfl
     ·rfl
    ·rfl
   ·rfl
  ·rfl
 ·rfl
theorem VA(st:St)(t:TypeId)(m q:D)(k:St→D→Option R):G4 P st t m q k=(G4 P st.bare t m q fun s d=>some (s.ae,d)).bind fun p=>k { st with ae:=p.1 } p.2:=rfl
theorem P3(st:St)(t:TypeId)(m q v:D)(k:St→Option R):AK P st t m q v k=(AK P st.bare t m q v fun s=>some s.ae).bind fun p=>k { st with ae:=p }:=rfl
end
def mb.Nat(I:mb):Prop:=∀{R:Type} (st:St) (dst:Option _root_.Nat) (ds:List D) (k:St→D→Option R),I.go st dst ds k=(I.go st.bare dst ds fun s d=>some (s.ae,d)).bind fun p=>k { st with ae:=p.1 } p.2
def Callee.om(A:Callee):Prop:=∀{R:Type} (args:List S1) (po:List O) (k:List S1→List O→Option R),A.call args po k=(A.call args po fun rs po'=>some (rs,po')).bind fun p=>k p.1 p.2
def Ext.Nat(I:Ext):Prop:=∀{R:Type} (ds:List D) (k:D→Option R),I.go ds k=(I.go ds some).bind k
def Callee.Nat(A:Callee):Prop:=A.om∧(∀I,A.inl=some I→I.Nat)∧∀I,A.ext=some I→I.Nat
section
variable {R:Type} {P:Program} {Γ:FuncId→Option Callee}
theorem P4(st:St)(ks:List Nat):∀(cs:List C) (j:Nat) (ms:List (Option (TypeId×Nat))),rU st.bare ks j ms cs=rU st ks j ms cs
 | [],j,ms=>by cases ms <;> rfl
 | c::cs,j,ms=>by
  have h1:∀m,PA st.bare m c=PA st m c:=fun m=>rfl
  have h2:O9 st.bare ks c=O9 st ks c:=rfl
  simp only[rU,P4 st ks cs,h1,h2]
theorem X3(st:St)(ae:List O)(dst:Option Nat)(n:Nat):IT { st.bare with ae:=ae } dst n=IT { st with ae:=ae } dst n:=by
 unfold IT St.bare
 simp only[OR]
theorem I1{A:Callee}(hA:A.Nat)(st:St)(dst:Option Nat)(ds:List D)(k:St→D→Option R):
 zP A st dst ds k=(zP A st.bare dst ds fun s d=>some (s.ae,d)).bind fun p=>k { st with ae:=p.1 } p.2:=by
 have hb:st.bare.ae=st.ae:=rfl
 obtain⟨hA,hAi,_⟩:=hA
 unfold zP
 cases hinl:A.inl with
 | some I=>exact hAi I hinl st dst ds k
 | none=>
 dsimp only
 unfold A3
 cases Gb ds with
 | none=>rfl
 | some ss=>
  dsimp only
  rw[hb]
  cases sD ((yL A.deep st.ae ss).map (CT st.ae)) with
  | none=>rfl
  | some bl=>
   dsimp only
   rw[P4]
   cases rU st (yL A.deep st.ae ss) (yL A.deep st.ae ss).length A.rows (ss.flatMap S1.list++bl.flatten) with
   | none=>rfl
   | some q=>
    obtain⟨cs,rws⟩:=q
    dsimp only
    split
    ·refine(hA _ _ _).trans (tW ?_ (fL (fun z:Option (List O×D)=>z.bind fun p=>k { st with ae:=p.1 } p.2) (hA _ _ _)).symm)
     rw[gB]
     refine fL _ (funext fun p=>?_)
     obtain⟨rs,po'⟩:=p
     dsimp only
     rw[X3]
     split
     ·rfl
     ·split
      ·rfl
      ·split
       ·split <;> rfl
       ·rfl
    ·rfl
theorem FP(hΓ:∀f A,Γ f=some A→A.Nat)(st:St)(dst:Option Nat)(f:D)(args:List D)(k:St→D→Option R):
 nE Γ st dst f args k=(nE Γ st.bare dst f args fun s d=>some (s.ae,d)).bind fun p=>k { st with ae:=p.1 } p.2:=by
 unfold nE AI
 split
 ·dsimp only
  split
  ·split
   ·split
    ·rename_i A hA
     split
     ·rename_i I hI
      refine((hΓ _ A hA).2.2 I hI _ _).trans (tW ?_ (fL (fun z:Option (List O×D)=>z.bind fun p=>k { st with ae:=p.1 } p.2) ((hΓ _ A hA).2.2 I hI _ _)).symm)
      rw[gB]
      rfl
     ·exact I1 (hΓ _ A hA) st dst args k
    ·rfl
   ·rfl
  ·split
   ·rename_i A hA
    split
    ·rfl
    ·exact I1 (hΓ _ A hA) st dst _ k
   ·rfl
  ·rfl
 ·rfl
end
section
variable {R:Type} (P:Program) (Γ:FuncId→Option Callee)
def jJ(b:St)(dst:Option Nat)(ty:TypeId)(bi:Builtin)(args:List D)(ts:List TypeId):Option (List O×D):=match bi,args,ts with
 | .len,[x],[t]=>(E4 P b t x some).bind fun d=>some (b.ae,d)
 | .append,[s,x],[t,u]=>zW P b dst t u s x fun s d=>some (s.ae,d)
 | .copy,[s,x],[t,_]=>SE P b t s x fun s d=>some (s.ae,d)
 | .min,[x,y],[t,_]=>(PI P false t x y some).bind fun d=>some (b.ae,d)
 | .max,[x,y],[t,_]=>(PI P true t x y some).bind fun d=>some (b.ae,d)
 | _,_,_=>none
def P5(b:St)(dst:Option Nat)(f:D)(args:List D):Option (List O×D):=match E5 Γ with
 | []=>nE Γ b dst f args fun s d=>some (s.ae,d)
 | B=>if vV (gL Γ) dst=true then nE Γ b dst f args fun s d=>some (s.ae,d) else if At B (f::args)=true then (nE Γ b dst f args fun s d=>some (s.ae,d)).bind fun p=>if WM B b.ae p.1=true then some p else none else none
def SZ(b:St)(dst:Option Nat)(f:D)(args:List D):Option (List O×D):=if XG Γ b.ae dst (f::args)=true then P5 Γ b dst f args else none
def FQ(Γ:FuncId→Option Callee)(P:Program)(b:St)(dst:Option Nat)(t:TypeId):Option (List O×D):=match E5 Γ with
 | []=>uM P b dst t fun s d=>some (s.ae,d)
 | B=>if NH Γ b dst=true then (uM P b dst t fun s d=>some (s.ae,d)).bind fun p=>if (WM B b.ae p.1||vV (gL Γ) dst)=true then some p else none else none
def LY(o:Oper)(b:St)(e:Operand→D):Option (List O×D):=match o.op with
 | .move x=>some (b.ae,e x)
 | .assign x=>some (b.ae,e x)
 | .pick c x y=>(RG (e c) some).bind fun q=>some (b.ae,bif q then e x else e y)
 | .alloc t=>FQ Γ P b o.dst t
 | .box _ x=>W0 b o.dst (e x) fun s d=>some (s.ae,d)
 | .build t parts=>(IP P t (parts.toList.map fun p=>(p.1,e p.2)) some).bind fun d=>some (b.ae,d)
 | .buildSlice t len parts=>if XH Γ b.ae o.dst=true then kP P b o.dst t len (parts.toList.map fun p=>(p.1,e p.2)) fun s d=>some (s.ae,d) else none
 | .load t x=>if ER Γ o.dst (e x)=true then (tO Γ P b o.dst t (e x) some).bind fun d=>some (b.ae,d) else none
 | .store t x v=>if (Ju Γ t (e x)&&XI Γ t (e x))=true then (AW P b t (e x) (e v) fun s=>some s.ae).bind fun q=>some (q,D.top) else none
 | .nilCheck x=>(Gg (e x) some).bind fun d=>some (b.ae,d)
 | .binOp op t x y yt=>(RP P b op t yt (e x) (e y) some).bind fun d=>some (b.ae,d)
 | .unOp op t x=>(Sf (P:=P) op t (e x) some).bind fun d=>some (b.ae,d)
 | .convert s t x=>(SK P b s t (e x) some).bind fun d=>some (b.ae,d)
 | .makeFunc fn f c=>(xF fn (f.toList.map e) (c.toList.map e) some).bind fun d=>some (b.ae,d)
 | .makeSlice t l c=>nG Γ P b o.dst t (e l) (e c) fun s d=>some (s.ae,d)
 | .slice t x lo hi mx=>if (PK Γ o.dst (e x)&&Dh Γ o.dst (e x))=true then AZ P b t (e x) (lo.map e) (hi.map e) (mx.map e) fun s d=>some (s.ae,d) else none
 | .fieldAddr t x f=>(uN P t (e x) f some).bind fun d=>some (b.ae,d)
 | .field t x f=>(LJ P t (e x) f some).bind fun d=>some (b.ae,d)
 | .indexAddr t x ix=>(vW Γ P b o.dst t (e x) (e ix) some).bind fun d=>some (b.ae,d)
 | .index t x ix=>(LL P t (e x) (e ix) some).bind fun d=>some (b.ae,d)
 | .extract x i=>(A1 (e x) i some).bind fun d=>some (b.ae,d)
 | .call { callee:=.builtin bi,args,argTypes }=>if HZ Γ b.ae o.dst bi (args.toList.map e)=true then jJ P b o.dst o.type bi (args.toList.map e) argTypes.toList else none
 | .call { callee:=.value f,args,.. }=>SZ Γ b o.dst (e f) (args.toList.map e)
 | .makeMap t none=>A4 P b o.dst t fun s d=>some (s.ae,d)
 | .lookup t x ix ok=>(G3 P b t (e x) (e ix) ok some).bind fun d=>some (b.ae,d)
 | .mapUpdate t m q v=>(zY P b t (e m) (e q) (e v) fun s=>some s.ae).bind fun q=>some (q,D.top)
 | .insert t m q v=>(zY P b t (e m) (e q) (e v) fun s=>some s.ae).bind fun q=>some (q,D.top)
 | .mapEntry t m q=>G4 P b t (e m) (e q) fun s d=>some (s.ae,d)
 | .entryStore t m q v=>(AK P b t (e m) (e q) (e v) fun s=>some s.ae).bind fun q=>some (q,D.top)
 | _=>none
end
section
variable {R:Type} {P:Program} {Γ:FuncId→Option Callee}
theorem P6(d:D)(k:Bool→Option R):RG d k=(RG d some).bind k:=by
 unfold RG Q9
 split
 ·simp only[dL];rfl
 ·rfl
theorem RW(st:St)(dst:Option Nat)(ty:TypeId)(bi:Builtin)(args:List D)(ts:List TypeId)(k:St→D→Option R):
 JP P st dst ty bi args ts k=(jJ P st.bare dst ty bi args ts).bind fun p=>k { st with ae:=p.1 } p.2:=by
 unfold JP
 split
 ·dsimp only[jJ]
  rw[Gt,gB];rfl
 ·exact U8 st dst _ _ _ _ k
 ·exact Bi st _ _ _ k
 ·dsimp only[jJ]
  rw[SY,gB];rfl
 ·dsimp only[jJ]
  rw[SY,gB];rfl
 ·rename_i h1 h2 h3 h4 h5
  unfold jJ
  split
  ·exact(h1 _ _ rfl rfl rfl).elim
  ·exact(h2 _ _ _ _ rfl rfl rfl).elim
  ·exact(h3 _ _ _ _ rfl rfl rfl).elim
  ·exact(h4 _ _ _ _ rfl rfl rfl).elim
  ·exact(h5 _ _ _ _ rfl rfl rfl).elim
  ·rfl
theorem Bk(st:St)(dst:Option Nat)(t:TypeId)(d:D)(k:D→Option R):tO Γ P st dst t d k=(tO Γ P st.bare dst t d some).bind k:=by
 have hbx:xI st.bare d=xI st d:=rfl
 unfold tO
 rw[hbx]
 split
 ·exact DO _ _ _ _
 ·split
  ·exact DO _ _ _ _
  ·rfl
theorem X4(st:St)(dst:Option Nat)(t:TypeId)(x ix:D)(k:D→Option R):vW Γ P st dst t x ix k=(vW Γ P st.bare dst t x ix some).bind k:=by
 unfold vW
 split
 ·exact ES _ _ _ _ _
 ·split
  ·exact ES _ _ _ _ _
  ·rfl
theorem X5(st:St)(dst:Option Nat)(e:TypeId)(k:St→D→Option R):UZ Γ P st dst e k=(FQ Γ P st.bare dst e).bind fun p=>k { st with ae:=p.1 } p.2:=by
 unfold UZ FQ
 have ho:NH Γ st.bare dst=NH Γ st dst:=rfl
 rw[ho]
 generalize E5 Γ=B
 cases B with
 | nil=>exact M7 _ _ _ _
 | cons w B=>
  dsimp only
  split
  case isFalse=>rfl
  refine(M7 _ _ _ _).trans ?_
  rw[gB]
  refine fL _ (funext fun p=>?_)
  have hb:st.bare.ae=st.ae:=rfl
  rw[hb]
  split <;> rfl
theorem ET(Γ:FuncId→Option Callee)(st:St)(dst:Option Nat)(t:TypeId)(l c:D)(k:St→D→Option R):jH Γ P st dst t l c k=(jH Γ P st.bare dst t l c fun s d=>some (s.ae,d)).bind fun p=>k { st with ae:=p.1 } p.2:=by
 unfold jH
 split
 ·exact U6 _ _ _ _ _ _
 ·exact NK _ _ _ _ _ _
theorem NL(Γ:FuncId→Option Callee)(st:St)(dst:Option Nat)(t:TypeId)(l c:D)(k:St→D→Option R):nG Γ P st dst t l c k=(nG Γ P st.bare dst t l c fun s d=>some (s.ae,d)).bind fun p=>k { st with ae:=p.1 } p.2:=by
 have hown:NH Γ st.bare dst=NH Γ st dst:=rfl
 unfold nG
 cases E5 Γ with
 | nil=>exact ET _ _ _ _ _ _ _
 | cons w B=>
  dsimp only
  rw[hown]
  split
  ·exact ET _ _ _ _ _ _ _
  ·rfl
theorem Kl(st:St)(dst:Option Nat)(d:D):(st.put dst d).ae=st.ae:=by cases dst <;> rfl
theorem Bl(hΓ:∀f A,Γ f=some A→A.Nat)(st:St)(dst:Option Nat)(f:D)(args:List D)(k:St→Option R):
 Dg Γ st dst f args k=(SZ Γ st.bare dst f args).bind fun p=>k (({ st with ae:=p.1 }:St).put dst p.2):=by
 unfold Dg SZ
 have hb0:st.bare.ae=st.ae:=rfl
 rw[hb0]
 split
 case isFalse=>rfl
 unfold Av P5
 generalize E5 Γ=B
 cases B with
 | nil=>exact FP hΓ st dst _ _ fun st d=>k (st.put dst d)
 | cons q B=>
  dsimp only
  split
  ·exact FP hΓ st dst _ _ fun st d=>k (st.put dst d)
  split
  ·refine(FP hΓ st dst _ _ _).trans ?_
   rw[gB]
   refine fL _ (funext fun p=>?_)
   rw[Kl]
   have hb:st.bare.ae=st.ae:=rfl
   rw[hb]
   split <;> rfl
  ·rfl
theorem P7(hΓ:∀f A,Γ f=some A→A.Nat)(o:Oper)(st:St)(k:St→Option R):Sy P Γ o st k=(LY P Γ o st.bare (ev st)).bind fun p=>k (({ st with ae:=p.1 }:St).put o.dst p.2):=by
 obtain⟨dst,op,ty,pos,after,guard⟩:=o
 unfold Sy LY
 cases op with
 | move x=>rfl
 | assign x=>rfl
 | pick c x y=>
  dsimp only
  rw[P6,gB]
  exact fL _ (funext fun q=>by cases q <;> rfl)
 | alloc e=>exact X5 st dst _ fun st d=>k (st.put dst d)
 | box e x=>exact Gx st dst _ fun st d=>k (st.put dst d)
 | build t parts=>dsimp only;rw[XX,gB];rfl
 | buildSlice t n parts=>
  show (if XH Γ st.ae dst=true then _ else _)=Option.bind (if XH Γ st.ae dst=true then _ else _) _
  split
  ·exact LX st dst _ _ _ fun st d=>k (st.put dst d)
  ·rfl
 | load t x=>
  dsimp only
  split
  ·rw[Bk,gB];rfl
  ·rfl
 | store t x v=>
  dsimp only
  split
  ·rw[XW,gB];rfl
  ·rfl
 | nilCheck x=>dsimp only;rw[Gr,gB];rfl
 | binOp op t x y yt=>dsimp only;rw[Gw,gB];rfl
 | unOp op t x=>dsimp only;rw[Kj,gB];rfl
 | convert s t x=>dsimp only;rw[Bh,gB];rfl
 | makeFunc fn f c=>dsimp only;rw[P0,gB];rfl
 | makeSlice t l c=>exact NL Γ st dst _ _ _ fun st d=>k (st.put dst d)
 | slice t x lo hi mx=>
  dsimp only
  split
  ·exact X1 st t _ _ _ _ fun st d=>k (st.put dst d)
  ·rfl
 | fieldAddr t x f=>dsimp only;rw[NJ,gB];rfl
 | field t x f=>dsimp only;rw[XY,gB];rfl
 | indexAddr t x ix=>dsimp only;rw[X4,gB];rfl
 | index t x ix=>dsimp only;rw[XZ,gB];rfl
 | extract x i=>dsimp only;rw[RU,gB];rfl
 | call c=>
  obtain⟨callee,args,argTypes⟩:=c
  cases callee with
  | builtin b=>
   have hb0:st.bare.ae=st.ae:=rfl
   dsimp only
   rw[hb0]
   split
   ·exact RW st dst ty b _ _ fun st d=>k (st.put dst d)
   ·rfl
  | value f=>exact Bl hΓ st dst _ _ k
  | _=>rfl
 | makeMap t h=>
  cases h with
  | none=>exact RV st dst t fun st d=>k (st.put dst d)
  | some x=>rfl
 | lookup t x ix ok=>dsimp only;rw[U9,gB];rfl
 | mapUpdate t m q v=>dsimp only;rw[JZ,gB];rfl
 | insert t m q v=>dsimp only;rw[JZ,gB];rfl
 | mapEntry t m q=>exact VA st t _ _ fun st d=>k (st.put dst d)
 | entryStore t m q v=>dsimp only;rw[P3,gB];rfl
 | _=>rfl
end
section
variable (P:Program) (Γ:FuncId→Option Callee) (ops:Array Oper)
def S0(d:D):Option Bool:=match d with
 | .s (.c (.t (.v (.bool b))))=>some b
 | _=>none
def Dq(want:Bool)(d:D):Option Bool:=Gh d (some false) ((S0 d).map (·==want))
def gd(o:Oper)(st:St):Option Bool:=match o.guard with
 | none=>some true
 | some (j,want)=>match (ops[j]?).bind (·.dst) with
  | none=>none
  | some t=>Dq want (st.env.getD t D.top)
def qX(o:Oper)(st:St):Option (List O×D):=(gd ops o st).bind fun w=>bif w then LY P Γ o st.bare (ev st) else some (st.ae,RR)
def St.with(st:St)(dst:Option Nat)(p:List O×D):St:=({ st with ae:=p.1 }:St).put dst p.2
def zQ(i:Nat)(st:St):Option St:=match ops[i]? with
 | none=>some st
 | some o=>(qX P Γ ops o st).map (st.with o.dst)
end
section
variable {R:Type} {P:Program} {Γ:FuncId→Option Callee} {ops:Array Oper}
theorem Gz(d:D)(k:Bool→Option R):RG d k=(S0 d).bind k:=by
 cases d with
 | ee l=>rfl
 | s x=>cases x with
  | agg l=>rfl
  | c c=>cases c with
   | t x=>cases x with
    | v y=>cases y <;> rfl
    | _=>rfl
   | _=>rfl
theorem Kn{d:D}{b:Bool}(h:S0 d=some b):d=dB b:=by
 unfold S0 at h
 split at h
 ·cases h;rfl
 ·cases h
theorem Ko(st:St){t:Nat}{b:Bool}(h:st.env.getD t D.top=dB b):st.put (some t) (dB b)=st:=by
 unfold St.put
 have hlt:t<st.env.length:=by
  apply FA
  intro hge
  rw[jY,vK (by omega)] at h
  cases h
 have:st.env[t]=dB b:=by rw[jY,dG hlt] at h;exact h
 have h2:st.env.set t (dB b)=st.env:=by rw[←this];exact List.set_getElem_self hlt
 dsimp only
 rw[h2]
theorem AM(hΓ:∀f A,Γ f=some A→A.Nat):∀(l:List Nat) (st:St) (k:St→Option R),JQ P Γ ops l st k=(l.foldlM (fun st i=>zQ P Γ ops i st) st).bind k
 | [],st,k=>rfl
 | i::l,st,k=>by
  rw[Z2]
  simp only[JQ,zQ]
  cases ho:ops[i]? with
  | none=>exact AM hΓ l st k
  | some o=>
   dsimp only
   have fin:∀(p:Option (List O×D)),(p.bind fun p=>JQ P Γ ops l (({ st with ae:=p.1 }:St).put o.dst p.2) k)=((p.map (st.with o.dst)).bind fun s=>l.foldlM (fun st i=>zQ P Γ ops i st) s).bind k:=fun p=>by
    cases p with
    | none=>rfl
    | some p=>exact AM hΓ l _ k
   cases hg:o.guard with
   | none=>
    dsimp only
    rw[P7 hΓ]
    have:qX P Γ ops o st=LY P Γ o st.bare (ev st):=by simp[qX,gd,hg]
    rw[this]
    exact fin _
   | some g=>
    obtain⟨j,want⟩:=g
    dsimp only
    cases hd:(ops[j]?).bind (·.dst) with
    | none=>simp[qX,gd,hg,hd]
    | some t=>
     dsimp only
     rw[Gz]
     unfold Gh
     split
     ·rename_i hoff
      have he:qX P Γ ops o st=some (st.ae,RR):=by
       simp only[qX,gd,hg,hd,hoff,Dq,Gh,uX,bV]
      rw[he]
      exact fin (some (st.ae,RR))
     rename_i hoff
     have hbw:Dq want (st.env.getD t D.top)=(S0 (st.env.getD t D.top)).map (·==want):=by
      unfold Dq Gh
      split
      ·rename_i h;exact(hoff h).elim
      ·rfl
     cases hb:S0 (st.env.getD t D.top) with
     | none=>simp only[qX,gd,hg,hd,hbw,hb];rfl
     | some b=>
      have hs:=Ko st (Kn hb)
      have he:qX P Γ ops o st=bif b==want then LY P Γ o st.bare (ev st) else some (st.ae,RR):=by
       simp only[qX,gd,hg,hd,hbw,hb,fH,uX]
      rw[he]
      cases b with
      | true=>
       simp only[uX,bF]
       rw[hs]
       cases want with
       | true=>simp only[eP];rw[P7 hΓ];exact fin _
       | false=>exact fin (some (st.ae,RR))
      | false=>
       simp only[uX,bV]
       rw[hs]
       cases want with
       | true=>exact fin (some (st.ae,RR))
       | false=>simp only[pB,iK];rw[P7 hΓ];exact fin _
theorem Tf{st:St}{t:Nat}{d:D}{x:Operand}(h:x≠.tmp t):ev (st.put (some t) d) x=ev st x:=by
 cases x with
 | tmp i=>
  have hne:t≠i:=fun e=>h (e▸rfl)
  simp only[ev,St.put,jY]
  rw[fC hne]
 | _=>rfl
theorem Kp(st:St)(dst:Option Nat)(d:D):(st.put dst d).bare=st.bare:=by
 cases dst with
 | none=>rfl
 | some i=>simp[St.put,St.bare]
theorem Ha{e e':Operand→D}(o:Oper)(b:St)(h:∀x∈o.op.operands,e x=e' x):LY P Γ o b e=LY P Γ o b e':=by
 obtain⟨dst,op,type,pos,after,guard⟩:=o
 have pairs:∀ps:Array (Nat×Operand),(∀x∈(ps.toList.map (·.2)).toArray,e x=e' x)→(ps.toList.map fun p=>(p.1,e p.2))=(ps.toList.map fun p=>(p.1,e' p.2)):=fun ps hp=>
  OI fun p hm=>by rw[hp p.2 (by simp only[List.mem_toArray,lE];exact⟨p,hm,rfl⟩)]
 have me:∀l:Array Operand,(∀x∈l,e x=e' x)→l.toList.map e=l.toList.map e':=fun l hl=>OI fun x hx=>hl x (Array.mem_toList_iff.1 hx)
 cases op <;> simp only[Op.operands] at h <;> unfold LY <;> dsimp only
 case build t ps=>rw[pairs ps h]
 case buildSlice t n ps=>rw[pairs ps h]
 case makeFunc fn first captured=>rw[me first fun x hx=>h x (by simp[hx]),me captured fun x hx=>h x (by simp[hx])]
 case slice t x lo hi mx=>cases lo <;> cases hi <;> cases mx <;> simp_all
 case makeMap t q=>cases q <;> rfl
 case call c=>
  obtain⟨callee,args,ats⟩:=c
  have hargs:=me args fun x hx=>h x (by simp[Call.operands,hx])
  cases callee with
  | builtin bi=>dsimp only;rw[hargs]
  | value f=>dsimp only;rw[hargs,h f (by simp[Call.operands])]
  | _=>rfl
 all_goals first
  | rfl
  | (simp_all;done)
theorem Dr{o:Oper}{st:St}{dst:Option Nat}{d:D}(h:∀t,dst=some t→t∉o.looksAt ops):qX P Γ ops o (st.put dst d)=qX P Γ ops o st:=by
 cases dst with
 | none=>rfl
 | some t=>
  have ht:=h t rfl
  have h1:LY P Γ o (st.put (some t) d).bare (ev (st.put (some t) d))=LY P Γ o st.bare (ev st):=by
   rw[Kp]
   exact Ha o st.bare fun x hx=>Tf fun e=>ht (by
    subst e
    exact EL _ (MM.2 ⟨.tmp t,by simpa using hx,rfl⟩))
  have h2:gd ops o (st.put (some t) d)=gd ops o st:=by
   unfold gd
   cases hg:o.guard with
   | none=>rfl
   | some g=>
    obtain⟨j,want⟩:=g
    dsimp only
    cases hd:(ops[j]?).bind (·.dst) with
    | none=>rfl
    | some i=>
     have hne:t≠i:=fun e=>ht (by
      subst e
      refine IK _ ?_
      simp[hg,hd])
     dsimp only[St.put]
     rw[jY,jY,fC hne]
  unfold qX
  rw[h1,h2]
  rfl
end
def Tg(pl:List Nat):Option Nat→Bool
 | some s=>pl.contains (30000000+s)
 | none=>false
def Pg(pl:List Nat)(o:Oper):Bool:=match o.op with
 | .call { callee:=.value (.func f),.. }=>pl.contains (f+1000000)&&!Tg pl o.dst
 | .call { callee:=.builtin .min,.. }=>true
 | .call { callee:=.builtin .max,.. }=>true
 | .move _=>true
 | .assign _=>true
 | .pick _ _ _=>true
 | .build _ _=>true
 | .nilCheck _=>true
 | .unOp _ _ _=>true
 | .makeFunc _ _ _=>true
 | .fieldAddr _ _ _=>true
 | .field _ _ _=>true
 | .index _ _ _=>true
 | .extract _ _=>true
 | .binOp .eql _ _ _ _=>false
 | .binOp .neq _ _ _ _=>false
 | .binOp _ _ _ _ _=>true
 | _=>false
def jf(pl:List Nat)(o:Oper):Bool:=match o.op with
 | .load _ _=>true
 | .convert _ _ _=>true
 | .indexAddr _ _ _=>true
 | .binOp _ _ _ _ _=>true
 | .lookup _ _ _ _=>true
 | .slice _ _ lo hi mx=>lo.isSome||hi.isSome||mx.isSome
 | .call { callee:=.builtin .len,.. }=>true
 | .call { callee:=.builtin .min,.. }=>true
 | .call { callee:=.builtin .max,.. }=>true
 | .call { callee:=.value (.func f),.. }=>pl.contains f||pl.contains (f+1000000)
 | _=>Pg pl o
def Callee.gg(A:Callee):Prop:=(A.inl=none∧A.ext=none)∧∀(args:List S1) (po:List O) (rs:List S1) (po':List O),A.call args po (fun rs po'=>some (rs,po'))=some (rs,po')→po=[]∧po'=[]∧rs.all (fun s=>s.list.all FJ)=true
def Callee.Pure(A:Callee):Prop:=A.ext=none∧∀{b:St} {dst:Option _root_.Nat} {ds:List D} {p:List O×D},(zP A b dst ds fun s d=>some (s.ae,d))=some p→p.1=b.ae
def Callee.gi(A:Callee):Prop:=A.ext=none∧∀(b:St) (q:List O) (dst:Option _root_.Nat) (ds:List D),(zP A { b with ae:=q } dst ds fun s d=>some (s.ae,d))=(zP A b dst ds fun s d=>some (s.ae,d)).map fun p=>(q,p.2)
def bj(o o':List O)(k:Nat):Prop:=∀l,o[k]?=some (.box l)↔o'[k]?=some (.box l)
theorem sK{o:List O}{K:Nat}{x:O}{k:Nat}(h1:oX o[K]?=false)(h2:oX (some x)=false):bj o (o.set K x) k:=fun l=>by
 by_cases hk:K=k
 ·subst hk
  constructor
  ·intro h;rw[h] at h1;cases h1
  ·intro h
   rw[qU] at h
   split at h
   ·split at h
    ·cases h;cases h2
    ·cases h
   ·exact h
 ·rw[fC hk]
theorem bj.trans{a b c:List O}{k:Nat}(h1:bj a b k)(h2:bj b c k):bj a c k:=fun l=>(h1 l).trans (h2 l)
theorem bj.refl(a:List O)(k:Nat):bj a a k:=fun _=>zO
theorem A8{α:Type}{st:St}{dst:Option Nat}{o:O}{f:St→Nat→Option α}{r:α}(ho:oX (some o)=false)(h:qV st dst o f=some r):∃K,(∀k,bj st.ae (st.ae.set K o) k)∧f { st with ae:=st.ae.set K o } K=some r:=by
 unfold qV at h
 split at h
 ·split at h
  ·rename_i d _ hf
   exact⟨_,fun k=>sK (by rw[hf];rfl) ho,h⟩
  ·split at h
   ·rename_i hf
    exact⟨_,fun k=>sK (by rw[hf];rfl) ho,h⟩
   ·split at h
    ·rename_i K hK
     have hm:K∈(List.range st.ae.length).filter fun i=>decide (st.np≤i)&&uG st.ae[i]?:=by
      unfold AX at hK
      exact T2 hK
     have h2:=(CO.1 hm).2
     simp only[cM] at h2
     exact⟨_,fun k=>sK (by
      have:=h2.2
      unfold uG at this
      split at this
      ·rename_i e;rw[e];rfl
      ·cases this) ho,h⟩
    ·cases h
 ·cases h
theorem RX{P:Program}{b:St}{dst:Option Nat}{t u:TypeId}{s x:D}{p:List O×D}(h:(BU P b dst t u s x fun s d=>some (s.ae,d))=some p)(k:Nat):bj b.ae p.1 k:=by
 have own:∀{e:TypeId} {n:Nat} {c:C} {f:St→List T→Option (List O×D)},ND b e n c f=some p→(∀st l,bj b.ae st.ae k→f st l=some p→bj b.ae p.1 k)→bj b.ae p.1 k:=fun {e n c f} h hf=>by
  unfold ND at h
  split at h
  ·exact hf _ _ (.refl _ _) h
  ·split at h
   ·rename_i hob
    split at h
    ·exact hf _ _ (sK (by rw[hob];rfl) rfl) h
    ·cases h
   ·cases h
  ·split at h
   ·rename_i hob
    split at h
    ·exact hf _ _ (sK (by rw[hob];rfl) rfl) h
    ·cases h
   ·cases h
  ·cases h
 have tail:∀{st:St} {e n:Nat} {q:List T},bj b.ae st.ae k→(qV st dst (.row false e n q) fun st key=>some (st.ae,D.s (.c (.row key))))=some p→bj b.ae p.1 k:=fun {st e n q} hb h=>by
  obtain⟨K,h1,h2⟩:=A8 rfl h
  cases h2
  exact hb.trans (h1 k)
 unfold BU at h
 split at h
 case h_2=>cases h
 split at h
 case h_2=>cases h
 split at h
 case h_2=>cases h
 split at h
 case isFalse=>cases h
 unfold AI at h
 split at h
 case h_2=>cases h
 split at h
 ·split at h
  case h_2=>cases h
  unfold yV at h
  dsimp only at h
  split at h
  ·obtain⟨l,_,h⟩:=bK h
   exact own h fun st l hb h=>by
    obtain⟨q,_,h⟩:=bK h
    exact tail hb h
  ·split at h
   ·split at h
    ·exact own h fun st l hb h=>by
      obtain⟨q,_,h⟩:=bK h
      exact tail hb h
    ·cases h
   ·cases h
  ·split at h
   ·split at h
    ·exact own h fun st l hb h=>by
      obtain⟨q,_,h⟩:=bK h
      exact tail hb h
    ·cases h
   ·cases h
  ·cases h
 ·split at h
  ·obtain⟨s',h⟩:∃s',(ND b _ 1 _ fun st l=>ob (qH l (B9 s') 1) fun q=>qV st dst (.row false _ 1 q) fun st key=>some (st.ae,D.s (.c (.row key))))=some p:=by
    cases x with
    | ee l=>cases h
    | s sx=>cases sx with
     | agg l=>cases h
     | c cx=>cases cx with
      | t tx=>
       obtain⟨s',_,h⟩:=bK (show ob tx.ik _=some p from h)
       exact⟨s',h⟩
      | _=>cases h
   exact own h fun st l hb h=>by
    obtain⟨q,_,h⟩:=bK h
    exact tail hb h
  ·cases h
theorem A9{R:Type}{ix:D}{f:Int→Option R}{r:R}(h:rM ix f=some r):∃i,f i=some r∧∀{S:Type} (g:Int→Option S),rM ix g=g i:=by
 unfold rM Q9 at h
 unfold rM Q9
 cases ix with
 | ee l=>cases h
 | s s=>cases s with
  | agg l=>cases h
  | c c=>cases c with
   | t x=>
    dsimp only at h ⊢
    obtain⟨i,h1,h2⟩:=bK h
    exact⟨i,h2,fun g=>by rw[h1];rfl⟩
   | _=>cases h
theorem Bm{R:Type}{st:St}{n:Nat}{c:C}{f:List T→Option R}{r:R}(h:yV st n c f=some r):∃m,f m=some r:=by
 unfold yV at h
 split at h
 ·obtain⟨l,_,h⟩:=bK h
  exact⟨l,h⟩
 ·split at h
  ·split at h
   ·exact⟨_,h⟩
   ·cases h
  ·cases h
 ·split at h
  ·split at h
   ·exact⟨_,h⟩
   ·cases h
  ·cases h
 ·cases h
theorem X6{P:Program}{b:St}{dst:Option Nat}{t u:TypeId}{key i:Nat}{x:D}{p:List O×D}(h:(MV P b dst t u key i x fun s d=>some (s.ae,d))=some p)(k:Nat):bj b.ae p.1 k:=by
 unfold MV at h
 split at h
 case h_2=>cases h
 split at h
 case h_2=>cases h
 split at h
 case h_2=>cases h
 split at h
 case isFalse=>cases h
 unfold AI at h
 split at h
 case h_2=>cases h
 obtain⟨m,h⟩:=Bm h
 split at h
 case h_2=>cases h
 rename_i hob
 split at h
 case isFalse=>cases h
 obtain⟨old,_,h⟩:=bK h
 obtain⟨q,_,h⟩:=bK h
 obtain⟨K,h1,h2⟩:=A8 rfl h
 cases h2
 refine(h1 k).trans (sK ?_ rfl)
 rw[qU]
 split
 ·split <;> rfl
 ·rw[hob];rfl
theorem RY{P:Program}{b:St}{dst:Option Nat}{t u:TypeId}{s x:D}{p:List O×D}(h:(zW P b dst t u s x fun s d=>some (s.ae,d))=some p)(k:Nat):bj b.ae p.1 k:=by
 unfold zW at h
 split at h
 ·exact X6 h k
 ·exact RX h k
theorem CE(k:Nat):∀(ks:List Nat) (ae:List O),bj ae (ai ae ks) k
 | [],ae=>.refl _ _
 | x::ks,ae=>by
  unfold ai
  split
  ·rename_i o ho
   refine bj.trans (fun l=>?_) (CE k ks _)
   by_cases hk:x=k
   ·subst hk
    have hlt:x<ae.length:=by
     rw[dA] at ho
     exact ho.1
    rw[iI hlt,ho]
    cases o <;> simp[nM]
   ·rw[fC hk]
  ·exact CE k ks ae
theorem Hb{R:Type}{P:Program}{t:TypeId}{c:C}{k:T→Option R}{r:R}(h:MT P t c k=some r):∃x,k x=some r:=by
 unfold MT at h
 split at h
 ·obtain⟨n,_,h⟩:=bK h;exact⟨_,h⟩
 ·obtain⟨n,_,h⟩:=bK h;exact⟨_,h⟩
 ·obtain⟨n,_,h⟩:=bK h;exact⟨_,h⟩
 ·split at h
  ·split at h
   ·obtain⟨n,_,h⟩:=bK h;exact⟨_,h⟩
   ·cases h
  ·cases h
 ·split at h
  ·exact⟨_,h⟩
  ·cases h
theorem I2{R:Type}{P:Program}{r:R}:∀{ts:List TypeId} {cs:List C} {k:List T→Option R},oW P ts cs k=some r→∃xs,k xs=some r
 | [],[],k,h=>⟨[],h⟩
 | [],_::_,k,h=>by simp[oW] at h
 | _::_,[],k,h=>by simp[oW] at h
 | t::ts,c::cs,k,h=>by
  simp only[oW] at h
  obtain⟨x,h⟩:=Hb h
  obtain⟨xs,h⟩:=I2 h
  exact⟨_,h⟩
theorem P8{ae:List O}{cs:List C}{q:List O×List C}(h:RI ae cs=some q)(k:Nat):bj ae q.1 k:=by
 unfold RI at h
 obtain⟨l,_,h⟩:=JB.1 h
 subst h
 exact CE k _ _
theorem J0{P:Program}{b:St}{dst:Option Nat}{t:TypeId}{n:Nat}{parts:List (Nat×D)}{p:List O×D}(h:(kP P b dst t n parts fun s d=>some (s.ae,d))=some p)(k:Nat):bj b.ae p.1 k:=by
 unfold kP at h
 split at h
 ·split at h
  case h_2=>cases h
  split at h
  case h_2=>cases h
  split at h
  case isFalse=>cases h
  obtain⟨K,h1,h2⟩:=A8 rfl h
  cases h2
  exact h1 k
 ·unfold oD at h
  split at h
  case h_2=>cases h
  split at h
  case h_2=>cases h
  split at h
  case h_2=>cases h
  split at h
  case h_2=>cases h
  split at h
  case isFalse=>cases h
  split at h
  case h_2=>cases h
  split at h
  case h_2=>cases h
  rename_i q hq
  split at h
  case h_2=>cases h
  have h:=h
  rw[show ∀(ts:List TypeId) (cs:List C) (f:List T→Option (List O×D)),oW P ts cs f=(oW P ts cs some).bind f from fun ts cs f=>sJ ts cs some f] at h
  obtain⟨ts,_,h⟩:=pV.1 h
  obtain⟨K,h1,h2⟩:=A8 rfl h
  cases h2
  exact(P8 hq k).trans (h1 k)
theorem N5:∀(l acc:List Nat) (k:Nat),k∈Oc acc l→k∈acc∨k∈l
 | [],acc,k,h=>by simp only[Oc,List.mem_reverse] at h;exact .inl h
 | a::l,acc,k,h=>by
  simp only[Oc] at h
  split at h
  ·rcases N5 l acc k h with h | h
   ·exact .inl h
   ·exact .inr (by simp[h])
  ·rcases N5 l (a::acc) k h with h | h
   ·rcases cN.1 h with h | h
    ·subst h;exact .inr (by simp)
    ·exact .inl h
   ·exact .inr (by simp[h])
def Callee.dp(A:Callee):Prop:=A.ext=none∧(∀{b:St} {dst:Option _root_.Nat} {ds:List D} {p:List O×D},(zP A b dst ds fun s d=>some (s.ae,d))=some p →
 ∀k l,(∀d∈ds,k∉SN d)→b.ae[k]?=some (.box l)→p.1[k]?=some (.box l)) ∧
 ∀{b:St} {dst:Option _root_.Nat} {ds:List D} {p:List O×D},(zP A b dst ds fun s d=>some (s.ae,d))=some p→∀k,Sw b.ae[k]?=true→Au b.ae k ds=true→p.1[k]?=b.ae[k]?
theorem Callee.Pure.iq{A:Callee}(h:A.Pure):A.dp:=⟨h.1,fun hp k l _ hb=>by rw[h.2 hp];exact hb,fun hp k _ _=>by rw[h.2 hp]⟩
theorem DP:∀(cs:List C) (ms:List (Option (TypeId×Nat))) (k:Nat),k∈lU ms cs→∃c∈cs,k∈C.rs c
 | [],ms,k,h=>by cases ms <;> simp[lU] at h
 | c::cs,ms,k,h=>by
  simp only[lU] at h
  split at h
  ·obtain⟨c',h1,h2⟩:=DP cs ms.tail k h
   exact⟨c',eQ _ h1,h2⟩
  ·rcases fK.1 h with h | h
   ·exact⟨c,T7 ..,h⟩
   ·obtain⟨c',h1,h2⟩:=DP cs ms.tail k h
    exact⟨c',eQ _ h1,h2⟩
theorem Hc{st:St}{m:TypeId×Nat}{c:C}{p:Option Nat×O}{k:Nat}(h:PA st m c=some p)(hk:p.1=some k):k∈C.rs c:=by
 unfold PA at h
 split at h
 ·split at h
  ·split at h
   case isFalse=>cases h
   cases h
   cases hk
   simp[C.rs]
  ·split at h
   case isFalse=>cases h
   cases h
   cases hk
   simp[C.rs]
  ·cases h
 ·split at h
  case isFalse=>cases h
  cases h
  cases hk
 ·cases h
theorem LZ{st:St}{ks:List Nat}:∀(cs:List C) (j:Nat) (ms:List (Option (TypeId×Nat))) (cs':List C) (rws:List (Option Nat×O)),rU st ks j ms cs=some (cs',rws)→∀p∈rws,∀k,p.1=some k→∃c∈cs,k∈C.rs c
 | [],j,ms,cs',rws,hh,p,hp,k,hk=>by
  cases ms <;> (simp only[rU,cC,yH] at hh;obtain⟨_,rfl⟩:=hh;simp at hp)
 | c::cs,j,ms,cs',rws,hh,p,hp,k,hk=>by
  simp only[rU] at hh
  split at hh
  ·split at hh
   ·rename_i p' q hp' hq
    cases hh
    rcases cN.1 hp with rfl | hp
    ·exact⟨c,T7 ..,Hc hp' hk⟩
    ·obtain⟨c',h1,h2⟩:=LZ cs (j+1) ms.tail _ _ hq p hp k hk
     exact⟨c',eQ _ h1,h2⟩
   ·cases hh
  ·split at hh
   ·rename_i c' q hp' hq
    cases hh
    obtain⟨c',h1,h2⟩:=LZ cs j ms.tail _ _ hq p hp k hk
    exact⟨c',eQ _ h1,h2⟩
   ·cases hh
theorem VB{ae:List O}{k:Nat}{ss:List S1}{bl:List (List C)}(h:Au ae k (ss.map .s)=true)(hbl:sD ((yL false ae ss).map (CT ae))=some bl):(∀c∈ss.flatMap S1.list++bl.flatten,k∉C.rs c)∧k∉yL false ae ss:=by
 have h0:∀s∈ss,∀c∈s.list,k∉C.rs c∧∀k'∈c.ks,k'≠k∧k∉Rj ae[k']?:=fun s hs c hc=>by
  have:=jF.1 (jF.1 h (.s s) (lE.2 ⟨s,hs,rfl⟩)) c hc
  rw[cM] at this
  refine⟨fun hm=>?_,fun k' hk'=>?_⟩
  ·have h1:=this.1
   rw[OH.2 hm] at h1;cases h1
  ·have:=jF.1 this.2 k' hk'
   rw[cM] at this
   refine⟨fun e=>?_,fun hm=>?_⟩
   ·subst e;have:=this.1;simp at this
   ·have h1:=this.2
    rw[OH.2 hm] at h1;cases h1
 have hk0:∀k'∈yL false ae ss,∃s∈ss,∃c∈s.list,k'∈c.ks:=fun k' hk'=>by
  unfold yL MZ at hk'
  dsimp only[cond_false] at hk'
  rcases N5 _ _ _ hk' with h1 | h1
  ·cases h1
  ·obtain⟨s,hs,h1⟩:=JC.1 h1
   obtain⟨c,hc,h1⟩:=JC.1 h1
   exact⟨s,hs,c,hc,h1⟩
 refine⟨fun c hc=>?_,fun hm=>?_⟩
 ·rcases fK.1 hc with hc | hc
  ·obtain⟨s,hs,hc⟩:=JC.1 hc
   exact(h0 s hs c hc).1
  ·obtain⟨l,hl,hc⟩:=List.mem_flatten.1 hc
   have h1:=UR hbl
   have h2:some l∈(yL false ae ss).map (CT ae):=by rw[h1];exact lE.2 ⟨l,hl,rfl⟩
   obtain⟨k',hk',h3⟩:=lE.1 h2
   obtain⟨s,hs,c',hc',h4⟩:=hk0 k' hk'
   have h5:=((h0 s hs c' hc').2 k' h4).2
   have h6:ae[k']?=some (.box l):=by
    unfold CT at h3
    split at h3
    ·rename_i l' he
     cases h3
     exact he
    ·cases h3
   rw[h6] at h5
   exact fun hm=>h5 (JC.2 ⟨c,hc,hm⟩)
 ·obtain⟨s,hs,c,hc,h1⟩:=hk0 k hm
  exact((h0 s hs c hc).2 k h1).1 rfl
theorem VC{A:Callee}(hN:A.Nat)(hi:A.inl=none)(he:A.ext=none)(hd:A.deep=false:=by rfl):A.dp:=by
 refine⟨he,?_,?_⟩
 rotate_left
 ·intro b dst ds p h k ho hoff
  obtain⟨hN,_⟩:=hN
  unfold zP at h
  rw[hi] at h
  dsimp only at h
  unfold A3 at h
  split at h
  ·cases h
  rename_i ss hss
  have hds:=LP hss
  rw[hd] at h
  rw[hds] at hoff
  split at h
  ·cases h
  rename_i bl hbl
  obtain⟨hc1,hc2⟩:=VB hoff hbl
  split at h
  ·cases h
  rename_i cs rws hhand
  dsimp only at h
  split at h
  case isFalse=>cases h
  rw[hN] at h
  obtain⟨q,hq,h2⟩:=pV.1 h
  obtain⟨rs,po'⟩:=q
  dsimp only at h2
  split at h2
  ·cases h2;rfl
  split at h2
  ·cases h2
  rename_i nk hnk
  split at h2
  case isFalse=>cases h2
  split at h2
  case h_2=>cases h2
  cases h2
  dsimp only
  have hfz:(ai b.ae (lU A.rows (ss.flatMap S1.list++bl.flatten)))[k]?=b.ae[k]?:=yA _ _ _ fun hm=>by
   obtain⟨c,h1,h2⟩:=DP _ _ _ hm
   exact hc1 c h1 h2
  rw[uP]
  ·exact hfz
  ·intro hm
   rcases fK.1 hm with hm | hm
   ·rcases fK.1 hm with hm | hm
    ·obtain⟨k',hk',e⟩:=lE.1 hm
     cases e
     exact hc2 hk'
    ·obtain⟨r,hr,e⟩:=lE.1 hm
     obtain⟨c,h1,h2⟩:=LZ _ _ _ _ _ hhand r hr k e
     exact hc1 c h1 h2
   ·obtain⟨k',hk',e⟩:=lE.1 hm
    cases e
    have:=((LQ hnk).2 k hk').1
    rw[hfz] at this
    rw[this] at ho
    cases ho
 intro b dst ds p h k l hk hb
 obtain⟨hN,_⟩:=hN
 unfold zP at h
 rw[hi] at h
 dsimp only at h
 unfold A3 at h
 split at h
 ·cases h
 rename_i ss hss
 have hds:=LP hss
 split at h
 ·cases h
 split at h
 ·cases h
 rename_i cs rws hhand
 dsimp only at h
 split at h
 case isFalse=>cases h
 rw[hN] at h
 obtain⟨q,hq,h2⟩:=pV.1 h
 obtain⟨rs,po'⟩:=q
 dsimp only at h2
 split at h2
 ·cases h2;exact hb
 split at h2
 ·cases h2
 rename_i nk hnk
 split at h2
 case isFalse=>cases h2
 split at h2
 case h_2=>cases h2
 cases h2
 dsimp only
 rw[uP]
 ·exact sG _ _ _ _ hb
 ·intro hm
  rcases fK.1 hm with hm | hm
  ·rcases fK.1 hm with hm | hm
   ·obtain⟨k',hk',e⟩:=lE.1 hm
    cases e
    rw[hd] at hk'
    unfold yL MZ at hk'
    dsimp only[cond_false] at hk'
    rcases N5 _ _ _ hk' with h0 | h0
    ·cases h0
    ·obtain⟨s,hs,h1⟩:=JC.1 h0
     exact hk (.s s) (by rw[hds];exact lE.2 ⟨s,hs,rfl⟩) h1
   ·obtain⟨r,hr,e⟩:=lE.1 hm
    obtain⟨e',n,l',h1,h3,_⟩:=DJ _ _ _ _ _ hhand r hr
    have:=h3 k e
    rcases h1 with h1 | h1 <;> (rw[hb,h1] at this;cases this)
  ·obtain⟨k',hk',e⟩:=lE.1 hm
   cases e
   have:=((LQ hnk).2 k hk').1
   rw[sG _ _ _ _ hb] at this
   cases this
def Callee.jv(A:Callee):Prop:=∃I,A.ext=some I∧∀{R:Type} (ds:List D) (k:D→Option R),I.go ds k=none
def Kq(fD:D)(g:FuncId):Prop:=(∃v,fD=.s (.c (.t (.v v)))∧vU v=some g)∨∃caps,fD=.s (.c (.fn g caps))
theorem VD{Γ:FuncId→Option Callee}{b:St}{dst:Option Nat}{fD:D}{ds:List D}{p:List O×D}{k:Nat}(hall:∀g A,Γ g=some A→Kq fD g→A.dp∨A.jv)
 (h:(nE Γ b dst fD ds fun s d=>some (s.ae,d))=some p) (hk:∀d∈fD::ds,k∉SN d) {l:List C} (hl:b.ae[k]?=some (.box l)):p.1[k]?=some (.box l):=by
 unfold nE AI at h
 split at h
 case h_2=>cases h
 rename_i cc
 dsimp only at h
 split at h
 ·rename_i v
  split at h
  case h_2=>cases h
  rename_i g hg
  split at h
  case h_2=>cases h
  rename_i A hA
  rcases hall g A hA (.inl ⟨v,rfl,hg⟩) with hF | ⟨I,hI,hn⟩
  ·rw[hF.1] at h
   exact hF.2.1 h k l (fun d hd=>hk d (eQ _ hd)) hl
  ·rw[hI] at h
   dsimp only at h
   rw[hn] at h
   cases h
 ·rename_i g caps
  split at h
  case h_2=>cases h
  rename_i A hA
  rcases hall g A hA (.inr ⟨caps,rfl⟩) with hF | ⟨I,hI,hn⟩
  ·rw[hF.1] at h
   refine hF.2.1 h k l (fun d hd=>?_) hl
   rcases fK.1 hd with hd | hd
   ·exact hk d (eQ _ hd)
   ·intro hkd
    unfold Df at hd
    obtain⟨q,hq,rfl⟩:=lE.1 hd
    have:k=q.1:=by simpa[SN,S1.list,C.ks] using hkd
    subst this
    refine hk _ (T7 ..) ?_
    simp only[SN,S1.list,II,List.flatMap_nil,MQ,C.ks]
    exact lE.2 ⟨q,hq,rfl⟩
  ·rw[hI] at h
   cases h
 ·cases h
def I3(pl:List Nat):Option Nat→Bool
 | some s=>pl.contains (20000000+s)
 | none=>true
def P9(pl:List Nat):Option Nat→Bool
 | some s=>pl.contains (20000000+s)
 | none=>false
def Bn(pl:List Nat)(o:Oper):Bool:=match o.op with
 | .load _ _=>!I3 pl o.dst
 | .indexAddr _ _ _=>!I3 pl o.dst
 | .slice _ _ lo hi none=>(lo.isSome||hi.isSome)&&!I3 pl o.dst
 | .call { callee:=.builtin .len,.. }=>!I3 pl o.dst
 | _=>false
def Ph(pl:List Nat)(o:Oper):Bool:=match o.op with
 | .call { callee:=.builtin .append,.. }=>true
 | .call { callee:=.value (.func f),.. }=>pl.contains (f+4000000)&&!P9 pl o.dst
 | .call { callee:=.value _,.. }=>pl.contains 9000002&&!P9 pl o.dst
 | .alloc _=>!I3 pl o.dst
 | .store t _ _=>!pl.contains 28999999&&!pl.contains (80000000+t)
 | .buildSlice _ _ _=>true
 | .makeSlice _ _ _=>true
 | _=>false
def yY(Γ:FuncId→Option Callee)(pl:List Nat):Prop:=(∀f A,pl.contains f=true→Γ f=some A→A.Pure)∧(∀f A,pl.contains (f+1000000)=true→Γ f=some A→A.gi)∧(∀f A,pl.contains (f+4000000)=true→Γ f=some A→A.dp)∧(pl.contains 9000000=true→E5 Γ≠[])∧(∀s,(gL Γ).contains s=true→pl.contains (20000000+s)=true)∧(pl.contains 9000002=true→∀f A,(f==2000000)=false→Γ f=some A→A.dp)∧(∀A,Γ 2000000=some A→A.jv) ∧
 (∀s,pl.contains (90000000+s)=true→(uQ Γ).contains s=true)∧∀t,t<8000000→pl.contains (82000000+t)=true→(IZ Γ).contains t=true
def Ds(o:Oper):Bool:=match o.op with
 | .load _ _=>true
 | .indexAddr _ _ _=>true
 | .call { callee:=.builtin .len,.. }=>true
 | _=>false
def S2(pl:List Nat)(o:Oper):Bool:=match o.op with
 | .load _ _=>match o.dst with
  | some s=>pl.contains (90000000+s)
  | none=>false
 | _=>false
def Dt(pl:List Nat)(o:Oper):Bool:=match o.op with
 | .store t _ _=>decide (t<8000000)&&pl.contains (82000000+t)
 | .buildSlice _ _ _=>true
 | _=>false
def S3(pl:List Nat)(o:Oper):Bool:=match o.op with
 | .load _ _=>match o.dst with
  | some s=>pl.contains (91000000+s)
  | none=>false
 | _=>false
def Du(pl:List Nat)(o:Oper):Bool:=match o.op with
 | .store t _ _=>decide (t<1000000)&&pl.contains (84000000+t)
 | _=>false
def Pi(o:Oper):Bool:=match o.op with
 | .alloc _=>true
 | .box _ _=>true
 | _=>false
def Pj(o:Oper):Bool:=o.guard.isNone&&match o.op with
 | .alloc _=>true
 | _=>false
def Pk(o:Oper):Bool:=o.guard.isNone&&match o.op with
 | .makeSlice _ _ _=>true
 | _=>false
def Dv(pl:List Nat)(o:Oper):Bool:=match o.op with
 | .store t _ _=>decide (t<1000000)&&pl.contains (83000000+t)
 | _=>false
def S4(o:Oper):Bool:=match o.op with
 | .call { callee:=.builtin .len,.. }=>true
 | _=>false
def S5(ops:Array Oper)(pl:List Nat)(x y:Oper):Bool:=x.apart ops y&&(Pg pl x||Pg pl y||(jf pl x&&jf pl y)||(pl.contains 9000000&&((Bn pl x&&Ph pl y)||(Ph pl x&&Bn pl y)))||(Ds x&&Pi y)||(pl.contains 9000000&&!pl.contains 28999999&&Pj x&&Pj y)||(pl.contains 9000000&&!pl.contains 28999999&&Pk x&&Pk y)||((S2 pl x&&Dt pl y)||(Dt pl x&&S2 pl y))||((S4 x&&Dv pl y)||(Dv pl x&&S4 y))||((S3 pl x&&Du pl y)||(Du pl x&&S3 pl y)))
def Pl(ops:Array Oper)(listed:Array Bool)(i:Nat):Nat→Nat→Bool
 | 0,_=>false
 | fuel+1,j=>match ops[j]? with
  | some oj=>oj.after.any fun e=>Region.binds .any e&&(e.on==i||(!listed.getD e.on true&&Pl ops listed i fuel e.on))
  | none=>false
def Kr(ops:Array Oper)(pl:List Nat)(listed:Array Bool)(i:Nat):Bool:=match ops[i]? with
 | none=>false
 | some oi=>(List.range ops.size).all fun j=>j==i||listed.getD j true||match ops[j]? with
  | some oj=>Pl ops listed i ops.size j||S5 ops pl oi oj
  | none=>true
def Ks(ops:Array Oper)(pl:List Nat):Nat→Nat→Array Bool→Bool
 | 0,_,listed=>(Region.ready .any ops listed).isEmpty
 | fuel+1,k,listed=>(Region.ready .any ops listed).contains k&&Kr ops pl listed k&&Ks ops pl fuel (k+1) (listed.setIfInBounds k true)
def Kt(pl:List Nat)(ops:Array Oper):Bool:=Ks ops pl ops.size 0 (Array.replicate ops.size false)
section
variable {R:Type} {P:Program} {Γ:FuncId→Option Callee} {ops:Array Oper} {pl:List Nat}
theorem Hd{op:BinOp}(h1:op≠.eql)(h2:op≠.neq)(b b':St)(t yt:TypeId)(x y:D)(k:D→Option R):RP P b op t yt x y k=RP P b' op t yt x y k:=by
 unfold RP
 split
 ·split
  ·unfold AI
   split
   ·first
    | rfl
    | (rw[aA h1,aA h2,aA h1,aA h2])
   ·rfl
  ·rfl
 ·rfl
theorem Vk(hpl:yY Γ pl){o:Oper}(h:Pg pl o=true)(b s0:St)(q:List O):LY P Γ o { b with ae:=q } (ev s0)=(LY P Γ o b (ev s0)).map fun p=>(q,p.2):=by
 obtain⟨dst,op,type,pos,after,guard⟩:=o
 have bm:∀{α:Type} (x:Option α) (f:α→D),(x.bind fun d=>some (q,f d))=(x.bind fun d=>some (b.ae,f d)).map fun p=>(q,p.2):=fun x f=>by cases x <;> rfl
 unfold Pg at h
 unfold LY
 cases op with
 | call c=>
  obtain⟨callee,args,ats⟩:=c
  cases callee with
  | value f=>
   cases f with
   | func f=>
    dsimp only at h ⊢
    have hv:∀ds,(nE Γ { b with ae:=q } dst (ev s0 (.func f)) ds fun s d=>some (s.ae,d))=(nE Γ b dst (ev s0 (.func f)) ds fun s d=>some (s.ae,d)).map fun p=>(q,p.2):=fun ds=>by
     unfold nE AI
     dsimp only[ev]
     have hpf:vU (Value.func (.func f) #[] #[])=some f:=rfl
     rw[hpf]
     dsimp only
     cases hA:Γ f with
     | none=>rfl
     | some A=>
      dsimp only
      obtain⟨he,hq⟩:=hpl.2.1 f A (iC.1 h).1 hA
      rw[he]
      exact hq b q dst _
    have hself:∀ds p,(nE Γ b dst (ev s0 (.func f)) ds fun s d=>some (s.ae,d))=some p→p.1=b.ae:=fun ds p hp=>by
     have h2:=hv ds
     have h3:∀q,(nE Γ { b with ae:=q } dst (ev s0 (.func f)) ds fun s d=>some (s.ae,d))=(nE Γ b dst (ev s0 (.func f)) ds fun s d=>some (s.ae,d)).map fun p=>(q,p.2):=fun q=>by
      unfold nE AI
      dsimp only[ev]
      have hpf:vU (Value.func (.func f) #[] #[])=some f:=rfl
      rw[hpf]
      dsimp only
      cases hA:Γ f with
      | none=>rfl
      | some A=>
       dsimp only
       obtain⟨he,hq⟩:=hpl.2.1 f A (iC.1 h).1 hA
       rw[he]
       exact hq b q dst _
     have h4:=h3 b.ae
     have e:({ b with ae:=b.ae }:St)=b:=rfl
     rw[e,hp] at h4
     simp only[fH,cC] at h4
     rw[h4]
    have okself:∀(B:List Nat) (o:List O),WM B o o=true:=fun B o=>by
     unfold WM
     refine jF.2 fun k _=>?_
     cases oX o[k]? <;> rfl
    have hgt:∀o:List O,∀ds:List D,XG Γ o dst ds=XG Γ b.ae dst ds:=fun o ds=>by
     unfold XG
     cases dst with
     | none=>rfl
     | some s=>
      have h2:(!pl.contains (30000000+s))=true:=(iC.1 h).2
      cases h4:(gL Γ).contains (10000000+s) with
      | false=>simp only[h4,MR,KW]
      | true=>
       have aux:∀n:Nat,20000000+(10000000+n)=30000000+n:=fun n=>by omega
       have h5:pl.contains (20000000+(10000000+s))=true:=hpl.2.2.2.2.1 _ h4
       rw[aux] at h5
       rw[h5] at h2;cases h2
    unfold SZ
    rw[hgt]
    split
    case isFalse=>rfl
    unfold P5
    generalize E5 Γ=B
    cases B with
    | nil=>exact hv _
    | cons w B=>
     dsimp only
     split
     ·exact hv _
     split
     ·rw[hv]
      cases hp:(nE Γ b dst (ev s0 (.func f)) (List.map (ev s0) args.toList) fun s d=>some (s.ae,d)) with
      | none=>rfl
      | some p=>
       simp only[fH,uX,hself _ p hp,okself,eP]
     ·rfl
   | _=>cases h
  | builtin bi=>
   have hm:∀(mx:Bool) (as:List D) (ts:List TypeId),jJ P { b with ae:=q } dst type (if mx=true then Builtin.max else Builtin.min) as ts=(jJ P b dst type (if mx=true then Builtin.max else Builtin.min) as ts).map fun p=>(q,p.2):=fun mx as ts=>by
    have h0:∀(x y:D) (t:TypeId),((PI P mx t x y some).bind fun d=>some (q,d))=((PI P mx t x y some).bind fun d=>some (b.ae,d)).map fun p=>(q,p.2):=fun x y t=>bm _ _
    cases mx
    ·match as,ts with
     | [x,y],[t,u]=>exact h0 x y t
     | [],_=>rfl
     | [_],_=>rfl
     | _::_::_::_,_=>rfl
     | [_,_],[]=>rfl
     | [_,_],[_]=>rfl
     | [_,_],_::_::_::_=>rfl
    ·match as,ts with
     | [x,y],[t,u]=>exact h0 x y t
     | [],_=>rfl
     | [_],_=>rfl
     | _::_::_::_,_=>rfl
     | [_,_],[]=>rfl
     | [_,_],[_]=>rfl
     | [_,_],_::_::_::_=>rfl
   cases bi with
   | min=>exact hm false _ _
   | max=>exact hm true _ _
   | _=>cases h
  | _=>cases h
 | binOp op t x y yt=>
  have hop:op≠.eql∧op≠.neq:=by
   constructor <;> (intro e;subst e;cases h)
  dsimp only
  rw[Hd hop.1 hop.2 { b with ae:=q } b]
  exact bm _ _
 | _=>first
  | rfl
  | exact bm _ _
  | (cases h;done)
theorem Rl(hpl:yY Γ pl){o:Oper}(h:Pg pl o=true)(st:St)(q:List O):qX P Γ ops o { st with ae:=q }=(qX P Γ ops o st).map fun p=>(q,p.2):=by
 have h1:gd ops o { st with ae:=q }=gd ops o st:=rfl
 have h2:LY P Γ o (St.bare { st with ae:=q }) (ev { st with ae:=q })=(LY P Γ o st.bare (ev st)).map fun p=>(q,p.2):=Vk hpl h st.bare st q
 unfold qX
 rw[h1,h2]
 cases gd ops o st with
 | none=>rfl
 | some w=>cases w <;> rfl
theorem Bo{A:Callee}(hN:A.Nat)(hP:A.gg){b:St}{dst:Option Nat}{ds:List D}{p:List O×D}(h:(zP A b dst ds fun s d=>some (s.ae,d))=some p):p.1=b.ae:=by
 obtain⟨⟨hP0,_⟩,hP⟩:=hP
 obtain⟨hN,_⟩:=hN
 unfold zP at h
 rw[hP0] at h
 dsimp only at h
 unfold A3 at h
 split at h
 ·cases h
 ·split at h
  ·cases h
  ·split at h
   ·cases h
   ·dsimp only at h
    split at h
    ·rw[hN] at h
     obtain⟨q,hq,h2⟩:=pV.1 h
     obtain⟨rs,po'⟩:=q
     obtain⟨e1,e2,e3⟩:=hP _ _ rs po' hq
     rw[e1,e2,e3] at h2
     cases h2
     rfl
    ·cases h
theorem Callee.gg.pure{A:Callee}(hN:A.Nat)(hP:A.gg):A.Pure:=⟨hP.1.2,fun h=>Bo hN hP h⟩
theorem Callee.gi.pure{A:Callee}(h:A.gi):A.Pure:=⟨h.1,fun {b dst ds p} hp=>by
 have:=h.2 b b.ae dst ds
 have e:({ b with ae:=b.ae }:St)=b:=rfl
 rw[e,hp] at this
 simp only[fH,cC] at this
 rw[this]⟩
theorem Pm(hN:∀f A,Γ f=some A→A.Nat)(hpl:yY Γ pl){o:Oper}(h:jf pl o=true){b st:St}{p:List O×D}(hp:LY P Γ o b (ev st)=some p):p.1=b.ae:=by
 obtain⟨dst,op,type,pos,after,guard⟩:=o
 have bm:∀{α:Type} (x:Option α) (f:α→D),(x.bind fun d=>some (b.ae,f d))=some p→p.1=b.ae:=fun x f hx=>by
  cases x with
  | none=>cases hx
  | some a=>cases hx;rfl
 unfold jf at h
 unfold LY at hp
 cases op with
 | call c=>
  obtain⟨callee,args,ats⟩:=c
  cases callee with
  | builtin bi=>
   dsimp only at hp h
   split at hp
   case isFalse=>cases hp
   unfold jJ at hp
   split at hp
   ·exact bm _ _ hp
   ·cases h
   ·cases h
   ·exact bm _ _ hp
   ·exact bm _ _ hp
   ·cases hp
  | value f=>
   cases f with
   | func f=>
    dsimp only at hp h
    have hp:(nE Γ b dst (ev st (.func f)) (List.map (ev st) args.toList) fun s d=>some (s.ae,d))=some p:=by
     unfold SZ at hp
     split at hp
     case isFalse=>cases hp
     unfold P5 at hp
     split at hp
     ·exact hp
     split at hp
     ·exact hp
     ·split at hp
      ·obtain⟨p',h1,h2⟩:=pV.1 hp
       split at h2
       ·cases h2;exact h1
       ·cases h2
      ·cases hp
    unfold nE AI at hp
    dsimp only[ev] at hp
    have hpf:vU (Value.func (.func f) #[] #[])=some f:=rfl
    rw[hpf] at hp
    dsimp only at hp
    split at hp
    ·rename_i A hA
     have hpp:A.Pure:=by
      rcases Bool.or_eq_true_iff.1 h with h | h
      ·exact hpl.1 f A h hA
      ·exact(hpl.2.1 f A h hA).pure
     rw[hpp.1] at hp
     exact hpp.2 hp
    ·cases hp
   | _=>cases h
  | _=>cases h
 | move x=>cases hp;rfl
 | assign x=>cases hp;rfl
 | slice t x lo hi mx=>
  dsimp only at hp h
  split at hp
  case isFalse=>cases hp
  unfold AZ at hp
  split at hp
  ·split at hp
   ·rename_i hn
    obtain⟨h1,h2,h3⟩:=hn
    cases lo <;> cases hi <;> cases mx <;> first
     | (cases h;done)
     | (cases h1;done)
     | (cases h2;done)
     | (cases h3;done)
   ·cases hp
  ·rw[yO] at hp
   exact bm _ id hp
 | load t x=>
  dsimp only at hp
  split at hp
  ·exact bm _ _ hp
  ·cases hp
 | _=>first
  | exact bm _ _ hp
  | (cases h;done)
theorem yC(hN:∀f A,Γ f=some A→A.Nat)(hpl:yY Γ pl){o:Oper}(h:jf pl o=true){st:St}{p:List O×D}(hp:qX P Γ ops o st=some p):p.1=st.ae:=by
 unfold qX at hp
 cases hg:gd ops o st with
 | none=>rw[hg] at hp;cases hp
 | some w=>
  rw[hg] at hp
  cases w with
  | true=>exact Pm hN hpl h (b:=st.bare) hp
  | false=>cases hp;rfl
theorem QA{o:Oper}(h:Pg pl o=true):jf pl o=true:=by
 obtain⟨dst,op,type,pos,after,guard⟩:=o
 unfold Pg at h
 unfold jf Pg
 cases op with
 | call c=>
  obtain⟨callee,args,ats⟩:=c
  cases callee with
  | value f=>
   cases f with
   | func f=>exact Bool.or_eq_true_iff.2 (.inr (iC.1 h).1)
   | _=>cases h
  | builtin bi=>cases bi <;> first | rfl | (cases h;done)
  | _=>cases h
 | _=>first
  | rfl
  | (cases h;done)
theorem He(st:St){x y:Option Nat}(d e:D)(h:∀t,x=some t→y≠some t):(st.put x d).put y e=(st.put y e).put x d:=by
 cases x with
 | none=>rfl
 | some i=>
  cases y with
  | none=>rfl
  | some j=>
   have hne:i≠j:=fun he=>h i rfl (he▸rfl)
   simp only[St.put,T8 _ _ hne]
theorem Hg{o:Oper}(h:Bn pl o=true):jf pl o=true:=by
 obtain⟨dst,op,type,pos,after,guard⟩:=o
 unfold Bn at h
 unfold jf
 split at h
 ·rename_i e;dsimp only at e;subst e;rfl
 ·rename_i e;dsimp only at e;subst e;rfl
 ·rename_i lo hi e
  dsimp only at e
  subst e
  dsimp only
  rw[cM] at h
  rw[h.1];rfl
 ·rename_i e;dsimp only at e;subst e;rfl
 ·cases h
theorem Ku(hN:∀f A,Γ f=some A→A.Nat)(hpl:yY Γ pl){o:Oper}(h:Bn pl o=true){st:St}{p:List O×D}(hp:qX P Γ ops o st=some p):p.1=st.ae:=yC hN hpl (Hg h) hp
theorem G7(hpl:yY Γ pl){dst:Option Nat}(h:(!I3 pl dst)=true):vV (gL Γ) dst=false:=by
 cases dst with
 | none=>rfl
 | some s=>
  have h':(!pl.contains (20000000+s))=true:=h
  show (gL Γ).contains s=false
  cases hc:(gL Γ).contains s with
  | false=>rfl
  | true=>rw[hpl.2.2.2.2.1 s hc] at h';cases h'
theorem NM{R:Type}{st:St}{q:List O}{t:TypeId}{x ix:D}{k:D→Option R}(h:UY x=true):kE P { st with ae:=q } t x ix k=kE P st t x ix k:=by
 unfold UY at h
 split at h
 ·rfl
 ·rfl
 ·rfl
 ·cases h
theorem QB{x:D}(h:PJ x=true):∃y,x=.s (.c (.t y)):=by
 unfold PJ at h
 split at h
 ·exact⟨_,rfl⟩
 ·cases h
theorem Hh{R:Type}{st:St}{q:List O}{t:TypeId}{x:D}{k:D→Option R}(h:PJ x=true):E4 P { st with ae:=q } t x k=E4 P st t x k:=by
 obtain⟨y,rfl⟩:=QB h
 unfold E4
 cases P.underlying t with
 | none=>rfl
 | some u=>cases u <;> first | rfl | (cases y <;> rfl)
theorem X7{R:Type}{st:St}{q:List O}{t:TypeId}{x:D}{lo hi:Option D}{k:D→Option R}(h:PJ x=true):CB P { st with ae:=q } t x lo hi none k=CB P st t x lo hi none k:=by
 obtain⟨y,rfl⟩:=QB h
 unfold CB
 cases P.underlying t with
 | none=>rfl
 | some u=>cases u <;> rfl
theorem QC(hpl:yY Γ pl)(hq:E5 Γ≠[]){dst:Option Nat}(h:(!I3 pl dst)=true){x:D}(hg:PK Γ dst x=true):PJ x=true:=by
 unfold PK at hg
 split at hg
 ·rename_i e;exact absurd e hq
 ·rwa[G7 hpl h,KW] at hg
theorem J1(hpl:yY Γ pl){o:Oper}(hq:E5 Γ≠[])(h:Bn pl o=true){st:St}{q:List O}(hb:∀k∈E5 Γ,bj st.ae q k){d:D}(hp:qX P Γ ops o st=some (st.ae,d)):qX P Γ ops o { st with ae:=q }=some (q,d):=by
 obtain⟨dst,op,type,pos,after,guard⟩:=o
 unfold Bn at h
 unfold qX at hp ⊢
 have h1:gd ops (⟨dst,op,type,pos,after,guard⟩:Oper) { st with ae:=q }=gd ops (⟨dst,op,type,pos,after,guard⟩:Oper) st:=rfl
 rw[h1]
 cases hg:gd ops (⟨dst,op,type,pos,after,guard⟩:Oper) st with
 | none=>rw[hg] at hp;cases hp
 | some w=>
  rw[hg] at hp
  cases w with
  | false=>
   simp only[uX,bV,cC,yH] at hp ⊢
   exact⟨trivial,hp.2⟩
  | true=>
   cases op with
   | slice t x lo hi mx=>
    cases mx with
    | some m=>cases h
    | none=>
     dsimp only at h
     rw[cM] at h
     have hp:(if (PK Γ dst (ev st x)&&Dh Γ dst (ev st x))=true then AZ P st.bare t (ev st x) (lo.map (ev st)) (hi.map (ev st)) none fun s d=>some (s.ae,d) else none)=some (st.ae,d):=hp
     show (if (PK Γ dst (ev st x)&&Dh Γ dst (ev st x))=true then AZ P { st.bare with ae:=q } t (ev st x) (lo.map (ev st)) (hi.map (ev st)) none fun s d=>some (s.ae,d) else none)=some (q,d)
     split at hp
     case isFalse=>cases hp
     rename_i hg2
     rw[aC hg2]
     have htr:=QC hpl hq h.2 (iC.1 hg2).1
     unfold AZ at hp ⊢
     split at hp
     ·rename_i hA
      exfalso
      split at hp
      ·obtain⟨y,hy⟩:=QB htr
       rw[hy] at hp
       unfold G1 at hp
       cases hp
      ·cases hp
     ·rename_i hA
      rw[aA hA,X7 htr,yO]
      rw[yO] at hp
      obtain⟨d0,e1,e2⟩:=pV.1 hp
      cases e2
      have e1':CB P st.bare.bare t (ev st x) (lo.map (ev st)) (hi.map (ev st)) none some=some d:=e1
      rw[e1']
      rfl
   | call c=>
    obtain⟨callee,args,ats⟩:=c
    cases callee with
    | builtin bi=>
     cases bi with
     | len=>
      dsimp only at h
      have hp:(if HZ Γ st.ae dst .len (args.toList.map (ev st))=true then jJ P st.bare dst type .len (args.toList.map (ev st)) ats.toList else none)=some (st.ae,d):=hp
      show (if HZ Γ st.ae dst .len (args.toList.map (ev st))=true then jJ P { st.bare with ae:=q } dst type .len (args.toList.map (ev st)) ats.toList else none)=some (q,d)
      split at hp
      case isFalse=>cases hp
      rename_i hg2
      rw[aC hg2]
      generalize args.toList.map (ev st)=as at *
      generalize ats.toList=ts at *
      unfold jJ at hp ⊢
      match as,ts,hg2,hp with
      | [x],[t],hg2,hp=>
       dsimp only at hp ⊢
       have htr:PJ x=true:=QC hpl hq h (by
        have:HZ Γ st.ae dst .len [x]=true:=hg2
        unfold HZ at this
        simp only[HO,ZF,ML,cM] at this
        exact this.1)
       rw[Hh htr]
       obtain⟨d0,e1,e2⟩:=pV.1 hp
       cases e2
       rw[e1]
       rfl
      | [],_,hg2,hp=>cases hp
      | [x],[],hg2,hp=>cases hp
      | [x],_::_::_,hg2,hp=>cases hp
      | _::_::_,_,hg2,hp=>cases hp
     | _=>cases h
    | _=>cases h
   | indexAddr t x ix=>
    have hp:((vW Γ P st.bare dst t (ev st x) (ev st ix) some).bind fun d=>some (st.bare.ae,d))=some (st.ae,d):=hp
    obtain⟨d',h3,h2⟩:=pV.1 hp
    cases h2
    show ((vW Γ P { st.bare with ae:=q } dst t (ev st x) (ev st ix) some).bind fun d=>some (q,d))=some (q,d)
    have key:vW Γ P { st.bare with ae:=q } dst t (ev st x) (ev st ix) some=some d:=by
     unfold vW at h3 ⊢
     cases hB:E5 Γ with
     | nil=>exact absurd hB hq
     | cons w B=>
      rw[hB] at h3
      dsimp only at h3 ⊢
      rw[G7 hpl h,KW] at h3 ⊢
      split at h3
      case isFalse=>cases h3
      rename_i hi
      rw[aC hi,NM hi]
      exact h3
    rw[key]
    rfl
   | load t x=>
    have hp:(if ER Γ dst (ev st x)=true then ((tO Γ P st.bare dst t (ev st x) some).bind fun d=>some (st.bare.ae,d)) else none)=some (st.ae,d):=hp
    split at hp
    case isFalse=>cases hp
    rename_i hgl
    obtain⟨d',h3,h2⟩:=pV.1 hp
    cases h2
    show (if ER Γ dst (ev st x)=true then ((tO Γ P { st.bare with ae:=q } dst t (ev st x) some).bind fun d=>some (q,d)) else none)=some (q,d)
    rw[aC hgl]
    have key:tO Γ P { st.bare with ae:=q } dst t (ev st x) some=some d:=by
     unfold tO at h3 ⊢
     cases hB:E5 Γ with
     | nil=>exact absurd hB hq
     | cons w B=>
      rw[hB] at h3 hb
      dsimp only at h3 ⊢
      rw[G7 hpl h,KW] at h3 ⊢
      split at h3
      case isFalse=>cases h3
      rename_i hqp0
      have hqp1:=hqp0
      rw[cM] at hqp1
      obtain⟨hqp,hbx⟩:=hqp1
      have hgoal:(FM (w::B) (ev st x)&&xI { st.bare with ae:=q } (ev st x))=true:=by
       rw[cM]
       refine⟨hqp,?_⟩
       unfold FM at hqp
       unfold xI at hbx ⊢
       split at hqp
       ·rename_i kk jj he
        rw[he] at hbx ⊢
        dsimp only at hbx ⊢
        have hk:kk∈w::B:=by simpa using hqp
        cases ho:st.ae[kk]? with
        | none=>
         have hbx':oX st.ae[kk]?=true:=hbx
         rw[ho] at hbx';cases hbx'
        | some o=>
         have hbx':oX st.ae[kk]?=true:=hbx
         rw[ho] at hbx'
         cases o with
         | box l=>rw[(hb kk hk l).1 ho];rfl
         | _=>cases hbx'
       ·rename_i he
        rw[he]
       ·cases hqp
      rw[aC hgoal]
      unfold vQ at h3 ⊢
      split at h3
      case h_2=>cases h3
      rename_i n bb hn hbb
      split at h3
      ·cases h3
      rename_i hc
      rw[aA hc]
      unfold AI at h3 ⊢
      unfold FM at hqp
      split at hqp
      ·rename_i kk jj he
       rw[he] at h3 ⊢
       dsimp only at h3 ⊢
       have hk:kk∈w::B:=by simpa using hqp
       split at h3
       ·rename_i cs hcs
        have hcs2:st.ae[kk]?=some (.box cs):=by
         have hbx':oX st.ae[kk]?=true:=by
          rw[he] at hbx
          exact hbx
         have hcs0:(st.ae[kk]?).bind O.cells?=some cs:=hcs
         cases ho:st.ae[kk]? with
         | none=>rw[ho] at hbx';cases hbx'
         | some o=>
          rw[ho] at hbx' hcs0
          cases o with
          | box l=>cases hcs0;rfl
          | _=>cases hbx'
        have hcs':q[kk]?=some (.box cs):=(hb kk hk cs).1 hcs2
        have hcs3:(q[kk]?).bind O.cells?=some cs:=by rw[hcs'];rfl
        rw[hcs3]
        exact h3
       ·cases h3
      ·rename_i he
       rw[he] at h3 ⊢
       exact h3
      ·cases hqp
    rw[key]
    rfl
   | _=>cases h
theorem QD{α:Type}{st:St}{dst:Option Nat}{o:O}{f:St→Nat→Option α}{r:α}(h:qV st dst o f=some r):∃K,st.ae[K]?=some .fresh∧f { st with ae:=st.ae.set K o } K=some r:=by
 unfold qV at h
 split at h
 ·split at h
  ·rename_i hf
   exact⟨_,hf,h⟩
  ·split at h
   ·rename_i hf
    exact⟨_,hf,h⟩
   ·split at h
    ·rename_i K hK
     have hm:K∈(List.range st.ae.length).filter fun i=>decide (st.np≤i)&&uG st.ae[i]?:=by
      unfold AX at hK
      exact T2 hK
     have h2:=(CO.1 hm).2
     simp only[cM] at h2
     have h4:st.ae[K]?=some .fresh:=by
      have:=h2.2
      unfold uG at this
      split at this
      ·rename_i e;exact e
      ·cases this
     exact⟨_,h4,h⟩
    ·cases h
 ·cases h
theorem X8{B:List Nat}{o o':List O}(hok:WM B o o'=true){k:Nat}(hk:k∈B)(fr:∀l,o[k]?=some (.box l)→o'[k]?=some (.box l)):bj o o' k:=by
 intro l
 constructor
 ·exact fr l
 ·intro hl
  unfold WM at hok
  have h5:=jF.1 hok k hk
  rw[hl] at h5
  simp only[oX,BQ,KW] at h5
  cases ho:o[k]? with
  | none=>rw[ho] at h5;cases h5
  | some x=>
   rw[ho] at h5
   cases x with
   | box l0=>
    have:=fr l0 ho
    rw[hl] at this
    cases this
    rfl
   | _=>cases h5
theorem FR{Γ:FuncId→Option Callee}{P:Program}{R:Type}{st:St}{dst:Option Nat}{t:TypeId}{l c:D}{k:St→D→Option R}{r:R}(h:jH Γ P st dst t l c k=some r):
 ∃(o:O) (f:Nat→D),oX (some o)=false∧o≠.fresh∧∀{S:Type} (st':St) (k':St→D→Option S),jH Γ P st' dst t l c k'=qV st' dst o fun s key=>k' s (f key):=by
 unfold jH at h
 by_cases hr:Vi Γ dst=true
 ·rw[aC hr] at h
  unfold BV at h
  split at h
  case h_2=>cases h
  rename_i e hu
  split at h
  case h_2=>cases h
  rename_i i e2 h1 h2
  split at h
  case h_2=>cases h
  rename_i n h3 h4
  split at h
  case isFalse=>cases h
  rename_i hc
  obtain⟨a,g1,g2⟩:=A9 h
  obtain⟨b,g3,g4⟩:=A9 g1
  obtain⟨p,g5,g6⟩:=bK g3
  refine⟨.rr none e e2 n (E3 p.1 []),fun key=>.s (.c (.rk key)),rfl,by simp,fun st' k'=>?_⟩
  unfold jH
  rw[aC hr]
  unfold BV
  simp only[hu,h1,h2,h3,h4,aC hc,g2,g4,g5]
  rfl
 ·rw[aA hr] at h
  unfold sF at h
  split at h
  case h_2=>cases h
  rename_i e hu
  split at h
  case h_2=>cases h
  rename_i i h1
  split at h
  case h_2=>cases h
  rename_i z h2
  split at h
  case h_2=>cases h
  rename_i cs h3
  split at h
  case h_2=>cases h
  rename_i ts h4
  split at h
  case isFalse=>cases h
  rename_i hc
  obtain⟨a,g1,g2⟩:=A9 h
  obtain⟨b,g3,g4⟩:=A9 g1
  obtain⟨p,g5,g6⟩:=bK g3
  refine⟨.row false e i.size (E3 p.1 (Uu i.size ts)),fun key=>.s (.c (.row key)),rfl,by simp,fun st' k'=>?_⟩
  unfold jH
  rw[aA hr]
  unfold sF
  simp only[hu,h1,h2,h3,h4,aC hc,g2,g4,g5]
  rfl
theorem Kv(hpl:yY Γ pl)(hq:E5 Γ≠[]){o:Oper}(h:Ph pl o=true){st:St}{q:List O}{d:D}(hp:qX P Γ ops o st=some (q,d)):∀k∈E5 Γ,bj st.ae q k:=by
 intro k hk
 obtain⟨dst,op,type,pos,after,guard⟩:=o
 unfold Ph at h
 unfold qX at hp
 cases hg:gd ops (⟨dst,op,type,pos,after,guard⟩:Oper) st with
 | none=>rw[hg] at hp;cases hp
 | some w=>
  rw[hg] at hp
  cases w with
  | false=>cases hp;exact .refl _ _
  | true=>
   have hp:LY P Γ ⟨dst,op,type,pos,after,guard⟩ st.bare (ev st)=some (q,d):=hp
   unfold LY at hp
   cases op with
   | makeSlice t l c=>
    have hp:nG Γ P st.bare dst t (ev st l) (ev st c) (fun s d=>some (s.ae,d))=some (q,d):=hp
    have hr:jH Γ P st.bare dst t (ev st l) (ev st c) (fun s d=>some (s.ae,d))=some (q,d):=by
     unfold nG at hp
     split at hp
     ·exact hp
     ·split at hp
      ·exact hp
      ·cases hp
    obtain⟨o,f,hb,_,hn⟩:=FR hr
    rw[hn] at hr
    obtain⟨K,h1,h2⟩:=A8 hb hr
    cases h2
    exact h1 k
   | call c=>
    obtain⟨callee,args,ats⟩:=c
    cases callee with
    | builtin bi=>
     cases bi with
     | append=>
      dsimp only at hp
      split at hp
      case isFalse=>cases hp
      unfold jJ at hp
      split at hp
      ·cases ‹Builtin.append=_›
      ·exact RY hp k
      ·cases ‹Builtin.append=_›
      ·cases ‹Builtin.append=_›
      ·cases ‹Builtin.append=_›
      ·cases hp
     | _=>cases h
    | value f=>
     dsimp only at hp
     have hlc:vV (gL Γ) dst=false:=by
      have h2:P9 pl dst=false:=by
       have h3:(!P9 pl dst)=true:=by
        cases f <;> exact(iC.1 h).2
       cases h4:P9 pl dst with
       | false=>rfl
       | true=>rw[h4] at h3;cases h3
      cases dst with
      | none=>rfl
      | some s=>
       show (gL Γ).contains s=false
       cases h4:(gL Γ).contains s with
       | false=>rfl
       | true=>
        have h5:pl.contains (20000000+s)=true:=hpl.2.2.2.2.1 s h4
        have h6:pl.contains (20000000+s)=false:=h2
        rw[h5] at h6;cases h6
     have hall:∀g A,Γ g=some A→Kq (ev st f) g→A.dp∨A.jv:=fun g A hA hr=>by
      by_cases hflag:(g==2000000)=true
      ·have:g=2000000:=by simpa using hflag
       subst this
       exact .inr (hpl.2.2.2.2.2.2.1 A hA)
      ·have hflag:(g==2000000)=false:=by simpa using hflag
       left
       cases f with
       | func f'=>
        have:g=f':=by
         rcases hr with⟨v,h1,h2⟩ | ⟨caps,h1⟩
         ·simp only[ev] at h1
          cases h1
          have hpf:vU (Value.func (.func f') #[] #[])=some f':=rfl
          rw[hpf] at h2
          cases h2;rfl
         ·simp only[ev] at h1
          cases h1
        subst this
        exact hpl.2.2.1 g A (iC.1 h).1 hA
       | _=>exact hpl.2.2.2.2.2.1 (iC.1 h).1 g A hflag hA
     unfold SZ at hp
     split at hp
     case isFalse=>cases hp
     unfold P5 at hp
     cases hB:E5 Γ with
     | nil=>exact absurd hB hq
     | cons w B=>
      rw[hB] at hp hk
      dsimp only at hp
      rw[hlc] at hp
      simp only[pB,iK] at hp
      split at hp
      case isFalse=>cases hp
      rename_i hqd
      obtain⟨p',h1,h2⟩:=pV.1 hp
      split at h2
      case isFalse=>cases h2
      rename_i hok
      cases h2
      have hkeys:∀d∈ev st f::args.toList.map (ev st),k∉SN d:=fun d hd hkd=>by
       unfold At at hqd
       have h5:=jF.1 hqd d hd
       have h6:=jF.1 h5 k hkd
       have h7:(w::B).contains k=true:=by simpa using hk
       rw[h7] at h6
       cases h6
      have fr:∀l,st.ae[k]?=some (.box l)→q[k]?=some (.box l):=fun l hl=>VD hall h1 hkeys hl
      exact X8 hok hk fr
    | _=>cases h
   | buildSlice t n parts=>
    dsimp only at hp
    split at hp
    case isFalse=>cases hp
    exact J0 hp k
   | store t x v=>
    dsimp only at hp h
    split at hp
    case isFalse=>cases hp
    rename_i hgs
    rw[cM] at hgs
    replace hgs:=hgs.1
    unfold Ju at hgs
    cases hB:E5 Γ with
    | nil=>exact absurd hB hq
    | cons w B=>
     rw[hB] at hgs hk
     dsimp only at hgs
     have hnl:(gL Γ).contains 8999999=false:=by
      cases hc:(gL Γ).contains 8999999 with
      | false=>rfl
      | true=>
       have:=hpl.2.2.2.2.1 _ hc
       rw[this] at h
       cases h
     have hnt:(gL Γ).contains (60000000+t)=false:=by
      cases hc:(gL Γ).contains (60000000+t) with
      | false=>rfl
      | true=>
       have h9:=hpl.2.2.2.2.1 _ hc
       have aux8:∀n:Nat,20000000+(60000000+n)=80000000+n:=fun n=>by omega
       rw[show 20000000+(60000000+t)=80000000+t from aux8 t] at h9
       rw[h9,Bool.and_comm] at h
       cases h
     rw[hnl,hnt,T9,T9] at hgs
     obtain⟨q',h1,h2⟩:=pV.1 hp
     cases h2
     unfold AW at h1
     split at h1
     case h_2=>cases h1
     split at h1
     case isFalse=>cases h1
     split at hgs
     case h_3=>cases hgs
     case h_2=>
      rename_i kk mm ii jj he
      rw[he] at h1
      unfold AI at h1
      dsimp only at h1
      split at h1
      case h_2=>cases h1
      rename_i q2 hfz
      split at h1
      case h_2=>cases h1
      rename_i e m' es hob
      obtain⟨ts,h1⟩:=I2 h1
      split at h1
      case isFalse=>cases h1
      obtain⟨x,_,h1⟩:=bK h1
      cases h1
      exact(P8 hfz k).trans (sK (by rw[hob];rfl) rfl)
     rename_i kk jj he
     rw[he] at h1
     unfold AI at h1
     dsimp only at h1
     split at h1
     ·split at h1
      ·cases h1
       have hne:kk≠k:=fun e=>by
        subst e
        have:(w::B).contains kk=true:=by simpa using hk
        rw[this] at hgs
        cases hgs
       intro l
       rw[fC hne]
       exact zO
      ·cases h1
     ·cases h1
   | alloc e=>
    dsimp only at hp
    unfold FQ at hp
    cases hB:E5 Γ with
    | nil=>exact absurd hB hq
    | cons w B=>
     rw[hB] at hp hk
     dsimp only at hp
     split at hp
     case isFalse=>cases hp
     obtain⟨p',h1,h2⟩:=pV.1 hp
     rw[G7 hpl h,KW] at h2
     split at h2
     case isFalse=>cases h2
     rename_i hok
     cases h2
     refine X8 hok hk fun l hl=>?_
     unfold uM at h1
     split at h1
     case h_2=>cases h1
     split at h1
     case h_2=>cases h1
     split at h1
     case h_2=>cases h1
     obtain⟨K,hK,h3⟩:=QD h1
     cases h3
     dsimp only
     rw[fC (fun e=>by
      subst e
      have hl':st.bare.ae[K]?=some (.box l):=hl
      rw[hK] at hl'
      cases hl')]
     exact hl
   | _=>cases h
def S6(o o':List O):Prop:=∀(k:Nat) (x:O),o[k]?=some x→x≠O.fresh→o'[k]?=some x
theorem G8{o o':List O}(hg:S6 o o'):∀{f k K:Nat},BO o f k=some K→BO o' f k=some K
 | 0,_,_,h=>by simp[BO] at h
 | f+1,k,K,h=>by
  simp only[BO] at h ⊢
  split at h
  ·rename_i ho;rw[hg k _ ho (by simp)];exact h
  ·rename_i ho;rw[hg k _ ho (by simp)];exact G8 hg h
  ·cases h
theorem QE{R:Type}{st:St}{q:List O}{t:TypeId}{d:D}{k:D→Option R}{r:R}(hg:S6 st.ae q)(h:vQ P st t d k=some r):vQ P { st with ae:=q } t d k=some r:=by
 unfold vQ at h ⊢
 cases hn:MS P t with
 | none=>rw[hn] at h;cases h
 | some n=>
  cases hb:RH P t with
  | none=>rw[hn,hb] at h;cases h
  | some b=>
   rw[hn,hb] at h
   dsimp only at h ⊢
   split at h
   ·cases h
   rename_i hc
   rw[aA hc]
   unfold AI at h ⊢
   cases d with
   | ee l=>cases h
   | s s=>cases s with
    | agg l=>cases h
    | c c=>
     cases c with
     | box key j=>
      dsimp only at h ⊢
      cases ho:st.ae[key]? with
      | none=>rw[ho] at h;cases h
      | some o=>
       rw[ho] at h
       rw[hg key o ho (fun e=>by subst e;cases h)]
       exact h
     | ib key m i j=>
      dsimp only at h ⊢
      cases ho:st.ae[key]? with
      | none=>rw[ho] at h;cases h
      | some o=>
       rw[ho] at h
       rw[hg key o ho (fun e=>by subst e;cases h)]
       exact h
     | kn key i=>
      dsimp only at h ⊢
      cases hr:BO st.ae 64 key with
      | none=>rw[hr] at h;cases h
      | some K=>
       rw[hr] at h
       rw[G8 hg hr]
       dsimp only at h ⊢
       cases ho:st.ae[K]? with
       | none=>rw[ho] at h;cases h
       | some o=>
        rw[ho] at h
        rw[hg K o ho (fun e=>by subst e;cases h)]
        exact h
     | _=>exact h
theorem EU{R:Type}{st:St}{q:List O}{t:TypeId}{x ix:D}{k:D→Option R}{r:R}(hg:S6 st.ae q)(h:kE P st t x ix k=some r):kE P { st with ae:=q } t x ix k=some r:=by
 unfold kE at h ⊢
 cases hu:P.underlying t with
 | none=>rw[hu] at h;cases h
 | some u=>
  rw[hu] at h
  cases u with
  | slice e=>
   dsimp only at h ⊢
   cases hn:MS P e with
   | none=>rw[hn] at h;cases h
   | some n=>
    rw[hn] at h
    dsimp only at h ⊢
    unfold AI at h ⊢
    cases x with
    | ee l=>cases h
    | s s=>cases s with
     | agg l=>cases h
     | c c=>
      dsimp only at h ⊢
      obtain⟨i,h1,h2⟩:=A9 h
      rw[h2]
      cases c with
      | row key=>
       dsimp only at h1 ⊢
       cases ho:st.ae[key]? with
       | none=>rw[ho] at h1;cases h1
       | some o=>
        rw[ho] at h1
        rw[hg key o ho (fun e=>by subst e;cases h1)]
        exact h1
      | cut key m lo len tg=>
       dsimp only at h1 ⊢
       cases ho:st.ae[key]? with
       | none=>rw[ho] at h1;cases h1
       | some o=>
        rw[ho] at h1
        rw[hg key o ho (fun e=>by subst e;cases h1)]
        exact h1
      | rk key=>
       dsimp only at h1 ⊢
       cases hr:BO st.ae 64 key with
       | none=>rw[hr] at h1;cases h1
       | some K=>
        rw[hr] at h1
        rw[G8 hg hr]
        dsimp only at h1 ⊢
        cases ho:st.ae[K]? with
        | none=>rw[ho] at h1;cases h1
        | some o=>
         rw[ho] at h1
         rw[hg K o ho (fun e=>by subst e;cases h1)]
         exact h1
      | _=>exact h1
  | _=>exact h
theorem Hi{R:Type}{st:St}{q:List O}{t:TypeId}{x:D}{k:D→Option R}{r:R}(hg:S6 st.ae q)(h:E4 P st t x k=some r):E4 P { st with ae:=q } t x k=some r:=by
 unfold E4 at h ⊢
 cases hu:P.underlying t with
 | none=>rw[hu] at h;cases h
 | some u=>
  rw[hu] at h
  cases u with
  | slice e=>
   dsimp only at h ⊢
   unfold AI at h ⊢
   cases x with
   | ee l=>cases h
   | s s=>cases s with
    | agg l=>cases h
    | c c=>
     dsimp only at h ⊢
     cases c with
     | row key=>
      dsimp only at h ⊢
      cases ho:st.ae[key]? with
      | none=>rw[ho] at h;cases h
      | some o=>
       rw[ho] at h
       rw[hg key o ho (fun e=>by subst e;cases h)]
       exact h
     | rk key=>
      dsimp only at h ⊢
      cases hr:BO st.ae 64 key with
      | none=>rw[hr] at h;cases h
      | some K=>
       rw[hr] at h
       rw[G8 hg hr]
       dsimp only at h ⊢
       cases ho:st.ae[K]? with
       | none=>rw[ho] at h;cases h
       | some o=>
        rw[ho] at h
        rw[hg K o ho (fun e=>by subst e;cases h)]
        exact h
     | _=>exact h
  | map kt e=>
   dsimp only at h ⊢
   unfold AI at h ⊢
   cases x with
   | ee l=>cases h
   | s s=>cases s with
    | agg l=>cases h
    | c c=>
     dsimp only at h ⊢
     cases c with
     | t y=>
      cases y <;> first | exact h | cases h
     | row key=>
      dsimp only at h ⊢
      cases ho:st.ae[key]? with
      | none=>rw[ho] at h;cases h
      | some o=>
       rw[ho] at h
       rw[hg key o ho (fun e=>by subst e;cases h)]
       exact h
     | _=>exact h
  | _=>exact h
theorem S7{o:List O}{K:Nat}{x:O}(h:o[K]?=some .fresh):S6 o (o.set K x):=fun k y hy hn=>by
 have hne:K≠k:=fun e=>by subst e;rw[h] at hy;cases hy;exact hn rfl
 rw[fC hne]
 exact hy
theorem X9{o:Oper}(h:Pi o=true){st:St}{q:List O}{d:D}(hp:qX P Γ ops o st=some (q,d)):S6 st.ae q:=by
 obtain⟨dst,op,type,pos,after,guard⟩:=o
 unfold Pi at h
 unfold qX at hp
 cases hg:gd ops (⟨dst,op,type,pos,after,guard⟩:Oper) st with
 | none=>rw[hg] at hp;cases hp
 | some w=>
  rw[hg] at hp
  cases w with
  | false=>cases hp;exact fun k x h _=>h
  | true=>
   have hp:LY P Γ ⟨dst,op,type,pos,after,guard⟩ st.bare (ev st)=some (q,d):=hp
   unfold LY at hp
   cases op with
   | alloc t=>
    dsimp only at hp
    have bn:(uM P st.bare dst t fun s d=>some (s.ae,d))=some (q,d):=by
     unfold FQ at hp
     split at hp
     ·exact hp
     ·split at hp
      case isFalse=>cases hp
      obtain⟨p',h1,h2⟩:=pV.1 hp
      split at h2
      ·cases h2;exact h1
      ·cases h2
    unfold uM at bn
    split at bn
    case h_2=>cases bn
    split at bn
    case h_2=>cases bn
    split at bn
    case h_2=>cases bn
    obtain⟨K,h1,h2⟩:=QD bn
    cases h2
    exact S7 h1
   | box t x=>
    dsimp only at hp
    unfold W0 at hp
    split at hp
    case h_2=>cases hp
    split at hp
    case isFalse=>cases hp
    obtain⟨K,h1,h2⟩:=QD hp
    cases h2
    exact S7 h1
   | _=>cases h
theorem Hj{oi oj:Oper}(hl:Ds oi=true)(ha:Pi oj=true){st:St}{q2:List O}{d1 d2:D}(e1:qX P Γ ops oi st=some (st.ae,d1))(e2:qX P Γ ops oj st=some (q2,d2)):qX P Γ ops oi { st with ae:=q2 }=some (q2,d1):=by
 have hgr:=X9 ha e2
 clear e2 ha
 obtain⟨dst,op,type,pos,after,guard⟩:=oi
 unfold Ds at hl
 unfold qX at e1 ⊢
 have h1:gd ops (⟨dst,op,type,pos,after,guard⟩:Oper) { st with ae:=q2 }=gd ops (⟨dst,op,type,pos,after,guard⟩:Oper) st:=rfl
 rw[h1]
 cases hg:gd ops (⟨dst,op,type,pos,after,guard⟩:Oper) st with
 | none=>rw[hg] at e1;cases e1
 | some w=>
  rw[hg] at e1
  cases w with
  | false=>
   simp only[uX,bV,cC,yH] at e1 ⊢
   exact⟨trivial,e1.2⟩
  | true=>
   cases op with
   | indexAddr t x ix=>
    have e1:((vW Γ P st.bare dst t (ev st x) (ev st ix) some).bind fun d=>some (st.bare.ae,d))=some (st.ae,d1):=e1
    obtain⟨d',h3,h2⟩:=pV.1 e1
    cases h2
    show ((vW Γ P { st.bare with ae:=q2 } dst t (ev st x) (ev st ix) some).bind fun d=>some (q2,d))=some (q2,d1)
    have key:vW Γ P { st.bare with ae:=q2 } dst t (ev st x) (ev st ix) some=some d1:=by
     unfold vW at h3 ⊢
     cases hB:E5 Γ with
     | nil=>
      rw[hB] at h3
      exact EU (st:=st.bare) hgr h3
     | cons w B=>
      rw[hB] at h3
      dsimp only at h3 ⊢
      split at h3
      case isFalse=>cases h3
      rename_i hi
      rw[aC hi]
      exact EU (st:=st.bare) hgr h3
    rw[key]
    rfl
   | load t x=>
    have e1:(if ER Γ dst (ev st x)=true then ((tO Γ P st.bare dst t (ev st x) some).bind fun d=>some (st.bare.ae,d)) else none)=some (st.ae,d1):=e1
    split at e1
    case isFalse=>cases e1
    rename_i hgl
    obtain⟨d',h3,h2⟩:=pV.1 e1
    cases h2
    show (if ER Γ dst (ev st x)=true then ((tO Γ P { st.bare with ae:=q2 } dst t (ev st x) some).bind fun d=>some (q2,d)) else none)=some (q2,d1)
    rw[aC hgl]
    have key:tO Γ P { st.bare with ae:=q2 } dst t (ev st x) some=some d1:=by
     unfold tO at h3 ⊢
     cases hB:E5 Γ with
     | nil=>
      rw[hB] at h3
      exact QE (st:=st.bare) hgr h3
     | cons w B=>
      rw[hB] at h3
      dsimp only at h3 ⊢
      split at h3
      case isFalse=>cases h3
      rename_i hi
      have hbx:∀d,xI st.bare d=true→xI { st.bare with ae:=q2 } d=true:=fun d hd=>by
       unfold xI at hd ⊢
       split
       ·rename_i kk jj
        have hd:oX st.ae[kk]?=true:=hd
        show oX q2[kk]?=true
        cases ho:st.ae[kk]? with
        | none=>rw[ho] at hd;cases hd
        | some o=>
         rw[ho] at hd
         rw[hgr kk o ho (fun e=>by subst e;cases hd)]
         exact hd
       ·rfl
      have hi':((FM (w::B) (ev st x)&&xI { st.bare with ae:=q2 } (ev st x))||vV (gL Γ) dst)=true:=by
       rw[pD,cM] at hi ⊢
       exact hi.imp (fun h=>⟨h.1,hbx _ h.2⟩) id
      rw[aC hi']
      exact QE (st:=st.bare) hgr h3
    rw[key]
    rfl
   | call c=>
    obtain⟨callee,args,ats⟩:=c
    cases callee with
    | builtin bi=>
     cases bi with
     | len=>
      have hev:∀x,ev { st with ae:=q2 } x=ev st x:=fun x=>by cases x <;> rfl
      have e1:(if HZ Γ st.ae dst .len (args.toList.map (ev st))=true then jJ P st.bare dst type .len (args.toList.map (ev st)) ats.toList else none)=some (st.ae,d1):=e1
      show (if HZ Γ st.ae dst .len (args.toList.map (ev { st with ae:=q2 }))=true then jJ P { st.bare with ae:=q2 } dst type .len (args.toList.map (ev { st with ae:=q2 })) ats.toList else none)=some (q2,d1)
      have hm:args.toList.map (ev { st with ae:=q2 })=args.toList.map (ev st):=OI fun x _=>hev x
      rw[hm]
      split at e1
      case isFalse=>cases e1
      rename_i hgb
      rw[aC hgb]
      unfold jJ at e1 ⊢
      split at e1
      ·obtain⟨d',h3,h2⟩:=pV.1 e1
       cases h2
       have:=Hi (st:=st.bare) hgr h3
       show ((E4 P { st.bare with ae:=q2 } _ _ some).bind fun d=>some (q2,d))=_
       rw[this]
       rfl
      all_goals first
       | (cases ‹Builtin.len=_›;done)
       | (cases e1;done)
     | _=>cases hl
    | _=>cases hl
   | _=>cases hl
theorem L4(hpl:yY Γ pl)(h:(!pl.contains 28999999)=true):(gL Γ).contains 8999999=false:=by
 cases hc:(gL Γ).contains 8999999 with
 | false=>rfl
 | true=>
  have:=hpl.2.2.2.2.1 _ hc
  rw[this] at h
  cases h
theorem Kw(hpl:yY Γ pl)(hq:E5 Γ≠[])(hn:(!pl.contains 28999999)=true){o:Oper}(h:Pj o=true):∃(d:Nat) (x:O) (go:Bool),(∀t,o.dst=some t→t=d)∧∀(st:St) (q:List O) (v:D),
 qX P Γ ops o st=some (q,v)↔(o.dst=some d∧go=true∧st.ae[st.np+d]?=some .fresh∧q=st.ae.set (st.np+d) x∧v=.s (.c (.box (st.np+d) 0))∧(WM (E5 Γ) st.ae q||vV (gL Γ) o.dst)=true):=by
 obtain⟨dst,op,type,pos,after,guard⟩:=o
 unfold Pj at h
 rw[cM] at h
 obtain⟨hgd,h⟩:=h
 cases guard with
 | some g=>cases hgd
 | none=>
  cases op with
  | alloc t=>
   have key:∀st:St,qX P Γ ops ⟨dst,.alloc t,type,pos,after,none⟩ st=FQ Γ P st.bare dst t:=fun st=>rfl
   cases dst with
   | none=>
    refine⟨0,.fresh,true,fun t ht=>(by cases ht),fun st q v=>⟨fun he=>?_,fun he=>(by cases he.1)⟩⟩
    rw[key] at he
    unfold FQ at he
    split at he
    ·rename_i e;exact absurd e hq
    ·split at he
     case isFalse=>cases he
     rename_i ho
     unfold NH at ho
     rw[L4 hpl hn] at ho
     cases ho
   | some d=>
    have hz:∃(x:O) (go:Bool),∀(st:St) (f:St→D→Option (List O×D)),st.ae[st.np+d]?=some .fresh→uM P st (some d) t f=if go then f { st with ae:=st.ae.set (st.np+d) x } (.s (.c (.box (st.np+d) 0))) else none:=by
     unfold uM
     cases P.info? t with
     | none=>exact⟨.fresh,false,fun st f _=>rfl⟩
     | some i=>
      dsimp only
      cases i.zero with
      | none=>exact⟨.fresh,false,fun st f _=>rfl⟩
      | some z=>
       dsimp only
       cases CA z with
       | none=>exact⟨.fresh,false,fun st f _=>rfl⟩
       | some cs=>
        refine⟨.box (WZ P t cs),true,fun st f hf=>?_⟩
        dsimp only
        unfold qV
        dsimp only
        rw[hf]
        rfl
    obtain⟨x,go,hz⟩:=hz
    refine⟨d,x,go,fun t ht=>(by cases ht;rfl),fun st q v=>?_⟩
    rw[key]
    unfold FQ
    cases hB:E5 Γ with
    | nil=>exact absurd hB hq
    | cons w B=>
     dsimp only
     have how:NH Γ st.bare (some d)=true↔st.ae[st.np+d]?=some .fresh:=by
      unfold NH
      rw[L4 hpl hn,T9]
      show (match st.ae[st.np+d]? with | some .fresh=>true | _=>false)=true↔_
      constructor
      ·intro hh
       split at hh
       ·assumption
       ·cases hh
      ·intro hh
       rw[hh]
     constructor
     ·intro he
      split at he
      case isFalse=>cases he
      rename_i ho
      have hf:=how.1 ho
      rw[hz st.bare _ hf] at he
      cases go with
      | false=>cases he
      | true=>
       simp only[eP,uX] at he
       split at he
       case isFalse=>cases he
       rename_i hk
       cases he
       exact⟨rfl,rfl,hf,rfl,rfl,hk⟩
     ·rintro ⟨_,hgo,hf,rfl,rfl,hk⟩
      rw[aC (how.2 hf),hz st.bare _ hf]
      subst hgo
      simp only[eP,uX]
      exact aC hk
  | _=>cases h
theorem Kx(hpl:yY Γ pl)(hq:E5 Γ≠[])(hn:(!pl.contains 28999999)=true){o:Oper}(h:Pk o=true){st:St}{q:List O}{v:D}(hp:qX P Γ ops o st=some (q,v)):
 ∃(d:Nat) (x:O),x≠.fresh∧st.ae[st.np+d]?=some .fresh∧q=st.ae.set (st.np+d) x∧∀q':List O,q'[st.np+d]?=some .fresh→qX P Γ ops o { st with ae:=q' }=some (q'.set (st.np+d) x,v):=by
 obtain⟨dst,op,type,pos,after,guard⟩:=o
 unfold Pk at h
 rw[cM] at h
 obtain⟨hgd,h⟩:=h
 cases guard with
 | some g=>cases hgd
 | none=>
  cases op with
  | makeSlice t l c=>
   have key:∀st:St,qX P Γ ops ⟨dst,.makeSlice t l c,type,pos,after,none⟩ st=nG Γ P st.bare dst t (ev st l) (ev st c) fun s d=>some (s.ae,d):=fun st=>rfl
   have hev:∀(q':List O) (x:Operand),ev { st with ae:=q' } x=ev st x:=fun q' x=>by cases x <;> rfl
   rw[key] at hp
   unfold nG at hp
   cases hB:E5 Γ with
   | nil=>exact absurd hB hq
   | cons w B=>
    rw[hB] at hp
    dsimp only at hp
    split at hp
    case isFalse=>cases hp
    rename_i ho
    have how:∀st:St,NH Γ st dst=true↔∃d,dst=some d∧st.ae[st.np+d]?=some .fresh:=fun st=>by
     unfold NH
     rw[L4 hpl hn,T9]
     cases dst with
     | none=>exact⟨fun h=>(by cases h),fun⟨d,h,_⟩=>(by cases h)⟩
     | some d=>
      dsimp only
      constructor
      ·intro hh
       split at hh
       ·exact⟨d,rfl,by assumption⟩
       ·cases hh
      ·rintro ⟨d',e,hh⟩
       cases e
       rw[hh]
    obtain⟨d,rfl,hf⟩:=(how _).1 ho
    have hf:st.ae[st.np+d]?=some .fresh:=hf
    obtain⟨x,f,_,hx,hinv⟩:=FR hp
    have hnew:∀(st':St),st'.ae[st'.np+d]?=some .fresh→jH Γ P st' (some d) t (ev st l) (ev st c) (fun s d=>some (s.ae,d))=some (st'.ae.set (st'.np+d) x,f (st'.np+d)):=fun st' hf'=>by
     rw[hinv]
     unfold qV
     dsimp only
     rw[hf']
    rw[hnew st.bare hf] at hp
    cases hp
    refine⟨d,x,hx,hf,rfl,fun q' hq'=>?_⟩
    rw[key]
    unfold nG
    rw[hB]
    dsimp only
    rw[aC ((how _).2 ⟨d,rfl,hq'⟩),hev,hev]
    exact hnew (St.bare { st with ae:=q' }) hq'
  | _=>cases h
theorem Ky{B:List Nat}{o:List O}{K1 K2:Nat}{x1 x2:O}(hne:K1≠K2)(hf:o[K2]?=some .fresh)(h:WM B (o.set K1 x1) ((o.set K1 x1).set K2 x2)=true):WM B o (o.set K2 x2)=true:=by
 unfold WM at h ⊢
 refine jF.2 fun k hk=>?_
 have h5:=jF.1 h k hk
 by_cases e:k=K2
 ·subst e
  have hlt:k<o.length:=(dA.1 hf).1
  rw[fC hne,hf,iI (by simpa using hlt)] at h5
  rw[hf,iI hlt]
  exact h5
 ·rw[fC (fun e'=>e e'.symm)]
  cases oX o[k]? <;> rfl
theorem Kz{B:List Nat}{o:List O}{K1 K2:Nat}{x1 x2:O}(hne:K1≠K2)(hf:o[K1]?=some .fresh)(h:WM B o (o.set K1 x1)=true):WM B (o.set K2 x2) ((o.set K2 x2).set K1 x1)=true:=by
 unfold WM at h ⊢
 refine jF.2 fun k hk=>?_
 have h5:=jF.1 h k hk
 by_cases e:k=K1
 ·subst e
  have hlt:k<o.length:=(dA.1 hf).1
  rw[hf,iI hlt] at h5
  rw[fC hne.symm,hf,iI (by simpa using hlt)]
  exact h5
 ·rw[fC (i:=K1) (fun e'=>e e'.symm)]
  cases oX (o.set K2 x2)[k]? <;> rfl
def O.fp:O→Bool
 | .box _=>true
 | .cu _=>true
 | _=>false
def BF(o o':List O):Prop:=∀(k:Nat) (x:O),x.fp=true→(o[k]?=some x↔o'[k]?=some x)
theorem BF.symm{o o':List O}(h:BF o o'):BF o' o:=fun k x hx=>(h k x hx).symm
theorem BF.trans{a b c:List O}(h:BF a b)(h':BF b c):BF a c:=fun k x hx=>(h k x hx).trans (h' k x hx)
theorem BF.set{o:List O}{K:Nat}{x y:O}(h:o[K]?=some y)(hy:y.fp=false)(hx:x.fp=false):BF o (o.set K x):=fun k z hz=>by
 by_cases hk:K=k
 ·subst hk
  rw[iI (dA.1 h).1,h]
  constructor
  ·intro e;cases e;rw[hy] at hz;cases hz
  ·intro e;cases e;rw[hx] at hz;cases hz
 ·rw[fC hk]
theorem BF.ai:∀(ks:List Nat) (ae:List O),BF ae (ai ae ks)
 | [],ae=>fun _ _ _=>zO
 | x::ks,ae=>by
  unfold Eng.ai
  split
  ·rename_i o ho
   refine BF.trans ?_ (BF.ai ks _)
   cases hb:o.fp with
   | false=>exact BF.set ho hb (by cases o <;> first | rfl | cases hb)
   | true=>
    have e:nM o=o:=by cases o <;> first | rfl | cases hb
    rw[e]
    have e2:ae.set x o=ae:=by
     apply HR
     intro j
     by_cases hj:x=j
     ·subst hj;rw[iI (dA.1 ho).1,ho]
     ·rw[fC hj]
    rw[e2]
    exact fun _ _ _=>zO
  ·exact BF.ai ks ae
theorem BF.cells{o o':List O}(h:BF o o')(k:Nat):(o[k]?).bind O.cells?=(o'[k]?).bind O.cells?∧oX o[k]?=oX o'[k]?:=by
 have none_of:∀(a:Option O),(∀x,a=some x→x.fp=false)→a.bind O.cells?=none∧oX a=false:=fun a ha=>by
  cases a with
  | none=>exact⟨rfl,rfl⟩
  | some x=>
   have:=ha x rfl
   cases x <;> first | exact⟨rfl,rfl⟩ | cases this
 by_cases hx:∃x,o[k]?=some x∧x.fp=true
 ·obtain⟨x,h1,h2⟩:=hx
  rw[h1,(h k x h2).1 h1]
  exact⟨rfl,rfl⟩
 ·have h1:∀x,o[k]?=some x→x.fp=false:=fun x e=>by
   cases hb:x.fp with
   | false=>rfl
   | true=>exact(hx ⟨x,e,hb⟩).elim
  have h2:∀x,o'[k]?=some x→x.fp=false:=fun x e=>by
   cases hb:x.fp with
   | false=>rfl
   | true=>exact(hx ⟨x,(h k x hb).2 e,hb⟩).elim
  rw[(none_of _ h1).1,(none_of _ h2).1,(none_of _ h1).2,(none_of _ h2).2]
  exact⟨rfl,rfl⟩
theorem Dw{α:Type}{st:St}{dst:Option Nat}{o:O}{f:St→Nat→Option α}{r:α}(ho:o.fp=false)(h:qV st dst o f=some r):∃K,BF st.ae (st.ae.set K o)∧f { st with ae:=st.ae.set K o } K=some r:=by
 unfold qV at h
 split at h
 ·split at h
  ·rename_i d _ hf
   exact⟨_,BF.set hf rfl ho,h⟩
  ·split at h
   ·rename_i hf
    exact⟨_,BF.set hf rfl ho,h⟩
   ·split at h
    ·rename_i K hK
     have hm:K∈(List.range st.ae.length).filter fun i=>decide (st.np≤i)&&uG st.ae[i]?:=by
      unfold AX at hK
      exact T2 hK
     have h2:=(CO.1 hm).2
     simp only[cM] at h2
     have h3:st.ae[K]?=some .fresh:=by
      have:=h2.2
      unfold uG at this
      split at this
      ·assumption
      ·cases this
     exact⟨_,BF.set h3 rfl ho,h⟩
    ·cases h
 ·cases h
theorem Pn{cs:List C}{ae:List O}{q:List O×List C}(h:RI ae cs=some q):BF ae q.1:=by
 unfold RI at h
 obtain⟨l,_,h⟩:=JB.1 h
 subst h
 exact BF.ai _ _
theorem QF{P:Program}{b:St}{dst:Option Nat}{t:TypeId}{n:Nat}{parts:List (Nat×D)}{p:List O×D}(h:(kP P b dst t n parts fun s d=>some (s.ae,d))=some p):BF b.ae p.1:=by
 unfold kP at h
 split at h
 ·split at h
  case h_2=>cases h
  split at h
  case h_2=>cases h
  split at h
  case isFalse=>cases h
  obtain⟨K,h1,h2⟩:=Dw rfl h
  cases h2
  exact h1
 ·unfold oD at h
  split at h
  case h_2=>cases h
  split at h
  case h_2=>cases h
  split at h
  case h_2=>cases h
  split at h
  case h_2=>cases h
  split at h
  case isFalse=>cases h
  split at h
  case h_2=>cases h
  split at h
  case h_2=>cases h
  rename_i q hq
  split at h
  case h_2=>cases h
  have h:=h
  rw[show ∀(ts:List TypeId) (cs:List C) (f:List T→Option (List O×D)),oW P ts cs f=(oW P ts cs some).bind f from fun ts cs f=>sJ ts cs some f] at h
  obtain⟨ts,_,h⟩:=pV.1 h
  obtain⟨K,h1,h2⟩:=Dw rfl h
  cases h2
  exact(Pn hq).trans h1
theorem Dx(hpl:yY Γ pl){o:Oper}(h:Dt pl o=true){st:St}{q:List O}{d:D}(hp:qX P Γ ops o st=some (q,d)):BF st.ae q:=by
 obtain⟨dst,op,type,pos,after,guard⟩:=o
 unfold Dt at h
 unfold qX at hp
 cases hg:gd ops (⟨dst,op,type,pos,after,guard⟩:Oper) st with
 | none=>rw[hg] at hp;cases hp
 | some w=>
  rw[hg] at hp
  cases w with
  | false=>cases hp;exact fun _ _ _=>zO
  | true=>
   have hp:LY P Γ ⟨dst,op,type,pos,after,guard⟩ st.bare (ev st)=some (q,d):=hp
   unfold LY at hp
   cases op with
   | store t x v=>
    dsimp only at hp h
    split at hp
    case isFalse=>cases hp
    rename_i hgs
    rw[cM] at hgs
    have hge:=hgs.2
    unfold XI at hge
    rw[cM,cM] at hge
    replace hge:=hge.1.1
    rw[cM] at h
    rw[hpl.2.2.2.2.2.2.2.2 t (cH h.1) h.2] at hge
    have hge:Aw (ev st x)=true:=hge
    obtain⟨q',h1,h2⟩:=pV.1 hp
    cases h2
    unfold AW at h1
    split at h1
    case h_2=>cases h1
    split at h1
    case isFalse=>cases h1
    unfold Aw at hge
    split at hge
    case h_2=>cases hge
    rename_i kk mm ii jj he
    rw[he] at h1
    unfold AI at h1
    dsimp only at h1
    split at h1
    case h_2=>cases h1
    rename_i q2 hfz
    split at h1
    case h_2=>cases h1
    rename_i e m' es hob
    obtain⟨ts,h1⟩:=I2 h1
    split at h1
    case isFalse=>cases h1
    obtain⟨x,_,h1⟩:=bK h1
    cases h1
    have hfz':BF st.ae q2.1:=by
     unfold RI at hfz
     obtain⟨l,_,hfz⟩:=JB.1 hfz
     subst hfz
     exact BF.ai _ _
    exact hfz'.trans (BF.set hob rfl rfl)
   | buildSlice t n parts=>
    dsimp only at hp
    split at hp
    case isFalse=>cases hp
    exact QF hp
   | _=>cases h
theorem Dy(hN:∀f A,Γ f=some A→A.Nat)(hpl:yY Γ pl){o:Oper}(h:S2 pl o=true){st:St}{p:List O×D}(hp:qX P Γ ops o st=some p):p.1=st.ae:=by
 refine yC hN hpl (pl:=pl) ?_ hp
 obtain⟨dst,op,type,pos,after,guard⟩:=o
 unfold S2 at h
 cases op <;> first | rfl | (cases h;done)
theorem H3(hpl:yY Γ pl){o:Oper}(h:S2 pl o=true){st:St}{q:List O}(hb:BF st.ae q){d:D}(hp:qX P Γ ops o st=some (st.ae,d)):qX P Γ ops o { st with ae:=q }=some (q,d):=by
 obtain⟨dst,op,type,pos,after,guard⟩:=o
 unfold S2 at h
 unfold qX at hp ⊢
 have h1:gd ops (⟨dst,op,type,pos,after,guard⟩:Oper) { st with ae:=q }=gd ops (⟨dst,op,type,pos,after,guard⟩:Oper) st:=rfl
 rw[h1]
 cases hg:gd ops (⟨dst,op,type,pos,after,guard⟩:Oper) st with
 | none=>rw[hg] at hp;cases hp
 | some w=>
  rw[hg] at hp
  cases w with
  | false=>
   simp only[uX,bV,cC,yH] at hp ⊢
   exact⟨trivial,hp.2⟩
  | true=>
   cases op with
   | load t x=>
    cases dst with
    | none=>cases h
    | some sl=>
     dsimp only at h
     have hp:(if ER Γ (some sl) (ev st x)=true then ((tO Γ P st.bare (some sl) t (ev st x) some).bind fun d=>some (st.bare.ae,d)) else none)=some (st.ae,d):=hp
     split at hp
     case isFalse=>cases hp
     rename_i hgl
     obtain⟨d',h3,h2⟩:=pV.1 hp
     cases h2
     show (if ER Γ (some sl) (ev st x)=true then ((tO Γ P { st.bare with ae:=q } (some sl) t (ev st x) some).bind fun d=>some (q,d)) else none)=some (q,d)
     rw[aC hgl]
     have hbx:LR (ev st x)=true:=by
      have:=hgl
      unfold ER at this
      dsimp only at this
      rw[cM] at this
      replace this:=this.1
      rw[hpl.2.2.2.2.2.2.2.1 sl h] at this
      exact this
     unfold LR at hbx
     split at hbx
     case h_2=>cases hbx
     rename_i kk jj he
     rw[he] at h3 ⊢
     obtain⟨c1,c2⟩:=hb.cells kk
     have hlk:∀(f:D→Option D),vQ P { st.bare with ae:=q } t (.s (.c (.box kk jj))) f=vQ P st.bare t (.s (.c (.box kk jj))) f:=fun f=>by
      unfold vQ AI
      have c1':(({ st.bare with ae:=q }:St).ae[kk]?).bind O.cells?=(st.bare.ae[kk]?).bind O.cells?:=c1.symm
      simp only[c1']
     have hbd:xI { st.bare with ae:=q } (.s (.c (.box kk jj)))=xI st.bare (.s (.c (.box kk jj))):=c2.symm
     have key:tO Γ P { st.bare with ae:=q } (some sl) t (.s (.c (.box kk jj))) some=some d:=by
      unfold tO at h3 ⊢
      rw[hbd]
      simp only[hlk]
      exact h3
     rw[key]
     rfl
   | _=>cases h
def RF(o o':List O):Prop:=∀(k:Nat) (x:O),x.fp=false→(o[k]?=some x↔o'[k]?=some x)
theorem RF.symm{o o':List O}(h:RF o o'):RF o' o:=fun k x hx=>(h k x hx).symm
theorem RF.set{o:List O}{K:Nat}{x y:O}(h:o[K]?=some y)(hy:y.fp=true)(hx:x.fp=true):RF o (o.set K x):=fun k z hz=>by
 by_cases hk:K=k
 ·subst hk
  rw[iI (dA.1 h).1,h]
  constructor
  ·intro e;cases e;rw[hy] at hz;cases hz
  ·intro e;cases e;rw[hx] at hz;cases hz
 ·rw[fC hk]
theorem Dz{o o':List O}(hg:RF o o'):∀{f k K:Nat},BO o f k=some K→BO o' f k=some K
 | 0,_,_,h=>by simp[BO] at h
 | f+1,k,K,h=>by
  simp only[BO] at h ⊢
  split at h
  ·rename_i ho;rw[(hg k _ rfl).1 ho];exact h
  ·rename_i ho;rw[(hg k _ rfl).1 ho];exact Dz hg h
  ·cases h
theorem Po{R:Type}{st:St}{q:List O}{t:TypeId}{x:D}{k:D→Option R}{r:R}(hg:RF st.ae q)(h:E4 P st t x k=some r):E4 P { st with ae:=q } t x k=some r:=by
 have get:∀(key:Nat) (o:O),st.ae[key]?=some o→o.fp=false→q[key]?=some o:=fun key o ho hb=>(hg key o hb).1 ho
 unfold E4 at h ⊢
 cases hu:P.underlying t with
 | none=>rw[hu] at h;cases h
 | some u=>
  rw[hu] at h
  cases u with
  | slice e=>
   dsimp only at h ⊢
   unfold AI at h ⊢
   cases x with
   | ee l=>cases h
   | s s=>cases s with
    | agg l=>cases h
    | c c=>
     dsimp only at h ⊢
     cases c with
     | row key=>
      dsimp only at h ⊢
      cases ho:st.ae[key]? with
      | none=>rw[ho] at h;cases h
      | some o=>
       rw[ho] at h
       rw[get key o ho (by cases o <;> first | rfl | cases h)]
       exact h
     | rk key=>
      dsimp only at h ⊢
      cases hr:BO st.ae 64 key with
      | none=>rw[hr] at h;cases h
      | some K=>
       rw[hr] at h
       rw[Dz hg hr]
       dsimp only at h ⊢
       cases ho:st.ae[K]? with
       | none=>rw[ho] at h;cases h
       | some o=>
        rw[ho] at h
        rw[get K o ho (by cases o <;> first | rfl | cases h)]
        exact h
     | _=>exact h
  | map kt e=>
   dsimp only at h ⊢
   unfold AI at h ⊢
   cases x with
   | ee l=>cases h
   | s s=>cases s with
    | agg l=>cases h
    | c c=>
     dsimp only at h ⊢
     cases c with
     | t y=>
      cases y <;> first | exact h | cases h
     | row key=>
      dsimp only at h ⊢
      cases ho:st.ae[key]? with
      | none=>rw[ho] at h;cases h
      | some o=>
       rw[ho] at h
       rw[get key o ho (by cases o <;> first | rfl | cases h)]
       exact h
     | _=>exact h
  | _=>exact h
theorem Ea(hpl:yY Γ pl){o:Oper}(h:Dv pl o=true){st:St}{q:List O}{d:D}(hp:qX P Γ ops o st=some (q,d)):RF st.ae q:=by
 obtain⟨dst,op,type,pos,after,guard⟩:=o
 unfold Dv at h
 unfold qX at hp
 cases hg:gd ops (⟨dst,op,type,pos,after,guard⟩:Oper) st with
 | none=>rw[hg] at hp;cases hp
 | some w=>
  rw[hg] at hp
  cases w with
  | false=>cases hp;exact fun _ _ _=>zO
  | true=>
   have hp:LY P Γ ⟨dst,op,type,pos,after,guard⟩ st.bare (ev st)=some (q,d):=hp
   unfold LY at hp
   cases op with
   | store t x v=>
    dsimp only at hp h
    split at hp
    case isFalse=>cases hp
    rename_i hgs
    rw[cM] at hgs
    have hge:=hgs.2
    unfold XI at hge
    rw[cM,cM] at hge
    replace hge:=hge.1.2
    rw[cM] at h
    have ht:=cH h.1
    have aux9:∀n:Nat,82000000+(1000000+n)=83000000+n:=fun n=>by omega
    have aux7:∀n:Nat,n<1000000→1000000+n<8000000:=fun n hn=>by omega
    rw[hpl.2.2.2.2.2.2.2.2 (1000000+t) (aux7 t ht) (by rw[show 82000000+(1000000+t)=83000000+t from aux9 t];exact h.2)] at hge
    have hge:LR (ev st x)=true:=hge
    obtain⟨q',h1,h2⟩:=pV.1 hp
    cases h2
    unfold AW at h1
    split at h1
    case h_2=>cases h1
    split at h1
    case isFalse=>cases h1
    unfold LR at hge
    split at hge
    case h_2=>cases hge
    rename_i kk jj he
    rw[he] at h1
    unfold AI at h1
    dsimp only at h1
    split at h1
    case h_2=>cases h1
    rename_i l hob
    split at h1
    case isFalse=>cases h1
    cases h1
    exact RF.set hob rfl rfl
   | _=>cases h
def AS(Γ:FuncId→Option Callee)(o o':List O):Prop:=∀k,(uQ Γ).contains (5000000+k)=true→o[k]?=o'[k]?
theorem AS.symm{o o':List O}(h:AS Γ o o'):AS Γ o' o:=fun k hk=>(h k hk).symm
theorem Eb(hpl:yY Γ pl){o:Oper}(h:Du pl o=true){st:St}{q:List O}{d:D}(hp:qX P Γ ops o st=some (q,d)):AS Γ st.ae q:=by
 obtain⟨dst,op,type,pos,after,guard⟩:=o
 unfold Du at h
 unfold qX at hp
 cases hg:gd ops (⟨dst,op,type,pos,after,guard⟩:Oper) st with
 | none=>rw[hg] at hp;cases hp
 | some w=>
  rw[hg] at hp
  cases w with
  | false=>cases hp;exact fun _ _=>rfl
  | true=>
   have hp:LY P Γ ⟨dst,op,type,pos,after,guard⟩ st.bare (ev st)=some (q,d):=hp
   unfold LY at hp
   cases op with
   | store t x v=>
    dsimp only at hp h
    split at hp
    case isFalse=>cases hp
    rename_i hgs
    rw[cM] at hgs
    have hge:=hgs.2
    unfold XI at hge
    rw[cM,cM] at hge
    replace hge:=hge.2
    rw[cM] at h
    have ht:=cH h.1
    have aux9:∀n:Nat,82000000+(2000000+n)=84000000+n:=fun n=>by omega
    have aux7:∀n:Nat,n<1000000→2000000+n<8000000:=fun n hn=>by omega
    rw[hpl.2.2.2.2.2.2.2.2 (2000000+t) (aux7 t ht) (by rw[show 82000000+(2000000+t)=84000000+t from aux9 t];exact h.2)] at hge
    have hge:Ax Γ (ev st x)=true:=hge
    obtain⟨q',h1,h2⟩:=pV.1 hp
    cases h2
    unfold AW at h1
    split at h1
    case h_2=>cases h1
    split at h1
    case isFalse=>cases h1
    unfold Ax at hge
    split at hge
    case h_2=>cases hge
    rename_i kk jj he
    rw[he] at h1
    unfold AI at h1
    dsimp only at h1
    split at h1
    case h_2=>cases h1
    rename_i l hob
    split at h1
    case isFalse=>cases h1
    cases h1
    exact fun k hk=>by
     by_cases e:kk=k
     ·subst e;rw[hk] at hge;cases hge
     ·exact(fC e).symm
   | _=>cases h
theorem Ec(hN:∀f A,Γ f=some A→A.Nat)(hpl:yY Γ pl){o:Oper}(h:S3 pl o=true){st:St}{p:List O×D}(hp:qX P Γ ops o st=some p):p.1=st.ae:=by
 refine yC hN hpl (pl:=pl) ?_ hp
 obtain⟨dst,op,type,pos,after,guard⟩:=o
 unfold S3 at h
 cases op <;> first | rfl | (cases h;done)
theorem H4(hpl:yY Γ pl){o:Oper}(h:S3 pl o=true){st:St}{q:List O}(hb:AS Γ st.ae q){d:D}(hp:qX P Γ ops o st=some (st.ae,d)):qX P Γ ops o { st with ae:=q }=some (q,d):=by
 obtain⟨dst,op,type,pos,after,guard⟩:=o
 unfold S3 at h
 unfold qX at hp ⊢
 have h1:gd ops (⟨dst,op,type,pos,after,guard⟩:Oper) { st with ae:=q }=gd ops (⟨dst,op,type,pos,after,guard⟩:Oper) st:=rfl
 rw[h1]
 cases hg:gd ops (⟨dst,op,type,pos,after,guard⟩:Oper) st with
 | none=>rw[hg] at hp;cases hp
 | some w=>
  rw[hg] at hp
  cases w with
  | false=>
   simp only[uX,bV,cC,yH] at hp ⊢
   exact⟨trivial,hp.2⟩
  | true=>
   cases op with
   | load t x=>
    cases dst with
    | none=>cases h
    | some sl=>
     dsimp only at h
     have hp:(if ER Γ (some sl) (ev st x)=true then ((tO Γ P st.bare (some sl) t (ev st x) some).bind fun d=>some (st.bare.ae,d)) else none)=some (st.ae,d):=hp
     split at hp
     case isFalse=>cases hp
     rename_i hgl
     obtain⟨d',h3,h2⟩:=pV.1 hp
     cases h2
     show (if ER Γ (some sl) (ev st x)=true then ((tO Γ P { st.bare with ae:=q } (some sl) t (ev st x) some).bind fun d=>some (q,d)) else none)=some (q,d)
     rw[aC hgl]
     have hbx:Jv Γ (ev st x)=true:=by
      have:=hgl
      unfold ER at this
      dsimp only at this
      rw[cM] at this
      replace this:=this.2
      have aux:∀n:Nat,90000000+(1000000+n)=91000000+n:=fun n=>by omega
      rw[hpl.2.2.2.2.2.2.2.1 (1000000+sl) (by rw[aux];exact h)] at this
      exact this
     unfold Jv at hbx
     split at hbx
     case h_2=>cases hbx
     rename_i kk jj he
     rw[he] at h3 ⊢
     have ck:=hb kk hbx
     have c1:(st.ae[kk]?).bind O.cells?=(q[kk]?).bind O.cells?:=by rw[ck]
     have c2:oX st.ae[kk]?=oX q[kk]?:=by rw[ck]
     have hlk:∀(f:D→Option D),vQ P { st.bare with ae:=q } t (.s (.c (.box kk jj))) f=vQ P st.bare t (.s (.c (.box kk jj))) f:=fun f=>by
      unfold vQ AI
      have c1':(({ st.bare with ae:=q }:St).ae[kk]?).bind O.cells?=(st.bare.ae[kk]?).bind O.cells?:=c1.symm
      simp only[c1']
     have hbd:xI { st.bare with ae:=q } (.s (.c (.box kk jj)))=xI st.bare (.s (.c (.box kk jj))):=c2.symm
     have key:tO Γ P { st.bare with ae:=q } (some sl) t (.s (.c (.box kk jj))) some=some d:=by
      unfold tO at h3 ⊢
      rw[hbd]
      simp only[hlk]
      exact h3
     rw[key]
     rfl
   | _=>cases h
theorem Ed(hN:∀f A,Γ f=some A→A.Nat)(hpl:yY Γ pl){o:Oper}(h:S4 o=true){st:St}{p:List O×D}(hp:qX P Γ ops o st=some p):p.1=st.ae:=by
 refine yC hN hpl (pl:=pl) ?_ hp
 obtain⟨dst,op,type,pos,after,guard⟩:=o
 unfold S4 at h
 cases op with
 | call c=>
  obtain⟨callee,args,ats⟩:=c
  cases callee with
  | builtin bi=>cases bi <;> first | rfl | (cases h;done)
  | _=>cases h
 | _=>cases h
theorem H5{o:Oper}(h:S4 o=true){st:St}{q:List O}(hb:RF st.ae q){d:D}(hp:qX P Γ ops o st=some (st.ae,d)):qX P Γ ops o { st with ae:=q }=some (q,d):=by
 obtain⟨dst,op,type,pos,after,guard⟩:=o
 unfold S4 at h
 unfold qX at hp ⊢
 have h1:gd ops (⟨dst,op,type,pos,after,guard⟩:Oper) { st with ae:=q }=gd ops (⟨dst,op,type,pos,after,guard⟩:Oper) st:=rfl
 rw[h1]
 cases hg:gd ops (⟨dst,op,type,pos,after,guard⟩:Oper) st with
 | none=>rw[hg] at hp;cases hp
 | some w=>
  rw[hg] at hp
  cases w with
  | false=>
   simp only[uX,bV,cC,yH] at hp ⊢
   exact⟨trivial,hp.2⟩
  | true=>
   cases op with
   | call c=>
    obtain⟨callee,args,ats⟩:=c
    cases callee with
    | builtin bi=>
     cases bi with
     | len=>
      have hev:∀x,ev { st with ae:=q } x=ev st x:=fun x=>by cases x <;> rfl
      have hp:(if HZ Γ st.ae dst .len (args.toList.map (ev st))=true then jJ P st.bare dst type .len (args.toList.map (ev st)) ats.toList else none)=some (st.ae,d):=hp
      show (if HZ Γ st.ae dst .len (args.toList.map (ev { st with ae:=q }))=true then jJ P { st.bare with ae:=q } dst type .len (args.toList.map (ev { st with ae:=q })) ats.toList else none)=some (q,d)
      have hm:args.toList.map (ev { st with ae:=q })=args.toList.map (ev st):=OI fun x _=>hev x
      rw[hm]
      split at hp
      case isFalse=>cases hp
      rename_i hgb
      rw[aC hgb]
      unfold jJ at hp ⊢
      split at hp
      ·obtain⟨d',h3,h2⟩:=pV.1 hp
       cases h2
       have:=Po (st:=st.bare) hb h3
       show ((E4 P { st.bare with ae:=q } _ _ some).bind fun d=>some (q,d))=_
       rw[this]
       rfl
      all_goals first
       | (cases ‹Builtin.len=_›;done)
       | (cases hp;done)
     | _=>cases h
    | _=>cases h
   | _=>cases h
theorem Hk(hN:∀f A,Γ f=some A→A.Nat)(hpl:yY Γ pl){i j:Nat}{oi oj:Oper}(hi:ops[i]?=some oi)(hj:ops[j]?=some oj)(hc:S5 ops pl oi oj=true){st s1 s2:St}
 (h1:zQ P Γ ops i st=some s1) (h2:zQ P Γ ops j s1=some s2):∃s1',zQ P Γ ops j st=some s1'∧zQ P Γ ops i s1'=some s2:=by
 simp only[S5,cM,pD] at hc
 obtain⟨hap,hcls⟩:=hc
 obtain⟨a1,a2,a3⟩:=Oper.apart_spec hap
 simp only[zQ,hi,hj] at *
 cases e1:qX P Γ ops oi st with
 | none=>simp[e1] at h1
 | some p1=>
  obtain⟨q1,d1⟩:=p1
  simp only[e1,fH,cC] at h1
  subst h1
  have w2:qX P Γ ops oj (st.with oi.dst (q1,d1))=qX P Γ ops oj { st with ae:=q1 }:=Dr (st:={ st with ae:=q1 }) a1
  rw[w2] at h2
  have Ct:∀q2 d2,qX P Γ ops oi (st.with oj.dst (q2,d2))=qX P Γ ops oi { st with ae:=q2 }:=fun q2 d2=>Dr (st:={ st with ae:=q2 }) a3
  have fin:∀q d2,((st.with oj.dst (q,d2)).with oi.dst (q,d1))=(st.with oi.dst (q1,d1)).with oj.dst (q,d2):=fun q d2=>by
   have hp:=He ({ st with ae:=q }:St) d1 d2 a2
   unfold St.with
   have r1:∀(s:St) (x:Option Nat) (d:D) (q:List O),({ s.put x d with ae:=q }:St)=({ s with ae:=q }:St).put x d:=fun s x d q=>by cases x <;> rfl
   simp only[r1]
   exact hp.symm
  cases e2:qX P Γ ops oj { st with ae:=q1 } with
  | none=>simp[e2] at h2
  | some p2=>
   obtain⟨q2,d2⟩:=p2
   simp only[e2,fH,cC] at h2
   subst h2
   have caseq:q1=st.ae→(∀q,q=q2→qX P Γ ops oi { st with ae:=q }=some (q2,d1))→∃s1',(qX P Γ ops oj st).map (st.with oj.dst)=some s1'∧(qX P Γ ops oi s1').map (s1'.with oi.dst)=some ((st.with oi.dst (q1,d1)).with oj.dst (q2,d2)):=fun hq hoi=>by
    subst hq
    have e3:qX P Γ ops oj st=some (q2,d2):=e2
    refine⟨st.with oj.dst (q2,d2),by rw[e3];rfl,?_⟩
    rw[Ct,hoi q2 rfl]
    simp only[fH]
    rw[fin]
   have caseq3:∀x,qX P Γ ops oj st=some (x,d2)→qX P Γ ops oi { st with ae:=x }=some (q2,d1)→∃s1',(qX P Γ ops oj st).map (st.with oj.dst)=some s1'∧(qX P Γ ops oi s1').map (s1'.with oi.dst)=some ((st.with oi.dst (q1,d1)).with oj.dst (q2,d2)):=fun x e3 e5=>by
    refine⟨st.with oj.dst (x,d2),by rw[e3];rfl,?_⟩
    rw[Ct,e5]
    simp only[fH]
    have:=fin q2 d2
    have r2:((st.with oj.dst (x,d2)).with oi.dst (q2,d1))=((st.with oj.dst (q2,d2)).with oi.dst (q2,d1)):=by
     unfold St.with
     cases oj.dst <;> rfl
    rw[r2,this]
   have ld2:q2=q1→qX P Γ ops oj st=some (st.ae,d2)→∃s1',(qX P Γ ops oj st).map (st.with oj.dst)=some s1'∧(qX P Γ ops oi s1').map (s1'.with oi.dst)=some ((st.with oi.dst (q1,d1)).with oj.dst (q2,d2)):=fun e e3=>caseq3 _ e3 (by rw[e];exact e1)
   rcases hcls with((((((((hP | hP) | ⟨hn1,hn2⟩) | ⟨hq0,⟨hl,hf⟩ | ⟨hf,hl⟩⟩) | ⟨hla,bn⟩) | ⟨⟨⟨hq0,hnl⟩,hx1⟩,hx2⟩) | ⟨⟨⟨hq0,hnl⟩,hx1⟩,hx2⟩) | (⟨hlb,hfe⟩ | ⟨hfe,hlb⟩)) | (⟨hln,hfb⟩ | ⟨hfb,hln⟩)) | (⟨hlc,hfc⟩ | ⟨hfc,hlc⟩)
   ·have hq:q1=st.ae:=yC hN hpl (pl:=pl) (QA hP) e1
    exact caseq hq fun q hqq=>by subst hqq;rw[Rl hpl hP,e1];rfl
   ·have hq2:q2=q1:=yC hN hpl (pl:=pl) (QA hP) e2
    subst hq2
    have e3:(qX P Γ ops oj st).map (fun p=>(q2,p.2))=some (q2,d2):=by rw[←Rl hpl hP];exact e2
    cases e4:qX P Γ ops oj st with
    | none=>rw[e4] at e3;cases e3
    | some p=>
     obtain⟨q0,d0⟩:=p
     rw[e4] at e3
     simp only[fH,cC,yH,TW] at e3
     subst e3
     have hq0:q0=st.ae:=yC hN hpl (pl:=pl) (QA hP) e4
     subst hq0
     refine⟨st.with oj.dst (st.ae,d0),rfl,?_⟩
     rw[Ct]
     have e5:qX P Γ ops oi { st with ae:=st.ae }=some (q2,d1):=e1
     rw[e5]
     simp only[fH]
     have:=fin q2 d0
     have r2:((st.with oj.dst (st.ae,d0)).with oi.dst (q2,d1))=((st.with oj.dst (q2,d0)).with oi.dst (q2,d1)):=by
      unfold St.with
      cases oj.dst <;> rfl
     rw[r2,this]
   ·have hq:q1=st.ae:=yC hN hpl hn1 e1
    have hq2:q2=q1:=yC hN hpl hn2 e2
    exact caseq hq fun q hqq=>by rw[hqq,hq2,hq];have:qX P Γ ops oi { st with ae:=st.ae }=some (q1,d1):=e1;rw[this,hq]
   ·-- a load,then a call
    have hq:q1=st.ae:=Ku hN hpl hl e1
    subst hq
    exact caseq rfl fun q hqq=>by
     subst hqq
     exact J1 hpl (hpl.2.2.2.1 hq0) hl (fun k hk=>Kv hpl (hpl.2.2.2.1 hq0) hf e2 k hk) e1
   ·have hq2:q2=q1:=Ku hN hpl hl e2
    subst hq2
    exact ld2 rfl (J1 (st:={ st with ae:=q2 }) (q:=st.ae) hpl (hpl.2.2.2.1 hq0) hl (fun k hk l=>(Kv hpl (hpl.2.2.2.1 hq0) hf e1 k hk l).symm) e2)
   ·have hw:jf pl oi=true:=by
     obtain⟨dst,op,type,pos,after,guard⟩:=oi
     unfold Ds at hla
     cases op with
     | call c=>
      obtain⟨callee,args,ats⟩:=c
      cases callee with
      | builtin bi=>cases bi <;> first | rfl | (cases hla;done)
      | _=>cases hla
     | _=>first | rfl | (cases hla;done)
    have hq:q1=st.ae:=yC hN hpl hw e1
    subst hq
    exact caseq rfl fun q hqq=>by
     subst hqq
     exact Hj hla bn e1 e2
   ·have hq:=hpl.2.2.2.1 hq0
    have hnl':(!pl.contains 28999999)=true:=by simpa using hnl
    obtain⟨d1',x1,g1,hd1,E1⟩:=Kw (P:=P) (ops:=ops) hpl hq hnl' hx1
    obtain⟨d2',x2,g2,hd2,E2⟩:=Kw (P:=P) (ops:=ops) hpl hq hnl' hx2
    obtain⟨i1,i2,i3,i4,i5,i6⟩:=(E1 st q1 d1).1 e1
    obtain⟨j1,j2,j3,j4,j5,j6⟩:=(E2 { st with ae:=q1 } q2 d2).1 e2
    have hne:st.np+d1'≠st.np+d2':=fun e=>a2 d1' i1 (by rw[j1];congr 1;omega)
    have j3':q1[st.np+d2']?=some .fresh:=j3
    have j4':q2=q1.set (st.np+d2') x2:=j4
    subst i4
    have hf2:st.ae[st.np+d2']?=some .fresh:=by rw[fC hne] at j3';exact j3'
    have e3:qX P Γ ops oj st=some (st.ae.set (st.np+d2') x2,d2):=(E2 st _ _).2 ⟨j1,j2,hf2,rfl,j5,by
     rw[pD] at j6 ⊢
     refine j6.imp (fun h=>?_) id
     have h:WM (E5 Γ) (st.ae.set (st.np+d1') x1) q2=true:=h
     rw[j4'] at h
     exact Ky hne hf2 h⟩
    have e5:qX P Γ ops oi { st with ae:=st.ae.set (st.np+d2') x2 }=some (q2,d1):=(E1 _ _ _).2 ⟨i1,i2,by
     show (st.ae.set (st.np+d2') x2)[st.np+d1']?=_
     rw[fC hne.symm];exact i3,by
     rw[j4']
     exact T8 _ _ hne,i5,by
     rw[pD] at i6 ⊢
     refine i6.imp (fun h=>?_) id
     show WM (E5 Γ) (st.ae.set (st.np+d2') x2) q2=true
     rw[j4',T8 _ _ hne]
     exact Kz hne i3 h⟩
    exact caseq3 _ e3 e5
   ·have hq:=hpl.2.2.2.1 hq0
    have hnl':(!pl.contains 28999999)=true:=by simpa using hnl
    obtain⟨k1,x1,n1,f1,g1,E1⟩:=Kx (P:=P) (ops:=ops) hpl hq hnl' hx1 e1
    obtain⟨k2,x2,n2,f2,g2,E2⟩:=Kx (P:=P) (ops:=ops) hpl hq hnl' hx2 e2
    subst g1
    have f2':(st.ae.set (st.np+k1) x1)[st.np+k2]?=some .fresh:=f2
    have g2':q2=(st.ae.set (st.np+k1) x1).set (st.np+k2) x2:=g2
    have hlt:st.np+k1<st.ae.length:=(dA.1 f1).1
    have hne:st.np+k1≠st.np+k2:=fun e=>by
     rw[←e,iI hlt] at f2'
     cases f2'
     exact n1 rfl
    have hf2:st.ae[st.np+k2]?=some .fresh:=by rw[fC hne] at f2';exact f2'
    have e3:qX P Γ ops oj st=some (st.ae.set (st.np+k2) x2,d2):=E2 st.ae hf2
    have e5:qX P Γ ops oi { st with ae:=st.ae.set (st.np+k2) x2 }=some (q2,d1):=by
     rw[E1 (st.ae.set (st.np+k2) x2) (by rw[fC hne.symm];exact f1),g2',T8 _ _ hne]
    exact caseq3 _ e3 e5
   ·-- a load from a box,then a store into an element
    have hq:q1=st.ae:=Dy hN hpl hlb e1
    subst hq
    exact caseq rfl fun q hqq=>by
     subst hqq
     exact H3 hpl hlb (Dx hpl hfe e2) e1
   ·have hq2:q2=q1:=Dy (st:={ st with ae:=q1 }) hN hpl hlb e2
    subst hq2
    exact ld2 rfl (H3 (st:={ st with ae:=q2 }) (q:=st.ae) hpl hlb (Dx hpl hfe e1).symm e2)
   ·-- a length,then a store into a box
    have hq:q1=st.ae:=Ed hN hpl hln e1
    subst hq
    exact caseq rfl fun q hqq=>by
     subst hqq
     exact H5 hln (Ea hpl hfb e2) e1
   ·have hq2:q2=q1:=Ed (st:={ st with ae:=q1 }) hN hpl hln e2
    subst hq2
    exact ld2 rfl (H5 (st:={ st with ae:=q2 }) (q:=st.ae) hln (Ea hpl hfb e1).symm e2)
   ·-- a load from a box,then a store off the list A
    have hq:q1=st.ae:=Ec hN hpl hlc e1
    subst hq
    exact caseq rfl fun q hqq=>by
     subst hqq
     exact H4 hpl hlc (Eb hpl hfc e2) e1
   ·have hq2:q2=q1:=Ec (st:={ st with ae:=q1 }) hN hpl hlc e2
    subst hq2
    exact ld2 rfl (H4 (st:={ st with ae:=q2 }) (q:=st.ae) hpl hlc (Eb hpl hfc e1).symm e2)
end
section
variable {P:Program} {Γ:FuncId→Option Callee} {ops:Array Oper} {pl:List Nat}
def La(P:Program)(Γ:FuncId→Option Callee)(ops:Array Oper)(e:St→Prop):Nat→Array Bool→St→Prop
 | 0,listed,st=>Region.ready .any ops listed=[]∧e st
 | fuel+1,listed,st=>(Region.ready .any ops listed=[]→e st)∧∀i∈Region.ready .any ops listed,∃st',zQ P Γ ops i st=some st'∧La P Γ ops e fuel (listed.setIfInBounds i true) st'
inductive jg (ops:Array Oper) (listed:Array Bool) (i:Nat):Nat→Prop
 | one {j:Nat} {oj:Oper} {e:Edge} (hj:ops[j]?=some oj) (he:e∈oj.after) (hb:Region.binds .any e=true) (hi:e.on=i):jg ops listed i j
 | via {j:Nat} {oj:Oper} {e:Edge} (hj:ops[j]?=some oj) (he:e∈oj.after) (hb:Region.binds .any e=true) (hu:listed.getD e.on true=false) (h:jg ops listed i e.on):jg ops listed i j
theorem Ee{listed:Array Bool}{i:Nat}:∀(fuel j:Nat),Pl ops listed i fuel j=true→jg ops listed i j
 | 0,_,h=>by cases h
 | fuel+1,j,h=>by
  unfold Pl at h
  cases hj:ops[j]? with
  | none=>rw[hj] at h;cases h
  | some oj=>
   rw[hj] at h
   obtain⟨e,he,h2⟩:=Array.any_eq_true'.1 h
   simp only[cM,pD,HP,Z3] at h2
   obtain⟨hb,h3 | ⟨h3,h4⟩⟩:=h2
   ·exact .one hj he hb h3
   ·exact .via hj he hb h3 (Ee fuel e.on h4)
theorem Bp{i:Nat}{oi:Oper}{listed:Array Bool}(hi:ops[i]?=some oi)(h:Kr ops pl listed i=true)(j:Nat)(oj:Oper)(hj:ops[j]?=some oj)(hne:j≠i)(hun:listed.getD j true=false)
 (hno:¬jg ops listed i j):S5 ops pl oi oj=true:=by
 simp only[Kr,hi,jF,xB] at h
 have h1:=h j (AQ.1 hj).1
 simp only[hj,pD,HP,hne,false_or,hun,pB] at h1
 rcases h1 with h1 | h1
 ·exact absurd (Ee _ _ h1) hno
 ·exact h1
theorem Pp{listed:Array Bool}{i j:Nat}(hi:listed.getD i true=false)(hr:j∈Region.ready .any ops listed):¬jg ops listed i j:=by
 intro h
 obtain⟨_,oj,hoj,hall⟩:=Z4.1 hr
 have key:∀(m:Nat),listed.getD m true=false→listed.getD m false=true→False:=fun m h1 h0=>by
  rcases ZM m listed.size with h' | h'
  ·simp[h'] at h0 h1;rw[h0] at h1;cases h1
  ·simp[Array.getElem?_eq_none h'] at h1
 cases h with
 | one hj he hb hie=>
  rw[hoj] at hj
  cases hj
  have:=hall _ he hb
  rw[hie] at this
  exact key i hi this
 | via hj he hb hu h=>
  rw[hoj] at hj
  cases hj
  exact key _ hu (hall _ he hb)
theorem jg.grow{listed:Array Bool}{i j':Nat}(hj':¬jg ops listed i j'):∀{k:Nat},jg ops listed i k→jg ops (listed.setIfInBounds j' true) i k:=by
 intro k h
 induction h with
 | one hj he hb hi=>exact .one hj he hb hi
 | via hj he hb hu h ih=>
  refine .via hj he hb ?_ ih
  rw[getD_set_ne true (fun e=>hj' (by rw[e];exact h))]
  exact hu
theorem Bq{e:St→Prop}(hN:∀f A,Γ f=some A→A.Nat)(hpl:yY Γ pl){i:Nat}{oi:Oper}(hi:ops[i]?=some oi):
 ∀(fuel:Nat) (listed:Array Bool) (st st1:St),
  (∀j oj,ops[j]?=some oj→j≠i→listed.getD j true=false→¬jg ops listed i j→S5 ops pl oi oj=true) →
  i∈Region.ready .any ops listed→zQ P Γ ops i st=some st1→La P Γ ops e fuel (listed.setIfInBounds i true) st1→La P Γ ops e (fuel+1) listed st:=by
 intro fuel
 induction fuel with
 | zero=>
  intro listed st st1 _ hr hy H
  refine⟨fun h=>(by rw[h] at hr;cases hr),fun j hj=>?_⟩
  by_cases hji:j=i
  ·subst hji;exact⟨st1,hy,H⟩
  ·have:=Z5 hj hji
   rw[H.1] at this
   cases this
 | succ fuel ih=>
  intro listed st st1 hfree hr hy H
  refine⟨fun h=>(by rw[h] at hr;cases hr),fun j hj=>?_⟩
  by_cases hji:j=i
  ·subst hji;exact⟨st1,hy,H⟩
  ·obtain⟨st2,h1,h2⟩:=H.2 j (Z5 hj hji)
   obtain⟨hjun,oj,hoj,hall⟩:=Z4.1 hj
   have hnb:¬jg ops listed i j:=Pp (Z4.1 hr).1 hj
   obtain⟨st1',g1,g2⟩:=Hk hN hpl hi hoj (hfree j oj hoj hji hjun hnb) hy h1
   have hfree':∀k ok,ops[k]?=some ok→k≠i→(listed.setIfInBounds j true).getD k true=false →
    ¬jg ops (listed.setIfInBounds j true) i k→S5 ops pl oi ok=true:=fun k ok hk hki hun hno=>by
    refine hfree k ok hk hki ?_ (fun hb=>hno (hb.grow hnb))
    by_cases hjk:j=k
    ·subst hjk;exact hjun
    ·rw[getD_set_ne true hjk] at hun;exact hun
   refine⟨st1',g1,ih (listed.setIfInBounds j true) st1' st2 hfree' (Z5 hr (OS hji)) g2 ?_⟩
   rw[Array.setIfInBounds_comm _ _ hji]
   exact h2
theorem YA{e:St→Prop}(hN:∀f A,Γ f=some A→A.Nat)(hpl:yY Γ pl):∀(n k:Nat) (listed:Array Bool) (st st':St),k+n=ops.size →
 Ks ops pl n k listed=true→(List.range' k n).foldlM (fun st i=>zQ P Γ ops i st) st=some st'→e st'→La P Γ ops e n listed st
 | 0,k,listed,st,st',_,hB,h,he=>by
  cases h
  exact⟨by simpa[Ks] using hB,he⟩
 | n+1,k,listed,st,st',hk,hB,h,he=>by
  have hlt:k<ops.size:=by omega
  have h0:ops[k]?=some ops[k]:=vL hlt
  simp only[Ks,cM] at hB
  obtain⟨⟨hr,hf⟩,hB'⟩:=hB
  rw[List.range'_succ,Z2] at h
  cases hs:zQ P Γ ops k st with
  | none=>rw[hs] at h;cases h
  | some st1=>
   rw[hs] at h
   exact Bq hN hpl h0 n listed st st1 (Bp h0 hf) (by simpa using hr) hs (YA hN hpl n (k+1) _ st1 st' (by omega) hB' h he)
theorem Br{e:St→Prop}:∀(fuel t:Nat) (listed:Array Bool) (st:St),La P Γ ops e fuel listed st →
 ∃st',(Region.linearise.go .any ops fuel t listed []).foldlM (fun st i=>zQ P Γ ops i st) st=some st'∧e st':=by
 intro fuel
 induction fuel with
 | zero=>intro t listed st h;exact⟨st,by simp[Region.linearise.go],h.2⟩
 | succ fuel ih=>
  intro t listed st h
  obtain⟨h₀,h₁⟩:=h
  simp only[Region.linearise.go]
  change ∃st',(match (Region.ready .any ops listed)[t%(Region.ready .any ops listed).length]? with
   | some i=>Region.linearise.go .any ops fuel (t/(Region.ready .any ops listed).length) (listed.setIfInBounds i true) [i]
   | none=>[].reverse).foldlM (fun st i=>zQ P Γ ops i st) st=some st'∧e st'
  cases hi:(Region.ready .any ops listed)[t%(Region.ready .any ops listed).length]? with
  | none=>
   have hnil:Region.ready .any ops listed=[]:=by
    cases hr:Region.ready .any ops listed with
    | nil=>rfl
    | cons x xs=>
     rw[hr] at hi
     have hlt:t%(x::xs).length<(x::xs).length:=Nat.mod_lt _ (by simp)
     simp at hi
     simp at hlt
     omega
   exact⟨st,rfl,h₀ hnil⟩
  | some i=>
   simp only[]
   rw[linearise_go_acc,List.reverse_singleton,List.singleton_append,Z2]
   obtain⟨st1,g1,g2⟩:=h₁ i (mS hi)
   obtain⟨st',g3,g4⟩:=ih (t/(Region.ready .any ops listed).length) _ st1 g2
   exact⟨st',by rw[g1];exact g3,g4⟩
theorem YB(hm:P.follows .mixedOrders=true)(hΓ:je P Γ)(hN:∀f A,Γ f=some A→A.Nat)(hpl:yY Γ pl):U2 P Γ (Kt pl):=by
 intro ops hd R w0 F Xc ρ0 ρ st a w k r Q t hG h hk hn
 simp only[Region.schedule,hm,Bool.true_or,eP]
 rw[AM hN,List.range_eq_range'] at hk
 cases hs:(List.range' 0 ops.size).foldlM (fun st i=>zQ P Γ ops i st) st with
 | none=>rw[hs] at hk;cases hk
 | some st1=>
  rw[hs] at hk
  have ha:=YA (e:=fun st'=>k st'=some r) hN hpl ops.size 0 (Array.replicate ops.size false) st st1 (by omega) hd hs hk
  obtain⟨st',g1,g2⟩:=Br ops.size t _ st ha
  refine zZ hΓ hG (Region.linearise .any ops t) h (k:=k) ?_ hn
  rw[AM hN]
  show ((Region.linearise.go .any ops ops.size t (Array.replicate ops.size false) []).foldlM (fun st i=>zQ P Γ ops i st) st).bind k=some r
  rw[g1]
  exact g2
end
theorem iQ(sg:br)(U:yX sg.ez.af→Option (yX sg.bw.af)):(aD sg U).Nat:=by
 refine⟨?_,fun I h=>(by cases h),fun I h=>(by cases h)⟩
 intro R args po k
 simp only[aD]
 split
 ·refine(G6 _).trans (tW ?_ (fL (fun z:Option (List S1×List O)=>z.bind fun p=>k p.1 p.2) (G6 _)).symm)
  rw[gB]
  refine fL _ (funext fun p=>?_)
  rw[dL]
  refine fL _ (funext fun q=>?_)
  split <;> rfl
 ·rfl
def Bt:Sh→Bool
 | .int _=>true
 | .bool=>true
 | .str=>true
 | _=>false
def yP:Nat→List It→Bool
 | _,[]=>true
 | i,.slot j::l=>j==i&&yP (i+1) l
 | i,.au j _::l=>j==i&&yP (i+1) l
 | _,_=>false
def DQ:List It→Nat
 | []=>0
 | .slot _::l=>1+DQ l
 | .au _ n::l=>n+DQ l
 | .box _ n::l=>n+DQ l
 | .cv _ _ n::l=>n+DQ l
def VE(sg:br):Bool:=decide (sg.np=0)&&decide (sg.dt=0)&&sg.bw.af.all Bt&&yP 0 sg.bw.items&&decide (sg.bw.items.length=sg.im)&&decide (DQ sg.bw.items≤sg.bw.af.length)&&sg.kept.isEmpty
theorem S8:∀(l:List Sh) (t:yX l),l.all Bt=true→(CD l t).all FJ=true∧(CD l t).length=l.length
 | [],_,_=>⟨rfl,rfl⟩
 | s::l,t,h=>by
  simp only[HO,cM] at h
  obtain⟨h1,h2⟩:=S8 l t.2 h.2
  refine⟨?_,by simp[CD,h2]⟩
  simp only[CD,HO,cM]
  refine⟨?_,h1⟩
  cases s <;> first
   | rfl
   | (cases h.1;done)
theorem DR:∀(l:List It) (i:Nat) (cs:List C) (st:St),yP i l=true→cs.all FJ=true→DQ l≤cs.length→i+l.length≤st.env.length →
 (∀j,j<i→∃s,st.env[j]?=some (.s s)∧s.list.all FJ=true)→(fF l cs st).ae=st.ae∧∀j,j<i+l.length→∃s,(fF l cs st).env[j]?=some (.s s)∧s.list.all FJ=true
 | [],i,cs,st,h1,h2,h3,h4,h5=>⟨rfl,h5⟩
 | .slot k::l,i,cs,st,h1,h2,h3,h4,h5=>by
  simp only[yP,cM,HP] at h1
  obtain⟨rfl,h1⟩:=h1
  simp only[oB] at h4
  cases cs with
  | nil=>simp[DQ] at h3
  | cons c cs=>
   simp only[HO,cM] at h2
   simp only[DQ,oB] at h3
   obtain⟨e1,e2⟩:=DR l (k+1) cs { st with env:=st.env.set k (.s (.c c)) } h1 h2.2 (by omega) (by simp;omega) (fun j hj=>by
    by_cases hjk:k=j
    ·subst hjk
     exact⟨.c c,by rw[iI (by omega)],by simp[S1.list,h2.1]⟩
    ·obtain⟨s,q1,q2⟩:=h5 j (by omega)
     exact⟨s,by simp only[];rw[fC hjk];exact q1,q2⟩)
   simp only[fF,List.tail_cons,List.headD_cons]
   refine⟨e1,fun j hj=>e2 j (by simp only[oB] at hj;omega)⟩
 | .au k n::l,i,cs,st,h1,h2,h3,h4,h5=>by
  simp only[yP,cM,HP] at h1
  obtain⟨rfl,h1⟩:=h1
  simp only[oB] at h4
  simp only[DQ] at h3
  obtain⟨e1,e2⟩:=DR l (k+1) (cs.drop n) { st with env:=st.env.set k (.s (.agg (cs.take n))) } h1 (jF.2 fun x hx=>jF.1 h2 x (TX hx)) (by rw[MO];omega) (by simp;omega) (fun j hj=>by
   by_cases hjk:k=j
   ·subst hjk
    exact⟨.agg (cs.take n),by rw[iI (by omega)],jF.2 fun x hx=>jF.1 h2 x (IE hx)⟩
   ·obtain⟨s,q1,q2⟩:=h5 j (by omega)
    exact⟨s,by simp only[];rw[fC hjk];exact q1,q2⟩)
  simp only[fF]
  refine⟨e1,fun j hj=>e2 j (by simp only[oB] at hj;omega)⟩
 | .box _ _::_,i,cs,st,h1,_,_,_,_=>by simp[yP] at h1
 | .cv _ _ _::_,i,cs,st,h1,_,_,_,_=>by simp[yP] at h1
theorem M8:∀(l:List Sh) (t:yX l),l.all Bt=true→kF l t=[]
 | [],_,_=>rfl
 | s::l,t,h=>by
  simp only[HO,cM] at h
  cases s <;> first
   | exact M8 l t.2 h.2
   | (cases h.1;done)
theorem RZ{sg:br}{U:yX sg.ez.af→Option (yX sg.bw.af)}(h:VE sg=true):(aD sg U).gg:=by
 unfold VE at h
 simp only[cM,cK,K7] at h
 obtain⟨⟨⟨⟨⟨⟨h1,h2⟩,h3⟩,h4⟩,h5⟩,h6⟩,h7⟩:=h
 refine⟨⟨rfl,rfl⟩,?_⟩
 intro args po rs po' hc
 simp only[aD] at hc
 split at hc
 ·rename_i hlen
  have hpo:po=[]:=vJ (by omega)
  rw[G6] at hc
  obtain⟨t,_,hc⟩:=pV.1 hc
  obtain⟨q,_,hq⟩:=bK hc
  split at hq
  ·rename_i Ff hrs
   simp only[cC,yH] at hq
   obtain⟨e1,e2⟩:=hq
   obtain⟨g1,g2⟩:=S8 sg.bw.af q h3
   have hno:sg.no=sg.im:=by simp[br.no,h7]
   obtain⟨s1,s2⟩:=DR sg.bw.items 0 (CD sg.bw.af q) (mW sg.np sg.no (sg.np+sg.dt)) h4 g1 (by rw[g2];exact h6) (by simp[mW,hno,h5]) (fun j hj=>by omega)
   have hob:(fN sg.bw sg.np sg.no (sg.np+sg.dt) q).ae=[]:=by
    unfold fN
    simp only[M8 _ _ h3,qI,s1]
    simp[mW,h1,h2]
   refine⟨hpo,by rw[←e2,hob],?_⟩
   rw[←e1]
   have hs:=LP hrs
   refine jF.2 fun s hs'=>?_
   obtain⟨j,hj⟩:=List.mem_iff_getElem?.1 hs'
   have h8:=fL (fun z=>z[j]?) hs
   simp only[eW,hj,fH,pW] at h8
   split at h8
   ·rename_i hjl
    obtain⟨s',q1,q2⟩:=s2 j (by omega)
    have h9:(fN sg.bw sg.np sg.no (sg.np+sg.dt) q).env[j]?=some (.s s'):=q1
    rw[h9] at h8
    cases h8
    exact q2
   ·cases h8
  ·cases hq
 ·cases hc
structure ax (P:Program) (pl:List Nat) (l:List (FuncId×Callee)):Prop where
 mu:je P (sI l)
 nat:∀f A,sI l f=some A→A.Nat
 pure:yY (sI l) pl
theorem VF{pl:List Nat}(h:pl.all (fun n=>decide (n<82000000))=true){m:Nat}(hm:82000000≤m)(hc:pl.contains m=true):False:=by
 have:=jF.1 h m (by simpa using hc)
 have:=cH this
 omega
theorem ax.nil{P:Program}{pl:List Nat}(h:pl.contains 9000000=false:=by kernel_rfl)(h2:pl.contains 9000002=false:=by kernel_rfl)(h3:pl.all (fun n=>decide (n<82000000))=true:=by kernel_rfl):ax P pl []:=
 ⟨.nil,fun _ _ h=>(by cases h),fun _ _ _ h=>(by cases h),fun _ _ _ h=>(by cases h),fun _ _ _ h=>(by cases h),fun h'=>(by rw[h] at h';cases h'),fun _ h=>(by cases h),fun h'=>(by rw[h2] at h';cases h'),fun _ h=>(by cases h),fun s hs=>(VF h3 (by omega) hs).elim,fun s _ hs=>(VF h3 (by omega) hs).elim⟩
def oE(B L:List Nat):Callee where
 call:=fun _ _ _=>none
 ext:=some ⟨fun _ _=>none⟩
 quiet:=B
 loose:=L
theorem Lb{P:Program}{B L:List Nat}:(oE B L).OK P 2000000:=⟨fun _ _ _ _ h=>(by cases h),fun I h=>(by cases h),fun I h=>(by
 cases h
 intro R w X ρ r ds vals k _ _ hk
 cases hk)⟩
theorem G9{B L:List Nat}:(oE B L).Nat:=⟨fun _ _ _=>rfl,fun I h=>(by cases h),fun I h=>(by
 cases h
 intro R ds k
 rfl)⟩
theorem ax.flag{P:Program}{pl:List Nat}{B L:List Nat}(hB:B.isEmpty=false)(h1:pl.contains 2000000=false)(h2:pl.contains 3000000=false)(h3:pl.contains 6000000=false)(h4:L.all (fun s=>pl.contains (20000000+s))=true)(h5:pl.all (fun n=>decide (n<82000000))=true:=by kernel_rfl):ax P pl [(2000000,oE B L)]:=by
 have hl:∀f A,sI [(2000000,oE B L)] f=some A→f=2000000∧A=oE B L:=fun f A h=>by
  simp only[sI] at h
  split at h
  ·rename_i e;cases h;exact⟨e.symm,rfl⟩
  ·cases h
 refine⟨fun f A h=>?_,fun f A h=>?_,fun f A hc h=>?_,fun f A hc h=>?_,fun f A hc h=>?_,fun _ h=>?_,fun s hs=>?_,fun _ f A hf h=>?_,fun A h=>?_,fun s hs=>(VF h5 (by omega) hs).elim,fun s _ hs=>(VF h5 (by omega) hs).elim⟩
 ·obtain⟨rfl,rfl⟩:=hl f A h;exact⟨fun he=>(by cases he),Lb⟩
 ·obtain⟨rfl,rfl⟩:=hl f A h;exact G9
 ·obtain⟨rfl,rfl⟩:=hl f A h;rw[h1] at hc;cases hc
 ·obtain⟨rfl,rfl⟩:=hl f A h;rw[h2] at hc;cases hc
 ·obtain⟨rfl,rfl⟩:=hl f A h;rw[h3] at hc;cases hc
 ·have h:B=[]:=h
  subst h
  cases hB
 ·have hs:L.contains s=true:=hs
  exact jF.1 h4 s (by simpa using hs)
 ·obtain⟨rfl,rfl⟩:=hl f A h;cases hf
 ·obtain⟨_,rfl⟩:=hl 2000000 A h
  exact⟨_,rfl,fun _ _=>rfl⟩
theorem ax.ir{P:Program}{pl:List Nat}{G S:List Nat}(h1:(pl.contains 2000002||pl.contains 3000002||pl.contains 6000002||pl.contains 9000002||pl.contains 9000000)=false)
 (h5:pl.all (fun n=>decide (n<82000000)||(decide (n<90000000)&&G.contains (n-82000000))||(decide (90000000≤n)&&S.contains (n-90000000)))=true):ax P pl [(2000002,oE G S)]:=by
 simp only[Z6] at h1
 obtain⟨⟨⟨⟨a4,a5⟩,a6⟩,a7⟩,a8⟩:=h1
 have hl:∀f A,sI [(2000002,oE G S)] f=some A→(f=2000002∧A=oE G S):=fun f A h=>by
  simp only[sI] at h
  split at h
  ·rename_i e;cases h;exact⟨e.symm,rfl⟩
  ·cases h
 have hok:∀{B L:List Nat} {f:FuncId},(oE B L).OK P f:=fun {B L f}=>⟨fun _ _ _ _ h=>(by cases h),fun I h=>(by cases h),fun I h=>(by
  cases h
  intro R w X ρ r ds vals k _ _ hk
  cases hk)⟩
 refine⟨fun f A h=>?_,fun f A h=>?_,fun f A hc h=>?_,fun f A hc h=>?_,fun f A hc h=>?_,fun h _=>?_,fun s hs=>?_,fun hf=>?_,fun A h=>?_,fun s hs=>?_,fun t ht0 ht=>?_⟩
 ·obtain⟨rfl,rfl⟩:=hl f A h;exact⟨fun he=>(by cases he),hok⟩
 ·obtain⟨rfl,rfl⟩:=hl f A h;exact G9
 ·obtain⟨rfl,rfl⟩:=hl f A h
  rw[a4] at hc;cases hc
 ·obtain⟨rfl,rfl⟩:=hl f A h
  rw[a5] at hc;cases hc
 ·obtain⟨rfl,rfl⟩:=hl f A h
  rw[a6] at hc;cases hc
 ·rw[a8] at h;cases h
 ·have hs:([]:List Nat).contains s=true:=hs
  cases hs
 ·rw[a7] at hf;cases hf
 ·obtain⟨e,_⟩:=hl 2000000 A h
  cases e
 ·have:=jF.1 h5 (90000000+s) (by simpa using hs)
  rw[pD,pD,cM,cM] at this
  rcases this with(h | ⟨h,_⟩) | ⟨_,h⟩
  ·have:=cH h;omega
  ·have:=cH h;omega
  ·have e:90000000+s-90000000=s:=by omega
   rw[e] at h
   exact h
 ·have:=jF.1 h5 (82000000+t) (by simpa using ht)
  rw[pD,pD,cM,cM] at this
  rcases this with(h | ⟨_,h⟩) | ⟨h,_⟩
  ·have:=cH h;omega
  ·have e:82000000+t-82000000=t:=by omega
   rw[e] at h
   exact h
  ·have:=cH h;omega
theorem ax.ky{P:Program}{pl:List Nat}{B L G S:List Nat}(hB:B.isEmpty=false)(h1:(pl.contains 2000000||pl.contains 3000000||pl.contains 6000000||pl.contains 2000002||pl.contains 3000002||pl.contains 6000002||pl.contains 9000002)=false)(h4:L.all (fun s=>pl.contains (20000000+s))=true)
 (h5:pl.all (fun n=>decide (n<82000000)||(decide (n<90000000)&&G.contains (n-82000000))||(decide (90000000≤n)&&S.contains (n-90000000)))=true):ax P pl [(2000000,oE B L),(2000002,oE G S)]:=by
 simp only[Z6] at h1
 obtain⟨⟨⟨⟨⟨⟨a1,a2⟩,a3⟩,a4⟩,a5⟩,a6⟩,a7⟩:=h1
 have hl:∀f A,sI [(2000000,oE B L),(2000002,oE G S)] f=some A→(f=2000000∧A=oE B L)∨(f=2000002∧A=oE G S):=fun f A h=>by
  simp only[sI] at h
  split at h
  ·rename_i e;cases h;exact .inl ⟨e.symm,rfl⟩
  ·split at h
   ·rename_i e;cases h;exact .inr ⟨e.symm,rfl⟩
   ·cases h
 have hok:∀{B L:List Nat} {f:FuncId},(oE B L).OK P f:=fun {B L f}=>⟨fun _ _ _ _ h=>(by cases h),fun I h=>(by cases h),fun I h=>(by
  cases h
  intro R w X ρ r ds vals k _ _ hk
  cases hk)⟩
 refine⟨fun f A h=>?_,fun f A h=>?_,fun f A hc h=>?_,fun f A hc h=>?_,fun f A hc h=>?_,fun _ h=>?_,fun s hs=>?_,fun hf=>?_,fun A h=>?_,fun s hs=>?_,fun t ht0 ht=>?_⟩
 ·rcases hl f A h with⟨rfl,rfl⟩ | ⟨rfl,rfl⟩ <;> exact⟨fun he=>(by cases he),hok⟩
 ·rcases hl f A h with⟨rfl,rfl⟩ | ⟨rfl,rfl⟩ <;> exact G9
 ·rcases hl f A h with⟨rfl,rfl⟩ | ⟨rfl,rfl⟩
  ·rw[a1] at hc;cases hc
  ·rw[a4] at hc;cases hc
 ·rcases hl f A h with⟨rfl,rfl⟩ | ⟨rfl,rfl⟩
  ·rw[a2] at hc;cases hc
  ·rw[a5] at hc;cases hc
 ·rcases hl f A h with⟨rfl,rfl⟩ | ⟨rfl,rfl⟩
  ·rw[a3] at hc;cases hc
  ·rw[a6] at hc;cases hc
 ·have h:B=[]:=h
  subst h
  cases hB
 ·have hs:L.contains s=true:=hs
  exact jF.1 h4 s (by simpa using hs)
 ·rw[a7] at hf;cases hf
 ·rcases hl 2000000 A h with⟨_,rfl⟩ | ⟨e,_⟩
  ·exact⟨_,rfl,fun _ _=>rfl⟩
  ·cases e
 ·have:=jF.1 h5 (90000000+s) (by simpa using hs)
  rw[pD,pD,cM,cM] at this
  rcases this with(h | ⟨h,_⟩) | ⟨_,h⟩
  ·have:=cH h;omega
  ·have:=cH h;omega
  ·have e:90000000+s-90000000=s:=by omega
   rw[e] at h
   exact h
 ·have:=jF.1 h5 (82000000+t) (by simpa using ht)
  rw[pD,pD,cM,cM] at this
  rcases this with(h | ⟨_,h⟩) | ⟨h,_⟩
  ·have:=cH h;omega
  ·have e:82000000+t-82000000=t:=by omega
   rw[e] at h
   exact h
  ·have:=cH h;omega
theorem ax.gk{P:Program}{pl:List Nat}{f:FuncId}{A:Callee}{l:List (FuncId×Callee)}(hc:A.ext=none→FI P f)(hA:A.OK P f)(hn:A.Nat)(hp:pl.contains f=true→A.Pure)(hq:pl.contains (f+1000000)=true→A.gi)
 (hF:(pl.contains (f+4000000)||pl.contains 9000002)=true→A.dp) (hne:(f==2000000)=false) (hl:ax P pl l) (hne2:(f==2000002)=false:=by kernel_rfl):ax P pl ((f,A)::l):=by
 have hlk:sI ((f,A)::l) 2000000=sI l 2000000:=by
  simp only[sI]
  rw[aA (by intro h;subst h;cases hne)]
 have hqo:E5 (sI ((f,A)::l))=E5 (sI l):=by
  unfold E5
  rw[hlk]
 have hlo:gL (sI ((f,A)::l))=gL (sI l):=by
  unfold gL
  rw[hlk]
 have hlk2:sI ((f,A)::l) 2000002=sI l 2000002:=by
  simp only[sI]
  rw[aA (by intro h;subst h;cases hne2)]
 have hgs:uQ (sI ((f,A)::l))=uQ (sI l):=by
  unfold uQ
  rw[hlk2]
 have hgt:IZ (sI ((f,A)::l))=IZ (sI l):=by
  unfold IZ
  rw[hlk2]
 refine⟨.cons hc hA hl.mu,fun g B h=>?_,fun g B hg h=>?_,fun g B hg h=>?_,fun g B hg h=>?_,fun hg=>(by rw[hqo];exact hl.pure.2.2.2.1 hg),fun s hs=>(by rw[hlo] at hs;exact hl.pure.2.2.2.2.1 s hs),fun hg g B hg2 h=>?_,fun B h=>?_,fun s hs=>(by rw[hgs];exact hl.pure.2.2.2.2.2.2.2.1 s hs),fun s hs2 hs=>(by rw[hgt];exact hl.pure.2.2.2.2.2.2.2.2 s hs2 hs)⟩
 ·simp only[sI] at h
  split at h
  ·cases h;exact hn
  ·exact hl.nat g B h
 ·simp only[sI] at h
  split at h
  ·rename_i e;cases h;subst e;exact hp hg
  ·exact hl.pure.1 g B hg h
 ·simp only[sI] at h
  split at h
  ·rename_i e;cases h;subst e;exact hq hg
  ·exact hl.pure.2.1 g B hg h
 ·simp only[sI] at h
  split at h
  ·rename_i e;cases h;subst e;exact hF (by rw[hg];rfl)
  ·exact hl.pure.2.2.1 g B hg h
 ·simp only[sI] at h
  split at h
  ·rename_i e;cases h;subst e;exact hF (by rw[hg];exact Bool.or_true _)
  ·exact hl.pure.2.2.2.2.2.1 hg g B hg2 h
 ·rw[hlk] at h
  exact hl.pure.2.2.2.2.2.2.1 B h
theorem ax.cons{P:Program}{pl:List Nat}{f:FuncId}{A:Callee}{l:List (FuncId×Callee)}(hc:A.ext=none→FI P f)(hA:A.OK P f)(hn:A.Nat)(hp:pl.contains f=true→A.gg)(hq:pl.contains (f+1000000)=false)
 (hF:(pl.contains (f+4000000)||pl.contains 9000002)=true→A.dp) (hne:(f==2000000)=false) (hl:ax P pl l) (hne2:(f==2000002)=false:=by kernel_rfl):ax P pl ((f,A)::l):=
 hl.gk hc hA hn (fun h=>(hp h).pure hn) (fun h=>by rw[hq] at h;cases h) hF hne hne2
theorem ax.qf{P:Program}{pl:List Nat}{L:List Nat}{l:List (FuncId×Callee)}(h1:(pl.contains 2000001||pl.contains 3000001||pl.contains 6000001||pl.contains 9000002)=false)(hl:ax P pl l):ax P pl ((2000001,oE [] L)::l):=by
 simp only[Z6] at h1
 obtain⟨⟨⟨h1,h2⟩,h3⟩,h4⟩:=h1
 refine hl.gk (fun he=>by cases he) ⟨fun _ _ _ _ h=>(by cases h),fun I h=>(by cases h),fun I h=>(by
  cases h
  intro R w X ρ r ds vals k _ _ hk
  cases hk)⟩ G9 (fun h=>by rw[h1] at h;cases h) (fun h=>by rw[h2] at h;cases h) (fun h=>by rw[h3,h4] at h;cases h) rfl
def BA(ds:List D):Bool:=ds.all fun d=>match d with
 | .s s=>s.list.all DI
 | .ee _=>false
def Callee.strict(A:Callee):Callee where
 call:=fun args po k=>A.call args po fun rs po'=>if po'.isEmpty&&rs.all (fun s=>s.list.all DI) then k rs po' else none
def Uv(A:Callee):Callee where
 call:=fun _ _ _=>none
 inl:=some ⟨fun st dst ds k=>if BA ds=true then A3 A.strict st dst ds k else none⟩
theorem Hm{P:Program}{f:FuncId}{A:Callee}(h:A.OK P f):A.strict.OK P f:=by
 refine⟨?_,fun I h=>(by cases h),fun I h=>(by cases h)⟩
 intro R args po k r hk
 obtain⟨rs,po',h1,h2⟩:=h.1 args po _ r hk
 split at h1
 ·exact⟨rs,po',h1,h2⟩
 ·cases h1
theorem Bu{A:Callee}(h:A.Nat):A.strict.Nat:=by
 refine⟨?_,fun I h=>(by cases h),fun I h=>(by cases h)⟩
 intro R args po k
 show (A.call args po _)=(A.call args po _).bind _
 refine(h.1 _ _ _).trans (tW ?_ (fL (fun z:Option (List S1×List O)=>z.bind fun p=>k p.1 p.2) (h.1 _ _ _)).symm)
 rw[gB]
 refine fL _ (funext fun p=>?_)
 split <;> rfl
theorem Bv{P:Program}{f:FuncId}{A:Callee}(h:A.OK P f):(Uv A).OK P f:=by
 refine⟨fun _ _ _ _ h=>(by cases h),fun I hI=>?_,fun I h=>(by cases h)⟩
 cases hI
 intro R w0 w F Xc ρ0 ρ st a r dst ds vals k hG hR hlen hd hk
 dsimp only at hk
 split at hk
 ·exact PG hG (Hm h) hR hlen hd hk
 ·cases hk
theorem VG{A:Callee}(h:A.Nat):(Uv A).Nat:=by
 refine⟨fun _ _ _=>rfl,fun I hI=>?_,fun I h=>(by cases h)⟩
 cases hI
 intro R st dst ds k
 dsimp only
 split
 ·exact I1 (Bu h) st dst ds k
 ·rfl
theorem YC:∀(l:List C),l.all DI=true→(l.flatMap C.ks=[]∧∀(st:St) (j:Nat),rU st [] j [] l=some (l,[]))∧lU [] l=[]
 | [],_=>⟨⟨rfl,fun _ _=>rfl⟩,rfl⟩
 | c::l,h=>by
  simp only[HO,cM] at h
  obtain⟨⟨h1,h2⟩,h3⟩:=YC l h.2
  cases c <;> first
   | (cases h.1;done)
   | (refine⟨⟨by rw[II,h1];rfl,fun st j=>?_⟩,?_⟩
      ·simp only[rU,List.headD_nil,List.tail_nil,O9,h2]
      ·simp only[lU,List.headD_nil,List.tail_nil,h3]
       rfl)
theorem DS:∀(ss:List S1),zX ss (ss.flatMap S1.list)=ss
 | []=>rfl
 | .c c::l=>by
  show S1.c _::zX l _=_
  simp only[II,S1.list,List.singleton_append,List.headD_cons,List.tail_cons,DS l]
 | .agg a::l=>by
  show S1.agg _::zX l _=_
  simp only[II,S1.list,List.take_left',List.drop_left',DS l]
theorem Ef:∀(ds:List D),BA ds=true→∃ss,Gb ds=some ss∧(ss.flatMap S1.list).all DI=true
 | [],_=>⟨[],rfl,rfl⟩
 | .s s::l,h=>by
  simp only[BA,HO,cM] at h
  obtain⟨ss,h1,h2⟩:=Ef l h.2
  exact⟨s::ss,by simp[Gb,h1],by rw[II,List.all_append,h.1,h2];rfl⟩
 | .ee _::l,h=>by simp[BA] at h
theorem Bw{s:S1}(h:s.list.all DI=true):JN [] s=some s:=by
 have hc:∀c:C,DI c=true→A2 [] c=some c:=fun c hc=>by cases c <;> first | rfl | (cases hc;done)
 cases s with
 | c c=>simp only[S1.list,HO,ZF,ML] at h;simp[JN,hc c h]
 | agg l=>
  simp only[S1.list] at h
  have:sD (l.map (A2 []))=some l:=by
   induction l with
   | nil=>rfl
   | cons c l ih=>
    simp only[HO,cM] at h
    simp only[AU,hc c h.1,sD]
    rw[ih h.2]
    rfl
  simp[JN,this]
theorem S9:∀{rs:List S1},rs.all (fun s=>s.list.all DI)=true→sD (rs.map (JN []))=some rs
 | [],_=>rfl
 | s::rs,h=>by
  simp only[HO,cM] at h
  simp only[AU,Bw h.1,sD]
  rw[S9 h.2]
  rfl
theorem J2{R:Type}{A:Callee}(hN:A.Nat){st:St}{dst:Option Nat}{ds:List D}{k:St→D→Option R}(h:BA ds=true):
 A3 A.strict st dst ds k=((Gb ds).bind fun ss=>A.call ss [] fun rs po'=>if po'.isEmpty&&rs.all (fun s=>s.list.all DI) then some (JM rs) else none).bind fun d=>k st d:=by
 obtain⟨ss,h1,h2⟩:=Ef ds h
 obtain⟨⟨e1,e2⟩,e3⟩:=YC _ h2
 have hk:MZ ss=[]:=by
  unfold MZ
  have:(ss.flatMap fun s=>s.list.flatMap C.ks)=(ss.flatMap S1.list).flatMap C.ks:=by rw[List.flatMap_assoc]
  rw[this,e1];rfl
 have hkx:∀d,yL d st.ae ss=[]:=fun d=>by
  unfold yL
  rw[hk]
  cases d <;> rfl
 unfold A3
 rw[h1]
 dsimp only
 rw[hkx]
 simp only[IJ,sD,List.flatten_nil,MQ,xC]
 show (match rU st [] 0 [] (ss.flatMap S1.list) with | none=>none | some (cs,rws)=>_)=_
 rw[e2]
 dsimp only
 simp only[List.filterMap_nil,OT,OW,ZF,Z7,eP,uX]
 have e4:zX ss (ss.flatMap S1.list)=ss:=DS ss
 have e5:lU A.strict.rows (ss.flatMap S1.list)=[]:=e3
 rw[e4,e5]
 show (A.call ss (jZ [] _++[]) _)=_
 simp only[jZ,MQ]
 refine(hN.1 _ _ _).trans (tW ?_ (fL (fun z:Option D=>z.bind fun d=>k st d) (hN.1 _ _ _)).symm)
 rw[gB]
 refine fL _ (funext fun p=>?_)
 obtain⟨rs,po'⟩:=p
 dsimp only
 split
 ·rename_i hc
  simp only[cM,K7] at hc
  obtain⟨rfl,hrs⟩:=hc
  simp only[List.isEmpty_nil,Z7,fM,xC,UA,uX]
  by_cases hsc:(rs.all fun s=>s.list.all FJ)=true
  ·rw[hsc];rfl
  ·rw[Bool.not_eq_true] at hsc
   rw[hsc]
   simp only[OX,pB,iK,xC,UA,IJ,MQ,Nat.sub_zero,IT,OT,OW,gU,Z7,eP,sD,S9 hrs]
   rfl
 ·rfl
theorem AN{A:Callee}(hN:A.Nat):(Uv A).gi:=⟨rfl,fun b q dst ds=>by
 show (if BA ds=true then A3 A.strict { b with ae:=q } dst ds _ else none)=(if BA ds=true then A3 A.strict b dst ds _ else none).map _
 split
 ·rename_i h
  rw[J2 hN h,J2 hN h]
  cases((Gb ds).bind fun ss=>A.call ss [] fun rs po'=>if po'.isEmpty&&rs.all (fun s=>s.list.all DI) then some (JM rs) else none) <;> rfl
 ·rfl⟩
noncomputable abbrev CU(P:Program)(l:List (FuncId×Callee))(pl:List Nat)(t:HT)(fn:Func)(sg:br):yX sg.ez.af→Option (yX sg.bw.af):=
 Kg P (sI l) (Kt pl) (U4 t fn) fn.results.toList fn.ntmps sg
theorem Bx{P:Program}{l:List (FuncId×Callee)}{pl:List Nat}{f:FuncId}{fn:Func}{t:HT}{sg:br}{U:yX sg.ez.af→Option (yX sg.bw.af)}(hm:P.follows .mixedOrders=true)
 (hΓ:ax P pl l) (hf:P.funcs[f]?=some fn) (ht:JX t fn=true) (hs:sg.ok fn.ntmps=true) (hU:∀x,CU P l pl t fn sg x=U x):(aD sg U).OK P f:=
 XT hΓ.mu (YB hm hΓ.mu hΓ.nat hΓ.pure) hf (SU ht) rfl rfl hs fun x q h=>by rw[←hU x] at h;exact h
section
variable {R:Type} (P:Program) (Γ:FuncId→Option Callee) (dok:Array Oper→Bool)
noncomputable def Fv(code:bg)(rv:List ResultVar)(nt:Nat)(st:St)(ds:List D)(k:St→D→Option R):Option R:=
 if ds.length≤nt∧code.flat=true then
  lV P Γ dok 0 0 0 false code R { np:=st.np,env:=ds++List.replicate (nt-ds.length) D.top,ae:=st.ae } fun e s=>match e with
   | .exit _=>none
   | _=>if s.np=st.np then JW P s rv fun rs=>k { st with ae:=s.ae } (JM rs) else none
 else none
end
section
variable {R:Type} {P:Program} {Γ:FuncId→Option Callee} {dok:Array Oper→Bool}
theorem AJ:∀(rv:List ResultVar) {R:Type} (st:St) (k:List S1→Option R),JW P st rv k=(JW P st rv some).bind k
 | [],R,st,k=>rfl
 | .tmp t::rv,R,st,k=>by
  simp only[JW]
  split
  ·refine(AJ rv _ _).trans (tW ?_ (fL (fun z:Option (List S1)=>z.bind k) (AJ rv _ _)).symm)
   rw[gB];rfl
  ·rfl
 | .cell x t::rv,R,st,k=>by
  simp only[JW]
  refine(DO _ _ _ _).trans (tW ?_ (fL (fun z:Option (List S1)=>z.bind k) (DO _ _ _ _)).symm)
  rw[gB]
  refine fL _ (funext fun d=>?_)
  cases d with
  | s s=>
   refine(AJ rv _ _).trans (tW ?_ (fL (fun z:Option (List S1)=>z.bind k) (AJ rv _ _)).symm)
   rw[gB];rfl
  | ee l=>rfl
theorem nW(hN:∀f A,Γ f=some A→A.Nat){np n m:Nat}:∀(c:bg),c.flat=true→∀{R:Type} (st:St) (k:ed→St→Option R),lV P Γ dok np n m false c R st k=(lV P Γ dok np n m false c (ed×St) st fun e s=>some (e,s)).bind fun p=>k p.1 p.2
 | .skip,_,R,st,k=>by simp only[lV];rfl
 | .ret,_,R,st,k=>by simp only[lV];rfl
 | .exit id,_,R,st,k=>by simp only[lV];rfl
 | .label l,_,R,st,k=>by simp only[lV];rfl
 | .region id ops draw,_,R,st,k=>by
  simp only[lV]
  split
  ·rw[AM hN,AM hN (k:=fun st=>some (ed.normal,st)),gB];rfl
  ·rfl
 | .seq x y,hf,R,st,k=>by
  have hf':=iC.1 (show (x.flat&&y.flat)=true from hf)
  simp only[lV]
  refine(nW hN x hf'.1 _ _).trans (tW ?_ (fL (fun z:Option (ed×St)=>z.bind fun p=>k p.1 p.2) (nW hN x hf'.1 _ _)).symm)
  rw[gB]
  refine fL _ (funext fun p=>?_)
  obtain⟨e,s⟩:=p
  cases e with
  | normal=>exact nW hN y hf'.2 s k
  | exit id=>rfl
  | ret=>rfl
 | .cond c x y,hf,R,st,k=>by
  have hf':=iC.1 (show (x.flat&&y.flat)=true from hf)
  simp only[lV]
  simp only[Kd]
  rw[P6,P6 (R:=ed×St),gB]
  refine fL _ (funext fun q=>?_)
  cases q with
  | true=>exact nW hN x hf'.1 st k
  | false=>exact nW hN y hf'.2 st k
 | .block id x,hf,R,st,k=>by
  simp only[lV]
  refine(nW hN x hf _ _).trans (tW ?_ (fL (fun z:Option (ed×St)=>z.bind fun p=>k p.1 p.2) (nW hN x hf _ _)).symm)
  rw[gB]
  refine fL _ (funext fun p=>?_)
  obtain⟨e,s⟩:=p
  cases e with
  | normal=>rfl
  | exit j=>dsimp only;split <;> rfl
  | ret=>rfl
 | .scope x,hf,R,st,k=>by
  simp only[lV]
  exact nW hN x hf st k
 | .loop _ _ _,hf,_,_,_=>by simp[bg.flat] at hf
 | .join _ _,hf,_,_,_=>by simp[bg.flat] at hf
 | .kq i x,hf,R,st,k=>by
  simp only[lV]
  have hx:x.flat=true:=hf
  clear hf
  induction i generalizing st with
  | zero=>rfl
  | succ i ih=>
   simp only[Kc]
   refine(nW hN x hx _ _).trans (tW ?_ (fL (fun z:Option (ed×St)=>z.bind fun p=>k p.1 p.2) (nW hN x hx _ _)).symm)
   rw[gB]
   refine fL _ (funext fun p=>?_)
   obtain⟨e,s⟩:=p
   cases e with
   | normal=>exact ih s
   | exit j=>rfl
   | ret=>rfl
theorem Jg(hN:∀f A,Γ f=some A→A.Nat)(code:bg)(rv:List ResultVar)(nt:Nat)(st:St)(ds:List D)(k:St→D→Option R):
 Fv P Γ dok code rv nt st ds k=(Fv P Γ dok code rv nt st.bare ds fun s d=>some (s.ae,d)).bind fun p=>k { st with ae:=p.1 } p.2:=by
 unfold Fv
 split
 ·rename_i hc
  refine(nW hN code hc.2 _ _).trans (tW ?_ (fL (fun z:Option (List O×D)=>z.bind fun p=>k { st with ae:=p.1 } p.2) (nW hN code hc.2 _ _)).symm)
  rw[gB]
  refine fL _ (funext fun p=>?_)
  obtain⟨e,s⟩:=p
  have key:(if s.np=st.np then JW P s rv fun rs=>k { st with ae:=s.ae } (JM rs) else none)=(if s.np=st.bare.np then JW P s rv fun rs=>some (({ st.bare with ae:=s.ae }:St).ae,JM rs) else none).bind fun p=>k { st with ae:=p.1 } p.2:=by
   have hnp:st.bare.np=st.np:=rfl
   rw[hnp]
   split
   ·refine(AJ _ _ _).trans (tW ?_ (fL (fun z:Option (List O×D)=>z.bind fun p=>k { st with ae:=p.1 } p.2) (AJ _ _ _)).symm)
    rw[gB]
    rfl
   ·rfl
  cases e with
  | exit id=>rfl
  | normal=>exact key
  | ret=>exact key
 ·rfl
theorem ew.res{w:World}{X:Nat→Prop}{ρ:nT}{rs:List S1}{v:Value}(h:ew w X ρ rs v):ay w X ρ (JM rs) v:=by
 match rs with
 | [s]=>exact h
 | []=>exact h
 | s1::s2::l=>exact h
theorem Om{f:FuncId}{fn:Func}{code:bg}(hΓ:je P Γ)(hD:U2 P Γ dok)(hf:P.funcs[f]?=some fn)(hb:fn.body=some code.code):
 mb.OK P f ⟨fun st _ ds k=>Fv P Γ dok code fn.results.toList fn.ntmps st ds k⟩:=by
 intro R w0 w F Xc ρ0 ρ st a r dst ds vals k hG h hlen hd hk
 dsimp only at hk
 unfold Fv at hk
 split at hk
 case isFalse=>cases hk
 rename_i hc
 obtain⟨hdl,hflat⟩:=hc
 let ρ1:cn:=⟨ρ0.nv,((List.range st.env.length).map fun i=>(st.env.getD i D.top,a.tmps.getD i undef))++ρ0.ex⟩
 have hR:Rel w0 F Xc ρ1 ρ { np:=st.np,env:=ds++List.replicate (fn.ntmps-ds.length) D.top,ae:=st.ae } { tmps:=vals.toArray++Array.replicate (fn.ntmps-vals.toArray.size) undef,defers:=[] } w:=by
  refine⟨by simp[hlen],fun i d y h1 h2=>?_,h.ae,h.sep,h.own,h.par,rfl,h.frame,h.jo,h.xc,fun p hp=>?_⟩
  ·rw[sC] at h1
   split at h1
   ·rename_i hi
    rw[Array.getElem?_append_left (by simp;omega)] at h2
    exact hd i d y h1 (by simpa using h2)
   ·rw[K6] at h1
    split at h1
    ·cases h1;exact .top_ y
    ·cases h1
  ·rcases fK.1 hp with hp | hp
   ·obtain⟨i,hi,rfl⟩:=lE.1 hp
    have hil:=xB.1 hi
    have hit:i<a.tmps.size:=by rw[h.len];exact hil
    dsimp only
    rw[jY,dG hil,MN,vL hit]
    exact h.env i _ _ (dG hil) (vL hit)
   ·exact h.ext p hp
 refine calls_of_wp hf hb (pJ hΓ hD hG code (.inr hflat) R r hR hk fun ρ' s a' w' e hR' hk'=>?_)
 have key:(if s.np=st.np then JW P s fn.results.toList fun rs=>k { st with ae:=s.ae } (JM rs) else none)=some r→a'.defers=[]∧∃v,(results fn a'.tmps).run P w'=.ok v w' ∧
  ∃v' ρ' st' d,Ending.returned v=.returned v'∧Rel w0 F Xc ρ0 ρ' st' a w'∧ay w' (XB st'.ae ρ' Xc) ρ' d v'∧k st' d=some r:=by
  intro hk2
  split at hk2
  case isFalse=>cases hk2
  rename_i hnp
  refine⟨hR'.defers,?_⟩
  obtain⟨rs,vs,p1,p2,p3,p4⟩:=N4 hR' _ _ hk2
  refine⟨(if h:vs.toArray.size=1 then vs.toArray[0] else .tuple vs.toArray),?_,_,ρ',{ st with ae:=s.ae },JM rs,rfl,?_,?_,p1⟩
  ·unfold results
   rw[bO,ZR,ZS]
   exact fL (fun z:Result (List Value)=>(z.andThen fun l w'=>(Result.ok l.toArray w':Result (Array Value))).andThen fun vs w'=>
    (pure (if h:vs.size=1 then vs[0] else .tuple vs):Sem Value).run P w') p4
  ·refine⟨h.len,fun i d y h1 h2=>?_,hR'.ae,hR'.sep,hR'.own,fun j hj=>?_,h.defers,hR'.frame,hR'.jo,hR'.xc,fun p hp=>hR'.ext p (fK.2 (.inr hp))⟩
   ·have hil:i<st.env.length:=(dA.1 h1).1
    have:=hR'.ext (st.env.getD i D.top,a.tmps.getD i undef) (fK.2 (.inl (lE.2 ⟨i,xB.2 hil,rfl⟩)))
    dsimp only at this
    rw[jY,h1,MN,h2] at this
    exact this
   ·exact hR'.par j (by rw[hnp];exact hj)
  ·exact(Rk p2).res
 cases e with
 | normal=>exact key hk'
 | ret=>exact key hk'
 | exit id=>cases hk'
end
noncomputable def Sm(P:Program)(l:List (FuncId×Callee))(pl:List Nat)(fn:Func)(t:HT:=.leaf):Callee where
 call:=fun _ _ _=>none
 inl:=some ⟨fun st _ ds k=>Fv P (sI l) (Kt pl) (U4 t fn) fn.results.toList fn.ntmps st ds k⟩
theorem On{P:Program}{l:List (FuncId×Callee)}{pl:List Nat}{f:FuncId}{fn:Func}{t:HT}(hm:P.follows .mixedOrders=true)(hΓ:ax P pl l)(hf:P.funcs[f]?=some fn)(ht:JX t fn=true):(Sm P l pl fn t).OK P f:=
 ⟨fun _ _ _ _ h=>(by cases h),fun I h=>(by
  cases h
  exact Om hΓ.mu (YB hm hΓ.mu hΓ.nat hΓ.pure) hf (SU ht)),fun I h=>(by cases h)⟩
theorem Jh{P:Program}{l:List (FuncId×Callee)}{pl:List Nat}{fn:Func}{t:HT}(hΓ:ax P pl l):(Sm P l pl fn t).Nat:=
 ⟨fun _ _ _=>rfl,fun I h=>(by
  cases h
  intro R st dst ds k
  exact Jg hΓ.nat _ _ _ st ds k),fun I h=>(by cases h)⟩
theorem Ji{P:Program}{f:FuncId}{A:Callee}(h:A.OK P f):(Jm A).OK P f:=h
theorem Fw{A:Callee}(h:A.Nat):(Jm A).Nat:=h
open Go.RowKit
theorem Gc{P:Program}{f:FuncId}{A:Callee}(hA:A.OK P f){args:List S1}{b:Bool}(hcall:(A.call args [] fun rs po=>some (rs,po))=some ([.c (.t (.v (.bool b)))],[])){W:World}(hG:Good P W (fun _=>False)){vals:List Value}
 (hargs:cy W (fun _=>False) (fun _=>none) args vals):Calls P f vals.toArray W fun e W'=>e=.returned (.bool b)∧Below W.heap.size W W':=by
 obtain⟨rs,po',h1,h2⟩:=hA.1 args [] _ _ hcall
 simp only[cC,yH] at h1
 obtain⟨e1,e2⟩:=h1
 subst e1;subst e2
 have hX:∀b,¬XB [] (fun _=>none) (fun _=>False) b:=fun b hh=>hh.elim (fun⟨k,o,v,h1,_⟩=>by simp at h1) id
 have hm:∀b,¬BM [] (fun _=>none) b:=fun b ⟨k,o,v,h1,_⟩=>by simp at h1
 refine(h2 W (fun _=>False) (fun _=>none) vals (fun k o h=>by simp at h) (fun k k' b ⟨o,v,h1,_⟩=>by simp at h1) (fun _ h=>h.elim) (fun _ _ h=>h)
  (fun g k hg=>⟨fun hh=>hm g hh,(hG g k hg).2⟩) (hargs.step (cf.refl (fun _=>False) W) (fun _ h=>h.elim) (fun b hb=>(hX b hb).elim) (.refl _))).mono fun e w' ⟨v,ρ',he,hs,_,_,_,_,_,hr⟩=>?_
 have hv:v=.bool b:=by
  rcases hr with hr | ⟨hr,_⟩
  ·cases hr
  ·exact Rd.cq hr
 subst hv
 exact⟨he,hs.below hm⟩
theorem PB{P:Program}{W:World}(h:W.ShapedOpen P)(F:Nat→Prop)(hF:∀b,¬F b):Good P W F:=fun g k ⟨t,zero,h1,h2,h3,h4,h5,h6⟩=>
 ⟨hF g,Go.Proofs.cell_of_shapedOpen_int h h1 h2 h3 h4 h5 h6⟩
end Go.Eng
