/- An engine that turns the code of a function into a plain function on tuples, part 3: what it says of a function holds of every run; it has no conditions of its own. -/
import Derived.Laws.Externs
import Derived.Shelf.Vars
import Derived.ProofKit
import Derived.HandedShaped
import Derived.OpenShut
import Derived.Test.YtpgikmmiapcojaaEng2
import Derived.Test.YtpgikmmiapcojaaEng1
set_option linter.unusedSimpArgs false
set_option linter.unusedVariables false
namespace Go.Eng
open Go.RowKit
section
variable {P:Program} {Γ:FuncId→Option Callee} {ops:Array Oper} {pl:List Nat}
def La(P:Program)(Γ:FuncId→Option Callee)(ops:Array Oper)(e:St→Prop):Nat→Array Bool→St→Prop
 | 0,listed,st=>Region.ready .any ops listed=[]∧e st
 | fuel+1,listed,st=>(Region.ready .any ops listed=[]→e st)∧∀i∈Region.ready .any ops listed,∃st',yW P Γ ops i st=some st'∧La P Γ ops e fuel (listed.setIfInBounds i true) st'
inductive je (ops:Array Oper) (listed:Array Bool) (i:Nat):Nat→Prop
 | one {j:Nat} {oj:Oper} {e:Edge} (hj:ops[j]?=some oj) (he:e∈oj.after) (hb:Region.binds .any e=true) (hi:e.on=i):je ops listed i j
 | via {j:Nat} {oj:Oper} {e:Edge} (hj:ops[j]?=some oj) (he:e∈oj.after) (hb:Region.binds .any e=true) (hu:listed.getD e.on true=false) (h:je ops listed i e.on):je ops listed i j
theorem Ds{listed:Array Bool}{i:Nat}:∀(fuel j:Nat),Pn ops listed i fuel j=true→je ops listed i j
 | 0,_,h=>by cases h
 | fuel+1,j,h=>by
  unfold Pn at h
  cases hj:ops[j]? with
  | none=>rw[hj] at h;cases h
  | some oj=>
   rw[hj] at h
   obtain⟨e,he,h2⟩:=Array.any_eq_true'.1 h
   simp only[cS,oB,zV,OY] at h2
   obtain⟨hb,h3 | ⟨h3,h4⟩⟩:=h2
   ·exact .one hj he hb h3
   ·exact .via hj he hb h3 (Ds fuel e.on h4)
theorem Bf{i:Nat}{oi:Oper}{listed:Array Bool}(hi:ops[i]?=some oi)(h:Kr ops pl listed i=true)(j:Nat)(oj:Oper)(hj:ops[j]?=some oj)(hne:j≠i)(hun:listed.getD j true=false)
 (hno:¬je ops listed i j):TI ops pl oi oj=true:=by
 simp only[Kr,hi,jF,uM] at h
 have h1:=h j (zW.1 hj).1
 simp only[hj,oB,zV,hne,false_or,hun,nL] at h1
 rcases h1 with h1 | h1
 ·exact absurd (Ds _ _ h1) hno
 ·exact h1
theorem Pr{listed:Array Bool}{i j:Nat}(hi:listed.getD i true=false)(hr:j∈Region.ready .any ops listed):¬je ops listed i j:=by
 intro h
 obtain⟨_,oj,hoj,hall⟩:=mem_ready.1 hr
 have key:∀(m:Nat),listed.getD m true=false→listed.getD m false=true→False:=fun m h1 h0=>by
  rcases OM m listed.size with h' | h'
  ·simp[h'] at h0 h1;rw[h0] at h1;cases h1
  ·simp[Array.getElem?_eq_none h'] at h1
 cases h with
 | one hj he hb hie=>
  rw[hoj] at hj
  cases hj
  have:=hall _ he hb
  rw[hie] at this
  exact key i hi this
 | via hj he hb hu h=>
  rw[hoj] at hj
  cases hj
  exact key _ hu (hall _ he hb)
theorem je.grow{listed:Array Bool}{i j':Nat}(hj':¬je ops listed i j'):∀{k:Nat},je ops listed i k→je ops (listed.setIfInBounds j' true) i k:=by
 intro k h
 induction h with
 | one hj he hb hi=>exact .one hj he hb hi
 | via hj he hb hu h ih=>
  refine .via hj he hb ?_ ih
  rw[getD_set_ne true (fun e=>hj' (by rw[e];exact h))]
  exact hu
theorem Bg{e:St→Prop}(hN:∀f A,Γ f=some A→A.Nat)(hpl:yL Γ pl){i:Nat}{oi:Oper}(hi:ops[i]?=some oi):
 ∀(fuel:Nat) (listed:Array Bool) (st st1:St),
  (∀j oj,ops[j]?=some oj→j≠i→listed.getD j true=false→¬je ops listed i j→TI ops pl oi oj=true) →
  i∈Region.ready .any ops listed→yW P Γ ops i st=some st1→La P Γ ops e fuel (listed.setIfInBounds i true) st1→La P Γ ops e (fuel+1) listed st:=by
 intro fuel
 induction fuel with
 | zero=>
  intro listed st st1 _ hr hy H
  refine⟨fun h=>(by rw[h] at hr;cases hr),fun j hj=>?_⟩
  by_cases hji:j=i
  ·subst hji;exact⟨st1,hy,H⟩
  ·have:=ready_mono hj hji
   rw[H.1] at this
   cases this
 | succ fuel ih=>
  intro listed st st1 hfree hr hy H
  refine⟨fun h=>(by rw[h] at hr;cases hr),fun j hj=>?_⟩
  by_cases hji:j=i
  ·subst hji;exact⟨st1,hy,H⟩
  ·obtain⟨st2,h1,h2⟩:=H.2 j (ready_mono hj hji)
   obtain⟨hjun,oj,hoj,hall⟩:=mem_ready.1 hj
   have hnb:¬je ops listed i j:=Pr (mem_ready.1 hr).1 hj
   obtain⟨st1',g1,g2⟩:=Hd hN hpl hi hoj (hfree j oj hoj hji hjun hnb) hy h1
   have hfree':∀k ok,ops[k]?=some ok→k≠i→(listed.setIfInBounds j true).getD k true=false →
    ¬je ops (listed.setIfInBounds j true) i k→TI ops pl oi ok=true:=fun k ok hk hki hun hno=>by
    refine hfree k ok hk hki ?_ (fun hb=>hno (hb.grow hnb))
    by_cases hjk:j=k
    ·subst hjk;exact hjun
    ·rw[getD_set_ne true hjk] at hun;exact hun
   refine⟨st1',g1,ih (listed.setIfInBounds j true) st1' st2 hfree' (ready_mono hr (OS hji)) g2 ?_⟩
   rw[Array.setIfInBounds_comm _ _ hji]
   exact h2
theorem YD{e:St→Prop}(hN:∀f A,Γ f=some A→A.Nat)(hpl:yL Γ pl):∀(n k:Nat) (listed:Array Bool) (st st':St),k+n=ops.size →
 Ks ops pl n k listed=true→(List.range' k n).foldlM (fun st i=>yW P Γ ops i st) st=some st'→e st'→La P Γ ops e n listed st
 | 0,k,listed,st,st',_,hB,h,he=>by
  cases h
  exact⟨by simpa[Ks] using hB,he⟩
 | n+1,k,listed,st,st',hk,hB,h,he=>by
  have hlt:k<ops.size:=by omega
  have h0:ops[k]?=some ops[k]:=uV hlt
  simp only[Ks,cS] at hB
  obtain⟨⟨hr,hf⟩,hB'⟩:=hB
  rw[List.range'_succ,ZV] at h
  cases hs:yW P Γ ops k st with
  | none=>rw[hs] at h;cases h
  | some st1=>
   rw[hs] at h
   exact Bg hN hpl h0 n listed st st1 (Bf h0 hf) (by simpa using hr) hs (YD hN hpl n (k+1) _ st1 st' (by omega) hB' h he)
theorem Bh{e:St→Prop}:∀(fuel t:Nat) (listed:Array Bool) (st:St),La P Γ ops e fuel listed st →
 ∃st',(Region.linearise.go .any ops fuel t listed []).foldlM (fun st i=>yW P Γ ops i st) st=some st'∧e st':=by
 intro fuel
 induction fuel with
 | zero=>intro t listed st h;exact⟨st,by simp[Region.linearise.go],h.2⟩
 | succ fuel ih=>
  intro t listed st h
  obtain⟨h₀,h₁⟩:=h
  simp only[Region.linearise.go]
  change ∃st',(match (Region.ready .any ops listed)[t%(Region.ready .any ops listed).length]? with
   | some i=>Region.linearise.go .any ops fuel (t/(Region.ready .any ops listed).length) (listed.setIfInBounds i true) [i]
   | none=>[].reverse).foldlM (fun st i=>yW P Γ ops i st) st=some st'∧e st'
  cases hi:(Region.ready .any ops listed)[t%(Region.ready .any ops listed).length]? with
  | none=>
   have hnil:Region.ready .any ops listed=[]:=by
    cases hr:Region.ready .any ops listed with
    | nil=>rfl
    | cons x xs=>
     rw[hr] at hi
     have hlt:t%(x::xs).length<(x::xs).length:=Nat.mod_lt _ (by simp)
     simp at hi
     simp at hlt
     omega
   exact⟨st,rfl,h₀ hnil⟩
  | some i=>
   simp only[]
   rw[linearise_go_acc,List.reverse_singleton,List.singleton_append,ZV]
   obtain⟨st1,g1,g2⟩:=h₁ i (mM hi)
   obtain⟨st',g3,g4⟩:=ih (t/(Region.ready .any ops listed).length) _ st1 g2
   exact⟨st',by rw[g1];exact g3,g4⟩
theorem YE(hm:P.follows .mixedOrders=true)(hΓ:jc P Γ)(hN:∀f A,Γ f=some A→A.Nat)(hpl:yL Γ pl):U8 P Γ (Kt pl):=by
 intro ops hd R w0 F Xc ρ0 ρ st a w k r Q t hG h hk hn
 simp only[Region.schedule,hm,Bool.true_or,eY]
 rw[zR hN,List.range_eq_range'] at hk
 cases hs:(List.range' 0 ops.size).foldlM (fun st i=>yW P Γ ops i st) st with
 | none=>rw[hs] at hk;cases hk
 | some st1=>
  rw[hs] at hk
  have ha:=YD (e:=fun st'=>k st'=some r) hN hpl ops.size 0 (Array.replicate ops.size false) st st1 (by omega) hd hs hk
  obtain⟨st',g1,g2⟩:=Bh ops.size t _ st ha
  refine zC hΓ hG (Region.linearise .any ops t) h (k:=k) ?_ hn
  rw[zR hN]
  show ((Region.linearise.go .any ops ops.size t (Array.replicate ops.size false) []).foldlM (fun st i=>yW P Γ ops i st) st).bind k=some r
  rw[g1]
  exact g2
end
theorem mF(sg:bt)(U:yK sg.gf.af→Option (yK sg.bx.af)):(aE sg U).Nat:=by
 refine⟨?_,fun I h=>(by cases h),fun I h=>(by cases h)⟩
 intro R args po k
 simp only[aE]
 split
 ·refine(GQ _).trans (tP ?_ (fG (fun z:Option (List S1×List O)=>z.bind fun p=>k p.1 p.2) (GQ _)).symm)
  rw[gD]
  refine fG _ (funext fun p=>?_)
  rw[dX]
  refine fG _ (funext fun q=>?_)
  split <;> rfl
 ·rfl
def Bi:Sh→Bool
 | .int _=>true
 | .bool=>true
 | .str=>true
 | _=>false
def yC:Nat→List It→Bool
 | _,[]=>true
 | i,.slot j::l=>j==i&&yC (i+1) l
 | i,.av j _::l=>j==i&&yC (i+1) l
 | _,_=>false
def DB:List It→Nat
 | []=>0
 | .slot _::l=>1+DB l
 | .av _ n::l=>n+DB l
 | .box _ n::l=>n+DB l
 | .cw _ _ n::l=>n+DB l
def VL(sg:bt):Bool:=decide (sg.np=0)&&decide (sg.du=0)&&sg.bx.af.all Bi&&yC 0 sg.bx.items&&decide (sg.bx.items.length=sg.iq)&&decide (DB sg.bx.items≤sg.bx.af.length)&&sg.kept.isEmpty
theorem TL:∀(l:List Sh) (t:yK l),l.all Bi=true→(BT l t).all E8=true∧(BT l t).length=l.length
 | [],_,_=>⟨rfl,rfl⟩
 | s::l,t,h=>by
  simp only[ET,cS] at h
  obtain⟨h1,h2⟩:=TL l t.2 h.2
  refine⟨?_,by simp[BT,h2]⟩
  simp only[BT,ET,cS]
  refine⟨?_,h1⟩
  cases s <;> first
   | rfl
   | (cases h.1;done)
theorem DC:∀(l:List It) (i:Nat) (cs:List C) (st:St),yC i l=true→cs.all E8=true→DB l≤cs.length→i+l.length≤st.env.length →
 (∀j,j<i→∃s,st.env[j]?=some (.s s)∧s.list.all E8=true)→(fO l cs st).ae=st.ae∧∀j,j<i+l.length→∃s,(fO l cs st).env[j]?=some (.s s)∧s.list.all E8=true
 | [],i,cs,st,h1,h2,h3,h4,h5=>⟨rfl,h5⟩
 | .slot k::l,i,cs,st,h1,h2,h3,h4,h5=>by
  simp only[yC,cS,zV] at h1
  obtain⟨rfl,h1⟩:=h1
  simp only[oA] at h4
  cases cs with
  | nil=>simp[DB] at h3
  | cons c cs=>
   simp only[ET,cS] at h2
   simp only[DB,oA] at h3
   obtain⟨e1,e2⟩:=DC l (k+1) cs { st with env:=st.env.set k (.s (.c c)) } h1 h2.2 (by omega) (by simp;omega) (fun j hj=>by
    by_cases hjk:k=j
    ·subst hjk
     exact⟨.c c,by rw[iJ (by omega)],by simp[S1.list,h2.1]⟩
    ·obtain⟨s,q1,q2⟩:=h5 j (by omega)
     exact⟨s,by simp only[];rw[fK hjk];exact q1,q2⟩)
   simp only[fO,List.tail_cons,List.headD_cons]
   refine⟨e1,fun j hj=>e2 j (by simp only[oA] at hj;omega)⟩
 | .av k n::l,i,cs,st,h1,h2,h3,h4,h5=>by
  simp only[yC,cS,zV] at h1
  obtain⟨rfl,h1⟩:=h1
  simp only[oA] at h4
  simp only[DB] at h3
  obtain⟨e1,e2⟩:=DC l (k+1) (cs.drop n) { st with env:=st.env.set k (.s (.agg (cs.take n))) } h1 (jF.2 fun x hx=>jF.1 h2 x (T2 hx)) (by rw[MK];omega) (by simp;omega) (fun j hj=>by
   by_cases hjk:k=j
   ·subst hjk
    exact⟨.agg (cs.take n),by rw[iJ (by omega)],jF.2 fun x hx=>jF.1 h2 x (H5 hx)⟩
   ·obtain⟨s,q1,q2⟩:=h5 j (by omega)
    exact⟨s,by simp only[];rw[fK hjk];exact q1,q2⟩)
  simp only[fO]
  refine⟨e1,fun j hj=>e2 j (by simp only[oA] at hj;omega)⟩
 | .box _ _::_,i,cs,st,h1,_,_,_,_=>by simp[yC] at h1
 | .cw _ _ _::_,i,cs,st,h1,_,_,_,_=>by simp[yC] at h1
theorem M2:∀(l:List Sh) (t:yK l),l.all Bi=true→kF l t=[]
 | [],_,_=>rfl
 | s::l,t,h=>by
  simp only[ET,cS] at h
  cases s <;> first
   | exact M2 l t.2 h.2
   | (cases h.1;done)
theorem SE{sg:bt}{U:yK sg.gf.af→Option (yK sg.bx.af)}(h:VL sg=true):(aE sg U).gk:=by
 unfold VL at h
 simp only[cS,bE,K5] at h
 obtain⟨⟨⟨⟨⟨⟨h1,h2⟩,h3⟩,h4⟩,h5⟩,h6⟩,h7⟩:=h
 refine⟨⟨rfl,rfl⟩,?_⟩
 intro args po rs po' hc
 simp only[aE] at hc
 split at hc
 ·rename_i hlen
  have hpo:po=[]:=uK (by omega)
  rw[GQ] at hc
  obtain⟨t,_,hc⟩:=pS.1 hc
  obtain⟨q,_,hq⟩:=bO hc
  split at hq
  ·rename_i Ex hrs
   simp only[cG,xR] at hq
   obtain⟨e1,e2⟩:=hq
   obtain⟨g1,g2⟩:=TL sg.bx.af q h3
   have hno:sg.no=sg.iq:=by simp[bt.no,h7]
   obtain⟨s1,s2⟩:=DC sg.bx.items 0 (BT sg.bx.af q) (mQ sg.np sg.no (sg.np+sg.du)) h4 g1 (by rw[g2];exact h6) (by simp[mQ,hno,h5]) (fun j hj=>by omega)
   have hob:(fS sg.bx sg.np sg.no (sg.np+sg.du) q).ae=[]:=by
    unfold fS
    simp only[M2 _ _ h3,qF,s1]
    simp[mQ,h1,h2]
   refine⟨hpo,by rw[←e2,hob],?_⟩
   rw[←e1]
   have hs:=LL hrs
   refine jF.2 fun s hs'=>?_
   obtain⟨j,hj⟩:=List.mem_iff_getElem?.1 hs'
   have h8:=fG (fun z=>z[j]?) hs
   simp only[fF,hj,fA,pT] at h8
   split at h8
   ·rename_i hjl
    obtain⟨s',q1,q2⟩:=s2 j (by omega)
    have h9:(fS sg.bx sg.np sg.no (sg.np+sg.du) q).env[j]?=some (.s s'):=q1
    rw[h9] at h8
    cases h8
    exact q2
   ·cases h8
  ·cases hq
 ·cases hc
structure ay (P:Program) (pl:List Nat) (l:List (FuncId×Callee)):Prop where
 mv:jc P (rY l)
 nat:∀f A,rY l f=some A→A.Nat
 pure:yL (rY l) pl
theorem VM{pl:List Nat}(h:pl.all (fun n=>decide (n<82000000))=true){m:Nat}(hm:82000000≤m)(hc:pl.contains m=true):False:=by
 have:=jF.1 h m (by simpa using hc)
 have:=bI this
 omega
theorem ay.nil{P:Program}{pl:List Nat}(h:pl.contains 9000000=false:=by kernel_rfl)(h2:pl.contains 9000002=false:=by kernel_rfl)(h3:pl.all (fun n=>decide (n<82000000))=true:=by kernel_rfl):ay P pl []:=
 ⟨.nil,fun _ _ h=>(by cases h),fun _ _ _ h=>(by cases h),fun _ _ _ h=>(by cases h),fun _ _ _ h=>(by cases h),fun h'=>(by rw[h] at h';cases h'),fun _ h=>(by cases h),fun h'=>(by rw[h2] at h';cases h'),fun _ h=>(by cases h),fun s hs=>(VM h3 (by omega) hs).elim,fun s _ hs=>(VM h3 (by omega) hs).elim⟩
def oE(B L:List Nat):Callee where
 call:=fun _ _ _=>none
 ext:=some ⟨fun _ _=>none⟩
 quiet:=B
 loose:=L
theorem Lb{P:Program}{B L:List Nat}:(oE B L).OK P 2000000:=⟨fun _ _ _ _ h=>(by cases h),fun I h=>(by cases h),fun I h=>(by
 cases h
 intro R w X ρ r ds vals k _ _ hk
 cases hk)⟩
theorem GT{B L:List Nat}:(oE B L).Nat:=⟨fun _ _ _=>rfl,fun I h=>(by cases h),fun I h=>(by
 cases h
 intro R ds k
 rfl)⟩
theorem ay.flag{P:Program}{pl:List Nat}{B L:List Nat}(hB:B.isEmpty=false)(h1:pl.contains 2000000=false)(h2:pl.contains 3000000=false)(h3:pl.contains 6000000=false)(h4:L.all (fun s=>pl.contains (20000000+s))=true)(h5:pl.all (fun n=>decide (n<82000000))=true:=by kernel_rfl):ay P pl [(2000000,oE B L)]:=by
 have hl:∀f A,rY [(2000000,oE B L)] f=some A→f=2000000∧A=oE B L:=fun f A h=>by
  simp only[rY] at h
  split at h
  ·rename_i e;cases h;exact⟨e.symm,rfl⟩
  ·cases h
 refine⟨fun f A h=>?_,fun f A h=>?_,fun f A hc h=>?_,fun f A hc h=>?_,fun f A hc h=>?_,fun _ h=>?_,fun s hs=>?_,fun _ f A hf h=>?_,fun A h=>?_,fun s hs=>(VM h5 (by omega) hs).elim,fun s _ hs=>(VM h5 (by omega) hs).elim⟩
 ·obtain⟨rfl,rfl⟩:=hl f A h;exact⟨fun he=>(by cases he),Lb⟩
 ·obtain⟨rfl,rfl⟩:=hl f A h;exact GT
 ·obtain⟨rfl,rfl⟩:=hl f A h;rw[h1] at hc;cases hc
 ·obtain⟨rfl,rfl⟩:=hl f A h;rw[h2] at hc;cases hc
 ·obtain⟨rfl,rfl⟩:=hl f A h;rw[h3] at hc;cases hc
 ·have h:B=[]:=h
  subst h
  cases hB
 ·have hs:L.contains s=true:=hs
  exact jF.1 h4 s (by simpa using hs)
 ·obtain⟨rfl,rfl⟩:=hl f A h;cases hf
 ·obtain⟨_,rfl⟩:=hl 2000000 A h
  exact⟨_,rfl,fun _ _=>rfl⟩
theorem ay.ir{P:Program}{pl:List Nat}{G S:List Nat}(h1:(pl.contains 2000002||pl.contains 3000002||pl.contains 6000002||pl.contains 9000002||pl.contains 9000000)=false)
 (h5:pl.all (fun n=>decide (n<82000000)||(decide (n<90000000)&&G.contains (n-82000000))||(decide (90000000≤n)&&S.contains (n-90000000)))=true):ay P pl [(2000002,oE G S)]:=by
 simp only[ZW] at h1
 obtain⟨⟨⟨⟨a4,a5⟩,a6⟩,a7⟩,a8⟩:=h1
 have hl:∀f A,rY [(2000002,oE G S)] f=some A→(f=2000002∧A=oE G S):=fun f A h=>by
  simp only[rY] at h
  split at h
  ·rename_i e;cases h;exact⟨e.symm,rfl⟩
  ·cases h
 have hok:∀{B L:List Nat} {f:FuncId},(oE B L).OK P f:=fun {B L f}=>⟨fun _ _ _ _ h=>(by cases h),fun I h=>(by cases h),fun I h=>(by
  cases h
  intro R w X ρ r ds vals k _ _ hk
  cases hk)⟩
 refine⟨fun f A h=>?_,fun f A h=>?_,fun f A hc h=>?_,fun f A hc h=>?_,fun f A hc h=>?_,fun h _=>?_,fun s hs=>?_,fun hf=>?_,fun A h=>?_,fun s hs=>?_,fun t ht0 ht=>?_⟩
 ·obtain⟨rfl,rfl⟩:=hl f A h;exact⟨fun he=>(by cases he),hok⟩
 ·obtain⟨rfl,rfl⟩:=hl f A h;exact GT
 ·obtain⟨rfl,rfl⟩:=hl f A h
  rw[a4] at hc;cases hc
 ·obtain⟨rfl,rfl⟩:=hl f A h
  rw[a5] at hc;cases hc
 ·obtain⟨rfl,rfl⟩:=hl f A h
  rw[a6] at hc;cases hc
 ·rw[a8] at h;cases h
 ·have hs:([]:List Nat).contains s=true:=hs
  cases hs
 ·rw[a7] at hf;cases hf
 ·obtain⟨e,_⟩:=hl 2000000 A h
  cases e
 ·have:=jF.1 h5 (90000000+s) (by simpa using hs)
  rw[oB,oB,cS,cS] at this
  rcases this with(h | ⟨h,_⟩) | ⟨_,h⟩
  ·have:=bI h;omega
  ·have:=bI h;omega
  ·have e:90000000+s-90000000=s:=by omega
   rw[e] at h
   exact h
 ·have:=jF.1 h5 (82000000+t) (by simpa using ht)
  rw[oB,oB,cS,cS] at this
  rcases this with(h | ⟨_,h⟩) | ⟨h,_⟩
  ·have:=bI h;omega
  ·have e:82000000+t-82000000=t:=by omega
   rw[e] at h
   exact h
  ·have:=bI h;omega
theorem ay.ky{P:Program}{pl:List Nat}{B L G S:List Nat}(hB:B.isEmpty=false)(h1:(pl.contains 2000000||pl.contains 3000000||pl.contains 6000000||pl.contains 2000002||pl.contains 3000002||pl.contains 6000002||pl.contains 9000002)=false)(h4:L.all (fun s=>pl.contains (20000000+s))=true)
 (h5:pl.all (fun n=>decide (n<82000000)||(decide (n<90000000)&&G.contains (n-82000000))||(decide (90000000≤n)&&S.contains (n-90000000)))=true):ay P pl [(2000000,oE B L),(2000002,oE G S)]:=by
 simp only[ZW] at h1
 obtain⟨⟨⟨⟨⟨⟨a1,a2⟩,a3⟩,a4⟩,a5⟩,a6⟩,a7⟩:=h1
 have hl:∀f A,rY [(2000000,oE B L),(2000002,oE G S)] f=some A→(f=2000000∧A=oE B L)∨(f=2000002∧A=oE G S):=fun f A h=>by
  simp only[rY] at h
  split at h
  ·rename_i e;cases h;exact .inl ⟨e.symm,rfl⟩
  ·split at h
   ·rename_i e;cases h;exact .inr ⟨e.symm,rfl⟩
   ·cases h
 have hok:∀{B L:List Nat} {f:FuncId},(oE B L).OK P f:=fun {B L f}=>⟨fun _ _ _ _ h=>(by cases h),fun I h=>(by cases h),fun I h=>(by
  cases h
  intro R w X ρ r ds vals k _ _ hk
  cases hk)⟩
 refine⟨fun f A h=>?_,fun f A h=>?_,fun f A hc h=>?_,fun f A hc h=>?_,fun f A hc h=>?_,fun _ h=>?_,fun s hs=>?_,fun hf=>?_,fun A h=>?_,fun s hs=>?_,fun t ht0 ht=>?_⟩
 ·rcases hl f A h with⟨rfl,rfl⟩ | ⟨rfl,rfl⟩ <;> exact⟨fun he=>(by cases he),hok⟩
 ·rcases hl f A h with⟨rfl,rfl⟩ | ⟨rfl,rfl⟩ <;> exact GT
 ·rcases hl f A h with⟨rfl,rfl⟩ | ⟨rfl,rfl⟩
  ·rw[a1] at hc;cases hc
  ·rw[a4] at hc;cases hc
 ·rcases hl f A h with⟨rfl,rfl⟩ | ⟨rfl,rfl⟩
  ·rw[a2] at hc;cases hc
  ·rw[a5] at hc;cases hc
 ·rcases hl f A h with⟨rfl,rfl⟩ | ⟨rfl,rfl⟩
  ·rw[a3] at hc;cases hc
  ·rw[a6] at hc;cases hc
 ·have h:B=[]:=h
  subst h
  cases hB
 ·have hs:L.contains s=true:=hs
  exact jF.1 h4 s (by simpa using hs)
 ·rw[a7] at hf;cases hf
 ·rcases hl 2000000 A h with⟨_,rfl⟩ | ⟨e,_⟩
  ·exact⟨_,rfl,fun _ _=>rfl⟩
  ·cases e
 ·have:=jF.1 h5 (90000000+s) (by simpa using hs)
  rw[oB,oB,cS,cS] at this
  rcases this with(h | ⟨h,_⟩) | ⟨_,h⟩
  ·have:=bI h;omega
  ·have:=bI h;omega
  ·have e:90000000+s-90000000=s:=by omega
   rw[e] at h
   exact h
 ·have:=jF.1 h5 (82000000+t) (by simpa using ht)
  rw[oB,oB,cS,cS] at this
  rcases this with(h | ⟨_,h⟩) | ⟨h,_⟩
  ·have:=bI h;omega
  ·have e:82000000+t-82000000=t:=by omega
   rw[e] at h
   exact h
  ·have:=bI h;omega
theorem ay.iw{P:Program}{pl:List Nat}{f:FuncId}{A:Callee}{l:List (FuncId×Callee)}(hc:A.ext=none→E7 P f)(hA:A.OK P f)(hn:A.Nat)(hp:pl.contains f=true→A.Pure)(hq:pl.contains (f+1000000)=true→A.gl)
 (hF:(pl.contains (f+4000000)||pl.contains 9000002)=true→A.dq) (hne:(f==2000000)=false) (hl:ay P pl l) (hne2:(f==2000002)=false:=by kernel_rfl):ay P pl ((f,A)::l):=by
 have hlk:rY ((f,A)::l) 2000000=rY l 2000000:=by
  simp only[rY]
  rw[aA (by intro h;subst h;cases hne)]
 have hqo:EN (rY ((f,A)::l))=EN (rY l):=by
  unfold EN
  rw[hlk]
 have hlo:gN (rY ((f,A)::l))=gN (rY l):=by
  unfold gN
  rw[hlk]
 have hlk2:rY ((f,A)::l) 2000002=rY l 2000002:=by
  simp only[rY]
  rw[aA (by intro h;subst h;cases hne2)]
 have hgs:uI (rY ((f,A)::l))=uI (rY l):=by
  unfold uI
  rw[hlk2]
 have hgt:IR (rY ((f,A)::l))=IR (rY l):=by
  unfold IR
  rw[hlk2]
 refine⟨.cons hc hA hl.mv,fun g B h=>?_,fun g B hg h=>?_,fun g B hg h=>?_,fun g B hg h=>?_,fun hg=>(by rw[hqo];exact hl.pure.2.2.2.1 hg),fun s hs=>(by rw[hlo] at hs;exact hl.pure.2.2.2.2.1 s hs),fun hg g B hg2 h=>?_,fun B h=>?_,fun s hs=>(by rw[hgs];exact hl.pure.2.2.2.2.2.2.2.1 s hs),fun s hs2 hs=>(by rw[hgt];exact hl.pure.2.2.2.2.2.2.2.2 s hs2 hs)⟩
 ·simp only[rY] at h
  split at h
  ·cases h;exact hn
  ·exact hl.nat g B h
 ·simp only[rY] at h
  split at h
  ·rename_i e;cases h;subst e;exact hp hg
  ·exact hl.pure.1 g B hg h
 ·simp only[rY] at h
  split at h
  ·rename_i e;cases h;subst e;exact hq hg
  ·exact hl.pure.2.1 g B hg h
 ·simp only[rY] at h
  split at h
  ·rename_i e;cases h;subst e;exact hF (by rw[hg];rfl)
  ·exact hl.pure.2.2.1 g B hg h
 ·simp only[rY] at h
  split at h
  ·rename_i e;cases h;subst e;exact hF (by rw[hg];exact Bool.or_true _)
  ·exact hl.pure.2.2.2.2.2.1 hg g B hg2 h
 ·rw[hlk] at h
  exact hl.pure.2.2.2.2.2.2.1 B h
theorem ay.cons{P:Program}{pl:List Nat}{f:FuncId}{A:Callee}{l:List (FuncId×Callee)}(hc:A.ext=none→E7 P f)(hA:A.OK P f)(hn:A.Nat)(hp:pl.contains f=true→A.gk)(hq:pl.contains (f+1000000)=false)
 (hF:(pl.contains (f+4000000)||pl.contains 9000002)=true→A.dq) (hne:(f==2000000)=false) (hl:ay P pl l) (hne2:(f==2000002)=false:=by kernel_rfl):ay P pl ((f,A)::l):=
 hl.iw hc hA hn (fun h=>(hp h).pure hn) (fun h=>by rw[hq] at h;cases h) hF hne hne2
theorem ay.qd{P:Program}{pl:List Nat}{L:List Nat}{l:List (FuncId×Callee)}(h1:(pl.contains 2000001||pl.contains 3000001||pl.contains 6000001||pl.contains 9000002)=false)(hl:ay P pl l):ay P pl ((2000001,oE [] L)::l):=by
 simp only[ZW] at h1
 obtain⟨⟨⟨h1,h2⟩,h3⟩,h4⟩:=h1
 refine hl.iw (fun he=>by cases he) ⟨fun _ _ _ _ h=>(by cases h),fun I h=>(by cases h),fun I h=>(by
  cases h
  intro R w X ρ r ds vals k _ _ hk
  cases hk)⟩ GT (fun h=>by rw[h1] at h;cases h) (fun h=>by rw[h2] at h;cases h) (fun h=>by rw[h3,h4] at h;cases h) rfl
def AN(ds:List D):Bool:=ds.all fun d=>match d with
 | .s s=>s.list.all C2
 | .eg _=>false
def Callee.strict(A:Callee):Callee where
 call:=fun args po k=>A.call args po fun rs po'=>if po'.isEmpty&&rs.all (fun s=>s.list.all C2) then k rs po' else none
def Vm(A:Callee):Callee where
 call:=fun _ _ _=>none
 inl:=some ⟨fun st dst ds k=>if AN ds=true then AG A.strict st dst ds k else none⟩
theorem He{P:Program}{f:FuncId}{A:Callee}(h:A.OK P f):A.strict.OK P f:=by
 refine⟨?_,fun I h=>(by cases h),fun I h=>(by cases h)⟩
 intro R args po k r hk
 obtain⟨rs,po',h1,h2⟩:=h.1 args po _ r hk
 split at h1
 ·exact⟨rs,po',h1,h2⟩
 ·cases h1
theorem Bj{A:Callee}(h:A.Nat):A.strict.Nat:=by
 refine⟨?_,fun I h=>(by cases h),fun I h=>(by cases h)⟩
 intro R args po k
 show (A.call args po _)=(A.call args po _).bind _
 refine(h.1 _ _ _).trans (tP ?_ (fG (fun z:Option (List S1×List O)=>z.bind fun p=>k p.1 p.2) (h.1 _ _ _)).symm)
 rw[gD]
 refine fG _ (funext fun p=>?_)
 split <;> rfl
theorem Lc{P:Program}{f:FuncId}{A:Callee}(h:A.OK P f):(Vm A).OK P f:=by
 refine⟨fun _ _ _ _ h=>(by cases h),fun I hI=>?_,fun I h=>(by cases h)⟩
 cases hI
 intro R w0 w F Xc ρ0 ρ st a r dst ds vals k hG hR hlen hd hk
 dsimp only at hk
 split at hk
 ·exact PL hG (He h) hR hlen hd hk
 ·cases hk
theorem Dt{A:Callee}(h:A.Nat):(Vm A).Nat:=by
 refine⟨fun _ _ _=>rfl,fun I hI=>?_,fun I h=>(by cases h)⟩
 cases hI
 intro R st dst ds k
 dsimp only
 split
 ·exact IT (Bj h) st dst ds k
 ·rfl
theorem YF:∀(l:List C),l.all C2=true→(l.flatMap C.ks=[]∧∀(st:St) (j:Nat),rI st [] j [] l=some (l,[]))∧lP [] l=[]
 | [],_=>⟨⟨rfl,fun _ _=>rfl⟩,rfl⟩
 | c::l,h=>by
  simp only[ET,cS] at h
  obtain⟨⟨h1,h2⟩,h3⟩:=YF l h.2
  cases c <;> first
   | (cases h.1;done)
   | (refine⟨⟨by rw[H9,h1];rfl,fun st j=>?_⟩,?_⟩
      ·simp only[rI,List.headD_nil,List.tail_nil,PC,h2]
      ·simp only[lP,List.headD_nil,List.tail_nil,h3]
       rfl)
theorem DD:∀(ss:List S1),zA ss (ss.flatMap S1.list)=ss
 | []=>rfl
 | .c c::l=>by
  show S1.c _::zA l _=_
  simp only[H9,S1.list,List.singleton_append,List.headD_cons,List.tail_cons,DD l]
 | .agg a::l=>by
  show S1.agg _::zA l _=_
  simp only[H9,S1.list,List.take_left',List.drop_left',DD l]
theorem Du:∀(ds:List D),AN ds=true→∃ss,Fr ds=some ss∧(ss.flatMap S1.list).all C2=true
 | [],_=>⟨[],rfl,rfl⟩
 | .s s::l,h=>by
  simp only[AN,ET,cS] at h
  obtain⟨ss,h1,h2⟩:=Du l h.2
  exact⟨s::ss,by simp[Fr,h1],by rw[H9,List.all_append,h.1,h2];rfl⟩
 | .eg _::l,h=>by simp[AN] at h
theorem Bk{s:S1}(h:s.list.all C2=true):JL [] s=some s:=by
 have hc:∀c:C,C2 c=true→AF [] c=some c:=fun c hc=>by cases c <;> first | rfl | (cases hc;done)
 cases s with
 | c c=>simp only[S1.list,ET,ZD,OG] at h;simp[JL,hc c h]
 | agg l=>
  simp only[S1.list] at h
  have:rT (l.map (AF []))=some l:=by
   induction l with
   | nil=>rfl
   | cons c l ih=>
    simp only[ET,cS] at h
    simp only[wO,hc c h.1,rT]
    rw[ih h.2]
    rfl
  simp[JL,this]
theorem TM:∀{rs:List S1},rs.all (fun s=>s.list.all C2)=true→rT (rs.map (JL []))=some rs
 | [],_=>rfl
 | s::rs,h=>by
  simp only[ET,cS] at h
  simp only[wO,Bk h.1,rT]
  rw[TM h.2]
  rfl
theorem J1{R:Type}{A:Callee}(hN:A.Nat){st:St}{dst:Option Nat}{ds:List D}{k:St→D→Option R}(h:AN ds=true):
 AG A.strict st dst ds k=((Fr ds).bind fun ss=>A.call ss [] fun rs po'=>if po'.isEmpty&&rs.all (fun s=>s.list.all C2) then some (JK rs) else none).bind fun d=>k st d:=by
 obtain⟨ss,h1,h2⟩:=Du ds h
 obtain⟨⟨e1,e2⟩,e3⟩:=YF _ h2
 have hk:MS ss=[]:=by
  unfold MS
  have:(ss.flatMap fun s=>s.list.flatMap C.ks)=(ss.flatMap S1.list).flatMap C.ks:=by rw[List.flatMap_assoc]
  rw[this,e1];rfl
 have hkx:∀d,xW d st.ae ss=[]:=fun d=>by
  unfold xW
  rw[hk]
  cases d <;> rfl
 unfold AG
 rw[h1]
 dsimp only
 rw[hkx]
 simp only[IA,rT,List.flatten_nil,ML,wP]
 show (match rI st [] 0 [] (ss.flatMap S1.list) with | none=>none | some (cs,rws)=>_)=_
 rw[e2]
 dsimp only
 simp only[List.filterMap_nil,OV,cK,ZD,ZX,eY,tG]
 have e4:zA ss (ss.flatMap S1.list)=ss:=DD ss
 have e5:lP A.strict.rows (ss.flatMap S1.list)=[]:=e3
 rw[e4,e5]
 show (A.call ss (jZ [] _++[]) _)=_
 simp only[jZ,ML]
 refine(hN.1 _ _ _).trans (tP ?_ (fG (fun z:Option D=>z.bind fun d=>k st d) (hN.1 _ _ _)).symm)
 rw[gD]
 refine fG _ (funext fun p=>?_)
 obtain⟨rs,po'⟩:=p
 dsimp only
 split
 ·rename_i hc
  simp only[cS,K5] at hc
  obtain⟨rfl,hrs⟩:=hc
  simp only[List.isEmpty_nil,ZX,fM,wP,UE,tG]
  by_cases hsc:(rs.all fun s=>s.list.all E8)=true
  ·rw[hsc];rfl
  ·rw[Bool.not_eq_true] at hsc
   rw[hsc]
   simp only[OZ,nL,iD,wP,UE,IA,ML,Nat.sub_zero,IJ,OV,cK,gB,ZX,eY,rT,TM hrs]
   rfl
 ·rfl
theorem GU{A:Callee}(hN:A.Nat):(Vm A).gl:=⟨rfl,fun b q dst ds=>by
 show (if AN ds=true then AG A.strict { b with ae:=q } dst ds _ else none)=(if AN ds=true then AG A.strict b dst ds _ else none).map _
 split
 ·rename_i h
  rw[J1 hN h,J1 hN h]
  cases((Fr ds).bind fun ss=>A.call ss [] fun rs po'=>if po'.isEmpty&&rs.all (fun s=>s.list.all C2) then some (JK rs) else none) <;> rfl
 ·rfl⟩
noncomputable abbrev CE(P:Program)(l:List (FuncId×Callee))(pl:List Nat)(t:HT)(fn:Func)(sg:bt):yK sg.gf.af→Option (yK sg.bx.af):=
 Kf P (rY l) (Kt pl) (VB t fn) fn.results.toList fn.ntmps sg
theorem Bl{P:Program}{l:List (FuncId×Callee)}{pl:List Nat}{f:FuncId}{fn:Func}{t:HT}{sg:bt}{U:yK sg.gf.af→Option (yK sg.bx.af)}(hm:P.follows .mixedOrders=true)
 (hΓ:ay P pl l) (hf:P.funcs[f]?=some fn) (ht:JW t fn=true) (hs:sg.ok fn.ntmps=true) (hU:∀x,CE P l pl t fn sg x=U x):(aE sg U).OK P f:=
 XX hΓ.mv (YE hm hΓ.mv hΓ.nat hΓ.pure) hf (S8 ht) rfl rfl hs fun x q h=>by rw[←hU x] at h;exact h
section
variable {R:Type} (P:Program) (Γ:FuncId→Option Callee) (dok:Array Oper→Bool)
noncomputable def Fm(code:bj)(rv:List ResultVar)(nt:Nat)(st:St)(ds:List D)(k:St→D→Option R):Option R:=
 if ds.length≤nt∧code.flat=true then
  lQ P Γ dok 0 0 0 false code R { np:=st.np,env:=ds++List.replicate (nt-ds.length) D.top,ae:=st.ae } fun e s=>match e with
   | .exit _=>none
   | _=>if s.np=st.np then JV P s rv fun rs=>k { st with ae:=s.ae } (JK rs) else none
 else none
end
section
variable {R:Type} {P:Program} {Γ:FuncId→Option Callee} {dok:Array Oper→Bool}
theorem zO:∀(rv:List ResultVar) {R:Type} (st:St) (k:List S1→Option R),JV P st rv k=(JV P st rv some).bind k
 | [],R,st,k=>rfl
 | .tmp t::rv,R,st,k=>by
  simp only[JV]
  split
  ·refine(zO rv _ _).trans (tP ?_ (fG (fun z:Option (List S1)=>z.bind k) (zO rv _ _)).symm)
   rw[gD];rfl
  ·rfl
 | .cell x t::rv,R,st,k=>by
  simp only[JV]
  refine(C9 _ _ _ _).trans (tP ?_ (fG (fun z:Option (List S1)=>z.bind k) (C9 _ _ _ _)).symm)
  rw[gD]
  refine fG _ (funext fun d=>?_)
  cases d with
  | s s=>
   refine(zO rv _ _).trans (tP ?_ (fG (fun z:Option (List S1)=>z.bind k) (zO rv _ _)).symm)
   rw[gD];rfl
  | eg l=>rfl
theorem nT(hN:∀f A,Γ f=some A→A.Nat){np n m:Nat}:∀(c:bj),c.flat=true→∀{R:Type} (st:St) (k:ee→St→Option R),lQ P Γ dok np n m false c R st k=(lQ P Γ dok np n m false c (ee×St) st fun e s=>some (e,s)).bind fun p=>k p.1 p.2
 | .skip,_,R,st,k=>by simp only[lQ];rfl
 | .ret,_,R,st,k=>by simp only[lQ];rfl
 | .exit id,_,R,st,k=>by simp only[lQ];rfl
 | .label l,_,R,st,k=>by simp only[lQ];rfl
 | .region id ops draw,_,R,st,k=>by
  simp only[lQ]
  split
  ·rw[zR hN,zR hN (k:=fun st=>some (ee.normal,st)),gD];rfl
  ·rfl
 | .seq x y,hf,R,st,k=>by
  have hf':=iC.1 (show (x.flat&&y.flat)=true from hf)
  simp only[lQ]
  refine(nT hN x hf'.1 _ _).trans (tP ?_ (fG (fun z:Option (ee×St)=>z.bind fun p=>k p.1 p.2) (nT hN x hf'.1 _ _)).symm)
  rw[gD]
  refine fG _ (funext fun p=>?_)
  obtain⟨e,s⟩:=p
  cases e with
  | normal=>exact nT hN y hf'.2 s k
  | exit id=>rfl
  | ret=>rfl
 | .cond c x y,hf,R,st,k=>by
  have hf':=iC.1 (show (x.flat&&y.flat)=true from hf)
  simp only[lQ]
  simp only[Kc]
  rw[QC,QC (R:=ee×St),gD]
  refine fG _ (funext fun q=>?_)
  cases q with
  | true=>exact nT hN x hf'.1 st k
  | false=>exact nT hN y hf'.2 st k
 | .block id x,hf,R,st,k=>by
  simp only[lQ]
  refine(nT hN x hf _ _).trans (tP ?_ (fG (fun z:Option (ee×St)=>z.bind fun p=>k p.1 p.2) (nT hN x hf _ _)).symm)
  rw[gD]
  refine fG _ (funext fun p=>?_)
  obtain⟨e,s⟩:=p
  cases e with
  | normal=>rfl
  | exit j=>dsimp only;split <;> rfl
  | ret=>rfl
 | .scope x,hf,R,st,k=>by
  simp only[lQ]
  exact nT hN x hf st k
 | .loop _ _ _,hf,_,_,_=>by simp[bj.flat] at hf
 | .join _ _,hf,_,_,_=>by simp[bj.flat] at hf
 | .kr i x,hf,R,st,k=>by
  simp only[lQ]
  have hx:x.flat=true:=hf
  clear hf
  induction i generalizing st with
  | zero=>rfl
  | succ i ih=>
   simp only[Kb]
   refine(nT hN x hx _ _).trans (tP ?_ (fG (fun z:Option (ee×St)=>z.bind fun p=>k p.1 p.2) (nT hN x hx _ _)).symm)
   rw[gD]
   refine fG _ (funext fun p=>?_)
   obtain⟨e,s⟩:=p
   cases e with
   | normal=>exact ih s
   | exit j=>rfl
   | ret=>rfl
theorem Jg(hN:∀f A,Γ f=some A→A.Nat)(code:bj)(rv:List ResultVar)(nt:Nat)(st:St)(ds:List D)(k:St→D→Option R):
 Fm P Γ dok code rv nt st ds k=(Fm P Γ dok code rv nt st.bare ds fun s d=>some (s.ae,d)).bind fun p=>k { st with ae:=p.1 } p.2:=by
 unfold Fm
 split
 ·rename_i hc
  refine(nT hN code hc.2 _ _).trans (tP ?_ (fG (fun z:Option (List O×D)=>z.bind fun p=>k { st with ae:=p.1 } p.2) (nT hN code hc.2 _ _)).symm)
  rw[gD]
  refine fG _ (funext fun p=>?_)
  obtain⟨e,s⟩:=p
  have key:(if s.np=st.np then JV P s rv fun rs=>k { st with ae:=s.ae } (JK rs) else none)=(if s.np=st.bare.np then JV P s rv fun rs=>some (({ st.bare with ae:=s.ae }:St).ae,JK rs) else none).bind fun p=>k { st with ae:=p.1 } p.2:=by
   have hnp:st.bare.np=st.np:=rfl
   rw[hnp]
   split
   ·refine(zO _ _ _).trans (tP ?_ (fG (fun z:Option (List O×D)=>z.bind fun p=>k { st with ae:=p.1 } p.2) (zO _ _ _)).symm)
    rw[gD]
    rfl
   ·rfl
  cases e with
  | exit id=>rfl
  | normal=>exact key
  | ret=>exact key
 ·rfl
theorem ey.res{w:World}{X:Nat→Prop}{ρ:nP}{rs:List S1}{v:Value}(h:ey w X ρ rs v):bc w X ρ (JK rs) v:=by
 match rs with
 | [s]=>exact h
 | []=>exact h
 | s1::s2::l=>exact h
theorem Oo{f:FuncId}{fn:Func}{code:bj}(hΓ:jc P Γ)(hD:U8 P Γ dok)(hf:P.funcs[f]?=some fn)(hb:fn.body=some code.code):
 me.OK P f ⟨fun st _ ds k=>Fm P Γ dok code fn.results.toList fn.ntmps st ds k⟩:=by
 intro R w0 w F Xc ρ0 ρ st a r dst ds vals k hG h hlen hd hk
 dsimp only at hk
 unfold Fm at hk
 split at hk
 case isFalse=>cases hk
 rename_i hc
 obtain⟨hdl,hflat⟩:=hc
 let ρ1:cq:=⟨ρ0.dw,((List.range st.env.length).map fun i=>(st.env.getD i D.top,a.tmps.getD i undef))++ρ0.ex⟩
 have hR:Rel w0 F Xc ρ1 ρ { np:=st.np,env:=ds++List.replicate (fn.ntmps-ds.length) D.top,ae:=st.ae } { tmps:=vals.toArray++Array.replicate (fn.ntmps-vals.toArray.size) undef,defers:=[] } w:=by
  refine⟨by simp[hlen],fun i d y h1 h2=>?_,h.ae,h.sep,h.own,h.par,rfl,h.frame,h.jm,h.xc,fun p hp=>?_⟩
  ·rw[rR] at h1
   split at h1
   ·rename_i hi
    rw[Array.getElem?_append_left (by simp;omega)] at h2
    exact hd i d y h1 (by simpa using h2)
   ·rw[KZ] at h1
    split at h1
    ·cases h1;exact .top_ y
    ·cases h1
  ·rcases fL.1 hp with hp | hp
   ·obtain⟨i,hi,rfl⟩:=kZ.1 hp
    have hil:=uM.1 hi
    have hit:i<a.tmps.size:=by rw[h.len];exact hil
    dsimp only
    rw[jY,dH hil,MJ,uV hit]
    exact h.env i _ _ (dH hil) (uV hit)
   ·exact h.ext p hp
 refine calls_of_wp hf hb (pH hΓ hD hG code (.inr hflat) R r hR hk fun ρ' s a' w' e hR' hk'=>?_)
 have key:(if s.np=st.np then JV P s fn.results.toList fun rs=>k { st with ae:=s.ae } (JK rs) else none)=some r→a'.defers=[]∧∃v,(results fn a'.tmps).run P w'=.ok v w' ∧
  ∃v' ρ' st' d,Ending.returned v=.returned v'∧Rel w0 F Xc ρ0 ρ' st' a w'∧bc w' (XB st'.ae ρ' Xc) ρ' d v'∧k st' d=some r:=by
  intro hk2
  split at hk2
  case isFalse=>cases hk2
  rename_i hnp
  refine⟨hR'.defers,?_⟩
  obtain⟨rs,vs,p1,p2,p3,p4⟩:=NZ hR' _ _ hk2
  refine⟨(if h:vs.toArray.size=1 then vs.toArray[0] else .tuple vs.toArray),?_,_,ρ',{ st with ae:=s.ae },JK rs,rfl,?_,?_,p1⟩
  ·unfold results
   rw[Sem.run_bind,ZN,Sem.run_map]
   exact fG (fun z:Result (List Value)=>(z.andThen fun l w'=>(Result.ok l.toArray w':Result (Array Value))).andThen fun vs w'=>
    (pure (if h:vs.size=1 then vs[0] else .tuple vs):Sem Value).run P w') p4
  ·refine⟨h.len,fun i d y h1 h2=>?_,hR'.ae,hR'.sep,hR'.own,fun j hj=>?_,h.defers,hR'.frame,hR'.jm,hR'.xc,fun p hp=>hR'.ext p (fL.2 (.inr hp))⟩
   ·have hil:i<st.env.length:=(dL.1 h1).1
    have:=hR'.ext (st.env.getD i D.top,a.tmps.getD i undef) (fL.2 (.inl (kZ.2 ⟨i,uM.2 hil,rfl⟩)))
    dsimp only at this
    rw[jY,h1,MJ,h2] at this
    exact this
   ·exact hR'.par j (by rw[hnp];exact hj)
  ·exact(Rj p2).res
 cases e with
 | normal=>exact key hk'
 | ret=>exact key hk'
 | exit id=>cases hk'
end
noncomputable def Sl(P:Program)(l:List (FuncId×Callee))(pl:List Nat)(fn:Func)(t:HT:=.leaf):Callee where
 call:=fun _ _ _=>none
 inl:=some ⟨fun st _ ds k=>Fm P (rY l) (Kt pl) (VB t fn) fn.results.toList fn.ntmps st ds k⟩
theorem Oq{P:Program}{l:List (FuncId×Callee)}{pl:List Nat}{f:FuncId}{fn:Func}{t:HT}(hm:P.follows .mixedOrders=true)(hΓ:ay P pl l)(hf:P.funcs[f]?=some fn)(ht:JW t fn=true):(Sl P l pl fn t).OK P f:=
 ⟨fun _ _ _ _ h=>(by cases h),fun I h=>(by
  cases h
  exact Oo hΓ.mv (YE hm hΓ.mv hΓ.nat hΓ.pure) hf (S8 ht)),fun I h=>(by cases h)⟩
theorem Jh{P:Program}{l:List (FuncId×Callee)}{pl:List Nat}{fn:Func}{t:HT}(hΓ:ay P pl l):(Sl P l pl fn t).Nat:=
 ⟨fun _ _ _=>rfl,fun I h=>(by
  cases h
  intro R st dst ds k
  exact Jg hΓ.nat _ _ _ st ds k),fun I h=>(by cases h)⟩
theorem Ji{P:Program}{f:FuncId}{A:Callee}(h:A.OK P f):(Jm A).OK P f:=h
theorem Fo{A:Callee}(h:A.Nat):(Jm A).Nat:=h
open Go.RowKit
theorem Fs{P:Program}{f:FuncId}{A:Callee}(hA:A.OK P f){args:List S1}{b:Bool}(hcall:(A.call args [] fun rs po=>some (rs,po))=some ([.c (.t (.v (.bool b)))],[])){W:World}(hG:Good P W (fun _=>False)){vals:List Value}
 (hargs:cz W (fun _=>False) (fun _=>none) args vals):Calls P f vals.toArray W fun e W'=>e=.returned (.bool b)∧Below W.heap.size W W':=by
 obtain⟨rs,po',h1,h2⟩:=hA.1 args [] _ _ hcall
 simp only[cG,xR] at h1
 obtain⟨e1,e2⟩:=h1
 subst e1;subst e2
 have hX:∀b,¬XB [] (fun _=>none) (fun _=>False) b:=fun b hh=>hh.elim (fun⟨k,o,v,h1,_⟩=>by simp at h1) id
 have hm:∀b,¬AZ [] (fun _=>none) b:=fun b ⟨k,o,v,h1,_⟩=>by simp at h1
 refine(h2 W (fun _=>False) (fun _=>none) vals (fun k o h=>by simp at h) (fun k k' b ⟨o,v,h1,_⟩=>by simp at h1) (fun _ h=>h.elim) (fun _ _ h=>h)
  (fun g k hg=>⟨fun hh=>hm g hh,(hG g k hg).2⟩) (hargs.step (cg.refl (fun _=>False) W) (fun _ h=>h.elim) (fun b hb=>(hX b hb).elim) (.refl _))).mono fun e w' ⟨v,ρ',he,hs,_,_,_,_,_,hr⟩=>?_
 have hv:v=.bool b:=by
  rcases hr with hr | ⟨hr,_⟩
  ·cases hr
  ·exact Rd.cr hr
 subst hv
 exact⟨he,hs.below hm⟩
theorem PE{P:Program}{W:World}(h:W.ShapedOpen P)(F:Nat→Prop)(hF:∀b,¬F b):Good P W F:=fun g k ⟨t,zero,h1,h2,h3,h4,h5,h6⟩=>
 ⟨hF g,Go.Proofs.cell_of_shapedOpen_int h h1 h2 h3 h4 h5 h6⟩
theorem fQ{n:Int}(h1:-9223372036854775808≤n)(h2:n≤9223372036854775807):wr .i64 n=n:=by unfold wr;exact IntWalk.i64_in n ⟨h1,h2⟩
@[simp] theorem aS(a b:Int):cF a b=a+b:=by unfold cF;rfl
@[simp] theorem nI(a b:Int):pE a b=a-b:=by unfold pE;rfl
@[simp] theorem vI(a b:Int):uC a b=a*b:=by unfold uC;rfl
@[simp] theorem vJ(a b:Int):A1 a b=a.tdiv b:=by unfold A1;rfl
@[simp] theorem qG(a b:Int):uD a b=a.tmod b:=by unfold uD;rfl
@[simp] theorem aH(a b:Int):dJ a b=decide (a=b):=by unfold dJ;rfl
@[simp] theorem aP(a b:Int):nQ a b=decide (a<b):=by unfold nQ;rfl
@[simp] theorem gI(a b:Int):A5 a b=decide (a≤b):=by unfold A5;rfl
@[simp] theorem PR(a b:Bool):Is a b=(a==b):=by unfold Is;rfl
@[simp] theorem Cy(a b:Bool):xT a b=(a&&b):=by unfold xT;rfl
theorem S3{b:Int}(h:b≠0):nz b=some b:=by unfold nz;rw[aA h]
@[simp] theorem bD{α R:Type}(a:α)(k:α→Option R):ob (some a) k=k a:=rfl
@[simp] theorem bC{α β R:Type}(x:α)(f:α→Option R)(g:β→Option R):gG (.inl x:α⊕β) f g=f x:=rfl
@[simp] theorem xX{α β R:Type}(x:β)(f:α→Option R)(g:β→Option R):gG (.inr x:α⊕β) f g=g x:=rfl
@[simp] theorem Jv(k:IntKind)(n:Int):T.int? k (.v (.int k n))=some n:=by simp[T.int?]
@[simp] theorem Ta(b:Bool):T.bool? (.v (.bool b))=some b:=rfl
@[simp] theorem Jw(k:IntKind)(n:Int):T.ak (.v (.int k n))=some n:=rfl
@[simp] theorem XO(x:Value):T.cell (.v x) 0=.v x:=rfl
@[simp] theorem Gc(k:Nat)(l:List T):T.cell (.sl k l) 0=.sl k l:=rfl
@[simp] theorem Xl(k:Nat)(l:List T):T.im k (.sl k l)=some l:=by
 unfold T.im
 split
 ·rename_i h;cases h
 ·rename_i h;cases h;simp
 ·rename_i h;exact(h _ _ rfl).elim
@[simp] theorem Jx(x y:Value):T.ax 1 (.v x) 0 [.v y]=.v y:=by unfold T.ax;rfl
@[simp] theorem Pa(k:Nat)(l:List T)(h:k<1000000000):T.kf k (.sl k l)=some l:=(aC h).trans (Xl k l)
@[simp] theorem jK{α:Type}(l:List α):aI l=(l.length:Int):=by unfold aI;rfl
theorem AI{α:Type}(l:List α)(i:Nat):dA l (i:Int)=l[i]?:=by unfold dA;simp
theorem aF{n:Int}{i:Nat}(h:(i:Int)<n):aZ n (i:Int)=some i:=by unfold aZ;rw[aC ⟨by omega,h⟩];simp
theorem Jy{n i:Int}(h0:0≤i)(h:i<n):aZ n i=some i.toNat:=by unfold aZ;rw[aC ⟨h0,h⟩]
@[simp] theorem aY{α:Type}(l:List α)(i:Nat):aX l i=l[i]?:=by unfold aX;rfl
theorem rJ{α:Type}{l m:List α}{b:Nat}(h:(l.length+m.length)*b≤140737488355328)(hb:0<b):qE l m b=some (l++m):=by
 unfold qE
 have:l.length+m.length≤(l.length+m.length)*b:=Nat.le_mul_of_pos_right _ hb
 rw[aC ⟨by unfold maxLen;omega,h⟩]
@[simp] theorem GP{α:Type}(n:Nat)(x:α):EL n x=List.replicate n x:=by unfold EL;rfl
theorem AJ{l c:Int}{b:Nat}(h0:0≤l)(h1:l≤c)(h2:(b:Int)*c≤281474976710656)(hb:0<b):vA l c b=some (l.toNat,c.toNat):=by
 unfold vA
 have:c≤(b:Int)*c:=by
  have h:(1:Int)*c≤(b:Int)*c:=Int.mul_le_mul_of_nonneg_right (by omega) (by omega)
  omega
 rw[aC ⟨h0,h1,h2,by unfold maxLen;omega⟩]
abbrev Bs:=List UInt8
def bs(l:Bs):ByteArray:=⟨l.toArray⟩
section
variable {S E:Type} {F:S→Option (S⊕E)}
theorem xY{s s':S}(h:F s=some (.inl s')):bU F s=bU F s':=by rw[XV,h]
theorem bK{s:S}{e:E}(h:F s=some (.inr e)):bU F s=some e:=by rw[XV,h]
theorem bX(n:Nat)(st:Nat→S)(h:∀k,k<n→F (st k)=some (.inl (st (k+1)))):bU F (st 0)=bU F (st n):=by
 induction n with
 | zero=>rfl
 | succ n ih=>rw[ih fun k hk=>h k (by omega),xY (h n (by omega))]
theorem Gd(I:S→Prop)(μ:S→Nat)(Q:E→Prop)(h:∀s,I s→(∃s',F s=some (.inl s')∧I s'∧μ s'<μ s)∨∃e,F s=some (.inr e)∧Q e):∀s,I s→∃e,bU F s=some e∧Q e:=by
 have key:∀n s,μ s≤n→I s→∃e,bU F s=some e∧Q e:=by
  intro n
  induction n with
  | zero=>
   intro s hn hI
   rcases h s hI with⟨s',_,_,h3⟩ | ⟨e,h1,h2⟩
   ·omega
   ·exact⟨e,bK h1,h2⟩
  | succ n ih=>
   intro s hn hI
   rcases h s hI with⟨s',h1,h2,h3⟩ | ⟨e,h1,h2⟩
   ·rw[xY h1];exact ih s' (by omega) h2
   ·exact⟨e,bK h1,h2⟩
 exact fun s hI=>key _ s (gB _) hI
end
open Go.RowKit Go.ChangeShapes Go.WideShapes
theorem HP{H:Type}{oF:TypeId×Value→H}{P:Program}(hl:laidOutB P=true){W W':World}(hb:Below W.heap.size W W'):∀(ts:List TypeId) (vs:List Value) (ds:List (DataW H)) (p:List MemPlace),
 (∀t∈ts,P.readableRec t=true∧t<P.types.size)→DataW.TrodAll oF P W 0 (fun _=>true) true ts vs ds p→(∀x∈p,x.block<W.heap.size) →
 DataW.TrodAll oF P W' 0 (fun b=>decide (b<W.heap.size)) true ts vs ds p
 | [],vs,ds,p,_,h,_=>by
  obtain⟨rfl,rfl,rfl⟩:=trodAll_nil h
  exact trodAll_mk0
 | t::ts,vs,ds,p,hr,h,hp=>by
  obtain⟨v,vs',d,ds',q,r,rfl,rfl,rfl,h1,h2⟩:=trodAll_cons h
  obtain⟨r1,r2⟩:=hr t (by simp)
  exact⟨q,r,Below.trod hl r1 r2 h1 hb fun x hx=>hp x (fL.2 (.inl hx)),HP hl hb ts vs' ds' r (fun t' ht=>hr t' (by simp[ht])) h2 fun x hx=>hp x (fL.2 (.inr hx)),rfl⟩
theorem At{C:Checked}{os:Os}{f:FuncId}{fn:Func}{s:ChangeSpec}{conds:List PathCond}{tb:TypeId}{H:Type}{oF:TypeId×Value→H}
 (own:ownKnob C.prog.godebug=none) (started:os.Started) (noInit:C.prog.inits.idxOf? f=none) (hfn:C.prog.funcs[f]?=some fn) (hl:laidOutB C.prog=true)
 (hread:fn.params.toList.all (fun t=>C.prog.readableRec t&&decide (t<C.prog.types.size))=true) (hres:fn.resultTypes=#[tb]) (hb:C.prog.underlying tb=some .bool)
 (hvars:s.vars=[]) (hspec:∀ds:List (DataW H),ds.length=fn.params.size→s.fn H ds={ results:=[.lit (.bool true)],args:=ds })
 (witness:∃(w:World) (tape:Tape) (i:Input),w.os=os∧(w.forCall tape i).Shaped C.prog∧i.vars=[]∧Input.okWide C.prog (w.forCall tape i) .any w.heap.size f i ∧
  s.pre6 oF C.prog fn conds false (w.forCall tape i).memory i.args∧Assume.holds {} C.prog (lone (Frame.enter C.prog f i.args .normal) [] (w.forCall tape i)))
 (law:∀(W:World) (base:Nat) (args:Array Value) (ds:List (DataW H)) (p:List MemPlace),(∀(j:Nat) t v,fn.params[j]?=some t→args[j]?=some v→Value.okWide C.prog W .any base t v) →
  DataW.TrodAll oF C.prog W 0 (fun _=>true) true fn.params.toList args.toList ds p→W.ShapedOpen C.prog →
  Calls C.prog f args W fun e W'=>e=.returned (.bool true)∧Below W.heap.size W W'):
 ReturnsInHanded {} C os f .any (s.pre6 oF C.prog fn conds false) (s.post oF C.prog fn false true false false):=by
 refine returnsInHanded_of_change_shaped own started noInit hfn witness ?_
 intro W base args ds gs before hval hW _ _ hsh _
 have hW':=hW
 obtain⟨p,q,hA,hV,rfl,_,_⟩:=hW
 rw[hvars] at hV
 obtain⟨rfl,rfl⟩:=trodVars_none hV
 rw[ML] at hW'
 have hlt:∀x∈p,x.block<W.heap.size:=fun x hx=>hW'.lt x hx
 have hlen:∀(ts:List TypeId) (vs:List Value) (ds:List (DataW H)) (p:List MemPlace),DataW.TrodAll oF C.prog W 0 (fun _=>true) true ts vs ds p→ds.length=ts.length:=by
  intro ts
  induction ts with
  | nil=>intro vs ds p h;obtain⟨_,rfl,_⟩:=trodAll_nil h;rfl
  | cons t ts ih=>intro vs ds p h;obtain⟨v,vs',d,ds',q,r,rfl,rfl,rfl,h1,h2⟩:=trodAll_cons h;simp[ih _ _ _ h2]
 have hds:=hspec ds (by rw[hlen _ _ _ _ hA];simp)
 refine(law W base args ds p hval hA hsh).mono fun e W' ⟨he,hbel⟩=>?_
 subst he
 refine⟨_,rfl,ds,[],p,[],p,[],hW',?_,?_,?_,hbel.frame _,fun h=>by cases h⟩
 ·rw[ML,hds,hres]
  exact trodAll_mk1 (shut_bool hb _)
 ·rw[ML,hds]
  exact HP hl hbel _ _ _ _ (fun t ht=>by simpa using jF.1 hread t ht) hA hlt
 ·rw[ML,hds,hvars];rfl
theorem Ph{H:Type}{oF:TypeId×Value→H}{P:Program}{W:World}{t e:TypeId}{v:Value}{d:DataW H}{p:List MemPlace}{r:Reach}{base:Nat}(ht:P.underlying t=some (.slice e))(he:P.underlying e=some (.int .i64))(hc:P.cellsOf e=1)
 (hval:Value.okWide P W r base t v) (h:DataW.Trod oF P W 0 (fun _=>true) true t v d p):∃zs:List Int,en W (fun _=>False) (fun _=>none) (.c (.t (.sl 1 (zs.map fun z=>T.v (.int .i64 z))))) v:=by
 obtain⟨a0,len,cap,rfl⟩:=okWide_slice ht hval
 obtain⟨fuel,hf⟩:=h
 rcases open_ints ht he hc hf with⟨hcs,hx⟩ | ⟨a,len',cap',zs,hcs,_,hl,hm,hz,hx,hcell,hwz⟩
 ·have hv:Value.slice a0 len cap=.slice none 0 0:=by simpa[Value.cells] using hcs
  rw[hv]
  exact⟨[],.inr ⟨.nil 1 (by decide),rfl⟩⟩
 ·have hv:Value.slice a0 len cap=.slice (some a) len' cap':=by simpa[Value.cells] using hcs
  rw[hv]
  have hzl:zs.length=cap':=by simpa using hz
  have hfl:∀l:List Int,flat (l.map fun z=>T.v (.int .i64 z))=l.map fun z=>T.v (.int .i64 z):=fun l=>by
   induction l with
   | nil=>rfl
   | cons z l ih=>rw[wO,qW,ih];rfl
  refine⟨zs.take len',.inr ⟨?_,rfl⟩⟩
  have key:=Rd.sl (w:=W) (X:=fun _=>False) 1 ((zs.take len').map fun z=>T.v (.int .i64 z)) a cap' ((zs.take len').map fun z=>.int .i64 z) (by decide) (by simp;omega) hm
   (fun t ht=>by obtain⟨z,_,rfl⟩:=kZ.1 ht;rfl) (by rw[hfl];simp)
   (fun i y hi=>by
    rw[fF] at hi
    obtain⟨z,hz1,rfl⟩:=I4.1 hi
    rw[pT] at hz1
    split at hz1
    ·obtain⟨h1,rfl⟩:=dL.1 hz1
     refine⟨?_,fun h=>h,rfl⟩
     rw[hcell i h1,jY,dH h1];rfl
    ·cases hz1)
   (fun i t y h1 h2=>by
    rw[hfl,fF] at h1
    rw[fF] at h2
    obtain⟨z,hz1,rfl⟩:=I4.1 h1
    obtain⟨z',hz2,rfl⟩:=I4.1 h2
    rw[hz1] at hz2;cases hz2
    exact .v _)
  have hln:((zs.take len').map fun z=>T.v (.int .i64 z)).length=len':=by simp;omega
  rw[hln] at key
  exact key
theorem Kh{W:World}{X:Nat→Prop}{ρ:nP}{s:S1}{v:Value}(h:en W X ρ s v):cz W X ρ [s] [v]:=cz.cons h ⟨rfl,fun i s y h=>by cases h⟩
section
variable (P:Program)
variable {H:Type}
end
theorem dp.mr{w:World}{X:Nat→Prop}:dp w X [] []:=⟨rfl,fun i t y h=>by simp at h⟩
theorem dp.mh{w:World}{X:Nat→Prop}{t:T}{y:Value}(h:Rd w X t y)(h1:y.oneCell'=true):dp w X [t] [y]:=⟨rfl,fun i t' y' e1 e2=>by
 cases i with
 | zero=>simp at e1 e2;subst e1;subst e2;exact⟨h,h1⟩
 | succ i=>simp at e1⟩
section
variable {H:Type} {oF:TypeId×Value→H} {P:Program} {w:World}
end
open Go.RowKit Go.ChangeShapes Go.WideShapes
abbrev Vg:=List T×List T×Unit
abbrev oY:=Int×Int×Vg
abbrev uG:=Int×Int×oY
abbrev vD:=T×T×oY
abbrev Ye:=Unit×oY
abbrev RS:=Unit×uG
abbrev I6:Sh:=.int .i64
def HT.l(x:HT):HT:=.seq .leaf x
theorem ay.cs{P:Program}{pl:List Nat}{f:FuncId}{sg:bt}{U:yK sg.gf.af→Option (yK sg.bx.af)}{fn:Func}{l:List (FuncId×Callee)}(hf:P.funcs[f]?=some fn)(hA:(aE sg U).OK P f)(hl:ay P pl l)
 (h1:fn.body.isSome=true:=by kernel_rfl) (h2:(fn.name == "runtime.NumGoroutine")=false:=by kernel_rfl) (h3:((!pl.contains f||VL sg)&&(!pl.contains (f+1000000)&&(!(f==2000000)&&!(f==2000002))))=true:=by kernel_rfl):ay P pl ((f,aE sg U)::l):=by
 simp only[cS,OY] at h3
 obtain⟨a,b,c,d⟩:=h3
 refine ay.cons (fun _=>⟨fn,hf,h1,h2⟩) hA (mF _ _) (fun h=>?_) b (fun _=>VJ (mF _ _) rfl rfl) c hl d
 rw[h] at a
 exact SE (by simpa using a)
theorem qX{P:Program}(hm:P.follows .mixedOrders=true){l:List (FuncId×Callee)}(pl:List Nat){f:FuncId}{fn:Func}(t:HT){sg:bt}{U:yK sg.gf.af→Option (yK sg.bx.af)}
 (hΓ:ay P pl l) (hf:P.funcs[f]?=some fn) (hU:∀x,CE P l pl t fn sg x=U x:=by intro x;kernel_rfl) (ht:JW t fn=true:=by kernel_rfl) (hs:sg.ok fn.ntmps=true:=by kernel_rfl):(aE sg U).OK P f:=
 Bl hm hΓ hf ht hs hU
end Go.Eng
