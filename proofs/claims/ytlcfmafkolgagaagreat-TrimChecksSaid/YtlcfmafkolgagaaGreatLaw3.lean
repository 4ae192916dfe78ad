/- The functions and the laws of this seat in plain words; each statement names its conditions. -/
import Derived.Test.YtlcfmafkolgagaaGreatLaw2
import Derived.Test.YtlcfmafkolgagaaGreatLaw
import Derived.Test.YtlcfmafkolgagaaGreatEng3
set_option linter.unusedSimpArgs false
set_option linter.unusedVariables false
namespace Go.Eng.Nst
open Go.Eng Go.Eng.Tw Go.Eng.Tm Go.Eng.Tg Go.Eng.Rt
theorem IV{l:List Z}(h:Bx l):(gQ l).natAbs<2147483648:=by
 have hb:=ZP (l:=l) (fun p hp=>by have:=h.2.1 p hp;exact⟨by omega,by omega⟩)
 have h2:=h.1
 omega
theorem TU{l:List Z}(h:Bx l):∃x y z,fC (l.map wT,())=some (x,y,z,())∧lF (x,y,z,())=some (aM (((gQ l).natAbs:Int):Rat),aU (((gQ l).natAbs:Int):Rat),aY (((gQ l).natAbs:Int):Rat),()):=by
 have e:=Cw (l:=l) (fun p hp=>by have:=h.2.1 p hp;exact⟨by omega,by omega⟩) h.1
 refine⟨_,_,_,e,?_⟩
 have c:=DV (kP (n:=gQ l) (IV h)).fit
 have h1:aM (((gQ l).natAbs:Int):Rat)=false:=by unfold aM;rw[Rat.num_intCast];exact decide_eq_false (by omega)
 have h2:aU (((gQ l).natAbs:Int):Rat)=aU (gQ l:Rat):=by unfold aU;rw[Rat.num_intCast,Rat.num_intCast,Int.natAbs_natCast]
 have h3:aY (((gQ l).natAbs:Int):Rat)=aY (gQ l:Rat):=by unfold aY;rw[Rat.den_intCast,Rat.den_intCast]
 unfold lF
 simp only[c,bC,h1,h2,h3]
theorem cmpN(a b:Nat):kO ((a:Int):Rat) ((b:Int):Rat)<0↔a<b:=by
 unfold kO
 simp only[Rat.intCast_lt_intCast,Rat.intCast_inj]
 repeat' split
 all_goals omega
def bT(o:Option Nat):T:=.v (.int .i64 (Z9 o))
section
variable {ls:List (List Z)} (hB:A6 ls) (hm:ls.length≤1000)
include hB hm
omit hm in
theorem Vb(o A:List T)(n i:Int)(L:List Nat)(hL:∀j∈L,j<ls.length)(hl:L.length≤1000):
 aI jE (ls.map lT,o,(-1:Int),n,i,L.map tM,(L.length:Int),(0:Int),())=some (.inl (ls.map lT,o,Z9 (L.foldl (kT ls) none),n,i,())):=by
 have inv:∀k,k≤L.length→∀b,(L.take k).foldl (kT ls) none=some b→b<ls.length:=fun k _ b hb=>by
  obtain⟨p1,_,_⟩:=(KF (ls:=ls) (L.take k) none).2 b hb
  exact hL b (List.mem_of_mem_take (p1.resolve_left (by intro c;cases c)))
 have lp:=eQ (F:=jE) L.length (fun k=>(ls.map lT,o,Z9 ((L.take k).foldl (kT ls) none),n,i,L.map tM,(L.length:Int),(k:Int),())) fun k hk=>by
  have wk:wr .i64 ((k:Int)+1)=((k+1:Nat):Int):=by rw[dK (by omega) (by omega)];push_cast;rfl
  have hj:=hL L[k] (List.getElem_mem hk)
  have g:bG (L.map tM) (k:Int)=some (tM L[k]):=by rw[bY,List.getElem?_map,List.getElem?_eq_getElem hk];rfl
  have a:T.anyInt? (T.cell (tM L[k]) 0)=some (L[k]:Int):=rfl
  have a2:T.int? .i64 (T.cell (tM L[k]) 0)=some (L[k]:Int):=by unfold tM;simp
  have st:(L.take (k+1)).foldl (kT ls) none=kT ls ((L.take k).foldl (kT ls) none) L[k]:=by
   rw[List.take_add_one,List.getElem?_eq_getElem hk,List.foldl_append];rfl
  have iv:=inv k (by omega)
  have ga:=(eA (ls:=ls) (i:=L[k]) hj).1
  obtain⟨x,y,z,e1,e2⟩:=TU (hB _ (bO hj))
  have sa:Sm (((gQ (bH ls L[k])).natAbs:Int):Rat):=kP (by have:=IV (hB _ (bO hj));omega)
  rw[st]
  generalize (L.take k).foldl (kT ls) none=ob' at *
  cases ob' with
  | none=>
   unfold jE
   simp only[aF,decide_eq_true (by omega:(k:Int)<(L.length:Int)),cond_true,g,bC,Z9,decide_eq_true (by omega:(-1:Int)<0),a2,aN,aJ,wk,kT]
  | some b=>
   have hb:=iv b rfl
   have gb:=(eA (ls:=ls) (i:=b) hb).1
   obtain⟨x',y',z',e1',e2'⟩:=TU (hB _ (bO hb))
   have sb:Sm (((gQ (bH ls b)).natAbs:Int):Rat):=kP (by have:=IV (hB _ (bO hb));omega)
   unfold jE
   simp only[aF,decide_eq_true (by omega:(k:Int)<(L.length:Int)),cond_true,g,bC,Z9,decide_eq_false (by omega:¬(b:Int)<0),cond_false,a,ga,B4,e1,e2,gb,e1',e2',FR sa sb,kT]
   by_cases hlt:(gQ (bH ls L[k])).natAbs<(gQ (bH ls b)).natAbs
   ·rw[if_pos hlt,decide_eq_true ((cmpN _ _).2 hlt)]
    simp only[cond_true,a2,bC,aN,aJ,wk]
   ·rw[if_neg hlt,decide_eq_false fun c=>hlt ((cmpN _ _).1 c)]
    simp only[cond_false,bC,aN,aJ,wk]
 have hout:jE (ls.map lT,o,Z9 ((L.take L.length).foldl (kT ls) none),n,i,L.map tM,(L.length:Int),(L.length:Int),())=some (.inr (.inl (ls.map lT,o,Z9 (L.foldl (kT ls) none),n,i,()))):=by
  unfold jE
  simp only[aF,decide_eq_false (by omega:¬(L.length:Int)<(L.length:Int)),cond_false,List.take_length]
 rw[aO hout] at lp
 exact lp
theorem Qh(h0:∀l∈ls,0<l.length):aI lG (ls.map lT,[],(ls.length:Int),(0:Int),())=some (.inl ((List.range ls.length).map fun i=>bT (sG ls i),())):=by
 have lp:=eQ (F:=lG) ls.length (fun k=>(ls.map lT,((List.range k).map fun i=>bT (sG ls i),(ls.length:Int),(k:Int),()))) fun k hk=>by
  have wk:wr .i64 ((k:Int)+1)=((k+1:Nat):Int):=by rw[dK (by omega) (by omega)];push_cast;rfl
  have ar:=ZS hB hm hk (h0 _ (bO hk))
  have ni:=Vb hB ((List.range k).map fun i=>bT (sG ls i)) [] (ls.length:Int) (k:Int) (B5 ls k ls.length) (fun j hj=>(WF hj).1) (by have:=M8 ls k ls.length;omega)
  have r:=pP (l:=(List.range k).map fun i=>bT (sG ls i)) (m:=[bT (sG ls k)]) (b:=8) (by simp only[List.length_map,List.length_range,List.length_cons,List.length_nil];omega) (by decide)
  have e:((List.range k).map fun i=>bT (sG ls i))++[bT (sG ls k)]=(List.range (k+1)).map fun i=>bT (sG ls i):=by rw[List.range_succ,List.map_append];rfl
  rw[e] at r
  have hla:lenL ((B5 ls k ls.length).map tM)=((B5 ls k ls.length).length:Int):=by rw[aK,List.length_map]
  have r:room ((List.range k).map fun i=>bT (sG ls i)) [T.v (Value.int .i64 (Z9 ((B5 ls k ls.length).foldl (kT ls) none)))] 8=_:=r
  unfold lG
  simp only[aF,decide_eq_true (by omega:(k:Int)<(ls.length:Int)),cond_true,ar,bC,hla,ni,aN,r,aJ,wk]
 have hout:lG (ls.map lT,((List.range ls.length).map fun i=>bT (sG ls i),(ls.length:Int),(ls.length:Int),()))=some (.inr (.inl ((List.range ls.length).map fun i=>bT (sG ls i),()))):=by
  unfold lG
  simp only[aF,decide_eq_false (by omega:¬(ls.length:Int)<(ls.length:Int)),cond_false]
 rw[aO hout] at lp
 exact lp
end
theorem aAB{ls:List (List Z)}(hB:A6 ls)(hl:ls.length≤16)(h64:∀l∈ls,l.length≤64)(hne:0<ls.length):lQ (ls.map lT,())=some (if A9 ls=0 then (List.range ls.length).map fun i=>bT (sG ls i) else [],A9 ls,()):=by
 have c:=IQ hB hl hne h64
 unfold lQ
 by_cases hk:A9 ls=0
 ·have h0:∀l∈ls,0<l.length:=fun l hl=>by
   have hA:¬∃i,0≤i∧i<ls.length∧AB ls i:=fun c=>by unfold A9 at hk;rw[gN c] at hk;have hk:(8:Int)=0:=hk;omega
   have:=((Ord.badA_iff.1 hA).1 l hl).1
   omega
  rw[hk] at c
  rw[if_pos hk,hk]
  have mk:=N9 (l:=0) (c:=(ls.length:Int)) (b:=8) (by omega) (by omega) (by omega) (by decide)
  simp only[c,bC,aL,decide_true,Bool.not_true,cond_false,eO,mk,M3,Qh hB (by omega) h0,aN,Int.toNat_zero,List.replicate_zero]
 ·rw[if_neg hk]
  simp only[c,bC,aL,decide_eq_false hk,Bool.not_false,cond_true]
end Go.Eng.Nst
namespace Go.Eng.Ord
open Go.Eng Go.Eng.Tw Go.Eng.Tm Go.Eng.Tg Go.Eng.Rt
def IW(p q:Z):Prop:=p.1<q.1∨(p.1=q.1∧p.2<q.2)
instance (p q:Z):Decidable (IW p q):=inferInstanceAs (Decidable (p.1<q.1∨(p.1=q.1∧p.2<q.2)))
theorem Ks{a b c:Z}(h:¬IW a b)(h':IW c b):¬IW a c:=by unfold IW at *;omega
theorem aAC{a b:Z}(h:¬IW a b)(h':¬IW b a):a=b:=by unfold IW at *;exact Prod.ext (by omega) (by omega)
theorem Vc(a:Z):¬IW a a:=by unfold IW;omega
def mZ(l:L):Nat→Nat
 | 0=>0
 | i+1=>if IW (aV l i) (aV l (mZ l i)) then i else mZ l i
theorem IX{l:L}(h:0<l.length):∀{n:Nat},n≤l.length→mZ l n<l.length
 | 0,_=>h
 | n+1,hn=>by
  unfold mZ
  split
  ·omega
  ·exact IX h (by omega)
theorem WO{l:L}:∀{n j:Nat},j<n→¬IW (aV l j) (aV l (mZ l n))
 | 0,_,h=>by omega
 | n+1,j,h=>by
  unfold mZ
  split
  ·rename_i hlt
   by_cases e:j=n
   ·subst e;exact Vc _
   ·exact Ks (WO (by omega)) hlt
  ·rename_i hlt
   by_cases e:j=n
   ·subst e;exact hlt
   ·exact WO (by omega)
def gG(l:L):L:=oZ (mZ l l.length) l
theorem Qi{l:L}(h:0<l.length)(j:Nat):¬IW (aV l j) (aV l (mZ l l.length)):=by
 rw[←GV]
 exact WO (Nat.mod_lt _ h)
theorem aA9{l:L}(h:A8 l)(k:Nat):gG (oZ k l)=gG l:=by
 have h0:0<l.length:=by have:=h.1;omega
 unfold gG
 rw[Hh]
 have a1:∀j,¬IW (aV l j) (aV l (k+mZ (oZ k l) (oZ k l).length)):=fun j=>by
  have a:=Qi (l:=oZ k l) (by rw[gS];exact h0)
  obtain⟨i,e⟩:=Qe k l
  have:=a (i+j)
  rw[tN h0,tN h0] at this
  have e2:aV l (k+(i+j))=aV l j:=by
   have:aV (oZ i (oZ k l)) j=aV l j:=by rw[e]
   rwa[tN (by rw[gS];exact h0),tN h0] at this
  rwa[e2] at this
 have a2:=Qi h0
 have e:aV l (k+mZ (oZ k l) (oZ k l).length)=aV l (mZ l l.length):=aAC (a2 _) (a1 _)
 rw[←GV,←GV l (mZ l l.length)] at e
 rw[←WK,←WK (mZ l l.length),Zu h (Nat.mod_lt _ h0) (Nat.mod_lt _ h0) e]
def nrm(ls:List L):List L:=ZV (ls.map gG)
theorem ZW{ls:List L}(h1:∀l∈ls,A8 l)(h2:ls.Pairwise (fun l m=>Apart (jK (qs l)) (jK (qs m)))):KD (ls.map gG):=by
 unfold KD
 rw[List.pairwise_map]
 refine List.Pairwise.imp_of_mem (fun {l m} hl hm ha c=>?_) h2
 have l0:0<l.length:=by have:=(h1 l hl).1;omega
 have m0:0<m.length:=by have:=(h1 m hm).1;omega
 have e:aV (gG l) 0=aV (gG m) 0:=Prod.ext c.1 c.2
 unfold gG at e
 rw[tN l0,tN m0] at e
 have e1:=V7 (L:=qs l) (i:=mZ l l.length+0) (by rw[tL];exact l0)
 have e2:=V7 (L:=qs m) (i:=mZ m m.length+0) (by rw[tL];exact m0)
 refine ha _ e1 _ e2 (.inl ?_)
 dsimp only
 rw[sR l0,sR l0,sR m0,←e]
 have:=A5 (a:=cq (aV l (mZ l l.length+0))) (b:=cq (aV l (mZ l l.length+0+1))) (t:=0) (by decide) (by decide)
 rwa[Oq] at this
end Go.Eng.Ord
namespace Go.Eng.Ord
open Go.Eng Go.Eng.Tw Go.Eng.Tm Go.Eng.Tg Go.Eng.Rt
def Kt(p q:Z):Int:=if kO (p.1:Rat) (q.1:Rat)=0 then kO (p.2:Rat) (q.2:Rat) else kO (p.1:Rat) (q.1:Rat)
theorem aAD(a b:Int):kO (a:Rat) (b:Rat)=if a<b then -1 else if a=b then 0 else 1:=by
 unfold kO
 simp only[Rat.intCast_lt_intCast,Rat.intCast_inj]
theorem WP{p q:Z}:Kt p q<0↔IW p q:=by
 unfold Kt IW
 rw[aAD,aAD]
 repeat' split
 all_goals omega
section
variable {p q:Z} (hp:Sp p) (hq:Sp q)
include hp hq
theorem TV:oF (aM (p.1:Rat),aU (p.1:Rat),aY (p.1:Rat),aM (p.2:Rat),aU (p.2:Rat),aY (p.2:Rat),false,[],[],aM (q.1:Rat),aU (q.1:Rat),aY (q.1:Rat),aM (q.2:Rat),aU (q.2:Rat),aY (q.2:Rat),false,[],[],())=some (Kt p q,()):=by
 have s:∀{n:Int},n.natAbs≤32→Sm (n:Rat):=fun h=>kP (by omega)
 unfold oF Kt
 simp only[FR (s hp.1) (s hq.1),FR (s hp.2) (s hq.2),bC,aL]
 by_cases h:kO (p.1:Rat) (q.1:Rat)=0
 ·rw[decide_eq_true h,if_pos h];rfl
 ·rw[decide_eq_false h,if_neg h];rfl
omit hq in
theorem aAE:vS (aM (p.1:Rat),aU (p.1:Rat),aY (p.1:Rat),aM (p.2:Rat),aU (p.2:Rat),aY (p.2:Rat),false,[],[],false,[],[],false,[],[],false,[],[],())=some (c3 (p.1:Rat) (c3 (p.2:Rat) (c3 0 ()))):=by
 have s:∀{n:Int},n.natAbs≤32→Sm (n:Rat):=fun h=>kP (by omega)
 have a1:=ZD (s hp.1) FU
 have a2:=ZD (s hp.2) FU
 have a3:=ZD FU FU
 have z:aM 0=false:=rfl
 rw[Rat.add_zero,DY,DZ,z] at a1 a2 a3
 unfold vS nE
 simp only[a1,a2,a3,bC,aN,c3,DY,DZ,z]
end
theorem Ku{a b:L}(ha:Bx a)(hb:Bx b)(a0:0<a.length)(b0:0<b.length):pW (a.map wT,b.map wT,())=some (Kt (aV a 0) (aV b 0),()):=by
 have i1:bG (a.map wT) 0=some (wT (aV a 0)):=sS (i:=0) a0
 have i2:bG (b.map wT) 0=some (wT (aV b 0)):=sS (i:=0) b0
 have sp:=lR ha a0 0
 have sq:=lR hb b0 0
 obtain⟨a0,a1,a2,a3,a4,a5,a6,a7,a8⟩:=cells (aV a 0)
 obtain⟨b0,b1,b2,b3,b4,b5,b6,b7,b8⟩:=cells (aV b 0)
 unfold pW
 simp only[i1,i2,bC,a0,a1,a2,a3,a4,a5,a6,a7,a8,b0,b1,b2,b3,b4,b5,b6,b7,b8,TV sp sq]
theorem WQ(l:L):T.len? (lT l)=some (l.length:Int):=by
 show (if (9:Nat)<1000000000 then some (lenL (l.map wT)) else none)=_
 rw[if_pos (by decide),aK,List.length_map]
section
variable {l:L} (hB:Bx l) (h0:0<l.length)
include hB h0
theorem Hl(o y:List T)(n i:Int):∀d k,k+d=l.length→aI lI (o,lT l,(mZ l k:Nat),y,n,i,lT l,(l.length:Int),(k:Int),())=some (.inl (o,lT l,(mZ l l.length:Nat),y,n,i,())) 
 | 0,k,h=>by
  have:k=l.length:=by omega
  subst this
  refine aO ?_
  unfold lI
  simp only[aF,decide_eq_false (by omega:¬(l.length:Int)<(l.length:Int)),cond_false]
 | d+1,k,h=>by
  have hk:k<l.length:=by omega
  have ih:=Hl o y n i d (k+1) (by omega)
  rw[←ih]
  refine dU ?_
  have hle:=hB.1
  have wk:wr .i64 ((k:Int)+1)=((k+1:Nat):Int):=by rw[dK (by omega) (by omega)];push_cast;rfl
  have hj:=IX (l:=l) h0 (n:=k) (by omega)
  have g1:=sS hk
  have g2:=sS hj
  have sp:=lR hB h0 k
  have sq:=lR hB h0 (mZ l k)
  obtain⟨a0,a1,a2,a3,a4,a5,a6,a7,a8⟩:=cells (aV l k)
  obtain⟨b0,b1,b2,b3,b4,b5,b6,b7,b8⟩:=cells (aV l (mZ l k))
  have e:mZ l (k+1)=if IW (aV l k) (aV l (mZ l k)) then k else mZ l k:=rfl
  unfold lI
  simp only[aF,decide_eq_true (by omega:(k:Int)<(l.length:Int)),cond_true,GT,g1,g2,bC,a0,a1,a2,a3,a4,a5,a6,a7,a8,b0,b1,b2,b3,b4,b5,b6,b7,b8,TV sp sq,aJ]
  by_cases hlt:IW (aV l k) (aV l (mZ l k))
  ·rw[decide_eq_true (WP.2 hlt),e,if_pos hlt]
   simp only[cond_true,bC,aN,wk]
  ·rw[decide_eq_false (fun c=>hlt (WP.1 c)),e,if_neg hlt]
   simp only[cond_false,bC,aN,wk]
theorem Qj(o y:List T)(n i x:Int){a:Nat}(ha:a<l.length):∀d k,k+d=l.length→aI lJ (o,lT l,(a:Int),((List.range k).map fun j=>wT (aV l (a+j))),y,n,i,(l.length:Int),(k:Int),())=some (.inl (o,(oZ a l).map wT,y,n,i,())) 
 | 0,k,h=>by
  have:k=l.length:=by omega
  subst this
  refine aO ?_
  unfold lJ oZ
  rw[List.map_map]
  simp only[aF,decide_eq_false (by omega:¬(l.length:Int)<(l.length:Int)),cond_false]
  rfl
 | d+1,k,h=>by
  have hk:k<l.length:=by omega
  have ih:=Qj o y n i x ha d (k+1) (by omega)
  rw[←ih]
  refine dU ?_
  have hle:=hB.1
  have wk:wr .i64 ((k:Int)+1)=((k+1:Nat):Int):=by rw[dK (by omega) (by omega)];push_cast;rfl
  have wa:wr .i64 ((a:Int)+(k:Int))=((a+k:Nat):Int):=by rw[dK (by omega) (by omega)];push_cast;rfl
  have hm:((a+k:Nat):Int).tmod (l.length:Int)=(((a+k)%l.length:Nat):Int):=by
   rw[Int.tmod_eq_emod_of_nonneg (by omega)];rfl
  have hl:=WQ l
  have g:=GU h0 (a+k)
  have sp:=lR hB h0 (a+k)
  have va:=aAE sp
  obtain⟨a0,a1,a2,a3,a4,a5,a6,a7,a8⟩:=cells (aV l (a+k))
  have r:=pP (l:=(List.range k).map fun j=>wT (aV l (a+j))) (m:=[wT (aV l (a+k))]) (b:=168) (by simp only[List.length_map,List.length_range,List.length_cons,List.length_nil];omega) (by decide)
  have e:((List.range k).map fun j=>wT (aV l (a+j)))++[wT (aV l (a+k))]=(List.range (k+1)).map fun j=>wT (aV l (a+j)):=by
   rw[List.range_succ,List.map_append];rfl
  rw[e] at r
  simp only[c3,DY,DZ,show aM 0=false from rfl] at va
  unfold lJ
  simp only[aF,decide_eq_true (by omega:(k:Int)<(l.length:Int)),cond_true,hl,bC,N7 (show (l.length:Int)≠0 by omega),GT,aJ,pO,wa,hm,g,a0,a1,a2,a3,a4,a5,a6,a7,a8,va,Pl,r,wk]
end
end Go.Eng.Ord
namespace Go.Eng.Ord
open Go.Eng Go.Eng.Tw Go.Eng.Tm Go.Eng.Tg Go.Eng.Rt
theorem upT(x l:L):T.upd 1 (lT x) 0 [T.sl 9 (l.map wT)]=lT l:=by unfold T.upd;rfl
theorem aCN{ls:List L}(hB:A6 ls)(h0:∀l∈ls,0<l.length)(hn:ls.length≤1000):aI iX ([],ls.map lT,(ls.length:Int),(0:Int),())=some (.inl ((ls.map gG).map lT,())):=by
 have lp:=eQ (F:=iX) ls.length (fun k=>(((ls.take k).map gG).map lT,ls.map lT,(ls.length:Int),(k:Int),())) fun k hk=>by
  have wk:wr .i64 ((k:Int)+1)=((k+1:Nat):Int):=by rw[dK (by omega) (by omega)];push_cast;rfl
  have hm:=bO (ls:=ls) hk
  have g:=(eA (ls:=ls) (i:=k) hk).1
  have b:=hB _ hm
  have l0:=h0 _ hm
  have le:=Hl b l0 (((ls.take k).map gG).map lT) (ls.map lT) (ls.length:Int) (k:Int) (bH ls k).length 0 (by omega)
  have tu:=Qj b l0 (((ls.take k).map gG).map lT) (ls.map lT) (ls.length:Int) (k:Int) 0 (IX l0 (Nat.le_refl _)) (bH ls k).length 0 (by omega)
  have tu:aI lJ (((ls.take k).map gG).map lT,lT (bH ls k),(mZ (bH ls k) (bH ls k).length:Nat),[],ls.map lT,(ls.length:Int),(k:Int),((bH ls k).length:Int),(0:Int),())=_:=tu
  have le:aI lI (((ls.take k).map gG).map lT,lT (bH ls k),(0:Int),ls.map lT,(ls.length:Int),(k:Int),lT (bH ls k),((bH ls k).length:Int),(0:Int),())=_:=le
  have r:=pP (l:=((ls.take k).map gG).map lT) (m:=[lT (gG (bH ls k))]) (b:=24) (by simp only[List.length_map,List.length_take,List.length_cons,List.length_nil];omega) (by decide)
  have e:((ls.take k).map gG).map lT++[lT (gG (bH ls k))]=((ls.take (k+1)).map gG).map lT:=by
   rw[List.take_add_one,List.getElem?_eq_getElem hk,List.map_append,List.map_append,←yN hk];rfl
  rw[e] at r
  have sl:T.sl 9 ((oZ (mZ (bH ls k) (bH ls k).length) (bH ls k)).map wT)=lT (gG (bH ls k)):=rfl
  unfold iX
  simp only[aF,decide_eq_true (by omega:(k:Int)<(ls.length:Int)),cond_true,g,bC,iB,WQ,le,aN,tu,sl,r,aJ,wk]
 have hout:iX (((ls.take ls.length).map gG).map lT,ls.map lT,(ls.length:Int),(ls.length:Int),())=some (.inr (.inl ((ls.map gG).map lT,()))):=by
  unfold iX
  simp only[aF,decide_eq_false (by omega:¬(ls.length:Int)<(ls.length:Int)),cond_false,List.take_length]
 rw[aO hout] at lp
 exact lp
def Rh(l:L):Prop:=Bx l∧0<l.length
theorem aAF(P Z:List L)(x:L)(n:Nat)(h:P.length=n):(P++x::Z)[n]?=some x:=by
 subst h;rw[List.getElem?_append_right (Nat.le_refl _),Nat.sub_self];rfl
theorem Vd(P Z:List L)(x y:L)(n:Nat)(h:P.length=n):(P++x::y::Z)[n+1]?=some y:=by
 subst h;rw[List.getElem?_append_right (by omega),Nat.add_sub_cancel_left];rfl
theorem Qk(P Z:List L)(x y:L)(n:Nat)(h:P.length=n):(((P++x::y::Z).map lT).set (n+1) (lT x)).set n (lT y)=(P++y::x::Z).map lT:=by
 subst h
 rw[←List.map_set,←List.map_set]
 congr 1
 rw[List.set_append_right _ _ (by omega),List.set_append_right _ _ (by omega),Nat.add_sub_cancel_left,Nat.sub_self]
 rfl
theorem QN(rest:List L)(N i:Int):∀(R:List L) (e:L) (A:List L),(R.length+A.length+rest.length<1000)→(∀x∈R,Rh x)→Rh e →
 aI bJ ((R.reverse++e::A++rest).map lT,0,N,(),i,(R.length:Int),())=some (.inl ((EZ R e A++rest).map lT,0,N,(),i,()))
 | [],e,A,_,_,_=>by
  refine aO ?_
  unfold bJ
  simp only[aF]
  rw[decide_eq_false (by simp)];rfl
 | x::R,e,A,hlen,hR,he=>by
  have hD:(x::R).reverse++e::A++rest=R.reverse++x::e::(A++rest):=by simp
  have hlen':R.length+1+A.length+rest.length<1000:=by simpa using hlen
  have hrl:R.reverse.length=R.length:=List.length_reverse
  have hx:=hR x (List.mem_cons_self ..)
  have g0:(R.reverse++x::e::(A++rest))[R.length]?=some x:=aAF _ _ _ _ hrl
  have g1:(R.reverse++x::e::(A++rest))[R.length+1]?=some e:=Vd _ _ _ _ _ hrl
  have hLen:((R.reverse++x::e::(A++rest)).map lT).length=R.length+(A.length+rest.length+2):=by simp
  have hj:wr .i64 (((R.length+1:Nat):Int)-1)=(R.length:Int):=by rw[show ((R.length+1:Nat):Int)-1=(R.length:Int) by omega,W3 (by omega)]
  have cm:=Ku he.1 hx.1 he.2 hx.2
  have step:bJ ((R.reverse++x::e::(A++rest)).map lT,0,N,(),i,((R.length+1:Nat):Int),()) =
   if IS e x then some (.inl ((R.reverse++e::x::(A++rest)).map lT,0,N,(),i,(R.length:Int),())) else some (.inr (.inl ((R.reverse++x::e::(A++rest)).map lT,0,N,(),i,()))):=by
   have set1:(((R.reverse++x::e::(A++rest)).map lT).set (R.length+1) (lT x))[R.length]?=some (lT x):=by
    rw[List.getElem?_set_ne (by omega),List.getElem?_map,g0];rfl
   unfold bJ
   simp only[aF,cB,hj,aK,hLen]
   rw[decide_eq_true (by omega),mD (i:=R.length+1) (by omega),mD (i:=R.length) (by omega)]
   simp only[cond_true,bC,rH,List.getElem?_map,g0,g1,Option.map_some,B4,cm]
   have hlt':Kt (aV e 0) (aV x 0)<0↔IS e x:=WP
   by_cases hlt:IS e x
   ·rw[if_pos hlt,decide_eq_true (hlt'.2 hlt)]
    simp only[cond_true,upT,List.length_set,hLen,mD (i:=R.length) (show (R.length:Int)<((R.length+(A.length+rest.length+2):Nat):Int) by omega),bC,set1]
    rw[Qk _ _ _ _ _ hrl]
   ·rw[if_neg hlt,decide_eq_false (fun h=>hlt (hlt'.1 h))]
    rfl
  rw[hD,show (((x::R).length:Nat):Int)=((R.length+1:Nat):Int) by simp]
  simp only[EZ]
  by_cases hlt:IS e x
  ·rw[if_pos hlt] at step
   rw[dU step,if_pos hlt]
   have ih:=QN rest N i R e (x::A) (by simp;omega) (fun y hy=>hR y (List.mem_cons_of_mem _ hy)) he
   rw[show R.reverse++e::x::(A++rest)=R.reverse++e::(x::A)++rest by simp]
   exact ih
  ·rw[if_neg hlt] at step
   rw[aO step,if_neg hlt]
   congr 4
   simp
theorem QO(N:Nat):∀(rest P:List L),P.length+rest.length=N→N<1000→SL P→KD (P++rest)→(∀x∈P++rest,Rh x) →
 ∃r:List L,aI bB ((P++rest).map lT,0,(N:Int),(),(P.length:Int),())=some (.inl (r.map lT,()))∧r.Perm (P++rest)∧SL r
 | [],P,hl,hN,hP,_,_=>by
  refine⟨P,aO ?_,by simp,hP⟩
  unfold bB
  simp only[aF,List.append_nil]
  rw[decide_eq_false (by simp at hl;omega)];rfl
 | e::rest,P,hl,hN,hP,hk,ho=>by
  simp only[List.length_cons] at hl
  have hin:=QN rest (N:Int) (P.length:Int) P.reverse e [] (by simp;omega) (fun x hx=>ho x (by simp[List.mem_reverse.1 hx])) (ho e (by simp))
  rw[List.reverse_reverse,List.length_reverse] at hin
  obtain⟨k1,k2,k3⟩:=List.pairwise_append.1 hk
  have hs:SL (EZ P.reverse e []):=WI P.reverse e [] (by simpa using hP) (by simp) fun y hy hs=>k3 y (List.mem_reverse.1 hy) e (by simp) hs.symm
  have hp:(EZ P.reverse e []).Perm (P++[e]):=by have:=KE P.reverse e [];rwa[List.reverse_reverse] at this
  have hpl:(EZ P.reverse e []).length=P.length+1:=by rw[hp.length_eq];simp
  have hperm:(EZ P.reverse e []++rest).Perm (P++e::rest):=by
   have:=hp.append_right rest
   rwa[List.append_assoc] at this
  obtain⟨r,r1,r2,r3⟩:=QO N rest (EZ P.reverse e []) (by omega) hN hs (hk.perm hperm.symm) (fun x hx=>ho x (hperm.mem_iff.1 hx))
  refine⟨r,?_,r2.trans hperm,r3⟩
  rw[←r1]
  refine dU ?_
  unfold bB
  simp only[aF,aJ]
  rw[decide_eq_true (by omega)]
  rw[show P++e::[]++rest=P++e::rest by simp] at hin
  simp only[cond_true,hin,bC,aN]
  rw[show (P.length:Int)+1=((P.length+1:Nat):Int) by omega,W3 (by omega),hpl]
theorem ZX(l:List L)(hl:l.length<1000)(hk:KD l)(ho:∀x∈l,Rh x):cF (l.map lT,0,(l.length:Int),(),())=some ((ZV l).map lT,()):=by
 have key:∃r:List L,aI bB (l.map lT,0,(l.length:Int),(),1,())=some (.inl (r.map lT,()))∧r.Perm l∧SL r:=by
  cases l with
  | nil=>
   refine⟨[],aO ?_,.refl _,List.Pairwise.nil⟩
   unfold bB
   simp only[aF]
   rw[decide_eq_false (by simp)];rfl
  | cons e l=>exact QO (l.length+1) l [e] (by simp;omega) (by simpa using hl) (List.pairwise_singleton _ _) hk ho
 obtain⟨r,r1,r2,r3⟩:=key
 unfold cF
 simp only[aJ]
 rw[show wr .i64 ((0:Int)+1)=1 from dK (by omega) (by omega)]
 simp only[r1,bC,aN,Hg r2 hk r3]
theorem aCO:∀n:Nat,n≤12→∃v,uX ((n:Int),())=some (v,())
 | 0,_=>⟨0,by kernel_rfl⟩
 | 1,_=>⟨1,by kernel_rfl⟩
 | 2,_=>⟨2,by kernel_rfl⟩
 | 3,_=>⟨2,by kernel_rfl⟩
 | 4,_=>⟨3,by kernel_rfl⟩
 | 5,_=>⟨3,by kernel_rfl⟩
 | 6,_=>⟨3,by kernel_rfl⟩
 | 7,_=>⟨3,by kernel_rfl⟩
 | 8,_=>⟨4,by kernel_rfl⟩
 | 9,_=>⟨4,by kernel_rfl⟩
 | 10,_=>⟨4,by kernel_rfl⟩
 | 11,_=>⟨4,by kernel_rfl⟩
 | 12,_=>⟨4,by kernel_rfl⟩
 | n+13,h=>by omega
theorem Di(l:List L)(hl:l.length≤12)(hk:KD l)(ho:∀x∈l,Rh x):bX (l.map lT,(),())=some ((ZV l).map lT,()):=by
 obtain⟨v,hv⟩:=aCO l.length hl
 have hp:∀v:Int,dD (l.map lT,0,(l.length:Int),v,(),())=some ((ZV l).map lT,()):=fun v=>by
  unfold dD
  have:dY (l.map lT,0,(l.length:Int),v,(),true,true,())=some (.inr (.inl ((ZV l).map lT,()))):=by
   unfold dY
   simp only[kH,cB]
   rw[show (l.length:Int)-0=(l.length:Int) by omega,W3 (by omega),decide_eq_true (by omega)]
   simp only[cond_true,ZX l (by omega) hk ho,bC]
  rw[aO this]
  rfl
 unfold bX
 simp only[aK,List.length_map]
 rw[fF (by simp only[eW];omega),hv]
 simp only[bC,hp]
theorem IY{l:L}(h:Bx l):Bx (gG l):=Zt h
theorem Ql{ls:List L}(hB:A6 ls)(hl:ls.length≤12)(h64:∀l∈ls,l.length≤64)(hc:Cv ls)(hne:0<ls.length):(Zv ls→gP (ls.map lT,())=some ((nrm ls).map lT,0,()))∧(¬Zv ls→gP (ls.map lT,())=some ([],8,())):=by
 have c:=IQ hB (by omega) hne h64
 have ck:=WL hc
 constructor
 ·intro hk
  rw[ck.1 hk] at c
  have h0:∀l∈ls,0<l.length:=fun l hl=>by have:=(hk.1 l hl).1;omega
  have s:=Di (ls.map gG) (by rw[List.length_map];exact hl) (ZW hk.1 hk.2.1) fun x hx=>by
   obtain⟨l,hl,rfl⟩:=List.mem_map.1 hx
   exact⟨IY (hB l hl),by unfold gG;rw[gS];exact h0 l hl⟩
  unfold gP
  simp only[c,bC,aL,decide_true,Bool.not_true,cond_false,eO,aCN hB h0 (by omega),aN,s]
  rfl
 ·intro hk
  rw[ck.2 hk] at c
  unfold gP
  simp only[c,bC,aL,decide_eq_false (by decide:¬(8:Int)=0),Bool.not_false,cond_true]
end Go.Eng.Ord
namespace Go.Eng.Ord
open Go.Eng Go.Eng.Tw Go.Eng.Tm Go.Eng.Tg Go.Eng.Rt
theorem QP{S E:Type}{F:S→Option (S⊕E)}(n:Nat)(st:Nat→S)(out:E)(h:∀k,k<n→F (st k)=some (.inl (st (k+1))))(hout:F (st n)=some (.inr out)):aI F (st 0)=some out:=by
 have:=eQ (F:=F) n st h
 rw[aO hout] at this
 exact this
theorem Dj{l:L}(hB:Bx l):oY (l.map wT,l.map wT,())=some (true,()):=by
 have lp:=QP (F:=iC) l.length (fun k=>(l.map wT,l.map wT,(k:Int),())) (.inr (.inl ())) (fun k hk=>by
  have hle:=hB.1
  have wk:wr .i64 ((k:Int)+1)=((k+1:Nat):Int):=by rw[dK (by omega) (by omega)];push_cast;rfl
  have g:=sS hk
  have sp:=lR hB (by omega) k
  have s:=Gz sp sp
  rw[gN rfl] at s
  have z:aM 0=false:=rfl
  simp only[lit,c3,DY,DZ,z] at s
  obtain⟨a0,a1,a2,a3,a4,a5,a6,a7,a8⟩:=cells (aV l k)
  unfold iC
  simp only[aF,aK,List.length_map,decide_eq_true (by omega:(k:Int)<(l.length:Int)),cond_true,g,bC,a0,a1,a2,a3,a4,a5,a6,a7,a8,s,Bool.not_true,cond_false,aJ,wk]) (by
  unfold iC
  simp only[aF,aK,List.length_map,decide_eq_false (by omega:¬(l.length:Int)<(l.length:Int)),cond_false])
 have lp:aI iC (l.map wT,l.map wT,(0:Int),())=_:=lp
 unfold oY
 simp only[aL,decide_true,Bool.not_true,cond_false,lp,bC,aN,kQ]
theorem LR{ls:List L}(hB:A6 ls)(hn:ls.length≤1000):cL (ls.map lT,ls.map lT,())=some (true,()):=by
 have lp:=QP (F:=dN) ls.length (fun k=>(ls.map lT,ls.map lT,(k:Int),())) (.inr (.inl ())) (fun k hk=>by
  have wk:wr .i64 ((k:Int)+1)=((k+1:Nat):Int):=by rw[dK (by omega) (by omega)];push_cast;rfl
  have g:=(eA (ls:=ls) (i:=k) hk).1
  have s:=Dj (hB _ (bO hk))
  unfold dN
  simp only[aF,eO,decide_eq_true (by omega:(k:Int)<(ls.length:Int)),cond_true,g,bC,B4,s,Bool.not_true,cond_false,aJ,wk]) (by
  unfold dN
  simp only[aF,eO,decide_eq_false (by omega:¬(ls.length:Int)<(ls.length:Int)),cond_false])
 have lp:aI dN (ls.map lT,ls.map lT,(0:Int),())=_:=lp
 unfold cL
 simp only[aL,decide_true,Bool.not_true,cond_false,lp,bC,aN,kQ]
theorem Ve:cL (([]:List T),([]:List T),())=some (true,()):=LR (ls:=[]) (fun l h=>by cases h) (by decide)
end Go.Eng.Ord
namespace Go.Eng.Tcp
open Go.Eng Go.Eng.Tw Go.Eng.Tm Go.Eng.Tg Go.Eng.Rt Go.Eng.Nst Go.Eng.Ord
theorem Dl{ls:List (List Z)}(hc:Cv ls):A9 ls=Ha ls:=by
 unfold A9 Ha
 by_cases hA:∃i,0≤i∧i<ls.length∧AB ls i
 ·rw[gN hA];rfl
 ·rw[gF hA]
  obtain⟨h1,h2⟩:=badA_iff.1 hA
  obtain⟨G,hR⟩:=hc h1 h2
  have:(∃i,0≤i∧i<ls.length∧R8 ls i)↔∃i,0≤i∧i<ls.length∧R9 ls i:=exists_congr fun i=>and_congr_right fun _=>and_congr_right fun hi=>hR.bad hi
  rw[jF this]
theorem TW{l:List Z}(h:Bx l):∃x y z,gO (l.map wT,())=some (x,y,z,())∧qT (x,y,z,())=some (aM (((gQ l).natAbs:Int):Rat),aU (((gQ l).natAbs:Int):Rat),aY (((gQ l).natAbs:Int):Rat),()):=by
 have e:=Pk (l:=l) (fun p hp=>by have:=h.2.1 p hp;exact⟨by omega,by omega⟩) h.1
 refine⟨_,_,_,e,?_⟩
 have h1:aM (((gQ l).natAbs:Int):Rat)=false:=by unfold aM;rw[Rat.num_intCast];exact decide_eq_false (by omega)
 have h2:aU (((gQ l).natAbs:Int):Rat)=aU (gQ l:Rat):=by unfold aU;rw[Rat.num_intCast,Rat.num_intCast,Int.natAbs_natCast]
 have h3:aY (((gQ l).natAbs:Int):Rat)=aY (gQ l:Rat):=by unfold aY;rw[Rat.den_intCast,Rat.den_intCast]
 unfold qT
 simp only[h1,h2,h3]
section
variable {ls:List (List Z)} (hB:A6 ls) (hm:ls.length≤1000)
include hB hm
theorem Qm(o:List T){i:Nat}(hi:i<ls.length)(h0:0<(bH ls i).length):aI eT (ls.map lT,o,(i:Int),(-1:Int),(0:Int),())=some (.inl (ls.map lT,o,(i:Int),Z9 (sG ls i),())):=by
 have hbi:=hB _ (bO hi)
 have sp:=lR hbi h0 0
 have g0:bG ((bH ls i).map wT) 0=some (wT (mY ls i)):=sS h0
 obtain⟨c0,c1,c2,c3,c4,c5,c6,c7,c8⟩:=cells (mY ls i)
 have inv:∀k,k≤ls.length→∀b,(B5 ls i k).foldl (kT ls) none=some b→b<ls.length:=fun k hk b hb=>by
  obtain⟨p1,_,_⟩:=(KF (ls:=ls) (B5 ls i k) none).2 b hb
  have:=(WF (p1.resolve_left (by intro c;cases c))).1
  omega
 have lp:=QP (F:=eT) ls.length (fun k=>(ls.map lT,o,(i:Int),Z9 ((B5 ls i k).foldl (kT ls) none),(k:Int),())) (.inl (ls.map lT,o,(i:Int),Z9 (sG ls i),())) (fun k hk=>by
  have wk:wr .i64 ((k:Int)+1)=((k+1:Nat):Int):=by rw[dK (by omega) (by omega)];push_cast;rfl
  have hw:=Gq (hB _ (bO hk)) (p:=mY ls i) sp
  have hfst:(bif bP (EY (jK (qs (bH ls k))) (cq (mY ls i))) then ((0:Int),false,()) else (wd (jK (qs (bH ls k))) (cq (mY ls i)),true,())).1=wn (bH ls k) (cq (mY ls i)):=by
   unfold wn;cases bP (EY (jK (qs (bH ls k))) (cq (mY ls i))) <;> rfl
  have e2:B5 ls i (k+1)=B5 ls i k++(bif bP (Kn ls i k) then [k] else []):=QH ls i k
  have iv:=inv k (by omega)
  obtain⟨x,y,z,a1,a2⟩:=TW (hB _ (bO hk))
  have sa:Sm (((gQ (bH ls k)).natAbs:Int):Rat):=kP (by have:=IV (hB _ (bO hk));omega)
  rw[e2]
  by_cases h1:k=i
  ·have hrel:bP (Kn ls i k)=false:=gF fun c=>c.1 h1
   rw[hrel,cond_false,List.append_nil]
   unfold eT
   simp only[aF,eO,decide_eq_true (by omega:(k:Int)<(ls.length:Int)),cond_true,aL,decide_eq_true (by omega:(k:Int)=(i:Int)),bC,aN,aJ,wk]
  ·by_cases h2:wn (bH ls k) (cq (mY ls i))=0
   ·have hrel:bP (Kn ls i k)=false:=gF fun c=>c.2 h2
    rw[hrel,cond_false,List.append_nil]
    unfold eT
    simp -implicitDefEqProofs only[aF,eO,decide_eq_true (by omega:(k:Int)<(ls.length:Int)),cond_true,aL,decide_eq_false (by omega:¬(k:Int)=(i:Int)),cond_false,(eA hk).1,(eA hi).1,bC,TS,g0,B4,c0,c1,c2,c3,c4,c5,c6,c7,c8,hw,hfst,decide_eq_true h2,Bool.not_true,aN,aJ,wk]
   ·have hrel:bP (Kn ls i k)=true:=gN ⟨h1,h2⟩
    rw[hrel,cond_true,List.foldl_append]
    show eT _=some (.inl (ls.map lT,o,(i:Int),Z9 (kT ls ((B5 ls i k).foldl (kT ls) none) k),((k+1:Nat):Int),()))
    generalize (B5 ls i k).foldl (kT ls) none=ob' at *
    cases ob' with
    | none=>
     unfold eT
     simp -implicitDefEqProofs only[aF,eO,decide_eq_true (by omega:(k:Int)<(ls.length:Int)),cond_true,aL,decide_eq_false (by omega:¬(k:Int)=(i:Int)),cond_false,(eA hk).1,(eA hi).1,bC,TS,g0,B4,c0,c1,c2,c3,c4,c5,c6,c7,c8,hw,hfst,decide_eq_false h2,Bool.not_false,Z9,decide_eq_true (by omega:(-1:Int)<0),kT,aN,aJ,wk]
    | some b=>
     have hb:=iv b rfl
     have gb:=(eA (ls:=ls) (i:=b) hb).1
     obtain⟨x',y',z',b1,b2⟩:=TW (hB _ (bO hb))
     have sb:Sm (((gQ (bH ls b)).natAbs:Int):Rat):=kP (by have:=IV (hB _ (bO hb));omega)
     unfold eT
     simp -implicitDefEqProofs only[aF,eO,decide_eq_true (by omega:(k:Int)<(ls.length:Int)),cond_true,aL,decide_eq_false (by omega:¬(k:Int)=(i:Int)),cond_false,(eA hk).1,(eA hi).1,bC,TS,g0,B4,c0,c1,c2,c3,c4,c5,c6,c7,c8,hw,hfst,decide_eq_false h2,Bool.not_false,Z9,decide_eq_false (by omega:¬(b:Int)<0),a1,a2,gb,b1,b2,J5 sa sb,kT]
     by_cases hlt:(gQ (bH ls k)).natAbs<(gQ (bH ls b)).natAbs
     ·rw[if_pos hlt,decide_eq_true ((Nst.cmpN _ _).2 hlt)]
      simp only[cond_true,bC,aN,aJ,wk]
     ·rw[if_neg hlt,decide_eq_false fun c=>hlt ((Nst.cmpN _ _).1 c)]
      simp only[cond_false,bC,aN,aJ,wk]) (by
  unfold eT
  simp only[aF,eO,decide_eq_false (by omega:¬(ls.length:Int)<(ls.length:Int)),cond_false]
  rfl)
 exact lp
theorem Kv(h0:∀l∈ls,0<l.length):aI mI (ls.map lT,[],(0:Int),())=some (.inl ((List.range ls.length).map fun i=>bT (sG ls i),())):=by
 have lp:=QP (F:=mI) ls.length (fun k=>(ls.map lT,((List.range k).map fun i=>bT (sG ls i),(k:Int),()))) (.inl ((List.range ls.length).map fun i=>bT (sG ls i),())) (fun k hk=>by
  have wk:wr .i64 ((k:Int)+1)=((k+1:Nat):Int):=by rw[dK (by omega) (by omega)];push_cast;rfl
  have ni:=Qm hB hm ((List.range k).map fun i=>bT (sG ls i)) hk (h0 _ (bO hk))
  have r:=pP (l:=(List.range k).map fun i=>bT (sG ls i)) (m:=[bT (sG ls k)]) (b:=8) (by simp only[List.length_map,List.length_range,List.length_cons,List.length_nil];omega) (by decide)
  have e:((List.range k).map fun i=>bT (sG ls i))++[bT (sG ls k)]=(List.range (k+1)).map fun i=>bT (sG ls i):=by rw[List.range_succ,List.map_append];rfl
  rw[e] at r
  have r:room ((List.range k).map fun i=>bT (sG ls i)) [T.v (Value.int .i64 (Z9 (sG ls k)))] 8=_:=r
  unfold mI
  simp only[aF,eO,decide_eq_true (by omega:(k:Int)<(ls.length:Int)),cond_true,bC,ni,aN,r,aJ,wk]) (by
  unfold mI
  simp only[aF,eO,decide_eq_false (by omega:¬(ls.length:Int)<(ls.length:Int)),cond_false])
 exact lp
end
theorem Vf{ls:List (List Z)}(hB:A6 ls)(hl:ls.length≤16)(h64:∀l∈ls,l.length≤64)(hne:0<ls.length)(hc:Cv ls):kA (ls.map lT,())=some (if A9 ls=0 then (List.range ls.length).map fun i=>bT (sG ls i) else [],A9 ls,()):=by
 have c:=WH hB hl hne h64
 rw[←Dl hc] at c
 unfold kA
 by_cases hk:A9 ls=0
 ·have h0:∀l∈ls,0<l.length:=fun l hl=>by
   have hA:¬∃i,0≤i∧i<ls.length∧AB ls i:=fun c=>by unfold A9 at hk;rw[gN c] at hk;have hk:(8:Int)=0:=hk;omega
   have:=((Ord.badA_iff.1 hA).1 l hl).1
   omega
  rw[hk] at c
  rw[if_pos hk,hk]
  simp only[c,bC,aL,decide_true,Bool.not_true,cond_false,Kv hB (by omega) h0,aN]
 ·rw[if_neg hk]
  simp only[c,bC,aL,decide_eq_false hk,Bool.not_false,cond_true]
theorem QQ{α:Type}(f:α→Int)(l:List α)(hl:l.length≤1000):cP (l.map fun x=>T.v (.int .i64 (f x)),(l.map fun x=>T.v (.int .i64 (f x)),()))=some (true,()):=by
 have lp:=QP (F:=dR) l.length (fun k=>(l.map fun x=>T.v (.int .i64 (f x)),(l.map fun x=>T.v (.int .i64 (f x)),(k:Int),()))) (.inr (.inl ())) (fun k hk=>by
  have wk:wr .i64 ((k:Int)+1)=((k+1:Nat):Int):=by rw[dK (by omega) (by omega)];push_cast;rfl
  have g:bG (l.map fun x=>T.v (.int .i64 (f x))) (k:Int)=some (T.v (.int .i64 (f l[k]))):=by rw[bY,List.getElem?_map,List.getElem?_eq_getElem hk];rfl
  have c:T.int? .i64 (T.cell (T.v (.int .i64 (f l[k]))) 0)=some (f l[k]):=by simp
  unfold dR
  simp only[aF,aK,List.length_map,decide_eq_true (by omega:(k:Int)<(l.length:Int)),cond_true,g,bC,c,aL,decide_true,Bool.not_true,cond_false,aJ,wk]) (by
  unfold dR
  simp only[aF,aK,List.length_map,decide_eq_false (by omega:¬(l.length:Int)<(l.length:Int)),cond_false])
 have lp:aI dR (l.map fun x=>T.v (.int .i64 (f x)),(l.map fun x=>T.v (.int .i64 (f x)),(0:Int),()))=_:=lp
 unfold cP
 simp only[aL,decide_true,Bool.not_true,cond_false,lp,bC,aN,kQ]
end Go.Eng.Tcp
namespace Go.Eng.Tcp
open Go.Eng Go.Eng.Tw Go.Eng.Tm Go.Eng.Tg Go.Eng.Rt Go.Eng.Nst Go.Eng.Ord
theorem Hm{p q:Z}(hp:Sp p)(hq:Sp q):mQ (aM (p.1:Rat),aU (p.1:Rat),aY (p.1:Rat),aM (p.2:Rat),aU (p.2:Rat),aY (p.2:Rat),false,[],[],aM (q.1:Rat),aU (q.1:Rat),aY (q.1:Rat),aM (q.2:Rat),aU (q.2:Rat),aY (q.2:Rat),false,[],[],())=some (bP (IW p q),()):=by
 have s:∀n:Int,n.natAbs≤32→Sm (n:Rat):=fun n h=>kP (by omega)
 have k1:=J5 (s _ hp.1) (s _ hq.1)
 have k2:=J5 (s _ hp.2) (s _ hq.2)
 unfold mQ
 simp only[k1,k2,bC,aF,aL,aAD]
 by_cases h1:p.1<q.1
 ·rw[if_pos h1,gN (show IW p q from .inl h1)];rfl
 ·rw[if_neg h1]
  by_cases h2:p.1=q.1
  ·rw[if_pos h2]
   by_cases h3:p.2<q.2
   ·rw[if_pos h3,gN (show IW p q from .inr ⟨h2,h3⟩)];rfl
   ·rw[if_neg h3,gF (show ¬IW p q from fun c=>by unfold IW at c;omega)]
    split <;> rfl
  ·rw[if_neg h2,gF (show ¬IW p q from fun c=>by unfold IW at c;omega)]
   rfl
section
variable {ls:List (List Z)} (hB:A6 ls)
include hB
theorem ZY(o:List T){i:Nat}(hi:i<ls.length)(h0:0<(bH ls i).length):∀d k,1≤k→k+d=(bH ls i).length→aI kC (ls.map lT,o,(i:Int),(mZ (bH ls i) k:Nat),(k:Int),())=some (.inl (ls.map lT,o,(i:Int),(mZ (bH ls i) (bH ls i).length:Nat),()))
 | 0,k,_,h=>by
  have:k=(bH ls i).length:=by omega
  subst this
  refine aO ?_
  unfold kC
  simp only[(eA hi).1,bC,iB,WQ,aF,decide_eq_false (by omega:¬((bH ls i).length:Int)<((bH ls i).length:Int)),cond_false]
 | d+1,k,h1,h=>by
  have hk:k<(bH ls i).length:=by omega
  have ih:=ZY o hi h0 d (k+1) (by omega) (by omega)
  rw[←ih]
  refine dU ?_
  have hb:=hB _ (bO hi)
  have hle:=hb.1
  have wk:wr .i64 ((k:Int)+1)=((k+1:Nat):Int):=by rw[dK (by omega) (by omega)];push_cast;rfl
  have hj:=IX (l:=bH ls i) h0 (n:=k) (by omega)
  have g1:=sS hk
  have g2:=sS hj
  have sp:=lR hb h0 k
  have sq:=lR hb h0 (mZ (bH ls i) k)
  obtain⟨a0,a1,a2,a3,a4,a5,a6,a7,a8⟩:=cells (aV (bH ls i) k)
  obtain⟨b0,b1,b2,b3,b4,b5,b6,b7,b8⟩:=cells (aV (bH ls i) (mZ (bH ls i) k))
  have e:mZ (bH ls i) (k+1)=if IW (aV (bH ls i) k) (aV (bH ls i) (mZ (bH ls i) k)) then k else mZ (bH ls i) k:=rfl
  unfold kC
  simp -implicitDefEqProofs only[(eA hi).1,bC,iB,WQ,aF,decide_eq_true (by omega:(k:Int)<((bH ls i).length:Int)),cond_true,GT,g1,g2,a0,a1,a2,a3,a4,a5,a6,a7,a8,b0,b1,b2,b3,b4,b5,b6,b7,b8,Hm sp sq,aJ]
  by_cases hlt:IW (aV (bH ls i) k) (aV (bH ls i) (mZ (bH ls i) k))
  ·rw[gN hlt,e,if_pos hlt]
   simp only[cond_true,bC,aN,wk]
  ·rw[gF hlt,e,if_neg hlt]
   simp only[cond_false,bC,aN,wk]
omit hB in
theorem aCP{a b:L}:IS a b↔IW (aV a 0) (aV b 0):=Iff.rfl
omit hB in
theorem Hn(xs:List T)(i:Int){e:L}(he:Rh e):∀(R A:List L),R.length+A.length≤1000→(∀x∈R,Rh x)→∃R' A':List L,R.reverse++A=R'.reverse++A'∧EZ R e A=R'.reverse++e::A' ∧
 aI kD (xs,(R.reverse++A).map lT,i,e.map wT,(R.length:Int),())=some (.inl (xs,(R.reverse++A).map lT,i,e.map wT,(R'.length:Int),()))
 | [],A,_,_=>⟨[],A,rfl,rfl,aO (by
  unfold kD
  simp only[aF,List.length_nil]
  rfl)⟩
 | x::R,A,hl,hR=>by
  have hx:=hR x (List.mem_cons_self ..)
  have e1:(x::R).reverse++A=R.reverse++x::A:=by rw[List.reverse_cons,List.append_assoc];rfl
  have hlen:(R.reverse++x::A).length=R.length+A.length+1:=by simp;omega
  simp only[List.length_cons] at hl
  have wk:wr .i64 (((x::R).length:Int)-1)=(R.length:Int):=by rw[List.length_cons,dK (by omega) (by omega)];omega
  have le0:=he.2
  have gE:lM (e.map wT) 0=some (wT (aV e 0)):=by
   have:=sS le0
   rw[show ((0:Nat):Int)=0 from rfl] at this
   rw[rH]
   have h2:=(yM le0 0).2
   rw[Nat.zero_mod] at h2
   rw[List.getElem?_map,h2];rfl
  have cE:gH (lenL (e.map wT)) 0=some 0:=by rw[aK,List.length_map];exact mD (i:=0) (by omega)
  have cX:gH (lenL ((R.reverse++x::A).map lT)) (R.length:Int)=some R.length:=by rw[aK,List.length_map,hlen];exact mD (by omega)
  have gX:lM ((R.reverse++x::A).map lT) R.length=some (lT x):=by
   rw[rH,List.getElem?_map,List.getElem?_append_right (by simp)]
   simp
  have gX0:bG (x.map wT) 0=some (wT (aV x 0)):=sS hx.2
  obtain⟨a0,a1,a2,a3,a4,a5,a6,a7,a8⟩:=cells (aV e 0)
  obtain⟨b0,b1,b2,b3,b4,b5,b6,b7,b8⟩:=cells (aV x 0)
  have ah:=Hm (lR he.1 he.2 0) (lR hx.1 hx.2 0)
  have step:kD (xs,(R.reverse++x::A).map lT,i,e.map wT,((x::R).length:Int),())=some (bif bP (IS e x) then .inl (xs,(R.reverse++x::A).map lT,i,e.map wT,(R.length:Int),()) else .inr (.inl (xs,(R.reverse++x::A).map lT,i,e.map wT,((x::R).length:Int),()))):=by
   unfold kD
   simp -implicitDefEqProofs only[aF,decide_eq_true (by rw[List.length_cons];omega:(0:Int)<((x::R).length:Int)),cond_true,cE,bC,gE,cB,wk,cX,gX,TS,gX0,a0,a1,a2,a3,a4,a5,a6,a7,a8,b0,b1,b2,b3,b4,b5,b6,b7,b8,ah]
   rw[show bP (IW (aV e 0) (aV x 0))=bP (IS e x) from jF aCP.symm]
   cases bP (IS e x) <;> rfl
  rw[e1]
  by_cases hlt:IS e x
  ·obtain⟨R',A',q1,q2,q3⟩:=Hn xs i he R (x::A) (by simp only[List.length_cons];omega) fun y hy=>hR y (List.mem_cons_of_mem _ hy)
   refine⟨R',A',q1,?_,?_⟩
   ·simp only[EZ,if_pos hlt,q2]
   ·rw[gN hlt] at step
    rw[dU step]
    exact q3
  ·refine⟨x::R,A,e1.symm,?_,?_⟩
   ·simp only[EZ,if_neg hlt]
   ·rw[gF hlt] at step
    exact aO step
end
end Go.Eng.Tcp
namespace Go.Eng.Tcp
open Go.Eng Go.Eng.Tw Go.Eng.Tm Go.Eng.Tg Go.Eng.Rt Go.Eng.Nst Go.Eng.Ord
theorem aAG(P A:List L):∃y:L,Sa ((P++A++[[]]).map lT) (P.length+1) A.length ((A++[[]]).map lT)=(P++y::A).map lT:=by
 obtain⟨y,Y,hy⟩:∃y Y,A++[[]]=y::Y:=by
  cases A with
  | nil=>exact⟨[],[],rfl⟩
  | cons a A=>exact⟨a,A++[[]],rfl⟩
 have hl:Y.length=A.length:=by have:=congrArg List.length hy;simp at this;omega
 refine⟨y,?_⟩
 unfold Sa
 have m:min ((A++[[]]).map lT).length A.length=A.length:=by simp
 have hM:P++A++[[]]=P++y::Y:=by rw[List.append_assoc,hy]
 rw[m,hM,hy,←List.map_take,←List.map_take,←List.map_drop,←List.map_append,←List.map_append]
 congr 1
 have e1:(P++y::Y).take (P.length+1)=P++[y]:=by rw[List.take_append,List.take_of_length_le (by omega),Nat.add_sub_cancel_left];rfl
 have e2:(P++y::Y).drop (P.length+1+A.length)=[]:=List.drop_of_length_le (by simp;omega)
 have e3:(y::Y).take A.length=A:=by rw[←hy,List.take_append_of_le_length (Nat.le_refl _),List.take_length]
 rw[e1,e2,e3]
 simp
section
variable {ls:List (List Z)} (hB:A6 ls)
include hB
theorem Qn{k:Nat}(hk:k<ls.length)(hl:ls.length≤100)(h0:0<(bH ls k).length){out:List L}(ho:out.length≤100)(hO:∀x∈out,Rh x):
 iA (ls.map lT,out.map lT,(k:Int),())=some (.inl (ls.map lT,(EZ out.reverse (gG (bH ls k)) []).map lT,((k+1:Nat):Int),())):=by
 have hb:=hB _ (bO hk)
 have hle:=hb.1
 have wk:wr .i64 ((k:Int)+1)=((k+1:Nat):Int):=by rw[dK (by omega) (by omega)];push_cast;rfl
 have l1:mZ (bH ls k) 1=0:=ite_self _
 have h1:=ZY hB (out.map lT) hk h0 ((bH ls k).length-1) 1 (Nat.le_refl _) (by omega)
 rw[l1] at h1
 have h1:aI kC (ls.map lT,out.map lT,(k:Int),(0:Int),(1:Int),())=_:=h1
 obtain⟨r,hr⟩:∃r,r=mZ (bH ls k) (bH ls k).length:=⟨_,rfl⟩
 have hrl:r<(bH ls k).length:=by rw[hr];exact IX h0 (Nat.le_refl _)
 rw[←hr] at h1
 have c1:cutL ((bH ls k).map wT) (r:Int) (((bH ls k).length:Nat):Int)=some (((bH ls k).drop r).map wT):=by
  rw[N8 (by omega) (by rw[List.length_map];omega),List.take_of_length_le (by rw[List.length_map];omega),List.map_drop]
 have c2:cutL ((bH ls k).map wT) (0:Int) (r:Int)=some (((bH ls k).take r).map wT):=by
  have:=N8 (l:=(bH ls k).map wT) (lo:=0) (hi:=r) (Nat.zero_le _) (by rw[List.length_map];omega)
  rw[List.drop_zero,←List.map_take] at this
  exact this
 have r1:=pP (l:=([]:List T)) (m:=((bH ls k).drop r).map wT) (b:=168) (by simp only[List.length_map,List.length_drop,List.length_nil];omega) (by decide)
 have r2:=pP (l:=((bH ls k).drop r).map wT) (m:=((bH ls k).take r).map wT) (b:=168) (by simp only[List.length_map,List.length_drop,List.length_take];omega) (by decide)
 rw[←List.map_append,Ux (by omega)] at r2
 rw[List.nil_append] at r1
 have ll:lenL ((bH ls k).map wT)=(((bH ls k).length:Nat):Int):=by rw[aK,List.length_map]
 have hc:gG (bH ls k)=oZ r (bH ls k):=by unfold gG;rw[hr]
 have hce:Rh (oZ r (bH ls k)):=by rw[←hc];exact⟨IY hb,by rw[hc,gS];exact h0⟩
 obtain⟨R',A',q1,q2,q3⟩:=Hn (ls.map lT) (k:Int) hce out.reverse [] (by simp only[List.length_reverse,List.length_nil];omega) fun x hx=>hO x (List.mem_reverse.1 hx)
 simp only[List.reverse_reverse,List.append_nil,List.length_reverse] at q1 q3
 have hlen:out.length=R'.length+A'.length:=by rw[q1];simp
 have lo:lenL (out.map lT)=((out.length:Nat):Int):=by rw[aK,List.length_map]
 have r3:=pP (l:=out.map lT) (m:=[T.sl 9 []]) (b:=24) (by simp only[List.length_map,List.length_cons,List.length_nil];omega) (by decide)
 have e3:out.map lT++[T.sl 9 []]=(R'.reverse++A'++[[]]).map lT:=by rw[←q1,List.map_append];rfl
 rw[e3] at r3
 have lx:lenL ((R'.reverse++A'++[[]]).map lT)=(((out.length+1:Nat)):Int):=by rw[aK,List.length_map,←q1];simp
 have wa:wr .i64 ((R'.length:Int)+1)=((R'.length+1:Nat):Int):=by rw[dK (by omega) (by omega)];push_cast;rfl
 have k1:FW (((out.length+1:Nat)):Int) ((R'.length+1:Nat):Int) (((out.length+1:Nat)):Int)=some (R'.length+1,A'.length):=by
  rw[ZC (by omega) (by omega),show out.length+1-(R'.length+1)=A'.length by omega]
 have k2:FW (((out.length+1:Nat)):Int) (R'.length:Int) (((out.length+1:Nat)):Int)=some (R'.length,A'.length+1):=by
  rw[ZC (by omega) (by omega),show out.length+1-R'.length=A'.length+1 by omega]
 have k3:iM ((R'.reverse++A'++[[]]).map lT) R'.length (A'.length+1)=(A'++[[]]).map lT:=by
  rw[Fq,←List.map_drop,←List.map_take,List.append_assoc]
  congr 1
  have:(R'.reverse++(A'++[[]])).drop R'.length=A'++[[]]:=by
   have:=List.drop_left (l₁:=R'.reverse) (l₂:=A'++[[]])
   rwa[List.length_reverse] at this
  rw[this,List.take_of_length_le (by simp)]
 obtain⟨y,hy⟩:=aAG R'.reverse A'
 rw[List.length_reverse] at hy
 have ly:lenL ((R'.reverse++y::A').map lT)=(((out.length+1:Nat)):Int):=by rw[aK,List.length_map];simp;omega
 have k4:gH (((out.length+1:Nat)):Int) (R'.length:Int)=some R'.length:=mD (by omega)
 have k5:lM ((R'.reverse++y::A').map lT) R'.length=some (lT y):=by
  rw[rH,List.getElem?_map,List.getElem?_append_right (by simp)]
  simp
 have k6:((R'.reverse++y::A').map lT).set R'.length (lT (oZ r (bH ls k)))=(R'.reverse++oZ r (bH ls k)::A').map lT:=by
  rw[←List.map_set]
  congr 1
  rw[List.set_append_right _ _ (by simp)]
  simp
 unfold iA
 simp only[aF,eO,decide_eq_true (by omega:(k:Int)<(ls.length:Int)),cond_true,h1,bC,aN,(eA hk).1,TS,ll,c1,r1,c2,r2,lo,q3,r3,lx,aJ,wa,k1,k2,k3,hy,ly,k4,k5,upT,k6,wk]
 rw[hc,q2]
end
theorem Kw{ls:List L}(hB:A6 ls)(hl:ls.length≤12)(h64:∀l∈ls,l.length≤64)(hc:Cv ls)(hne:0<ls.length):(Zv ls→eS (ls.map lT,())=some ((nrm ls).map lT,0,()))∧(¬Zv ls→eS (ls.map lT,())=some ([],8,())):=by
 have c:=WH hB (by omega) hne h64
 rw[←Dl hc] at c
 have ck:=WL hc
 constructor
 ·intro hk
  rw[ck.1 hk] at c
  have h0:∀l∈ls,0<l.length:=fun l hl=>by have:=(hk.1 l hl).1;omega
  have kd:=ZW hk.1 hk.2.1
  have main:∀d k,k+d=ls.length→∀out:List L,SL out→out.Perm ((ls.take k).map gG)→aI iA (ls.map lT,out.map lT,(k:Int),())=some (.inl ((nrm ls).map lT,())):=by
   intro d
   induction d with
   | zero=>
    intro k hk out hs hp
    have:k=ls.length:=by omega
    subst this
    rw[List.take_length] at hp
    have:out=nrm ls:=Hg hp kd hs
    subst this
    refine aO ?_
    unfold iA
    simp only[aF,eO,decide_eq_false (by omega:¬(ls.length:Int)<(ls.length:Int)),cond_false]
   | succ d ih=>
    intro k hk out hs hp
    have hkl:k<ls.length:=by omega
    have hol:out.length=k:=by rw[hp.length_eq,List.length_map,List.length_take];omega
    have hpo:∀x∈out,Rh x:=fun x hx=>by
     obtain⟨l,hl,rfl⟩:=List.mem_map.1 (hp.mem_iff.1 hx)
     have hl:=List.mem_of_mem_take hl
     exact⟨IY (hB l hl),by unfold gG;rw[gS];exact h0 l hl⟩
    rw[dU (Qn hB hkl (by omega) (h0 _ (bO hkl)) (by omega) hpo)]
    have ht:(ls.take (k+1)).map gG=(ls.take k).map gG++[gG (bH ls k)]:=by
     rw[List.take_add_one,List.getElem?_eq_getElem hkl,yN hkl,List.map_append];rfl
    have hsub:KD ((ls.take (k+1)).map gG):=by
     have:((ls.take (k+1)).map gG).Sublist (ls.map gG):=(List.take_sublist _ _).map _
     exact List.Pairwise.sublist this kd
    rw[ht] at hsub
    have hne2:∀y∈out.reverse,¬sameK (gG (bH ls k)) y:=fun y hy hsm=>
     (List.pairwise_append.1 hsub).2.2 y (hp.mem_iff.1 (List.mem_reverse.1 hy)) _ (List.mem_singleton.2 rfl) hsm.symm
    refine ih (k+1) (by omega) _ (WI out.reverse _ [] (by rw[List.reverse_reverse,List.append_nil];exact hs) (fun y hy=>by cases hy) hne2) ?_
    refine(KE out.reverse _ []).trans ?_
    rw[List.reverse_reverse,ht]
    exact hp.append_right _
  have m0:=main ls.length 0 (Nat.zero_add _) [] List.Pairwise.nil (.refl _)
  have m0:aI iA (ls.map lT,([]:List T),(0:Int),())=_:=m0
  unfold eS
  simp only[c,bC,aL,decide_true,Bool.not_true,cond_false,m0,aN]
 ·intro hk
  rw[ck.2 hk] at c
  unfold eS
  simp only[c,bC,aL,decide_eq_false (by decide:¬(8:Int)=0),Bool.not_false,cond_true]
end Go.Eng.Tcp
namespace Go.Eng.Tc
open Go.Eng Go.RowKit
abbrev HX:=Value×List Value
def eF(v:Value):List Nat:=(blk v).toList
def I1(h:HX):List Nat:=eF h.1++h.2.flatMap eF
def OwnP(w:World)(X:Nat→Prop)(g:List T)(v:Value):Prop:=Uni 9 g∧∃cells:List Value,rowAt w 34 9 v g.length cells∧RdT w X (flat g) cells
structure OwnX (w:World) (X:Nat→Prop) (G:List (List T)) (h:HX):Prop where
 len:h.2.length=G.length
 row:rowAt w 35 1 h.1 G.length h.2
 sub:∀(k:Nat) g v,G[k]?=some g→h.2[k]?=some v→OwnP w X g v
section
variable {w w':World} {X X' Y:Nat→Prop}
theorem dO{v:Value}{b:Nat}:b∈eF v↔blk v=some b:=by unfold eF;rw[Option.mem_toList]
theorem OwnP.one{g:List T}{v:Value}(h:OwnP w X g v):v.oneCell'=true:=by
 obtain⟨_,cells,h1,_⟩:=h
 exact rowAt.one h1
theorem OwnP.lt{g:List T}{v:Value}(h:OwnP w X g v){b:Nat}(hb:b∈eF v):b<w.heap.size:=by
 obtain⟨_,cells,h1,_⟩:=h
 exact rowAt.lt h1 (dO.1 hb)
theorem OwnP.step{g:List T}{v:Value}(h:OwnP w X g v)(hs:Stp Y w w')(hb:∀b∈eF v,¬Y b)(hY:∀b,Y b→X b)(hX:∀b,X' b→X b∨w.heap.size≤b):OwnP w' X' g v:=by
 obtain⟨hu,cells,h1,h2⟩:=h
 exact⟨hu,cells,h1.step hs fun b e=>hb b (dO.2 e),h2.step hs hY hX⟩
theorem OwnX.step{G:List (List T)}{h:HX}(ho:OwnX w X G h)(hs:Stp Y w w')(hb:∀b∈I1 h,¬Y b)(hY:∀b,Y b→X b)(hX:∀b,X' b→X b∨w.heap.size≤b):OwnX w' X' G h:=
 ⟨ho.len,ho.row.step hs fun b e=>hb b (List.mem_append.2 (.inl (dO.2 e))),fun k g v h1 h2=>(ho.sub k g v h1 h2).step hs (fun b e=>hb b (List.mem_append.2 (.inr (List.mem_flatMap.2 ⟨v,List.mem_of_getElem? h2,e⟩)))) hY hX⟩
theorem OwnP.rd{g:List T}{v:Value}{Z:Nat→Prop}(h:OwnP w X g v)(hx:∀b∈eF v,¬Z b)(hZ:∀b,Z b→X b):Rd w Z (.sl 9 g) v:=by
 obtain⟨hu,cells,h1,h2⟩:=h
 have ho:okO w X (fun _=>none) v (.row false 34 9 g):=⟨⟨by decide,by decide⟩,hu,⟨cells,h1,h2⟩,fun h=>by cases h⟩
 exact wG ho hZ fun b e=>hx b (dO.2 e)
theorem Qo{X:Nat→Prop}{e:TypeId}{l:List T}{v:Value}{xs:List Value}(hr:rowAt w e 1 v l.length xs)(hx:∀b,blk v=some b→¬X b)(hn:∀t∈l,∀m,t≠.agg m)
 (ht:∀(i:Nat) t y,l[i]?=some t→xs[i]?=some y→Rd w X t y∧y.oneCell'=true):Rd w X (.sl 1 l) v:=by
 have hfl:flat l=l:=Ag hn
 have hu:Uni 1 l:=fun t h=>by
  cases t with
  | agg m=>exact(hn _ h m rfl).elim
  | v x=>rfl
  | sl k m=>rfl
 have ho:okO w X (fun _=>none) v (.row false e 1 l):=⟨⟨by decide,by decide⟩,hu,⟨xs,hr,by rw[hfl];exact⟨by have:=hr.1;omega,ht⟩⟩,fun h=>by cases h⟩
 exact wG ho (fun b h=>h) hx
theorem OwnX.rd{G:List (List T)}{h:HX}{Z:Nat→Prop}(ho:OwnX w X G h)(hx:∀b∈I1 h,¬Z b)(hZ:∀b,Z b→X b):Rd w Z (.sl 1 (G.map (T.sl 9))) h.1:=by
 refine Qo (e:=35) (xs:=h.2) (by rw[List.length_map];exact ho.row) (fun b e=>hx b (List.mem_append.2 (.inl (dO.2 e)))) (fun t ht m e=>?_) fun i t y h1 h2=>?_
 ·obtain⟨z,_,rfl⟩:=List.mem_map.1 ht
  cases e
 ·rw[List.getElem?_map] at h1
  cases hz:G[i]? with
  | none=>simp[hz] at h1
  | some z=>
   simp only[hz,Option.map_some,Option.some.injEq] at h1
   subst h1
   have:=ho.sub i z y hz h2
   exact⟨this.rd (fun b hb=>hx b (List.mem_append.2 (.inr (List.mem_flatMap.2 ⟨y,List.mem_of_getElem? h2,hb⟩)))) hZ,this.one⟩
theorem rowAt.open_{e:TypeId}{v:Value}{len:Nat}{xs:List Value}(h:rowAt w e 1 v len xs)(hpos:0<len):∃g off cap cur,v=.slice (some ⟨g,off,none⟩) len cap∧blk v=some g∧len≤cap∧w.heap[g]?=some (.cells cur e (0,0))∧off+cap≤cur.size ∧
 (cur.toList.drop off).take len=xs∧∀(i:Nat) y,xs[i]?=some y→w.cell? ⟨g,off+i,none⟩=some y:=by
 rcases id h.2 with⟨_,h0⟩ | ⟨g,off,cap,cur,rfl,h1,h2,h3,h4,h5,h6⟩
 ·omega
 ·refine⟨g,off,cap,cur,rfl,by simp only[blk];rw[if_neg (by omega)],h3,h2,by omega,by rw[Nat.mul_one] at h6;exact h6,fun i y hi=>?_⟩
  have:=h.cells rfl i y hi
  have hadd:(⟨g,off,none⟩:Addr).add i=⟨g,off+i,none⟩:=by unfold Addr.add;split <;> simp_all
  rwa[hadd] at this
theorem Kx{e:TypeId}{g off cap len i:Nat}{cur:Array Value}{xs:List Value}{y:Value}(h2:w.heap[g]?=some (.cells cur e (0,0)))(h3:len≤cap)(hm:cap≤maxLen)(h5:off+cap≤cur.size)(h6:(cur.toList.drop off).take len=xs)(hi:i<len):
 rowAt (w.setRow g (cur.toList.set (off+i) y).toArray) e 1 (.slice (some ⟨g,off,none⟩) len cap) len (xs.set i y):=by
 have hcl:cur.toList.length=cur.size:=Array.length_toList
 refine⟨by rw[List.length_set,←h6,List.length_take,List.length_drop];omega,.inr ⟨g,off,cap,_,rfl,by omega,setRow_heap w g cur _ e (0,0) h2,h3,hm,by simp;omega,?_⟩⟩
 rw[←h6]
 apply List.ext_getElem?
 intro j
 simp only[List.getElem?_take,List.getElem?_drop,List.getElem?_set,Nat.mul_one,List.length_take,List.length_drop]
 by_cases hj:j<len
 ·simp only[hj,if_true]
  by_cases hij:i=j
  ·subst hij;simp only[if_true];rw[if_pos (by omega),if_pos (by omega)]
  ·rw[if_neg (by omega),if_neg hij]
 ·simp only[hj,if_false]
  rw[if_neg (by omega)]
end
theorem Qp{α:Type}{f:α→List Nat}{l:List α}(h:(l.flatMap f).Nodup):(∀a∈l,(f a).Nodup)∧∀(i j:Nat) a a' b,l[i]?=some a→l[j]?=some a'→b∈f a→b∈f a'→i=j:=by
 unfold List.Nodup at h
 rw[List.pairwise_flatMap] at h
 refine⟨h.1,fun i j a a' b h1 h2 h3 h4=>?_⟩
 obtain⟨hi,rfl⟩:=List.getElem?_eq_some_iff.1 h1
 obtain⟨hj,rfl⟩:=List.getElem?_eq_some_iff.1 h2
 rcases Nat.lt_trichotomy i j with hlt | heq | hlt
 ·exact(List.pairwise_iff_getElem.1 h.2 i j hi hj hlt b h3 b h4 rfl).elim
 ·exact heq
 ·exact(List.pairwise_iff_getElem.1 h.2 j i hj hi hlt b h4 b h3 rfl).elim
end Go.Eng.Tc
namespace Go.Eng.Tc
open Go.Eng Go.RowKit
section
variable {w w':World} {X:Nat→Prop}
theorem OwnP.take{gb off n cap m:Nat}{g:List T}(h:OwnP w X g (.slice (some ⟨gb,off,none⟩) n cap))(hm:m≤g.length):OwnP w X (g.take m) (.slice (some ⟨gb,off,none⟩) m cap):=by
 obtain⟨hu,cells,h1,h2⟩:=h
 have hlen:(g.take m).length=m:=by rw[List.length_take];omega
 refine⟨fun t ht=>hu t (List.mem_of_mem_take ht),cells.take (m*9),?_,?_⟩
 ·rw[hlen]
  have hc:=h1.1
  have hmm:m*9≤g.length*9:=Nat.mul_le_mul_right _ hm
  refine⟨by rw[List.length_take,hc];omega,?_⟩
  rcases h1.2 with⟨h3,h0⟩ | ⟨gb',off',cap',cur,e1,q1,q2,q3,q4,q5,q6⟩
  ·refine .inl ⟨?_,by omega⟩
   rcases h3 with h3 | ⟨a,h3⟩
   ·cases h3
   ·have hm0:m=0:=by omega
    subst hm0
    cases h3
    exact .inr ⟨_,rfl⟩
  ·cases e1
   refine .inr ⟨gb,off,cap,cur,rfl,q1,q2,by omega,q4,q5,?_⟩
   rw[←q6,List.take_take,Nat.min_eq_left hmm]
 ·rw[hu.flat_take m]
  refine⟨by rw[List.length_take,List.length_take,h2.1],fun i t y a b=>?_⟩
  rw[List.getElem?_take] at a b
  split at a
  ·rename_i hi
   rw[if_pos hi] at b
   exact h2.2 i t y a b
  ·cases a
theorem OwnX.header{G:List (List T)}{h:HX}{k:Nat}{g':List T}{v':Value}(ho:OwnX w X G h)(hk:k<G.length)(hn:∀v∈h.2,∀b∈eF v,b∉eF h.1)(hp:OwnP w X g' v')(hv:∀b∈eF v',b∉eF h.1)(hX:∀b∈eF h.1,X b):
 ∃gb off cap cur,h.1=.slice (some ⟨gb,off,none⟩) G.length cap∧w.heap[gb]?=some (.cells cur 35 (0,0))∧off+k<cur.size∧gb∈eF h.1∧OwnX (w.setRow gb (cur.toList.set (off+k) v').toArray) X (G.set k g') (h.1,h.2.set k v'):=by
 obtain⟨gb,off,cap,cur,e1,e2,e3,e4,e5,e6,e7⟩:=rowAt.open_ ho.row (by omega)
 have hmem:gb∈eF h.1:=dO.2 e2
 have hmax:cap≤maxLen:=by
  rcases ho.row.2 with⟨_,h0⟩ | ⟨g2,off2,cap2,cur2,q0,q1,q2,q3,q4,q5,q6⟩
  ·omega
  ·rw[e1] at q0;cases q0;exact q4
 have hs:=cT w gb (cur.toList.set (off+k) v').toArray
 refine⟨gb,off,cap,cur,e1,e4,by omega,hmem,by rw[List.length_set,List.length_set];exact ho.len,?_,fun i g v h1 h2=>?_⟩
 ·rw[List.length_set,e1]
  exact Kx e4 e3 hmax e5 e6 hk
 ·have key:∀{g v},OwnP w X g v→(∀b∈eF v,b∉eF h.1)→OwnP (w.setRow gb (cur.toList.set (off+k) v').toArray) X g v:=fun hp hb=>hp.step hs (fun b hb1 hb2=>hb b hb1 (by rw[show b=gb from hb2];exact hmem)) (fun b hb2=>by rw[show b=gb from hb2];exact hX gb hmem) fun b hb=>.inl hb
  simp only[List.getElem?_set] at h1 h2
  by_cases e:k=i
  ·subst e
   rw[if_pos rfl,if_pos hk] at h1
   rw[if_pos rfl,if_pos (by rw[ho.len];exact hk)] at h2
   cases h1;cases h2
   exact key hp hv
  ·rw[if_neg e] at h1 h2
   exact key (ho.sub i g v h1 h2) (hn v (List.mem_of_getElem? h2))
theorem OwnX.app{G:List (List T)}{h:HX}{X':Nat→Prop}{g:List T}{r v':Value}(ho:OwnX w X G h)(hn:∀v∈h.2,∀b∈eF v,b∉eF h.1)(hr:OwnP w X g r)(hb:∀b∈eF r,b∉eF h.1)(hX:∀b∈eF h.1,X b)(hX':∀b,X' b→X b∨w.heap.size≤b)
 (hrow:rowAt w' 35 1 v' (G.length+1) (h.2++[r])) (hg:w.grownBy w' (blk h.1)):OwnX w' X' (G++[g]) (v',h.2++[r]):=by
 have hs:Stp (fun b=>blk h.1=some b) w w':=Stp.grown hg fun b e=>e
 have key:∀{g v},OwnP w X g v→(∀b∈eF v,b∉eF h.1)→OwnP w' X' g v:=fun hp hb=>hp.step hs (fun b h1 h2=>hb b h1 (dO.2 h2)) (fun b h2=>hX b (dO.2 h2)) hX'
 refine⟨by rw[List.length_append,List.length_append,ho.len];rfl,by rw[List.length_append];exact hrow,fun i g0 v h1 h2=>?_⟩
 have hl:=ho.len
 by_cases hi:i<G.length
 ·rw[List.getElem?_append_left hi] at h1
  have h2':(h.2++[r])[i]?=some v:=h2
  rw[List.getElem?_append_left (by omega)] at h2'
  exact key (ho.sub i g0 v h1 h2') (hn v (List.mem_of_getElem? h2'))
 ·rw[List.getElem?_append_right (by omega)] at h1
  have h2':(h.2++[r])[i]?=some v:=h2
  rw[List.getElem?_append_right (by omega),hl] at h2'
  have hz:i-G.length=0:=by
   have:=(List.getElem?_eq_some_iff.1 h1).1
   simp only[List.length_cons,List.length_nil] at this
   omega
  rw[hz] at h1 h2'
  cases h1;cases h2'
  exact key hr hb
end
end Go.Eng.Tc
namespace Go.Eng.Tc
open Go.Eng Go.RowKit Go.Proofs
def vI(z:Int):Value:=.int .i64 z
def Dc(X:Nat→Prop)(g:Nat)(L:List T)(a:Int)(w:World):Prop:=∃ys ty,w.heap[g]?=some (.cells ys ty (0,0))∧RdL w X (fun _=>none) [.t (.sl 1 L),.t (.v (vI a))] ys.toList
def pg(g:Nat):Value:=.pointer (some ⟨g,0,none⟩)
theorem RdL.any{w:World}{X:Nat→Prop}{ρ ρ':gU}{ts:List T}{ys:List Value}(h:RdL w X ρ (ts.map C.t) ys):RdL w X ρ' (ts.map C.t) ys:=
 ⟨h.1,fun i c y h1 h2=>by
  have:=h.2 i c y h1 h2
  rw[List.getElem?_map] at h1
  cases ht:ts[i]? with
  | none=>simp[ht] at h1
  | some t=>
   simp only[ht,Option.map_some,Option.some.injEq] at h1
   subst h1
   exact this⟩
section
variable {n:Nat} {env:List (Nat×Value)} {a:Act} {w:World} {Q:Exit→Act→World→Prop} {o:Oper} {next:Act→World→Prop} {d g:Nat} {X Xc:Nat→Prop} {L:List T} {dT:Int} {c:Call}
def WR(L:List T)(a:Int):List O:=[.box [.t (.sl 1 L),.t (.v (vI a))]]
def ZZ(g:Nat):gU:=fun k=>if k=0 then some (pg g) else none
theorem aAH{L:List T}{a:Int}{ρ:gU}{g:Nat}(hρ:ρ 0=some (pg g))(b:Nat):sJ (WR L a) ρ b↔b=g:=by
 constructor
 ·rintro ⟨k,o,v,h1,h2,h3,h4⟩
  cases k with
  | zero=>
   rw[hρ] at h3;cases h3
   have:=h4.one rfl
   simp only[pg,blk,Option.some.injEq] at this
   exact this.symm
  | succ k=>simp[WR] at h1
 ·rintro rfl
  exact⟨0,_,_,rfl,rfl,hρ,.inl rfl⟩
theorem SE{f:FuncId}{z v:Value}{m:Int}{at1:Int}(hC:G2 Tryz.prog f [.c (.box 0 0),.c (.t (.v (vI m)))] (WR L dT) [.c (.t (.v v))] (WR L at1))(hX:∀b,X b↔(b=g∨Xc b))(hD:Dc X g L dT w)(hgood:Good Tryz.prog w (·=g))(hxl:∀b,Xc b→b<w.heap.size)(hxg:¬Xc g):
 Calls Tryz.prog f [pg g,vI m].toArray w fun e w'=>e=.returned v∧Stp (·=g) w w'∧Dc X g L at1 w':=by
 have hρ:ZZ g 0=some (pg g):=rfl
 have hmut:∀b,sJ (WR L dT) (ZZ g) b↔b=g:=aAH hρ
 have hXB:∀b,XB (WR L dT) (ZZ g) Xc b↔X b:=fun b=>by rw[hX];exact or_congr (hmut b) Iff.rfl
 obtain⟨ys,ty,h1,h2⟩:=hD
 refine(hC w Xc (ZZ g) [pg g,vI m] (fun k o ho=>?_) (fun k k' b hk hk'=>?_) hxl (fun b hb=>by rw[hmut] at hb;subst hb;exact hxg) (fun q kd hq=>⟨fun hb=>(hgood q kd hq).1 ((hmut _).1 hb),(hgood q kd hq).2⟩) ⟨rfl,fun i s y e1 e2=>?_⟩).mono fun e w' hp=>?_
 ·cases k with
  | zero=>
   cases ho
   exact⟨pg g,hρ,g,ys,ty,rfl,h1,HeadOK.none rfl,(RdL.any (ts:=[.sl 1 L,.v (vI dT)]) h2).step (Stp.refl (fun _=>False) w) (fun _ h=>h.elim) (fun b hb=>.inl ((hXB b).1 hb)) (.refl _)⟩
  | succ k=>simp[WR] at ho
 ·obtain⟨o,v,q1,_⟩:=hk
  obtain⟨o',v',q1',_⟩:=hk'
  have:=(List.getElem?_eq_some_iff.1 q1).1
  have:=(List.getElem?_eq_some_iff.1 q1').1
  simp only[WR,List.length_cons,List.length_nil] at *
  omega
 ·match i,e1,e2 with
  | 0,e1,e2=>cases e1;cases e2;exact .inr ⟨⟨pg g,hρ,⟨g,0,none⟩,rfl,rfl⟩,rfl⟩
  | 1,e1,e2=>cases e1;cases e2;exact .inr ⟨.v _,rfl⟩
 ·obtain⟨v',ρ',rfl,p1,p2,p3,p4,p5,p6,p7⟩:=hp
  have hρ':ρ' 0=some (pg g):=(p2 0 (Nat.succ_pos _)).trans hρ
  have hmut':∀b,sJ (WR L at1) ρ' b↔b=g:=aAH hρ'
  refine⟨?_,p1.mono fun b hb _=>(hmut b).1 hb,?_⟩
  ·rcases(p7:RdC1 _ _ _ _ _) with p7 | ⟨p7,_⟩
   ·cases p7
   ·rw[Rd.inv_v p7]
  ·obtain⟨hv,e1,g',ys',ty',e2,e3,_,e4⟩:=p4 0 _ rfl
   rw[hρ'] at e1
   cases e1
   cases e2
   refine⟨ys',ty',e3,(RdL.any (ts:=[.sl 1 L,.v (vI at1)]) e4).step (Stp.refl (fun _=>False) w') (fun _ h=>h.elim) (fun b hb=>.inl ?_) (.refl _)⟩
   rcases(hX b).1 hb with rfl | hb
   ·exact .inl ((hmut' _).2 rfl)
   ·exact .inr hb
theorem SF{m v at1:Int}(hu:aS ((),m,L,dT,())=some (v,L,at1,())):G2 Tryz.prog 27 [.c (.box 0 0),.c (.t (.v (vI m)))] (WR L dT) [.c (.t (.v (vI v)))] (WR L at1):=by
 have hc:((aC gJ aS).call [.c (.box 0 0),.c (.t (.v (vI m)))] (WR L dT) fun rs po=>some (rs,po))=ob (aS ((),m,L,dT,())) fun q=>some ([.c (.t (.v (vI q.1)))],WR q.2.1 q.2.2.1):=by kernel_rfl
 rw[hu] at hc
 obtain⟨rs,po',h1,h2⟩:=lP.1 _ _ _ _ hc
 simp only[Option.some.injEq,Prod.mk.injEq] at h1
 obtain⟨rfl,rfl⟩:=h1
 exact h2
structure Env (Z:Nat→Prop) (g:Nat) (w0:World) (L:List T) (dT:Int) (w:World):Prop where
 dice:Dc Z g L dT w
 ok:uZ L dT
 stp:Stp (·=g) w0 w
 good:Good Tryz.prog w0 (·=g)
 zg:Z g
 zl:∀b,Z b→b<w.heap.size
variable {w0 w':World} {Z Z':Nat→Prop}
theorem Env.goodw(he:Env Z g w0 L dT w):Good Tryz.prog w (·=g):=fun q k hq=>⟨(he.good q k hq).1,let ⟨m,hm⟩:=(he.good q k hq).2;⟨m,he.stp.cell hm (fun e=>(he.good q k hq).1 e)⟩⟩
theorem Env.grow(he:Env Z g w0 L dT w)(hs:Stp (fun _=>False) w w')(h1:∀b,Z' b→Z b∨w.heap.size≤b)(h2:∀b,Z' b→b<w'.heap.size)(h3:Z' g):Env Z' g w0 L dT w':=by
 obtain⟨ys,ty,q1,q2⟩:=he.dice
 exact⟨⟨ys,ty,(hs.blk g (Array.getElem?_eq_some_iff.1 q1).1 id).trans q1,q2.step hs (fun _ h=>h.elim) h1 (.refl _)⟩,he.ok,he.stp.trans (hs.mono fun _ h=>h.elim),he.good,h3,h2⟩
theorem Env.write{Y:Nat→Prop}(he:Env Z g w0 L dT w)(hs:Stp Y w w')(hY:∀b,Y b→Z b)(hg:¬Y g)(h0:∀b,Y b→w0.heap.size≤b)(h1:∀b,Z' b→Z b∨w.heap.size≤b)(h2:∀b,Z' b→b<w'.heap.size)(h3:Z' g):Env Z' g w0 L dT w':=by
 obtain⟨ys,ty,q1,q2⟩:=he.dice
 exact⟨⟨ys,ty,(hs.blk g (Array.getElem?_eq_some_iff.1 q1).1 hg).trans q1,q2.step hs hY h1 (.refl _)⟩,he.ok,he.stp.after hs fun x hx hl=>by have:=h0 x hx;omega,he.good,h3,h2⟩
theorem vU{x y:Operand}{ts:Array TypeId}{m:Int}(he:Env Z g w0 L dT w)(hf:Fr n env a)(hop:o.op=.call { callee:=.value (.func 27),args:=#[x,y],argTypes:=ts })(hd:o.dst=some d)(hlt:d<n)
 (hx:qM env x=some (pg g)) (hy:qM env y=some (vI m)) (h1:0<m) (h2:m≤4611686018427387904)
 (hn:∀v at1 a' w',aS ((),m,L,dT,())=some (v,L,at1,())→0≤v→v<m→Fr n ((d,vI v)::env) a'→Stp (·=g) w w'→Env Z g w0 L at1 w'→next a' w'):o.wp Tryz.prog a w next Q:=by
 obtain⟨v,at1,hu,hv0,hv1,hok⟩:=GS he.ok h1 h2
 refine xQ hf hop rfl hd hlt ⟨_,Tryz.func27,by kernel_rfl,by kernel_rfl⟩ (by simp only[Np,hx,hy]) (SE (Xc:=fun b=>Z b∧b≠g) (z:=vI v) (SF hu) (fun b=>⟨fun h=>(Decidable.em (b=g)).imp id fun e=>⟨h,e⟩,fun h=>h.elim (fun e=>e▸he.zg) (·.1)⟩) he.dice he.goodw (fun b hb=>he.zl b hb.1) fun h=>h.2 rfl) fun e w' ⟨e1,e2,e3⟩=>⟨_,e1,fun a' hf'=>hn v at1 a' w' hu hv0 hv1 hf' e2 ⟨e3,hok,he.stp.trans e2,he.good,he.zg,fun b hb=>Nat.lt_of_lt_of_le (he.zl b hb) e2.size⟩⟩
end
end Go.Eng.Tc
namespace Go.Eng.Tc
open Go.Eng Go.RowKit Go.Proofs
theorem aDT(x y:Int):((aC mW bD).call [.c (.t (.v (.int .i64 x))),.c (.t (.v (.int .i64 y)))] [] fun rs po=>some (rs,po))=ob (bD (x,y,())) fun q=>some ([.agg ([.v (.bool q.1),.sl 1 q.2.1,.sl 1 q.2.2.1,.v (.bool q.2.2.2.1),.sl 1 q.2.2.2.2.1,.sl 1 q.2.2.2.2.2.1,.v (.bool q.2.2.2.2.2.2.1),.sl 1 q.2.2.2.2.2.2.2.1,.sl 1 q.2.2.2.2.2.2.2.2.1].map C.t)],[]):=by kernel_rfl
end Go.Eng.Tc
namespace Go.Eng
open Go.RowKit
section
variable {P:Program} {n:Nat} {env:List (Nat×Value)} {Df:List Deferred} {a:Act} {w w':World} {Q:Exit→Act→World→Prop} {o:Oper} {next:Act→World→Prop}
theorem uP{x:Operand}{t ty:TypeId}{g off m:Nat}{cur:Array Value}{ys:List Value}(hf:Fr n env a Df)(hop:o.op=.load t x)(hs:tV P t=some m)(hb:CD P t=some true)(hx:qM env x=some (.pointer (some ⟨g,off,none⟩)))(hg:w.heap[g]?=some (.cells cur ty (0,0)))
 (hl:ys.length=m) (hy:(cur.toList.drop off).take m=ys):(execOp a.eval o).run P w=.ok (.value (.agg ys.toArray)) w:=by
 have h:(Instr.loadAt t (.pointer (some ⟨g,off,none⟩))).run P w=.ok (.agg ys.toArray) w:=by
  simp only[Instr.loadAt,Instr.sureAddr,Sem.run_bind,Sem.run_pure,Result.andThen_ok]
  have:=nI (P:=P) (w:=w) (ad:=⟨g,off,none⟩) (ys:=ys) hs hb (fun h=>by cases h) hl fun i u hi=>by
   have hadd:(⟨g,off,none⟩:Addr).add i=⟨g,off+i,none⟩:=by unfold Addr.add;split <;> simp_all
   have him:i<m:=by have:=(List.getElem?_eq_some_iff.1 hi).1;omega
   rw[hadd]
   simp only[World.cell?,hg]
   rw[←hy,List.getElem?_take,if_pos him,List.getElem?_drop] at hi
   simpa using hi
  simpa using this
 unfold execOp;rw[hop];simp only[hf.ev hx,Sem.run_bind,h,Result.andThen_ok];rfl
theorem AC{x y:Operand}{t ty:TypeId}{g off:Nat}{cs cur:Array Value}(hf:Fr n env a Df)(hop:o.op=.store t x y)(hd:o.dst=none)(hs:tV P t=some cs.size)(hx:qM env x=some (.pointer (some ⟨g,off,none⟩)))(hy:qM env y=some (.agg cs))
 (h1:∀v∈cs.toList,v.oneCell'=true) (hg:w.heap[g]?=some (.cells cur ty (0,0))) (hsz:off+cs.size≤cur.size) (hn:∀a',Fr n env a' Df→next a' (w.setRow g (cur.toList.take off++cs.toList++cur.toList.drop (off+cs.size)).toArray)):o.wp P a w next Q:=by
 refine Fe hf hd ?_ hn
 have hc:(Value.agg cs).cells=cs:=rfl
 have h:=qY (P:=P) (w:=w) (t:=t) (j:=off) (v:=.agg cs) hs (by rw[hc]) hg hsz (by rw[hc];exact h1)
 rw[hc] at h
 have h':(Instr.storeAt t (.pointer (some ⟨g,off,none⟩)) (.agg cs)).run P w=.ok () (w.setRow g (cur.toList.take off++cs.toList++cur.toList.drop (off+cs.size)).toArray):=by
  simp only[Instr.storeAt,Instr.sureAddr,Sem.run_bind,Sem.run_pure,Result.andThen_ok]
  exact h
 unfold execOp;rw[hop];simp only[hf.ev hx,hf.ev hy,Sem.run_bind,h',Result.andThen_ok];rfl
theorem TX{m:Nat}(hm:0<m):∀(cs:List (Array Value)) (k:Nat) (cells:Array Value),(∀c∈cs,c.size=m)→(k+cs.length)*m≤cells.size →
 Instr.fill (fun i=>some (i*m,m)) cells (AV k (cs.map Value.agg))=some (cells.toList.take (k*m)++(cs.map Array.toList).flatten++cells.toList.drop ((k+cs.length)*m)).toArray
 | [],k,cells,_,_=>by simp[AV,Instr.fill]
 | c::cs,k,cells,h1,hk=>by
  have hc:(Value.agg c).cells=c:=rfl
  have hcm:=h1 c (List.mem_cons_self ..)
  have hk1:k*m+m≤cells.size:=by
   have:(k+1)*m≤(k+(c::cs).length)*m:=Nat.mul_le_mul_right _ (by simp)
   rw[Nat.add_mul,Nat.one_mul] at this
   omega
  simp only[List.map_cons,AV,Instr.fill,hc]
  rw[if_neg (by rw[hcm];simp;omega)]
  have e1:=GY c.toList 0 (k*m) cells (by rw[Array.length_toList];omega)
  have e2:(c.zipIdx.foldl (fun(cs:Array Value) (x:Value×Nat)=>match x with | (c,j)=>cs.setIfInBounds (k*m+j) c) cells)=(cells.toList.take (k*m)++c.toList++cells.toList.drop (k*m+m)).toArray:=by
   apply Array.ext'
   rw[←Array.foldl_toList,Array.toList_zipIdx]
   rw[show (fun(cs:Array Value) (x:Value×Nat)=>match x with | (c,j)=>cs.setIfInBounds (k*m+j) c)=fun cs x=>cs.setIfInBounds (k*m+x.2) x.1 from rfl,e1]
   simp[Array.length_toList,hcm]
  rw[e2,TX hm cs (k+1) _ (fun c hc=>h1 c (List.mem_cons_of_mem _ hc)) (by
   simp only[List.size_toArray,List.length_append,List.length_take,List.length_drop,Array.length_toList,hcm]
   simp only[List.length_cons] at hk
   rw[show k+1+cs.length=k+(cs.length+1) by omega]
   omega)]
  congr 2
  have hlo:(cells.toList.take (k*m)).length=k*m:=by rw[List.length_take,Array.length_toList];omega
  have hl2:(cells.toList.take (k*m)++c.toList).length=(k+1)*m:=by rw[List.length_append,hlo,Array.length_toList,hcm,Nat.add_mul,Nat.one_mul]
  simp only[List.length_cons,List.flatten_cons]
  rw[List.take_append_of_le_length (by rw[hl2];exact Nat.le_refl _),List.take_of_length_le (by rw[hl2];exact Nat.le_refl _)]
  rw[List.drop_append,List.drop_of_length_le (by rw[hl2];exact Nat.mul_le_mul_right _ (by omega)),List.nil_append,hl2,List.drop_drop]
  have e3:k*m+m+((k+1+cs.length)*m-(k+1)*m)=(k+(cs.length+1))*m:=by
   rw[←Nat.sub_mul,show k+1+cs.length-(k+1)=cs.length by omega,Nat.add_mul,Nat.add_mul,Nat.one_mul]
   omega
  rw[e3]
  simp[List.append_assoc]
theorem Z0{m:Nat}:∀{cs:List (Array Value)},(∀c∈cs,c.size=m)→(cs.map Array.toList).flatten.length=cs.length*m
 | [],_=>by simp
 | c::cs,h=>by
  rw[List.map_cons,List.flatten_cons,List.length_append,Z0 fun c hc=>h c (List.mem_cons_of_mem _ hc),Array.length_toList,h c (List.mem_cons_self ..),List.length_cons,Nat.add_mul,Nat.one_mul]
  omega
theorem aAI{d len m:Nat}{t e:TypeId}{i:TypeInfo}{z:Value}{parts:Array (Nat×Operand)}{cs:List (Array Value)}(hf:Fr n env a Df)(hop:o.op=.buildSlice t len parts)(hd:o.dst=some d)(hlt:d<n)
 (ht:P.underlying t=some (.slice e)) (hi:P.info? e=some i) (hz:i.zero=some z) (hsz:i.size=m) (hm:0<m)
 (hp:wR env parts.toList=some (AV 0 (cs.map Value.agg))) (hl:cs.length=len) (hpos:0<len) (hmax:len≤1000) (hmx:len*m≤1000) (hc:∀c∈cs,c.size=m)
 (hn:∀a',Fr n ((d,.slice (some ⟨w.heap.size,0,none⟩) len len)::env) a' Df→rowAt (w.alloc (.cells (cs.map Array.toList).flatten.toArray e)) e m (.slice (some ⟨w.heap.size,0,none⟩) len len) len (cs.map Array.toList).flatten→next a' (w.alloc (.cells (cs.map Array.toList).flatten.toArray e))):o.wp P a w next Q:=by
 subst hl
 have hfl:=Z0 hc
 refine cY hf hd hlt ?_ fun a' hf'=>hn a' hf' ⟨hfl,.inr ⟨w.heap.size,0,cs.length,_,rfl,hpos,heap_alloc_new w _,Nat.le_refl _,by simp only[maxLen];omega,by simp[hfl],by simp only[List.drop_zero];rw[List.take_of_length_le (by rw[hfl];exact Nat.le_refl _)]⟩⟩
 have hpp:(parts.map fun(i,x)=>(i,a.eval x))=(AV 0 (cs.map Value.agg)).toArray:=by
  apply Array.ext'
  rw[Array.toList_map]
  exact JN hf hp
 have hsO:tV P e=some m:=by simp[tV,hi,hsz]
 have h:(Instr.buildSlice t cs.length (parts.map fun(i,x)=>(i,a.eval x))).run P w=.ok (.slice (some ⟨w.heap.size,0,none⟩) cs.length cs.length) (w.alloc (.cells (cs.map Array.toList).flatten.toArray e)):=by
  rw[hpp]
  unfold Instr.buildSlice
  simp only[Sem.run_bind,run_underlying ht,Result.andThen_ok,bR hsO]
  have hpm:0<cs.length*m:=Nat.mul_pos hpos hm
  rw[if_neg (by omega),if_neg (by omega)]
  simp only[Sem.run_bind,kF hi hz,Result.andThen_ok,Sem.run_pure]
  have hf:=TX hm cs 0 ((Array.range (cs.length*m)).map (fun x=>z.cells[x%z.cells.size]!)) hc (by simp)
  rw[hf]
  have e:(((Array.range (cs.length*m)).map (fun x=>z.cells[x%z.cells.size]!)).toList.take (0*m)++(cs.map Array.toList).flatten++((Array.range (cs.length*m)).map (fun x=>z.cells[x%z.cells.size]!)).toList.drop ((0+cs.length)*m)).toArray=(cs.map Array.toList).flatten.toArray:=by
   rw[Nat.zero_mul,List.take_zero,List.nil_append,List.drop_of_length_le (by simp),List.append_nil]
  rw[e]
  simp[newRow]
 unfold execOp;rw[hop]
 simp only[Sem.run_bind,h,Result.andThen_ok];rfl
theorem aAJ{d:Nat}{t e:TypeId}{i:TypeInfo}(hf:Fr n env a Df)(hop:o.op=.buildSlice t 0 #[])(hd:o.dst=some d)(hlt:d<n)
 (ht:P.underlying t=some (.slice e)) (hi:P.info? e=some i)
 (hn:∀a',Fr n ((d,.slice (some ⟨w.heap.size,0,none⟩) 0 0)::env) a' Df→next a' (w.alloc (.cells #[] e))):o.wp P a w next Q:=by
 refine cY hf hd hlt ?_ hn
 have hsO:tV P e=some i.size:=by simp[tV,hi]
 have h:(Instr.buildSlice t 0 #[]).run P w=.ok (.slice (some ⟨w.heap.size,0,none⟩) 0 0) (w.alloc (.cells #[] e)):=by
  unfold Instr.buildSlice
  simp only[Sem.run_bind,run_underlying ht,Result.andThen_ok,bR hsO]
  rw[if_neg (by omega),if_pos (by omega)]
  have e0:Array.range 0=#[]:=Array.eq_empty_of_size_eq_zero (by simp)
  simp[Instr.fill,newRow,e0]
 unfold execOp;rw[hop]
 simp only[Array.map_empty,Sem.run_bind,h,Result.andThen_ok];rfl
end
end Go.Eng
namespace Go.Eng.Tc
open Go.Eng Go.RowKit Go.Proofs
section
variable {P:Program} {w w':World} {X X' Y:Nat→Prop}
theorem yO(g off j:Nat):(⟨g,off,none⟩:Addr).add j=⟨g,off+j,none⟩:=by unfold Addr.add;split <;> simp_all
theorem WS{e e':TypeId}{m:Nat}{t:TypeId}{v:Value}{len:Nat}{xs:List Value}(hk:P.underlying t=some (.slice e'))(hr:rowAt w e m v len xs)(h1:∀u∈xs,u.oneCell'=true):Src P m t v len xs w:=by
 rcases id hr.2 with⟨hn | ⟨a,hn⟩,h0⟩ | ⟨g,off,cap,cur,rfl,q1,q2,q3,q4,q5,q6⟩
 ·subst h0 hn
  have:=hr.1
  rw[Nat.zero_mul] at this
  rw[List.length_eq_zero_iff.1 this]
  exact .ofNil w hk 0
 ·subst h0 hn
  have:=hr.1
  rw[Nat.zero_mul] at this
  rw[List.length_eq_zero_iff.1 this]
  exact .ofSlice w hk a 0 0 [] (by simp) (fun j u hj=>by simp at hj) (fun u hu=>by cases hu)
 ·exact .ofSlice w hk _ len cap xs hr.1 (fun j u hj=>hr.cells rfl j u hj) h1
theorem RdT.ones{l:List T}{ys:List Value}(h:RdT w X l ys):∀u∈ys,u.oneCell'=true:=fun u hu=>by
 obtain⟨i,hi,rfl⟩:=List.getElem_of_mem hu
 have hl:=h.1
 exact(h.2 i _ _ (List.getElem?_eq_getElem (by omega)) (List.getElem?_eq_getElem hi)).2
theorem OwnP.drop{gb off n cap m:Nat}{g:List T}(h:OwnP w X g (.slice (some ⟨gb,off,none⟩) n cap))(hn:n=g.length)(hm:m<g.length):OwnP w X (g.drop m) (.slice (some ⟨gb,off+m*9,none⟩) (n-m) (cap-m)):=by
 subst hn
 obtain⟨hu,cells,h1,h2⟩:=h
 refine⟨hu.drop m,cells.drop (m*9),?_,?_⟩
 ·rw[List.length_drop]
  have hc:=h1.1
  refine⟨by rw[List.length_drop,hc,Nat.sub_mul],?_⟩
  rcases h1.2 with⟨h3,h0⟩ | ⟨gb',off',cap',cur,e1,q1,q2,q3,q4,q5,q6⟩
  ·omega
  ·cases e1
   refine .inr ⟨gb,off+m*9,cap-m,cur,rfl,by omega,q2,by omega,by omega,by rw[Nat.sub_mul];have:m*9≤cap*9:=Nat.mul_le_mul_right _ (by omega);omega,?_⟩
   rw[←q6,List.drop_take,List.drop_drop,Nat.sub_mul]
 ·rw[hu.flat_drop m]
  refine⟨by rw[List.length_drop,List.length_drop,h2.1],fun i t y a b=>?_⟩
  rw[List.getElem?_drop] at a b
  exact h2.2 _ t y a b
theorem OwnP.open_{g:List T}{v:Value}(h:OwnP w X g v)(hpos:0<g.length):∃gb off cap cur,v=.slice (some ⟨gb,off,none⟩) g.length cap∧blk v=some gb∧g.length≤cap∧w.heap[gb]?=some (.cells cur 34 (0,0))∧off+cap*9≤cur.size∧cap≤maxLen ∧
 RdT w X (flat g) ((cur.toList.drop off).take (g.length*9)):=by
 obtain⟨hu,cells,h1,h2⟩:=h
 rcases h1.2 with⟨_,h0⟩ | ⟨gb,off,cap,cur,rfl,q1,q2,q3,q4,q5,q6⟩
 ·omega
 ·refine⟨gb,off,cap,cur,rfl,by show (if cap=0 then none else some gb)=some gb;rw[if_neg (by omega)],q3,q2,q5,q4,?_⟩
  rw[q6]
  exact h2
theorem Qq{g:List T}(hu:Uni 9 g){ys:List Value}(h:RdT w X (flat g) ys){i:Nat}{t:T}(hi:g[i]?=some t):RdT w X t.cells ((ys.drop (i*9)).take 9):=by
 have hlt:=(List.getElem?_eq_some_iff.1 hi).1
 have hl:t.cells.length=9:=hu t (List.mem_of_getElem? hi)
 have hle:i*9+9≤g.length*9:=by
  have:(i+1)*9≤g.length*9:=Nat.mul_le_mul_right _ hlt
  omega
 refine⟨by rw[List.length_take,List.length_drop,h.1,hu.length];omega,fun j s y a b=>?_⟩
 have hj:j<9:=by have:=(List.getElem?_eq_some_iff.1 a).1;omega
 rw[List.getElem?_take,if_pos hj,List.getElem?_drop] at b
 exact h.2 _ s y (by rw[hu.cell hi j hj];exact a) b
theorem OwnP.get{g:List T}{v:Value}(h:OwnP w X g v){i:Nat}{t:T}(hi:g[i]?=some t):∃gb off cap cur,v=.slice (some ⟨gb,off,none⟩) g.length cap∧blk v=some gb∧w.heap[gb]?=some (.cells cur 34 (0,0))∧off+g.length*9≤cur.size ∧
 ∃ys,ys.length=9∧(cur.toList.drop (off+i*9)).take 9=ys∧RdT w X t.cells ys:=by
 have hlt:=(List.getElem?_eq_some_iff.1 hi).1
 obtain⟨gb,off,cap,cur,e1,e2,e3,e4,e5,_,e6⟩:=h.open_ (by omega)
 have hr:=Qq h.1 e6 hi
 have h7:g.length*9≤cap*9:=Nat.mul_le_mul_right _ e3
 have hle:i*9+9≤g.length*9:=by
  have:(i+1)*9≤g.length*9:=Nat.mul_le_mul_right _ hlt
  omega
 rw[List.drop_take,List.drop_drop,List.take_take,Nat.min_eq_left (by omega)] at hr
 exact⟨gb,off,cap,cur,e1,e2,e4,by omega,_,by rw[hr.1,h.1 t (List.mem_of_getElem? hi)],rfl,hr⟩
theorem OwnP.put{g:List T}{v:Value}(h:OwnP w X g v){i gb off cap:Nat}{t:T}{ys:List Value}{cur:Array Value}(hi:i<g.length)(hv:v=.slice (some ⟨gb,off,none⟩) g.length cap)(hc:w.heap[gb]?=some (.cells cur 34 (0,0)))(hx:X gb)(ht:t.cells.length=9)(hy:RdT w X t.cells ys):
 OwnP (w.setRow gb (cur.toList.take (off+i*9)++ys++cur.toList.drop (off+i*9+9)).toArray) X (g.set i t) v:=by
 obtain⟨gb',off',cap',cur',e1,e2,e3,e4,e5,e5',e6⟩:=h.open_ (by omega)
 rw[hv] at e1
 simp only[Value.slice.injEq,Option.some.injEq,Addr.mk.injEq,true_and,and_true] at e1
 obtain⟨⟨rfl,rfl⟩,rfl⟩:=e1
 rw[hc] at e4
 simp only[Option.some.injEq,Obj.cells.injEq,and_true] at e4
 subst e4
 have hcl:cur.toList.length=cur.size:=Array.length_toList
 have hyl:ys.length=9:=by rw[hy.1,ht]
 have h7:g.length*9≤cap*9:=Nat.mul_le_mul_right _ e3
 have hle:i*9+9≤g.length*9:=by
  have:(i+1)*9≤g.length*9:=Nat.mul_le_mul_right _ hi
  omega
 have hs:=cT w gb (cur.toList.take (off+i*9)++ys++cur.toList.drop (off+i*9+9)).toArray
 have hun:Uni 9 (g.set i t):=fun s hs=>by
  rcases List.mem_or_eq_of_mem_set hs with hs | rfl
  ·exact h.1 s hs
  ·exact ht
 have hsz:(cur.toList.take (off+i*9)++ys++cur.toList.drop (off+i*9+9)).length=cur.size:=by
  simp only[List.length_append,List.length_take,List.length_drop,hcl,hyl];omega
 have hcut:((cur.toList.take (off+i*9)++ys++cur.toList.drop (off+i*9+9)).drop off).take (g.length*9)=((cur.toList.drop off).take (g.length*9)).take (i*9)++ys++((cur.toList.drop off).take (g.length*9)).drop (i*9+9):=by
  apply List.ext_getElem?
  intro j
  have l1:(cur.toList.take (off+i*9)).length=off+i*9:=by rw[List.length_take,hcl];omega
  have l2:(((cur.toList.drop off).take (g.length*9)).take (i*9)).length=i*9:=by simp only[List.length_take,List.length_drop,hcl];omega
  have l3:(cur.toList.take (off+i*9)++ys).length=off+i*9+9:=by rw[List.length_append,l1,hyl]
  have l4:(((cur.toList.drop off).take (g.length*9)).take (i*9)++ys).length=i*9+9:=by rw[List.length_append,l2,hyl]
  rw[List.getElem?_take]
  by_cases hj:j<g.length*9
  ·rw[if_pos hj,List.getElem?_drop]
   by_cases h1:j<i*9
   ·rw[List.getElem?_append_left (by omega),List.getElem?_append_left (by omega),List.getElem?_append_left (by omega),List.getElem?_append_left (by omega)]
    rw[List.getElem?_take,if_pos (by omega),List.getElem?_take,if_pos h1,List.getElem?_take,if_pos hj,List.getElem?_drop]
   ·by_cases h2:j<i*9+9
    ·rw[List.getElem?_append_left (by omega),List.getElem?_append_right (by omega),List.getElem?_append_left (by omega),List.getElem?_append_right (by omega),l1,l2]
     congr 1;omega
    ·rw[List.getElem?_append_right (by omega),List.getElem?_append_right (by omega),l3,l4,List.getElem?_drop,List.getElem?_drop,List.getElem?_take,if_pos (by omega),List.getElem?_drop]
     congr 1;omega
  ·rw[if_neg hj]
   symm
   apply List.getElem?_eq_none
   simp only[List.length_append,List.length_take,List.length_drop,hcl,hyl]
   omega
 refine⟨hun,((cur.toList.drop off).take (g.length*9)).take (i*9)++ys++((cur.toList.drop off).take (g.length*9)).drop (i*9+9),?_,?_⟩
 ·rw[List.length_set,hv]
  refine⟨by simp only[List.length_append,List.length_take,List.length_drop,hcl,hyl];omega,.inr ⟨gb,off,cap,_,rfl,by omega,setRow_heap w gb cur _ 34 (0,0) hc,e3,e5',by rw[List.size_toArray,hsz];exact e5,hcut⟩⟩
 ·have hsp:=e6.splice hy (p:=i*9) (by rw[h.1.length,ht];exact hle)
  rw[ht] at hsp
  have hfl:flat (g.set i t)=(flat g).take (i*9)++t.cells++(flat g).drop (i*9+9):=by
   rw[List.set_eq_take_append_cons_drop,if_pos hi,iH,iL,h.1.flat_take,h.1.flat_drop,Nat.add_mul,Nat.one_mul,List.append_assoc]
  rw[hfl]
  exact hsp.step hs (fun b hb=>by rw[show b=gb from hb];exact hx) fun b hb=>.inl hb
end
end Go.Eng.Tc
namespace Go.Eng.Tc
open Go.Eng Go.RowKit Go.Proofs Go.Eng.Rt
theorem xG:Tryz.prog.underlying 35=some (.slice 34):=by kernel_rfl
theorem AD:Tryz.prog.underlying 25=some (.slice 35):=by kernel_rfl
theorem vB:tV Tryz.prog 34=some 9:=by kernel_rfl
theorem Z1:CD Tryz.prog 34=some true:=by kernel_rfl
theorem pD:tV Tryz.prog 35=some 1:=by kernel_rfl
theorem GW:CD Tryz.prog 35=some false:=by kernel_rfl
noncomputable def Ho(t:TypeId)(m:Nat):Bool:=match Tryz.prog.info? t with
 | some i=>match i.zero with
  | some z=>decide (z.cells.size=m)&&decide (i.size=m)&&decide (i.bytes≤1000)
  | none=>false
 | none=>false
theorem EW{t:TypeId}{m:Nat}(h:Ho t m=true):∃i z,Tryz.prog.info? t=some i∧i.zero=some z∧z.cells.size=m∧i.size=m∧i.bytes≤1000:=by
 unfold Ho at h
 split at h
 ·rename_i i hi
  split at h
  ·rename_i z hz
   rw[Bool.and_eq_true,Bool.and_eq_true,decide_eq_true_iff,decide_eq_true_iff,decide_eq_true_iff] at h
   exact⟨i,z,hi,hz,h.1.1,h.1.2,h.2⟩
  ·cases h
 ·cases h
theorem Hp:Ho 34 9=true:=by kernel_rfl
theorem Ww:Ho 35 1=true:=by kernel_rfl
structure Ow (w0:World) (Z:Nat→Prop) (G:List (List T)) (h:HX) (w:World):Prop where
 own:OwnX w Z G h
 nd:(I1 h).Nodup
 new:∀b∈I1 h,w0.heap.size≤b
 z:∀b∈I1 h,Z b
 zl:∀b,Z b→b<w.heap.size
structure Pr (w0:World) (Z:Nat→Prop) (h:HX) (l:List T) (v:Value) (w:World):Prop where
 own:OwnP w Z l v
 dis:∀b∈eF v,b∉I1 h
 new:∀b∈eF v,w0.heap.size≤b
 z:∀b∈eF v,Z b
section
variable {n:Nat} {env:List (Nat×Value)} {a:Act} {w0 w w':World} {Q:Exit→Act→World→Prop} {o:Oper} {next:Act→World→Prop} {d:Nat} {Z Z' Y:Nat→Prop} {G:List (List T)} {h:HX} {l:List T} {v:Value}
theorem Dm{b:Nat}(ho:Ow w0 Z G h w)(hb:b∈I1 h):b<w.heap.size:=ho.zl b (ho.z b hb)
theorem Ow.write(ho:Ow w0 Z G h w)(hs:Stp Y w w')(hY:∀b,Y b→Z b)(hb:∀b∈I1 h,¬Y b)(h1:∀b,Z' b→Z b∨w.heap.size≤b)(h2:∀b,Z' b→b<w'.heap.size)(h3:∀b,Z b→Z' b):Ow w0 Z' G h w':=
 ⟨ho.own.step hs hb hY h1,ho.nd,ho.new,fun b hb=>h3 b (ho.z b hb),h2⟩
theorem Ow.grow(ho:Ow w0 Z G h w)(hs:Stp (fun _=>False) w w')(h1:∀b,Z' b→Z b∨w.heap.size≤b)(h2:∀b,Z' b→b<w'.heap.size)(h3:∀b,Z b→Z' b):Ow w0 Z' G h w':=
 ho.write hs (fun _ h=>h.elim) (fun _ _ h=>h) h1 h2 h3
theorem Pr.write(hp:Pr w0 Z h l v w)(hs:Stp Y w w')(hY:∀b,Y b→Z b)(hb:∀b∈eF v,¬Y b)(h1:∀b,Z' b→Z b∨w.heap.size≤b)(h3:∀b,Z b→Z' b):Pr w0 Z' h l v w':=
 ⟨hp.own.step hs hb hY h1,hp.dis,hp.new,fun b hb=>h3 b (hp.z b hb)⟩
theorem Pr.grow(hp:Pr w0 Z h l v w)(hs:Stp (fun _=>False) w w')(h1:∀b,Z' b→Z b∨w.heap.size≤b)(h3:∀b,Z b→Z' b):Pr w0 Z' h l v w':=
 hp.write hs (fun _ h=>h.elim) (fun _ _ h=>h) h1 h3
theorem aAK{x y:Int}(hx:x.natAbs<2147483648)(hy:y.natAbs<2147483648):bD (x,y,())=some (aM (x:Rat),aU (x:Rat),aY (x:Rat),aM (y:Rat),aU (y:Rat),aY (y:Rat),false,[],[],()):=by
 unfold bD
 simp only[LO (n:=x) (by omega) (by omega),LO (n:=y) (by omega) (by omega),bC]
theorem Hq{f:FuncId}{A:Callee}{c:Call}{args:List S1}{vals:List Value}{ts:List T}(hA:A.OK Tryz.prog f)(hk:(A.call args [] fun rs po=>some (rs,po))=some ([.agg (ts.map C.t)],[]))(hcall:tX Tryz.prog f)(hG:Good Tryz.prog w fun _=>False)(hZ:∀b,Z b→b<w.heap.size)(hf:Fr n env a)(hop:o.op=.call c)(hc:c.callee=.value (.func f))(hd:o.dst=some d)(hlt:d<n)
 (hv:Np env c.args.toList=some vals) (hargs:RdSs w (XB [] (fun _=>none) Z) (fun _=>none) args vals)
 (hn:∀ys a' w',Fr n ((d,.agg ys)::env) a'→Stp (fun _=>False) w w'→RdT w' Z ts ys.toList→ys.size=ts.length→next a' w'):o.wp Tryz.prog a w next Q:=by
 obtain⟨rs',po',h1,h2⟩:=hA.1 _ _ _ _ hk
 simp only[Option.some.injEq,Prod.mk.injEq] at h1
 obtain⟨e1,e2⟩:=h1
 subst e1;subst e2
 have hm:∀b,¬sJ [] (fun _=>none) b:=fun b ⟨k,o,v,h1,_⟩=>by simp at h1
 have xb:∀{ρ:gU} {b:Nat},XB [] ρ Z b↔Z b:=fun {ρ b}=>⟨fun hh=>hh.elim (fun⟨k,o,v,h1,_⟩=>by simp at h1) id,.inr⟩
 refine xQ hf hop hc hd hlt hcall hv (h2 w Z (fun _=>none) vals (fun k o h=>by simp at h) (fun k k' b ⟨o,v,h1,_⟩=>by simp at h1) hZ (fun b h=>(hm b h).elim)
  (fun g k hg=>⟨fun hh=>hm g hh,(hG g k hg).2⟩) hargs) fun e w' hp=>?_
 obtain⟨v,ρ',rfl,p1,_,_,_,_,_,p7⟩:=hp
 refine⟨v,rfl,fun a' hf'=>?_⟩
 have p8:RdS w' (XB [] ρ' Z) ρ' (.agg (ts.map C.t)) v:=p7
 obtain⟨ys,rfl,q1,q2⟩:=p8
 rw[List.length_map] at q1
 refine hn ys a' w' hf' (p1.mono fun b hb _=>hm b hb) ⟨q1,fun i t y a b=>?_⟩ (by rw[←Array.length_toList,q1])
 rcases q2 i (.t t) y (by rw[List.getElem?_map,a];rfl) b with h3 | ⟨h3,h4⟩
 ·cases h3
 ·exact⟨Rd.weak h3 fun b hb=>xb.2 hb,h4⟩
theorem BA{x y:Operand}{zx zy:Int}{ts:Array TypeId}(hG:Good Tryz.prog w fun _=>False)(hZ:∀b,Z b→b<w.heap.size)(hf:Fr n env a)(hop:o.op=.call { callee:=.value (.func 18),args:=#[x,y],argTypes:=ts })(hd:o.dst=some d)(hlt:d<n)
 (hx:qM env x=some (vI zx)) (hy:qM env y=some (vI zy)) (b1:zx.natAbs<2147483648) (b2:zy.natAbs<2147483648)
 (hn:∀ys a' w',Fr n ((d,.agg ys)::env) a'→Stp (fun _=>False) w w'→RdT w' Z (Go.Eng.Rt.wT (zx,zy)).cells ys.toList→ys.size=9→next a' w'):o.wp Tryz.prog a w next Q:=by
 have hk:=aDT zx zy
 rw[aAK b1 b2] at hk
 exact Hq (ts:=(Go.Eng.Rt.wT (zx,zy)).cells) uK hk ⟨_,Tryz.func18,by kernel_rfl,by kernel_rfl⟩ hG hZ hf hop rfl hd hlt (by simp only[Np,hx,hy];rfl) (CW (.inr ⟨.v _,rfl⟩) (.inr ⟨.v _,rfl⟩)) hn
theorem aCQ(x:Int):((aC vN aE).call [.c (.t (.v (vI x)))] [] fun rs po=>some (rs,po))=ob (aE (x,())) fun q=>some ([.agg ([.v (.bool q.1),.sl 1 q.2.1,.sl 1 q.2.2.1].map C.t)],[]):=by kernel_rfl
theorem Hr{x:Operand}{z:Int}{ts:Array TypeId}(hG:Good Tryz.prog w fun _=>False)(hZ:∀b,Z b→b<w.heap.size)(hf:Fr n env a)(hop:o.op=.call { callee:=.value (.func 17),args:=#[x],argTypes:=ts })(hd:o.dst=some d)(hlt:d<n)
 (hx:qM env x=some (vI z)) (b1:z.natAbs<2147483648)
 (hn:∀ys a' w',Fr n ((d,.agg ys)::env) a'→Stp (fun _=>False) w w'→RdT w' Z [.v (.bool (aM (z:Rat))),.sl 1 (aU (z:Rat)),.sl 1 (aY (z:Rat))] ys.toList→ys.size=3→next a' w'):o.wp Tryz.prog a w next Q:=by
 have hk:=aCQ z
 rw[LO (n:=z) (by omega) (by omega)] at hk
 exact Hq (ts:=[.v (.bool (aM (z:Rat))),.sl 1 (aU (z:Rat)),.sl 1 (aY (z:Rat))]) xS hk ⟨_,Tryz.func17,by kernel_rfl,by kernel_rfl⟩ hG hZ hf hop rfl hd hlt (by simp only[Np,hx]) (pI (.inr ⟨.v _,rfl⟩)) hn
theorem Qr{len:Nat}{parts:Array (Nat×Operand)}{cs:List (Array Value)}{pts:List T}(hf:Fr n env a)(hop:o.op=.buildSlice 35 len parts)(hd:o.dst=some d)(hlt:d<n)
 (hp:wR env parts.toList=some (AV 0 (cs.map Value.agg))) (hl:cs.length=len) (hpos:0<len) (hmax:len≤100) (hc:∀c∈cs,c.size=9) (hu:Uni 9 pts) (hlp:pts.length=len) (hr:RdT w Z (flat pts) (cs.map Array.toList).flatten)
 (hn:∀a' w',Fr n ((d,.slice (some ⟨w.heap.size,0,none⟩) len len)::env) a'→Stp (fun _=>False) w w'→w.heap.size<w'.heap.size→OwnP w' (fun b=>Z b∨b=w.heap.size) pts (.slice (some ⟨w.heap.size,0,none⟩) len len)→next a' w'):o.wp Tryz.prog a w next Q:=by
 obtain⟨i,z,i1,i2,i3,i4,i5⟩:=EW Hp
 refine aAI hf hop hd hlt xG i1 i2 i4 (by decide) hp hl hpos (by omega) (by omega) hc fun a' hf' hrow=>?_
 have hs:=Stp.alloc (fun _=>False) w (.cells (cs.map Array.toList).flatten.toArray 34)
 refine hn a' _ hf' hs (by simp) ⟨hu,_,by rw[hlp];exact hrow,hr.step hs (fun _ h=>h.elim) fun b hb=>hb.imp id fun e=>by omega⟩
theorem IZ{a:Addr}{k:Nat}{b:Nat}:b∉eF (.slice (some a) k 0):=fun h=>by
 have:=dO.1 h
 simp[blk] at this
theorem Vg{x y:Operand}{g m:List T}{v sv:Value}(hf:Fr n env a)(hop:o.op=.call { callee:=.builtin .append,args:=#[x,y],argTypes:=#[35,35] })(hd:o.dst=some d)(hlt:d<n)(hx:qM env x=some v)(hy:qM env y=some sv)
 (hg:OwnP w Z g v) (hm:OwnP w Z m sv) (hz:∀b∈eF v,Z b) (hmx:g.length+m.length≤1000)
 (hn:∀a' v' w',Fr n ((d,v')::env) a'→Stp (fun b=>b∈eF v) w w'→OwnP w' (fun b=>Z b∨b∈eF v') (g++m) v'→((∀b,b∈eF v'↔b∈eF v)∨∀b,b∈eF v'↔b=w.heap.size)→next a' w'):o.wp Tryz.prog a w next Q:=by
 obtain⟨i,z,i1,i2,i3,i4,i5⟩:=EW Hp
 obtain⟨hmu,ms,m1,m2⟩:=hm
 obtain⟨hgu,gs,g1,g2⟩:=hg
 have hsrc:Src Tryz.prog i.size 35 sv m.length ms w:=by rw[i4];exact WS xG m1 (RdT.ones m2)
 have g1':rowAt w 34 i.size v g.length gs:=by rw[i4];exact g1
 refine TA hf hop hd hlt xG i1 i2 (by rw[i3,i4]) (by rw[i4];decide) hx hy g1' hsrc (by simp only[maxLen];omega) (by
  have:(g.length+m.length)*i.bytes≤1000*1000:=Nat.mul_le_mul hmx i5
  omega) fun a' v' w' hf' hrow hgr hb=>?_
 rw[i4] at hrow
 have hs:Stp (fun b=>b∈eF v) w w':=Stp.grown hgr fun b e=>dO.2 e
 have hb':(∀b,b∈eF v'↔b∈eF v)∨∀b,b∈eF v'↔b=w.heap.size:=by
  rcases hb with hb | hb
  ·left;intro b;rw[dO,dO,hb]
  ·right;intro b;rw[dO,hb];simp[eq_comm]
 have hX':∀b,(Z b∨b∈eF v')→Z b∨w.heap.size≤b:=fun b hbb=>by
  rcases hbb with h1 | h1
  ·exact .inl h1
  ·rcases hb' with hb' | hb'
   ·exact .inl (hz b ((hb' b).1 h1))
   ·right;have:=(hb' b).1 h1;omega
 refine hn a' v' w' hf' hs ⟨hgu.append hmu,gs++ms,by rw[List.length_append];exact hrow,?_⟩ hb'
 rw[iH]
 exact(g2.step hs hz hX').append (m2.step hs hz hX')
theorem WT{x:Operand}{r:Value}(hf:Fr n env a)(hop:o.op=.buildSlice 25 1 #[(0,x)])(hd:o.dst=some d)(hlt:d<n)(hx:qM env x=some r)(h1:r.oneCell'=true)
 (hn:∀a' w',Fr n ((d,.slice (some ⟨w.heap.size,0,none⟩) 1 1)::env) a'→Stp (fun _=>False) w w'→rowAt w' 35 1 (.slice (some ⟨w.heap.size,0,none⟩) 1 1) 1 [r]→next a' w'):o.wp Tryz.prog a w next Q:=by
 obtain⟨i,z,i1,i2,i3,i4,i5⟩:=EW Ww
 exact Yb hf hop hd hlt AD i1 i2 i3 i4 (vs:=[r]) (by show wR env [(0,x)]=_;simp only[wR,hx];rfl) rfl (by decide) (by decide) (fun u hu=>by rw[List.mem_singleton] at hu;rw[hu];exact h1) fun a' hf' hrow=>
  hn a' _ hf' (Stp.alloc _ _ _) hrow
theorem Hs{x y:Operand}{g:List T}{r lv:Value}(hf:Fr n env a)(hop:o.op=.call { callee:=.builtin .append,args:=#[x,y],argTypes:=#[25,25] })(hd:o.dst=some d)(hlt:d<n)(hx:qM env x=some h.1)(hy:qM env y=some lv)
 (ho:OwnX w Z G h) (hsep:∀v∈h.2,∀b∈eF v,b∉eF h.1) (hz:∀b∈eF h.1,Z b) (hlit:rowAt w 35 1 lv 1 [r]) (hr:OwnP w Z g r) (hrb:∀b∈eF r,b∉eF h.1) (hmx:G.length≤100)
 (hn:∀a' v' w',Fr n ((d,v')::env) a'→Stp (fun b=>b∈eF h.1) w w'→OwnX w' (fun b=>Z b∨b∈eF v') (G++[g]) (v',h.2++[r])→((∀b,b∈eF v'↔b∈eF h.1)∨∀b,b∈eF v'↔b=w.heap.size)→(∀b∈eF v',b<w'.heap.size)→next a' w'):o.wp Tryz.prog a w next Q:=by
 obtain⟨i,z,i1,i2,i3,i4,i5⟩:=EW Ww
 have hsrc:Src Tryz.prog i.size 25 lv 1 [r] w:=by rw[i4];exact WS AD hlit (fun u hu=>by rw[List.mem_singleton] at hu;rw[hu];exact hr.one)
 have g1':rowAt w 35 i.size h.1 G.length h.2:=by rw[i4];exact ho.row
 refine TA hf hop hd hlt AD i1 i2 (by rw[i3,i4]) (by rw[i4];decide) hx hy g1' hsrc (by simp only[maxLen];omega) (by
  have:(G.length+1)*i.bytes≤1000*1000:=Nat.mul_le_mul (by omega) i5
  omega) fun a' v' w' hf' hrow hgr hb=>?_
 rw[i4] at hrow
 have hs:Stp (fun b=>b∈eF h.1) w w':=Stp.grown hgr fun b e=>dO.2 e
 have hb':(∀b,b∈eF v'↔b∈eF h.1)∨∀b,b∈eF v'↔b=w.heap.size:=by
  rcases hb with hb | hb
  ·left;intro b;rw[dO,dO,hb]
  ·right;intro b;rw[dO,hb];simp[eq_comm]
 refine hn a' v' w' hf' hs (ho.app hsep hr hrb hz (fun b hbb=>?_) hrow hgr) hb' fun b hb=>rowAt.lt hrow (dO.1 hb)
 rcases hbb with h1 | h1
 ·exact .inl h1
 ·rcases hb' with hb' | hb'
  ·exact .inl (hz b ((hb' b).1 h1))
  ·right;have:=(hb' b).1 h1;omega
theorem Qs(v:Value):(eF v).Nodup:=by
 unfold eF
 cases blk v <;> simp
theorem Ow.sep(ho:Ow w0 Z G h w):∀v∈h.2,∀b∈eF v,b∉eF h.1:=fun v hv b hb hb1=>by
 have:=(List.nodup_append.1 ho.nd).2.2
 exact this b hb1 b (List.mem_flatMap.2 ⟨v,hv,hb⟩) rfl
theorem Ow.more{g:List T}{r v':Value}(ho:Ow w0 Z G h w)(hp:Pr w0 Z h g r w)(hx:OwnX w' (fun b=>Z b∨b∈eF v') (G++[g]) (v',h.2++[r]))(hb':(∀b,b∈eF v'↔b∈eF h.1)∨∀b,b∈eF v'↔b=w.heap.size)(hlt:∀b∈eF v',b<w'.heap.size)
 (hsz:w.heap.size≤w'.heap.size) (h0:w0.heap.size≤w.heap.size):Ow w0 (fun b=>Z b∨b∈eF v') (G++[g]) (v',h.2++[r]) w':=by
 have hmem:∀b,b∈I1 (v',h.2++[r])→b∈eF v'∨b∈h.2.flatMap eF∨b∈eF r:=fun b hb=>by
  rcases List.mem_append.1 hb with h1 | h1
  ·exact .inl h1
  ·rw[List.flatMap_append] at h1
   rcases List.mem_append.1 h1 with h1 | h1
   ·exact .inr (.inl h1)
   ·right;right
    simpa using h1
 have hx2:∀b,b∈h.2.flatMap eF→b∈I1 h:=fun b hb=>List.mem_append.2 (.inr hb)
 have hx1:∀b,b∈eF h.1→b∈I1 h:=fun b hb=>List.mem_append.2 (.inl hb)
 refine⟨hx,?_,fun b hb=>?_,fun b hb=>?_,fun b hb=>?_⟩
 ·obtain⟨n1,n2,n3⟩:=List.nodup_append.1 ho.nd
  show (eF v'++(h.2++[r]).flatMap eF).Nodup
  rw[List.nodup_append]
  refine⟨Qs _,?_,fun x hx1' y hy=>?_⟩
  ·rw[List.flatMap_append,List.nodup_append]
   refine⟨n2,by simpa using Qs r,fun x hx y hy=>?_⟩
   have hy:y∈eF r:=by simpa using hy
   rintro rfl
   exact hp.dis x hy (hx2 x hx)
  ·have hy:y∈h.2.flatMap eF∨y∈eF r:=by
    rw[List.flatMap_append] at hy
    rcases List.mem_append.1 hy with h1 | h1
    ·exact .inl h1
    ·right;simpa using h1
   rintro rfl
   rcases hb' with hb' | hb'
   ·have h1:=(hb' x).1 hx1'
    rcases hy with hy | hy
    ·exact n3 x h1 x hy rfl
    ·exact hp.dis x hy (hx1 x h1)
   ·have h1:=(hb' x).1 hx1'
    rcases hy with hy | hy
    ·have:=ho.zl x (ho.z x (hx2 x hy));omega
    ·have:=ho.zl x (hp.z x hy);omega
 ·rcases hmem b hb with h1 | h1 | h1
  ·rcases hb' with hb' | hb'
   ·exact ho.new b (hx1 b ((hb' b).1 h1))
   ·have:=(hb' b).1 h1;omega
  ·exact ho.new b (hx2 b h1)
  ·exact hp.new b h1
 ·rcases hmem b hb with h1 | h1 | h1
  ·exact .inr h1
  ·exact .inl (ho.z b (hx2 b h1))
  ·exact .inl (hp.z b h1)
 ·rcases hb with h1 | h1
  ·have:=ho.zl b h1;omega
  ·exact hlt b h1
end
end Go.Eng.Tc
namespace Go.Eng.Tc
open Go.Eng Go.RowKit Go.Proofs Go.Eng.Rt
def pE:List Nat→Code→Code
 | [],c=>c
 | 0::p,.seq x _=>pE p x
 | _::p,.seq _ y=>pE p y
 | 0::p,.cond _ x _=>pE p x
 | _::p,.cond _ _ y=>pE p y
 | _::p,.block _ x=>pE p x
 | _::p,.loop x=>pE p x
 | _,c=>c
def TY:Code→Array Oper
 | .region _ ops _=>ops
 | _=>#[]
theorem LS:∀(vs:List Value) (k t:Nat) (v:Value),(AV k vs).lookup t=some v→k≤t∧vs[t-k]?=some v
 | [],k,t,v,h=>by simp[AV] at h
 | x::vs,k,t,v,h=>by
  simp only[AV] at h
  rw[List.lookup_cons] at h
  by_cases hk:t=k
  ·subst hk;simp at h;subst h;exact⟨Nat.le_refl _,by simp⟩
  ·rw[beq_eq_false_iff_ne.2 hk] at h
   obtain⟨h1,h2⟩:=LS vs (k+1) t v h
   refine⟨by omega,?_⟩
   rw[show t-k=t-(k+1)+1 from by omega]
   exact h2
theorem Fr.start(vs:List Value)(m n:Nat)(h:vs.length+m=n):Fr n (AV 0 vs) { tmps:=vs.toArray++Array.replicate m undef,defers:=[] }:=by
 refine⟨by simp[h],rfl,fun t v hl=>?_⟩
 obtain⟨_,h2⟩:=LS vs 0 t v hl
 have hlt:t<vs.length:=(List.getElem?_eq_some_iff.1 h2).1
 rw[Array.getD_eq_getD_getElem?,Array.getElem?_append_left (by simpa using hlt)]
 simp at h2
 simp[h2]
theorem yP{P:Program}{f:FuncId}{fn:Func}{c:Code}{w:World}{R:Ending→World→Prop}(vs:List Value)(m n:Nat)(hf:P.funcs[f]?=some fn)(hb:fn.body=some c)(hm:vs.length+m=n)(hn:fn.ntmps=n)
 (h:∀a,Fr n (AV 0 vs) a→c.wp P (bodyPost P fn R) a w):Calls P f vs.toArray w R:=by
 refine calls_of_wp hf hb (h _ ?_)
 rw[show fn.ntmps-vs.toArray.size=m from by rw[hn,List.size_toArray];omega]
 exact Fr.start vs m n hm
theorem EX{P:Program}{fn:Func}{t n:Nat}{env:List (Nat×Value)}{a:Act}{w:World}{v:Value}{R:Ending→World→Prop}(hr:fn.results=#[.tmp t])(hf:Fr n env a)(hv:env.lookup t=some v)(h:R (.returned v) w):bodyPost P fn R .ret a w:=by
 refine⟨hf.defers,v,?_,h⟩
 unfold results
 rw[hr]
 have:=hf.get t v hv
 rw[Array.getD_eq_getD_getElem?] at this
 simp[this]
theorem QR(x y:Int):xH Tryz.prog .add 3 3 (dV (vI x)) (dV (vI y)) some=some (dV (vI (wr .i64 (x+y)))):=by rw[←aJ];kernel_rfl
theorem WU(x y:Int):xH Tryz.prog .sub 3 3 (dV (vI x)) (dV (vI y)) some=some (dV (vI (wr .i64 (x-y)))):=by rw[←cB];kernel_rfl
theorem Qt(x y:Int):xH Tryz.prog .mul 3 3 (dV (vI x)) (dV (vI y)) some=some (dV (vI (wr .i64 (x*y)))):=by rw[←fG];kernel_rfl
theorem WV(x y:Int):xH Tryz.prog .add 2 2 (dV (vI x)) (dV (vI y)) some=some (dV (vI (wr .i64 (x+y)))):=by rw[←aJ];kernel_rfl
theorem Qu(x y:Int):xH Tryz.prog .lss 3 3 (dV (vI x)) (dV (vI y)) some=some (dV (.bool (ltI x y))):=by kernel_rfl
theorem Dn(x y:Int):xH Tryz.prog .gtr 3 3 (dV (vI x)) (dV (vI y)) some=some (dV (.bool (ltI y x))):=by kernel_rfl
theorem zG(x y:Int):xH Tryz.prog .eql 3 3 (dV (vI x)) (dV (vI y)) some=some (dV (.bool (eqI x y))):=by kernel_rfl
theorem aAL(x y:Int)(h:y≠0):xH Tryz.prog .rem 3 3 (dV (vI x)) (dV (vI y)) some=some (dV (vI (pZ x y))):=by
 have:xH Tryz.prog .rem 3 3 (dV (vI x)) (dV (vI y)) some=ob (nz y) fun y=>some (dV (vI (pZ x y))):=by kernel_rfl
 rw[this,N7 h];rfl
theorem WW{P:Program}{n:Nat}{env:List (Nat×Value)}{Df:List Deferred}{a:Act}{w:World}{o:Oper}{x:Operand}{t:TypeId}{z:Int}(hf:Fr n env a Df)(hop:o.op=.unOp .neg t x)(hu:P.underlying t=some (.int .i64))(hx:qM env x=some (vI z)):(execOp a.eval o).run P w=.ok (.value (vI (wr .i64 (0-z)))) w:=by
 have hk:Rn (P:=P) .neg t (dV (vI z)) some=some (dV (vI (wr .i64 (0-z)))):=by
  unfold Rn
  rw[hu,←cB]
  rfl
 obtain⟨d,v,e1,e2,e3⟩:=Lg (w:=w) (X:=fun _=>False) (ρ:=fun _=>none) (vx:=vI z) (.val rfl) hk
 cases e3
 have e4:v=vI (wr .i64 (0-z)):=by
  rcases e2 with e2 | ⟨e2,_⟩
  ·cases e2
  ·exact Rd.inv_v e2
 subst e4
 unfold execOp;rw[hop];simp only[hf.ev hx,Sem.run_bind,e1,Result.andThen_ok];rfl
theorem dL{P:Program}{n:Nat}{env:List (Nat×Value)}{Df:List Deferred}{a:Act}{w:World}{Q:Exit→Act→World→Prop}{o:Oper}{ops:Array Oper}{i d fuel:Nat}{v:Value}{listed:Array Bool}(hf:Fr n env a Df)(ho:ops[i]?=some o)(hB:(Region.noSelect ops&&Region.free .any ops listed i&&(Region.ready .any ops listed).contains i)=true)(hQ:∀c a d v w,Q (.panic c) (a.put d v) w→Q (.panic c) a w)(hg:o.guard=none)
 (hd:o.dst=some d) (hlt:d<n) (hrun:∀w,(execOp a.eval o).run P w=.ok (.value v) w) (hn:∀a',Fr n ((d,v)::env) a' Df→wpAny P .any ops Q fuel (listed.setIfInBounds i true) a' w):wpAny P .any ops Q (fuel+1) listed a w:=by
 rw[Bool.and_eq_true,Bool.and_eq_true] at hB
 exact Nr hf ho hB.1.1 hB.1.2 hB.2 hQ hg hd hlt hrun hn
theorem ul2:Tryz.prog.underlying 2=some (.int .i64):=by kernel_rfl
structure Rs (Z:Nat→Prop) (g:Nat) (w0:World) (L:List T) (dT:Int) (G:List (List T)) (h:HX) (w:World):Prop where
 env:Env Z g w0 L dT w
 ow:Ow w0 Z G h w
 gl:g<w0.heap.size
section
variable {Z Z' Y:Nat→Prop} {g:Nat} {w0 w w':World} {L:List T} {dT at1:Int} {G:List (List T)} {h:HX} {l:List T} {v:Value} {a:Act} {Q:Exit→Act→World→Prop}
theorem Rs.ng(hr:Rs Z g w0 L dT G h w):∀b∈I1 h,b≠g:=fun b hb e=>by have:=hr.ow.new b hb;have:=hr.gl;omega
theorem Rs.next(hr:Rs Z g w0 L dT G h w)(hs:Stp (·=g) w w')(he:Env Z g w0 L at1 w'):Rs Z g w0 L at1 G h w':=
 ⟨he,hr.ow.write hs (fun b e=>by rw[show b=g from e];exact hr.env.zg) hr.ng (fun b hb=>.inl hb) he.zl fun b hb=>hb,hr.gl⟩
theorem Rs.nextP(hr:Rs Z g w0 L dT G h w)(hp:Pr w0 Z h l v w)(hs:Stp (·=g) w w'):Pr w0 Z h l v w':=
 hp.write hs (fun b e=>by rw[show b=g from e];exact hr.env.zg) (fun b hb e=>by have:=hp.new b hb;have:=hr.gl;omega) (fun b hb=>.inl hb) fun b hb=>hb
theorem Rs.grow(hr:Rs Z g w0 L dT G h w)(hs:Stp (fun _=>False) w w')(h1:∀b,Z' b→Z b∨w.heap.size≤b)(h2:∀b,Z' b→b<w'.heap.size)(h3:∀b,Z b→Z' b):Rs Z' g w0 L dT G h w':=
 ⟨hr.env.grow hs h1 h2 (h3 _ hr.env.zg),hr.ow.grow hs h1 h2 h3,hr.gl⟩
theorem Rs.same(hr:Rs Z g w0 L dT G h w)(hs:Stp (fun _=>False) w w'):Rs Z g w0 L dT G h w':=
 hr.grow hs (fun b hb=>.inl hb) (fun b hb=>Nat.lt_of_lt_of_le (hr.env.zl b hb) hs.size) fun b hb=>hb
theorem Pr.same(hp:Pr w0 Z h l v w)(hs:Stp (fun _=>False) w w'):Pr w0 Z h l v w':=hp.grow hs (fun b hb=>.inl hb) fun b hb=>hb
theorem Rs.good(hr:Rs Z g w0 L dT G h w):Good Tryz.prog w fun _=>False:=fun q k hq=>⟨id,(hr.env.goodw q k hq).2⟩
theorem Rs.wrote(hr:Rs Z g w0 L dT G h w)(hp:Pr w0 Z h l v w)(hs:Stp Y w w')(hY:∀b,Y b→b∈eF v):Rs Z g w0 L dT G h w':=
 have hz:∀b,Y b→Z b:=fun b hb=>hp.z b (hY b hb)
 have hg:¬Y g:=fun e=>by have:=hp.new g (hY g e);have:=hr.gl;omega
 ⟨hr.env.write hs hz hg (fun b hb=>hp.new b (hY b hb)) (fun b hb=>.inl hb) (fun b hb=>Nat.lt_of_lt_of_le (hr.env.zl b hb) hs.size) hr.env.zg,
  hr.ow.write hs hz (fun b hb e=>hp.dis b (hY b e) hb) (fun b hb=>.inl hb) (fun b hb=>Nat.lt_of_lt_of_le (hr.env.zl b hb) hs.size) fun b hb=>hb,hr.gl⟩
theorem Vh(hr:Rs Z g w0 L dT G h w):w0.heap.size≤w.heap.size:=hr.env.stp.size
theorem MY(gb off i:Nat):((⟨gb,off,none⟩:Addr).add ((i:Int).toNat*9))=⟨gb,off+i*9,none⟩:=by rw[Int.toNat_natCast,yO]
theorem tO{env:List (Nat×Value)}{x:Operand}{A B:Addr}(h:qM env x=some (.pointer (some A)))(e:A=B):qM env x=some (.pointer (some B)):=e▸h
noncomputable abbrev r9:Array Oper:=TY (pE [1,1,1,0,1,0,0,1,0,0,1,1,0,1,0] (tE Tryz.f28))
set_option maxRecDepth 20000 in
set_option maxHeartbeats 4000000 in
theorem aCR{vn vi:Value}{p0 p1 p2 p3:T}(hQ:∀c a d v w,Q (.panic c) (a.put d v) w→Q (.panic c) a w)(hr:Rs Z g w0 L dT G h w)(hp:Pr w0 Z h [p0,p1,p2,p3] v w)(hf:Fr 118 [(0,pg g),(3,h.1),(4,vn),(5,vi),(7,v)] a)
 (hn:∀a' w',Fr 118 [(0,pg g),(3,h.1),(4,vn),(5,vi),(7,v)] a'→Rs Z g w0 L dT G h w'→Pr w0 Z h [p0,p3,p2,p1] v w'→Q .normal a' w'):(pE [1,1,1,0,1,0,0,1,0,0,1,1,0,1,0] (tE Tryz.f28)).wp Tryz.prog Q a w:=by
 have hr:=hr.same (Stp.drew _ w)
 have hp:=hp.same (Stp.drew _ w)
 obtain⟨gb,off,cap,cur,rfl,e2,e3,e4,y1,l1,c1,r1⟩:=hp.own.get (i:=1) (t:=p1) rfl
 obtain⟨gb',off',cap',cur',e5,_,e6,_,y3,l3,c3,r3⟩:=hp.own.get (i:=3) (t:=p3) rfl
 simp only[Value.slice.injEq,Option.some.injEq,Addr.mk.injEq,true_and,and_true] at e5
 obtain⟨⟨rfl,rfl⟩,rfl⟩:=e5
 rw[e3] at e6
 simp only[Option.some.injEq,Obj.cells.injEq,and_true] at e6
 subst e6
 have hw:w.drew.heap[gb]?=some (.cells cur 34 (0,0)):=e3
 have hl4:[p0,p1,p2,p3].length=4:=rfl
 rw[hl4] at e4
 have z1:y1.toArray.size=9:=by rw[List.size_toArray];exact l1
 have z3:y3.toArray.size=9:=by rw[List.size_toArray];exact l3
 have hcl:cur.toList.length=cur.size:=Array.length_toList
 have tail:∀(K:Array Bool) a,K=#[true,true,true,true,true,true,true,true,false,false,false,false]→Fr 118 [(45,.slice (some ⟨gb,off,none⟩) 4 cap),(46,.slice (some ⟨gb,off,none⟩) 4 cap),(49,.agg y3.toArray),(52,.agg y1.toArray),(0,pg g),(3,h.1),(4,vn),(5,vi),(7,.slice (some ⟨gb,off,none⟩) 4 cap)] a →
  wpAny Tryz.prog .any r9 Q 4 K a w.drew:=by
  intro K a eK hf
  subst eK
  refine eD (i:=8) (by kernel_rfl) rfl rfl ?_
  refine cY hf rfl (by decide) (gC hf rfl xG vB rfl rfl (by decide) (by decide)) fun a hf=>?_
  refine eD (i:=9) (by kernel_rfl) rfl rfl ?_
  refine AC hf rfl rfl (by rw[z3];exact vB) (tO rfl (MY gb off 1)) rfl (by simpa using RdT.ones r3) hw (by omega) fun a hf=>?_
  rw[z3]
  have hy:gb∈eF (.slice (some ⟨gb,off,none⟩) 4 cap):=dO.2 e2
  have hpa:=hp.own.put (i:=1) (t:=p3) (ys:=y3) (Nat.lt_of_sub_eq_succ rfl) rfl hw (hp.z gb hy) (hp.own.1 p3 (by simp)) r3
  have hs1:=cT w.drew gb (cur.toList.take (off+1*9)++y3++cur.toList.drop (off+1*9+9)).toArray
  have hr2:=hr.wrote hp hs1 fun b e=>by rw[show b=gb from e];exact hy
  have hp2:Pr w0 Z h [p0,p3,p2,p3] (.slice (some ⟨gb,off,none⟩) 4 cap) _:=⟨hpa,hp.dis,hp.new,hp.z⟩
  have hw2:(w.drew.setRow gb (cur.toList.take (off+1*9)++y3++cur.toList.drop (off+1*9+9)).toArray).heap[gb]?=some (.cells (cur.toList.take (off+1*9)++y3++cur.toList.drop (off+1*9+9)).toArray 34 (0,0)):=setRow_heap _ gb cur _ 34 (0,0) hw
  have hsz:(cur.toList.take (off+1*9)++y3++cur.toList.drop (off+1*9+9)).toArray.size=cur.size:=by
   rw[List.size_toArray,List.length_append,List.length_append,List.length_take,List.length_drop,hcl,l3];omega
  refine eD (i:=10) (by kernel_rfl) rfl rfl ?_
  refine cY hf rfl (by decide) (gC hf rfl xG vB rfl rfl (by decide) (by decide)) fun a hf=>?_
  refine eD (i:=11) (by kernel_rfl) rfl rfl ?_
  refine AC hf rfl rfl (by rw[z1];exact vB) (tO rfl (MY gb off 3)) rfl (by simpa using RdT.ones r1) hw2 (by rw[hsz];omega) fun a hf=>?_
  rw[z1]
  have hpb:=hpa.put (i:=3) (t:=p1) (ys:=y1) (Nat.lt_of_sub_eq_succ rfl) rfl hw2 (hp.z gb hy) (hp.own.1 p1 (by simp)) (r1.step hs1 (fun b e=>by rw[show b=gb from e];exact hp.z gb hy) fun b hb=>.inl hb)
  exact wpAny_done (by kernel_rfl) (hn a _ (hf.weak ⟨rfl,rfl,rfl,rfl,rfl,trivial⟩) (hr2.wrote hp2 (cT _ gb _) fun b e=>by rw[show b=gb from e];exact hy) ⟨hpb,hp.dis,hp.new,hp.z⟩) _
 refine wp_region_any aQ ?_
 refine dL (ops:=r9) (i:=0) (fuel:=11) hf rfl (by kernel_rfl) hQ rfl rfl (by decide) (fun w=>cZ hf rfl rfl) fun a hf=>?_
 refine dL (ops:=r9) (i:=1) (fuel:=10) hf rfl (by kernel_rfl) hQ rfl rfl (by decide) (fun w=>cZ hf rfl rfl) fun a hf=>?_
 refine dL (ops:=r9) (i:=2) (fuel:=9) hf rfl (by kernel_rfl) hQ rfl rfl (by decide) (fun w=>cZ hf rfl rfl) fun a hf=>?_
 refine dL (ops:=r9) (i:=3) (fuel:=8) hf rfl (by kernel_rfl) hQ rfl rfl (by decide) (fun w=>gC hf rfl xG vB rfl rfl (by decide) (by show (3:Int)<(4:Nat);decide)) fun a hf=>?_
 refine dL (ops:=r9) (i:=5) (fuel:=7) hf rfl (by kernel_rfl) hQ rfl rfl (by decide) (fun w=>cZ hf rfl rfl) fun a hf=>?_
 refine dL (ops:=r9) (i:=6) (fuel:=6) hf rfl (by kernel_rfl) hQ rfl rfl (by decide) (fun w=>gC hf rfl xG vB rfl rfl (by decide) (by show (1:Int)<(4:Nat);decide)) fun a hf=>?_
 refine EM (i:=4) (j:=7) (fuel:=5) (by kernel_rfl) rfl rfl rfl rfl ?_ ?_
 ·refine cY hf rfl (by decide) (uP hf rfl vB Z1 (tO rfl (MY gb off 3)) hw l3 c3) fun a hf=>?_
  refine eD (i:=7) (by kernel_rfl) rfl rfl ?_
  refine cY hf rfl (by decide) (uP hf rfl vB Z1 (tO rfl (MY gb off 1)) hw l1 c1) fun a hf=>?_
  exact tail _ a (by kernel_rfl) (hf.weak ⟨rfl,rfl,rfl,rfl,rfl,rfl,rfl,rfl,rfl,trivial⟩)
 ·refine cY hf rfl (by decide) (uP hf rfl vB Z1 (tO rfl (MY gb off 1)) hw l1 c1) fun a hf=>?_
  refine eD (i:=4) (by kernel_rfl) rfl rfl ?_
  refine cY hf rfl (by decide) (uP hf rfl vB Z1 (tO rfl (MY gb off 3)) hw l3 c3) fun a hf=>?_
  exact tail _ a (by kernel_rfl) (hf.weak ⟨rfl,rfl,rfl,rfl,rfl,rfl,rfl,rfl,rfl,trivial⟩)
noncomputable abbrev r11:Array Oper:=TY (pE [1,1,1,0,1,0,0,1,0,0,1,1,1,0,1,0] (tE Tryz.f28))
set_option maxRecDepth 20000 in
set_option maxHeartbeats 4000000 in
theorem aAN{vn vi:Value}{p0 p1 p2 p3:T}(hQ:∀c a d v w,Q (.panic c) (a.put d v) w→Q (.panic c) a w)(hr:Rs Z g w0 L dT G h w)(hp:Pr w0 Z h [p0,p1,p2,p3] v w)(hf:Fr 118 [(0,pg g),(3,h.1),(4,vn),(5,vi),(7,v)] a)
 (hn:∀a' w',Fr 118 [(0,pg g),(3,h.1),(4,vn),(5,vi),(7,v)] a'→Rs Z g w0 L dT G h w'→Pr w0 Z h [p0,p3,p2,p1] v w'→Q .normal a' w'):(pE [1,1,1,0,1,0,0,1,0,0,1,1,1,0,1,0] (tE Tryz.f28)).wp Tryz.prog Q a w:=by
 have hr:=hr.same (Stp.drew _ w)
 have hp:=hp.same (Stp.drew _ w)
 obtain⟨gb,off,cap,cur,rfl,e2,e3,e4,y1,l1,c1,r1⟩:=hp.own.get (i:=1) (t:=p1) rfl
 obtain⟨gb',off',cap',cur',e5,_,e6,_,y3,l3,c3,r3⟩:=hp.own.get (i:=3) (t:=p3) rfl
 simp only[Value.slice.injEq,Option.some.injEq,Addr.mk.injEq,true_and,and_true] at e5
 obtain⟨⟨rfl,rfl⟩,rfl⟩:=e5
 rw[e3] at e6
 simp only[Option.some.injEq,Obj.cells.injEq,and_true] at e6
 subst e6
 have hw:w.drew.heap[gb]?=some (.cells cur 34 (0,0)):=e3
 have hl4:[p0,p1,p2,p3].length=4:=rfl
 rw[hl4] at e4
 have z1:y1.toArray.size=9:=by rw[List.size_toArray];exact l1
 have z3:y3.toArray.size=9:=by rw[List.size_toArray];exact l3
 have hcl:cur.toList.length=cur.size:=Array.length_toList
 have tail:∀(K:Array Bool) a,K=#[true,true,true,true,true,true,true,true,false,false,false,false]→Fr 118 [(58,.slice (some ⟨gb,off,none⟩) 4 cap),(59,.slice (some ⟨gb,off,none⟩) 4 cap),(62,.agg y3.toArray),(65,.agg y1.toArray),(0,pg g),(3,h.1),(4,vn),(5,vi),(7,.slice (some ⟨gb,off,none⟩) 4 cap)] a →
  wpAny Tryz.prog .any r11 Q 4 K a w.drew:=by
  intro K a eK hf
  subst eK
  refine eD (i:=8) (by kernel_rfl) rfl rfl ?_
  refine cY hf rfl (by decide) (gC hf rfl xG vB rfl rfl (by decide) (by decide)) fun a hf=>?_
  refine eD (i:=9) (by kernel_rfl) rfl rfl ?_
  refine AC hf rfl rfl (by rw[z3];exact vB) (tO rfl (MY gb off 1)) rfl (by simpa using RdT.ones r3) hw (by omega) fun a hf=>?_
  rw[z3]
  have hy:gb∈eF (.slice (some ⟨gb,off,none⟩) 4 cap):=dO.2 e2
  have hpa:=hp.own.put (i:=1) (t:=p3) (ys:=y3) (Nat.lt_of_sub_eq_succ rfl) rfl hw (hp.z gb hy) (hp.own.1 p3 (by simp)) r3
  have hs1:=cT w.drew gb (cur.toList.take (off+1*9)++y3++cur.toList.drop (off+1*9+9)).toArray
  have hr2:=hr.wrote hp hs1 fun b e=>by rw[show b=gb from e];exact hy
  have hp2:Pr w0 Z h [p0,p3,p2,p3] (.slice (some ⟨gb,off,none⟩) 4 cap) _:=⟨hpa,hp.dis,hp.new,hp.z⟩
  have hw2:(w.drew.setRow gb (cur.toList.take (off+1*9)++y3++cur.toList.drop (off+1*9+9)).toArray).heap[gb]?=some (.cells (cur.toList.take (off+1*9)++y3++cur.toList.drop (off+1*9+9)).toArray 34 (0,0)):=setRow_heap _ gb cur _ 34 (0,0) hw
  have hsz:(cur.toList.take (off+1*9)++y3++cur.toList.drop (off+1*9+9)).toArray.size=cur.size:=by
   rw[List.size_toArray,List.length_append,List.length_append,List.length_take,List.length_drop,hcl,l3];omega
  refine eD (i:=10) (by kernel_rfl) rfl rfl ?_
  refine cY hf rfl (by decide) (gC hf rfl xG vB rfl rfl (by decide) (by decide)) fun a hf=>?_
  refine eD (i:=11) (by kernel_rfl) rfl rfl ?_
  refine AC hf rfl rfl (by rw[z1];exact vB) (tO rfl (MY gb off 3)) rfl (by simpa using RdT.ones r1) hw2 (by rw[hsz];omega) fun a hf=>?_
  rw[z1]
  have hpb:=hpa.put (i:=3) (t:=p1) (ys:=y1) (Nat.lt_of_sub_eq_succ rfl) rfl hw2 (hp.z gb hy) (hp.own.1 p1 (by simp)) (r1.step hs1 (fun b e=>by rw[show b=gb from e];exact hp.z gb hy) fun b hb=>.inl hb)
  exact wpAny_done (by kernel_rfl) (hn a _ (hf.weak ⟨rfl,rfl,rfl,rfl,rfl,trivial⟩) (hr2.wrote hp2 (cT _ gb _) fun b e=>by rw[show b=gb from e];exact hy) ⟨hpb,hp.dis,hp.new,hp.z⟩) _
 refine wp_region_any aQ ?_
 refine dL (ops:=r11) (i:=0) (fuel:=11) hf rfl (by kernel_rfl) hQ rfl rfl (by decide) (fun w=>cZ hf rfl rfl) fun a hf=>?_
 refine dL (ops:=r11) (i:=1) (fuel:=10) hf rfl (by kernel_rfl) hQ rfl rfl (by decide) (fun w=>cZ hf rfl rfl) fun a hf=>?_
 refine dL (ops:=r11) (i:=2) (fuel:=9) hf rfl (by kernel_rfl) hQ rfl rfl (by decide) (fun w=>cZ hf rfl rfl) fun a hf=>?_
 refine dL (ops:=r11) (i:=3) (fuel:=8) hf rfl (by kernel_rfl) hQ rfl rfl (by decide) (fun w=>gC hf rfl xG vB rfl rfl (by decide) (by show (3:Int)<(4:Nat);decide)) fun a hf=>?_
 refine dL (ops:=r11) (i:=5) (fuel:=7) hf rfl (by kernel_rfl) hQ rfl rfl (by decide) (fun w=>cZ hf rfl rfl) fun a hf=>?_
 refine dL (ops:=r11) (i:=6) (fuel:=6) hf rfl (by kernel_rfl) hQ rfl rfl (by decide) (fun w=>gC hf rfl xG vB rfl rfl (by decide) (by show (1:Int)<(4:Nat);decide)) fun a hf=>?_
 refine EM (i:=4) (j:=7) (fuel:=5) (by kernel_rfl) rfl rfl rfl rfl ?_ ?_
 ·refine cY hf rfl (by decide) (uP hf rfl vB Z1 (tO rfl (MY gb off 3)) hw l3 c3) fun a hf=>?_
  refine eD (i:=7) (by kernel_rfl) rfl rfl ?_
  refine cY hf rfl (by decide) (uP hf rfl vB Z1 (tO rfl (MY gb off 1)) hw l1 c1) fun a hf=>?_
  exact tail _ a (by kernel_rfl) (hf.weak ⟨rfl,rfl,rfl,rfl,rfl,rfl,rfl,rfl,rfl,trivial⟩)
 ·refine cY hf rfl (by decide) (uP hf rfl vB Z1 (tO rfl (MY gb off 1)) hw l1 c1) fun a hf=>?_
  refine eD (i:=4) (by kernel_rfl) rfl rfl ?_
  refine cY hf rfl (by decide) (uP hf rfl vB Z1 (tO rfl (MY gb off 3)) hw l3 c3) fun a hf=>?_
  exact tail _ a (by kernel_rfl) (hf.weak ⟨rfl,rfl,rfl,rfl,rfl,rfl,rfl,rfl,rfl,trivial⟩)
end
end Go.Eng.Tc
namespace Go.Eng.Tc
open Go.Eng Go.RowKit Go.Proofs Go.Eng.Rt
section
variable {Z Z' Y:Nat→Prop} {g:Nat} {w0 w w':World} {L:List T} {dT at1:Int} {G:List (List T)} {h:HX} {l:List T} {v:Value} {a:Act} {Q:Exit→Act→World→Prop} {n d:Nat} {env:List (Nat×Value)} {o:Oper} {next:Act→World→Prop}
theorem Rs.wrote'(hr:Rs Z g w0 L dT G h w)(hp:Pr w0 Z h l v w)(hs:Stp Y w w')(hY:∀b,Y b→b∈eF v)(h1:∀b,Z' b→Z b∨w.heap.size≤b)(h2:∀b,Z' b→b<w'.heap.size)(h3:∀b,Z b→Z' b):Rs Z' g w0 L dT G h w':=
 have hz:∀b,Y b→Z b:=fun b hb=>hp.z b (hY b hb)
 have hg:¬Y g:=fun e=>by have:=hp.new g (hY g e);have:=hr.gl;omega
 ⟨hr.env.write hs hz hg (fun b hb=>hp.new b (hY b hb)) h1 h2 (h3 _ hr.env.zg),hr.ow.write hs hz (fun b hb e=>hp.dis b (hY b e) hb) h1 h2 h3,hr.gl⟩
theorem Qv{len:Nat}{parts:Array (Nat×Operand)}{cs:List (Array Value)}{pts:List T}(hr:Rs Z g w0 L dT G h w)(hf:Fr n env a)(hop:o.op=.buildSlice 35 len parts)(hd:o.dst=some d)(hlt:d<n)
 (hp:wR env parts.toList=some (AV 0 (cs.map Value.agg))) (hl:cs.length=len) (hpos:0<len) (hmax:len≤100) (hc:∀c∈cs,c.size=9) (hu:Uni 9 pts) (hlp:pts.length=len) (hrd:RdT w Z (flat pts) (cs.map Array.toList).flatten)
 (hn:∀a' w' v Z',Fr n ((d,v)::env) a'→(∀b,Z b→Z' b)→Rs Z' g w0 L dT G h w'→Pr w0 Z' h pts v w'→next a' w'):o.wp Tryz.prog a w next Q:=by
 have h0:=Vh hr
 refine Qr hf hop hd hlt hp hl hpos hmax hc hu hlp hrd fun a' w' hf' hs hlt' hown=>?_
 have hz:∀b,(Z b∨b=w.heap.size)→Z b∨w.heap.size≤b:=fun b hb=>hb.imp id fun e=>by omega
 have hb:∀b,b∈eF (.slice (some ⟨w.heap.size,0,none⟩) len len)→b=w.heap.size:=fun b hb=>by
  have:=dO.1 hb
  simp only[blk] at this
  split at this
  ·cases this
  ·simpa using this.symm
 refine hn a' w' _ (fun b=>Z b∨b=w.heap.size) hf' (fun b hb=>.inl hb) (hr.grow hs hz (fun b hbb=>?_) fun b hb=>.inl hb) ⟨hown,fun b hb1 hb2=>?_,fun b hb1=>by rw[hb b hb1];exact h0,fun b hb1=>.inr (hb b hb1)⟩
 ·rcases hbb with h | h
  ·have:=hr.env.zl b h;omega
  ·omega
 ·have:=Dm hr.ow hb2
  rw[hb b hb1] at this
  omega
theorem Rs.push{r v':Value}{gg:List T}(hr:Rs Z g w0 L dT G h w)(hp:Pr w0 Z h gg r w)(hs:Stp (fun b=>b∈eF h.1) w w')(hx:OwnX w' (fun b=>Z b∨b∈eF v') (G++[gg]) (v',h.2++[r]))(hb':(∀b,b∈eF v'↔b∈eF h.1)∨∀b,b∈eF v'↔b=w.heap.size)(hlt:∀b∈eF v',b<w'.heap.size):
 Rs (fun b=>Z b∨b∈eF v') g w0 L dT (G++[gg]) (v',h.2++[r]) w':=by
 have hm:∀b,b∈eF h.1→b∈I1 h:=fun b hb=>List.mem_append.2 (.inl hb)
 have ow:=hr.ow.more hp hx hb' hlt hs.size (Vh hr)
 refine⟨hr.env.write hs (fun b hb=>hr.ow.z b (hm b hb)) (fun e=>hr.ng g (hm g e) rfl) (fun b hb=>hr.ow.new b (hm b hb)) (fun b hb=>?_) ow.zl (.inl hr.env.zg),ow,hr.gl⟩
 rcases hb with h1 | h1
 ·exact .inl h1
 ·rcases hb' with hb' | hb'
  ·exact .inl (hr.ow.z b (hm b ((hb' b).1 h1)))
  ·right;have:=(hb' b).1 h1;omega
theorem WX{x y:Operand}{r lv:Value}{gg:List T}(hr:Rs Z g w0 L dT G h w)(hp:Pr w0 Z h gg r w)(hf:Fr n env a)(hop:o.op=.call { callee:=.builtin .append,args:=#[x,y],argTypes:=#[25,25] })(hd:o.dst=some d)(hlt:d<n)(hx:qM env x=some h.1)(hy:qM env y=some lv)
 (hlit:rowAt w 35 1 lv 1 [r]) (hmx:G.length≤100) (hn:∀a' w' h' Z',Fr n ((d,h'.1)::env) a'→(∀b,Z b→Z' b)→Rs Z' g w0 L dT (G++[gg]) h' w'→next a' w'):o.wp Tryz.prog a w next Q:=by
 refine Hs hf hop hd hlt hx hy hr.ow.own hr.ow.sep (fun b hb=>hr.ow.z b (List.mem_append.2 (.inl hb))) hlit hp.own (fun b hb hb1=>hp.dis b hb (List.mem_append.2 (.inl hb1))) hmx fun a' v' w' hf' hs hx' hb' hlt'=>?_
 exact hn a' w' (v',h.2++[r]) _ hf' (fun b hb=>.inl hb) (hr.push hp hs hx' hb' hlt')
theorem Qw{x y:Operand}{m gg:List T}{sv pv:Value}(hr:Rs Z g w0 L dT G h w)(hp:Pr w0 Z h gg pv w)(hm:OwnP w Z m sv)(hf:Fr n env a)(hop:o.op=.call { callee:=.builtin .append,args:=#[x,y],argTypes:=#[35,35] })(hd:o.dst=some d)(hlt:d<n)(hx:qM env x=some pv)(hy:qM env y=some sv)
 (hmx:gg.length+m.length≤1000) (hn:∀a' w' v' Z',Fr n ((d,v')::env) a'→Stp (fun b=>b∈eF pv) w w'→(∀b,Z b→Z' b)→(∀b,Z' b→Z b∨w.heap.size≤b)→Rs Z' g w0 L dT G h w'→Pr w0 Z' h (gg++m) v' w'→next a' w'):o.wp Tryz.prog a w next Q:=by
 have h0:=Vh hr
 refine Vg hf hop hd hlt hx hy hp.own hm hp.z hmx fun a' v' w' hf' hs hown hb'=>?_
 have hz:∀b,(Z b∨b∈eF v')→Z b∨w.heap.size≤b:=fun b hb=>by
  rcases hb with h1 | h1
  ·exact .inl h1
  ·rcases hb' with hb' | hb'
   ·exact .inl (hp.z b ((hb' b).1 h1))
   ·right;have:=(hb' b).1 h1;omega
 have hl:∀b,(Z b∨b∈eF v')→b<w'.heap.size:=fun b hb=>by
  rcases hb with h1 | h1
  ·have:=hr.env.zl b h1;have:=hs.size;omega
  ·exact hown.lt h1
 refine hn a' w' v' _ hf' hs (fun b hb=>.inl hb) hz (hr.wrote' hp hs (fun b hb=>hb) hz hl fun b hb=>.inl hb) ⟨hown,fun b hb1 hb2=>?_,fun b hb1=>?_,fun b hb1=>.inr hb1⟩
 ·rcases hb' with hb' | hb'
  ·exact hp.dis b ((hb' b).1 hb1) hb2
  ·have:=Dm hr.ow hb2;have:=(hb' b).1 hb1;omega
 ·rcases hb' with hb' | hb'
  ·exact hp.new b ((hb' b).1 hb1)
  ·have:=(hb' b).1 hb1;omega
set_option maxRecDepth 20000 in
set_option maxHeartbeats 4000000 in
theorem aDU{vn vi:Value}{r:Int}(hr1:1≤r)(hr2:r≤9)(hr:Rs Z g w0 L dT G h w)(hf:Fr 118 [(0,pg g),(3,h.1),(4,vn),(5,vi),(6,vI r)] a)
 (hn:∀a' w' v Z',Fr 118 [(0,pg g),(3,h.1),(4,vn),(5,vi),(6,vI r),(7,v)] a'→(∀b,Z b→Z' b)→Rs Z' g w0 L dT G h w'→Pr w0 Z' h [wT (-r,-r),wT (r,-r),wT (r,r),wT (-r,r)] v w'→Q .normal a' w'):(pE [1,1,1,0,1,0,0,1,0,0,1,0] (tE Tryz.f28)).wp Tryz.prog Q a w:=by
 have hneg:wr .i64 (0-r)=-r:=by rw[sK (by omega) (by omega)];omega
 refine bW (by kernel_rfl) ?_
 refine aT hf rfl rfl (by decide) rfl fun a hf=>?_
 refine cY hf rfl (by decide) (WW hf rfl ul2 rfl) fun a hf=>?_
 refine aT hf rfl rfl (by decide) rfl fun a hf=>?_
 refine cY hf rfl (by decide) (WW hf rfl ul2 rfl) fun a hf=>?_
 rw[hneg] at hf
 refine BA hr.good hr.env.zl hf rfl rfl (by decide) rfl rfl (by omega) (by omega) fun y1 a w1 hf t1 d1 s1=>?_
 have hr:=hr.same t1
 refine aT hf rfl rfl (by decide) rfl fun a hf=>?_
 refine aT hf rfl rfl (by decide) rfl fun a hf=>?_
 refine cY hf rfl (by decide) (WW hf rfl ul2 rfl) fun a hf=>?_
 rw[hneg] at hf
 refine BA hr.good hr.env.zl hf rfl rfl (by decide) rfl rfl (by omega) (by omega) fun y2 a w2 hf t2 d2 s2=>?_
 have hr:=hr.same t2
 have d1:=d1.step t2 (fun _ h=>h.elim) fun b hb=>.inl hb
 refine aT hf rfl rfl (by decide) rfl fun a hf=>?_
 refine aT hf rfl rfl (by decide) rfl fun a hf=>?_
 refine BA hr.good hr.env.zl hf rfl rfl (by decide) rfl rfl (by omega) (by omega) fun y3 a w3 hf t3 d3 s3=>?_
 have hr:=hr.same t3
 have d1:=d1.step t3 (fun _ h=>h.elim) fun b hb=>.inl hb
 have d2:=d2.step t3 (fun _ h=>h.elim) fun b hb=>.inl hb
 refine aT hf rfl rfl (by decide) rfl fun a hf=>?_
 refine cY hf rfl (by decide) (WW hf rfl ul2 rfl) fun a hf=>?_
 rw[hneg] at hf
 refine aT hf rfl rfl (by decide) rfl fun a hf=>?_
 refine BA hr.good hr.env.zl hf rfl rfl (by decide) rfl rfl (by omega) (by omega) fun y4 a w4 hf t4 d4 s4=>?_
 have hr:=hr.same t4
 have d1:=d1.step t4 (fun _ h=>h.elim) fun b hb=>.inl hb
 have d2:=d2.step t4 (fun _ h=>h.elim) fun b hb=>.inl hb
 have d3:=d3.step t4 (fun _ h=>h.elim) fun b hb=>.inl hb
 refine Qv (cs:=[y1,y2,y3,y4]) (pts:=[wT (-r,-r),wT (r,-r),wT (r,r),wT (-r,r)]) hr hf rfl rfl (by decide) rfl rfl (by decide) (by decide) (fun c hc=>?_) (fun t ht=>?_) rfl ?_ fun a w5 v Z' hf hz hr hp=>?_
 ·simp only[List.mem_cons,List.not_mem_nil,or_false] at hc
  rcases hc with rfl | rfl | rfl | rfl <;> assumption
 ·simp only[List.mem_cons,List.not_mem_nil,or_false] at ht
  rcases ht with rfl | rfl | rfl | rfl <;> rfl
 ·have:=d1.append (d2.append (d3.append (d4.append RdT.nil')))
  simpa[flat] using this
 refine bA hf rfl rfl (by decide) rfl fun a hf=>?_
 exact hn a _ v Z' (hf.weak ⟨rfl,rfl,rfl,rfl,rfl,rfl,trivial⟩) hz hr hp
noncomputable abbrev r13:Array Oper:=TY (pE [1,1,1,0,1,0,0,1,0,0,1,1,1,1,1] (tE Tryz.f28))
set_option maxRecDepth 20000 in
set_option maxHeartbeats 4000000 in
theorem aCS{vn vi:Value}{k:Nat}(hk:k<4)(hl:l.length=4)(hG:G.length≤50)(hQ:∀c a d v w,Q (.panic c) (a.put d v) w→Q (.panic c) a w)(hr:Rs Z g w0 L dT G h w)(hp:Pr w0 Z h l v w)(hf:Fr 118 [(0,pg g),(3,h.1),(4,vn),(5,vi),(7,v),(8,vI (k:Nat))] a)
 (hn:∀a' w' h' Z',Fr 118 [(0,pg g),(3,h'.1),(4,vn),(5,vi)] a'→Rs Z' g w0 L dT (G++[l.drop k++l.take k]) h' w'→Q .normal a' w'):(pE [1,1,1,0,1,0,0,1,0,0,1,1,1,1,1] (tE Tryz.f28)).wp Tryz.prog Q a w:=by
 have hr:=hr.same (Stp.drew _ w)
 have hp:=hp.same (Stp.drew _ w)
 obtain⟨gb,off,cap,cur,rfl,e2,e3,e4,e5,e6,e7⟩:=hp.own.open_ (by omega)
 rw[hl] at hf e3
 refine wp_region_any aQ ?_
 refine dL (ops:=r13) (i:=0) (fuel:=12) hf rfl (by kernel_rfl) hQ rfl rfl (by decide) (fun w=>cZ hf rfl rfl) fun a hf=>?_
 refine dL (ops:=r13) (i:=2) (fuel:=11) hf rfl (by kernel_rfl) hQ rfl rfl (by decide) (fun w=>cZ hf rfl rfl) fun a hf=>?_
 refine dL (ops:=r13) (i:=3) (fuel:=10) hf rfl (by kernel_rfl) hQ rfl rfl (by decide) (fun w=>cZ hf rfl rfl) fun a hf=>?_
 refine dL (ops:=r13) (i:=4) (fuel:=9) hf rfl (by kernel_rfl) hQ rfl rfl (by decide) (fun w=>Nn hf rfl xG vB rfl rfl (by omega) (by omega) e3) fun a hf=>?_
 refine dL (ops:=r13) (i:=6) (fuel:=8) hf rfl (by kernel_rfl) hQ rfl rfl (by decide) (fun w=>cZ hf rfl rfl) fun a hf=>?_
 refine dL (ops:=r13) (i:=7) (fuel:=7) hf rfl (by kernel_rfl) hQ rfl rfl (by decide) (fun w=>cZ hf rfl rfl) fun a hf=>?_
 refine dL (ops:=r13) (i:=8) (fuel:=6) hf rfl (by kernel_rfl) hQ rfl rfl (by decide) (fun w=>Kb hf rfl xG vB rfl rfl (by omega) (by omega) e3 (by omega)) fun a hf=>?_
 rw[Int.toNat_natCast,if_neg (by omega),yO,yO,Nat.zero_mul,Nat.add_zero] at hf
 have hp1:=hp.own.drop rfl (m:=k) (by omega)
 have hp2:=hp.own.take (m:=k) (by omega)
 rw[hl] at hp1
 obtain⟨i34,z34,i1,_⟩:=EW Hp
 refine eD (i:=1) (fuel:=5) (by kernel_rfl) rfl rfl ?_
 refine aAJ hf rfl rfl (by decide) xG i1 fun a hf=>?_
 have t1:=Stp.alloc (fun _=>False) w.drew (.cells #[] 34)
 have hr:=hr.same t1
 have q1:=hp1.step t1 (fun _ _ h=>h) (fun _ h=>h.elim) fun b hb=>.inl hb
 have q2:=hp2.step t1 (fun _ _ h=>h) (fun _ h=>h.elim) fun b hb=>.inl hb
 have pe:Pr w0 Z h [] (.slice (some ⟨w.drew.heap.size,0,none⟩) 0 0) (w.drew.alloc (.cells #[] 34)):=⟨⟨Uni.nil 9,[],⟨rfl,.inl ⟨.inr ⟨_,rfl⟩,rfl⟩⟩,RdT.nil'⟩,fun b hb=>(IZ hb).elim,fun b hb=>(IZ hb).elim,fun b hb=>(IZ hb).elim⟩
 refine eD (i:=5) (fuel:=4) (by kernel_rfl) rfl rfl ?_
 refine Qw hr pe q1 hf rfl rfl (by decide) rfl rfl (by simp only[List.length_drop,List.length_nil];omega) fun a w2 v2 Z2 hf t2 z2 z2' hr p2=>?_
 rw[List.nil_append] at p2
 have q2:=q2.step t2 (fun b _ hb2=>IZ hb2) (fun b hb=>(IZ hb).elim) z2'
 refine eD (i:=9) (fuel:=3) (by kernel_rfl) rfl rfl ?_
 refine Qw hr p2 q2 hf rfl rfl (by decide) rfl rfl (by simp only[List.length_drop,List.length_take];omega) fun a w3 v3 Z3 hf t3 z3 z3' hr p3=>?_
 refine eD (i:=10) (fuel:=2) (by kernel_rfl) rfl rfl ?_
 refine WT hf rfl rfl (by decide) rfl p3.own.one fun a w4 hf t4 hlit=>?_
 refine eD (i:=11) (fuel:=1) (by kernel_rfl) rfl rfl ?_
 refine WX (hr.same t4) (p3.same t4) hf rfl rfl (by decide) rfl rfl hlit (by omega) fun a w5 h5 Z5 hf z5 hr=>?_
 refine eD (i:=12) (fuel:=0) (by kernel_rfl) rfl rfl ?_
 refine bA hf rfl rfl (by decide) rfl fun a hf=>?_
 exact wpAny_done (by kernel_rfl) (hn a w5 h5 Z5 (hf.weak ⟨rfl,rfl,rfl,rfl,trivial⟩) hr) _
end
end Go.Eng.Tc
namespace Go.Eng.Tc
open Go.Eng Go.RowKit Go.Proofs Go.Eng.Rt Go.Eng.Sq Go.Eng.Tg Go.Eng.Tw
def Aa(l:List Z):Prop:=BS l∧(l.length/2<3∨Shp (l.take (l.length/2)))
def GG(ls:List (List Z)):List (List T):=ls.map fun l=>l.map wT
theorem zH(ls:List (List Z)):(GG ls).length=ls.length:=by unfold GG;rw[List.length_map]
theorem Do(ls:List (List Z))(l:List Z):GG ls++[l.map wT]=GG (ls++[l]):=by unfold GG;rw[List.map_append];rfl
section
variable {X Z' Y:Nat→Prop} {g:Nat} {w0 w w':World} {L:List T} {dT at1:Int} {ls:List (List Z)} {h:HX} {l:List T} {v:Value} {a:Act} {Q:Exit→Act→World→Prop}
set_option maxRecDepth 20000 in
set_option maxHeartbeats 4000000 in
theorem Ht{vn vi:Value}{r:Int}{m:List Z}(hr9:r≤9)(hm:m.length=4)(hS:Kr r m)(hG:ls.length≤50)(hQ:∀c a d v w,Q (.panic c) (a.put d v) w→Q (.panic c) a w)(hr:Rs X g w0 L dT (GG ls) h w)(hp:Pr w0 X h (m.map wT) v w)(hf:Fr 118 [(0,pg g),(3,h.1),(4,vn),(5,vi),(7,v)] a)
 (hn:∀a' w' h' Z' at1 l,Fr 118 [(0,pg g),(3,h'.1),(4,vn),(5,vi)] a'→Rs Z' g w0 L at1 (GG (ls++[l])) h' w'→Aa l→Q .normal a' w'):(pE [1,1,1,0,1,0,0,1,0,0,1,1,1,1] (tE Tryz.f28)).wp Tryz.prog Q a w:=by
 refine wp_seq (bW (by kernel_rfl) ?_)
 refine aT hf rfl rfl (by decide) rfl fun a hf=>?_
 refine vU hr.env hf rfl rfl (by decide) rfl rfl (by decide) (by decide) fun k at1 a w1 hu k0 k1 hf t1 he=>?_
 have hr1:=hr.next t1 he
 have hp1:=hr.nextP hp t1
 refine bA hf rfl rfl (by decide) rfl fun a hf=>?_
 obtain⟨j,rfl⟩:∃j:Nat,k=(j:Int):=⟨k.toNat,by omega⟩
 refine aCS (k:=j) (by omega) (by rw[List.length_map];exact hm) (by rw[zH];omega) hQ hr1 hp1 (hf.weak ⟨rfl,rfl,rfl,rfl,rfl,rfl,trivial⟩) fun a w2 h2 Z2 hf hr2=>?_
 have hb:=Zy hr9 hS (j:=j) (by omega)
 refine hn a w2 h2 Z2 at1 (m.drop j++m.take j) hf ?_ ⟨hb,.inl ?_⟩
 ·rw[←Do,List.map_append,List.map_drop,List.map_take]
  exact hr2
 ·rw[List.length_append,List.length_drop,List.length_take]
  omega
set_option maxRecDepth 20000 in
set_option maxHeartbeats 4000000 in
theorem rnd{n i:Int}(h0:0≤i)(hin:i<n)(hn4:n≤4)(hG:ls.length≤50)(hQ:∀c a d v w,Q (.panic c) (a.put d v) w→Q (.panic c) a w)(hr:Rs X g w0 L dT (GG ls) h w)(hf:Fr 118 [(0,pg g),(3,h.1),(4,vI n),(5,vI i)] a)
 (hn:∀a' w' h' Z' at1 l,Fr 118 [(0,pg g),(3,h'.1),(4,vI n),(5,vI (i+1))] a'→Rs Z' g w0 L at1 (GG (ls++[l])) h' w'→Aa l→Q .normal a' w'):(pE [1,1,1,0,1,0,0,1] (tE Tryz.f28)).wp Tryz.prog Q a w:=by
 have Rg:∀a' w' h' Z' at1 l,Fr 118 [(0,pg g),(3,h'.1),(4,vI n),(5,vI i)] a'→Rs Z' g w0 L at1 (GG (ls++[l])) h' w'→Aa l→(pE [1,1,1,0,1,0,0,1,1] (tE Tryz.f28)).wp Tryz.prog Q a' w':=fun a w' h' Z' at1 l hf hr hb=>by
  refine bW (by kernel_rfl) ?_
  refine aT hf rfl rfl (by decide) rfl fun a hf=>?_
  refine eJ hf rfl rfl (by decide) rfl rfl rfl rfl (QR _ _) fun a hf=>?_
  rw[sK (by omega) (by omega)] at hf
  refine bA hf rfl rfl (by decide) rfl fun a hf=>?_
  exact hn a w' h' Z' at1 l (hf.weak ⟨rfl,rfl,rfl,rfl,trivial⟩) hr hb
 refine wp_seq (wp_block (wp_seq (bW (by kernel_rfl) ?_)))
 refine aT hf rfl rfl (by decide) rfl fun a hf=>?_
 refine aT hf rfl rfl (by decide) rfl fun a hf=>?_
 refine eJ hf rfl rfl (by decide) rfl rfl rfl rfl (WU _ _) fun a hf=>?_
 rw[sK (by omega) (by omega)] at hf
 refine eJ hf rfl rfl (by decide) rfl rfl rfl rfl (Qt _ _) fun a hf=>?_
 rw[sK (by omega) (by omega)] at hf
 refine aT hf rfl rfl (by decide) rfl fun a hf=>?_
 refine vU hr.env hf rfl rfl (by decide) rfl rfl (by decide) (by decide) fun u at1 a w1 hu u0 u1 hf t1 he=>?_
 have hr:=hr.next t1 he
 refine eJ hf rfl rfl (by decide) rfl rfl rfl rfl (WV _ _) fun a hf=>?_
 rw[sK (by omega) (by omega)] at hf
 refine bA hf rfl rfl (by decide) rfl fun a hf=>?_
 obtain⟨r,hre⟩:∃r,r=2*(n-i)+u:=⟨_,rfl⟩
 rw[←hre] at hf
 have hr1:1≤r:=by omega
 have hr9:r≤9:=by omega
 refine wp_seq (aDU hr1 hr9 hr (hf.weak ⟨rfl,rfl,rfl,rfl,rfl,trivial⟩) fun a w2 v Z2 hf z2 hr hp=>?_)
 have wD:∀(K:Exit→Act→World→Prop) (_:∀c a d v w,K (.panic c) (a.put d v) w→K (.panic c) a w) (_:∀a' w' h' Z' at1 l,Fr 118 [(0,pg g),(3,h'.1),(4,vI n),(5,vI i)] a'→Rs Z' g w0 L at1 (GG (ls++[l])) h' w'→Aa l→K .normal a' w') (m:List Z) (p0 p1 p2 p3:Z) (a:Act) (w:World) (v:Value) (Z2:Nat→Prop) (at1:Int),m=[p0,p1,p2,p3]→Kr r m→Kr r [p0,p3,p2,p1]→Rs Z2 g w0 L at1 (GG ls) h w→Pr w0 Z2 h (m.map wT) v w→Fr 118 [(0,pg g),(3,h.1),(4,vI n),(5,vI i),(7,v)] a →
  (pE [1,1,1,0,1,0,0,1,0,0,1,1,1] (tE Tryz.f28)).wp Tryz.prog K a w:=by
  intro K hQ hK m p0 p1 p2 p3 a w v Z2 at1 em s1 s2 hr hp hf
  subst em
  refine wp_seq (wp_seq (bW (by kernel_rfl) ?_))
  refine aT hf rfl rfl (by decide) rfl fun a hf=>?_
  refine vU hr.env hf rfl rfl (by decide) rfl rfl (by decide) (by decide) fun e at2 a w1 hu e0 e1 hf t1 he=>?_
  have hp:=hr.nextP hp t1
  have hr:=hr.next t1 he
  refine eJ hf rfl rfl (by decide) rfl rfl rfl rfl (zG _ _) fun a hf=>?_
  rw[aL] at hf
  by_cases h8:e=8
  ·rw[decide_eq_true h8] at hf
   refine wp_cond_true (hf.ev rfl) ?_
   refine aAN (fun c a d v w h=>hQ c a d v w h) hr hp (hf.weak ⟨rfl,rfl,rfl,rfl,rfl,trivial⟩) fun a w3 hf hr hp=>?_
   refine Ht (m:=[p0,p3,p2,p1]) hr9 rfl s2 hG (fun c a d v w h=>hQ c a d v w h) hr hp hf hK
  ·rw[decide_eq_false h8] at hf
   refine wp_cond_false (hf.ev rfl) (wp_skip ?_)
   refine Ht (m:=[p0,p1,p2,p3]) hr9 rfl s1 hG (fun c a d v w h=>hQ c a d v w h) hr hp (hf.weak ⟨rfl,rfl,rfl,rfl,rfl,trivial⟩) hK
 have q1:Kr r [(-r,-r),(r,-r),(r,r),(-r,r)]:=⟨by omega,.inl (by unfold Pa pz;simp)⟩
 have q2:Kr r [(-r,-r),(-r,r),(r,r),(r,-r)]:=⟨by omega,.inr (by unfold ZM pz;simp)⟩
 refine wp_seq (wp_seq (bW (by kernel_rfl) ?_))
 refine aT hf rfl rfl (by decide) rfl fun a hf=>?_
 refine eJ hf rfl rfl (by decide) rfl rfl rfl rfl (aAL _ _ (by decide)) fun a hf=>?_
 refine eJ hf rfl rfl (by decide) rfl rfl rfl rfl (zG _ _) fun a hf=>?_
 rw[aL] at hf
 by_cases h2:pZ i 2=1
 ·rw[decide_eq_true h2] at hf
  refine wp_cond_true (hf.ev rfl) ?_
  refine aCR (fun c a d v w h=>hQ c a d v w h) hr hp (hf.weak ⟨rfl,rfl,rfl,rfl,rfl,trivial⟩) fun a w3 hf hr hp=>?_
  refine wD _ ?_ ?_ [(-r,-r),(-r,r),(r,r),(r,-r)] _ _ _ _ a w3 v Z2 _ rfl q2 q1 hr hp hf
  ·exact fun c a d v w h=>hQ c a d v w h
  ·exact Rg
 ·rw[decide_eq_false h2] at hf
  refine wp_cond_false (hf.ev rfl) (wp_skip ?_)
  refine wD _ ?_ ?_ [(-r,-r),(r,-r),(r,r),(-r,r)] _ _ _ _ a w2 v Z2 _ rfl q1 q2 hr hp (hf.weak ⟨rfl,rfl,rfl,rfl,rfl,trivial⟩)
  ·exact fun c a d v w h=>hQ c a d v w h
  ·exact Rg
end
end Go.Eng.Tc
namespace Go.Eng.Tc
open Go.Eng Go.RowKit Go.Proofs Go.Eng.Rt Go.Eng.Sq Go.Eng.Tg Go.Eng.Tw
theorem OwnX.header'{w:World}{X:Nat→Prop}{G:List (List T)}{h:HX}{k gb off cap:Nat}{cur:Array Value}{g':List T}{v':Value}(ho:OwnX w X G h)(hk:k<G.length)(hn:∀v∈h.2,∀b∈eF v,b∉eF h.1)(hp:OwnP w X g' v')(hv:∀b∈eF v',b∉eF h.1)(hX:∀b∈eF h.1,X b)
 (e1:h.1=.slice (some ⟨gb,off,none⟩) G.length cap) (e2:w.heap[gb]?=some (.cells cur 35 (0,0))):off+k<cur.size∧gb∈eF h.1∧OwnX (w.setRow gb (cur.toList.set (off+k) v').toArray) X (G.set k g') (h.1,h.2.set k v'):=by
 obtain⟨gb1,off1,cap1,cur1,q1,q2,q3,q4,q5⟩:=ho.header hk hn hp hv hX
 rw[e1] at q1
 simp only[Value.slice.injEq,Option.some.injEq,Addr.mk.injEq,true_and,and_true] at q1
 obtain⟨⟨rfl,rfl⟩,rfl⟩:=q1
 rw[e2] at q2
 simp only[Option.some.injEq,Obj.cells.injEq,and_true] at q2
 subst q2
 exact⟨q3,q4,q5⟩
theorem kE(g off:Nat)(i:Int):(⟨g,off,none⟩:Addr).add (i.toNat*1)=⟨g,off+i.toNat,none⟩:=by rw[Nat.mul_one,yO]
section
variable {X Z' Y:Nat→Prop} {g:Nat} {w0 w w':World} {L:List T} {dT at1:Int} {ls:List (List Z)} {G:List (List T)} {h:HX} {l:List T} {v:Value} {a:Act} {Q:Exit→Act→World→Prop}
theorem Rs.wroteX{h':HX}{G':List (List T)}(hr:Rs X g w0 L dT G h w)(hs:Stp Y w w')(hY:∀b,Y b→b∈eF h.1)(ow:Ow w0 X G' h' w'):Rs X g w0 L dT G' h' w':=
 have hm:∀b,b∈eF h.1→b∈I1 h:=fun b hb=>List.mem_append.2 (.inl hb)
 ⟨hr.env.write hs (fun b hb=>hr.ow.z b (hm b (hY b hb))) (fun e=>hr.ng g (hm g (hY g e)) rfl) (fun b hb=>hr.ow.new b (hm b (hY b hb))) (fun b hb=>.inl hb) (fun b hb=>Nat.lt_of_lt_of_le (hr.env.zl b hb) hs.size) hr.env.zg,ow,hr.gl⟩
noncomputable abbrev Qx:Array Oper:=TY (pE [1,1,1,1,0,1,0] (tE Tryz.f28))
set_option maxRecDepth 20000 in
set_option maxHeartbeats 4000000 in
theorem aCT{j:Nat}{g0 gj:List T}(hj:j+1=G.length)(hg0:G[0]?=some g0)(hgj:G[j]?=some gj)(hG:G.length≤50)(hQ:∀c a d v w,Q (.panic c) (a.put d v) w→Q (.panic c) a w)(hr:Rs X g w0 L dT G h w)(hf:Fr 118 [(0,pg g),(3,h.1),(4,vI (G.length:Nat))] a)
 (hn:∀a' w' h',Fr 118 [(0,pg g),(3,h'.1)] a'→Rs X g w0 L dT ((G.set 0 gj).set j g0) h' w'→Q .normal a' w'):(pE [1,1,1,1,0,1,0] (tE Tryz.f28)).wp Tryz.prog Q a w:=by
 have hr:=hr.same (Stp.drew _ w)
 have hl:=hr.ow.own.len
 obtain⟨gb,off,cap,cur,e1,e2,e3,e4,e5,e6,e7⟩:=rowAt.open_ hr.ow.own.row (by omega)
 have hl0:0<h.2.length:=by omega
 have hlj:j<h.2.length:=by omega
 have c0:=e7 0 _ (List.getElem?_eq_getElem hl0)
 have cj:=e7 j _ (List.getElem?_eq_getElem hlj)
 have p0:=hr.ow.own.sub 0 _ _ hg0 (List.getElem?_eq_getElem hl0)
 have pj:=hr.ow.own.sub j _ _ hgj (List.getElem?_eq_getElem hlj)
 have hsep:=hr.ow.sep
 have hz:∀b∈eF h.1,X b:=fun b hb=>hr.ow.z b (List.mem_append.2 (.inl hb))
 have wj:wr .i64 (((G.length:Nat):Int)-1)=(j:Int):=by rw[sK (by omega) (by omega)];omega
 have tail:∀(K:Array Bool) a,K=#[true,true,true,true,true,true,true,true,true,true,true,true,false,false,false,false]→Fr 118 [(85,h.1),(86,h.1),(88,vI (j:Nat)),(93,h.2[j]),(96,h.2[0]),(0,pg g),(3,h.1)] a→wpAny Tryz.prog .any Qx Q 4 K a w.drew:=by
  intro K a eK hf
  subst eK
  have hw:w.drew.heap[gb]?=some (.cells cur 35 (0,0)):=e4
  obtain⟨a1,a2,a3⟩:=hr.ow.own.header' (k:=0) (by omega) hsep pj (hsep _ (List.getElem_mem hlj)) hz e1 hw
  have hs1:=cT w.drew gb (cur.toList.set (off+0) h.2[j]).toArray
  have hw2:=setRow_heap w.drew gb cur (cur.toList.set (off+0) h.2[j]).toArray 35 (0,0) hw
  have p0':OwnP (w.drew.setRow gb (cur.toList.set (off+0) h.2[j]).toArray) X g0 h.2[0]:=p0.step hs1 (fun b hb e=>hsep _ (List.getElem_mem hl0) b hb (by rw[show b=gb from e];exact a2)) (fun b e=>by rw[show b=gb from e];exact hz gb a2) fun b hb=>.inl hb
  have hsep2:∀v∈h.2.set 0 h.2[j],∀b∈eF v,b∉eF h.1:=fun v hv=>by
   rcases List.mem_or_eq_of_mem_set hv with hv | rfl
   ·exact hsep v hv
   ·exact hsep _ (List.getElem_mem hlj)
  obtain⟨b1,b2,b3⟩:=a3.header' (k:=j) (by rw[List.length_set];omega) hsep2 p0' (hsep _ (List.getElem_mem hl0)) hz (by rw[List.length_set];exact e1) hw2
  refine eD (i:=12) (by kernel_rfl) rfl rfl ?_
  refine wQ (A:=⟨gb,off,none⟩) (l:=G.length) (c:=cap) hf rfl rfl (by decide) AD pD (congrArg some e1) rfl (by decide) (by omega) fun a hf=>?_
  rw[kE] at hf
  refine eD (i:=13) (by kernel_rfl) rfl rfl ?_
  refine HH hf rfl rfl pD rfl rfl pj.one hw a1 fun a hf=>?_
  refine eD (i:=14) (by kernel_rfl) rfl rfl ?_
  refine wQ (A:=⟨gb,off,none⟩) (l:=G.length) (c:=cap) hf rfl rfl (by decide) AD pD (congrArg some e1) rfl (by omega) (by omega) fun a hf=>?_
  rw[kE,Int.toNat_natCast] at hf
  refine eD (i:=15) (by kernel_rfl) rfl rfl ?_
  refine HH hf rfl rfl pD rfl rfl p0.one hw2 b1 fun a hf=>?_
  have hperm:((h.2.set 0 h.2[j]).set j h.2[0]).Perm h.2:=List.set_set_perm hl0 hlj
  have hpf:(((h.2.set 0 h.2[j]).set j h.2[0]).flatMap eF).Perm (h.2.flatMap eF):=hperm.flatMap_right eF
  have hpx:(I1 (h.1,(h.2.set 0 h.2[j]).set j h.2[0])).Perm (I1 h):=hpf.append_left (eF h.1)
  refine wpAny_done (by kernel_rfl) (hn a _ (h.1,(h.2.set 0 h.2[j]).set j h.2[0]) (hf.weak ⟨rfl,rfl,trivial⟩) (hr.wroteX (hs1.trans (cT _ gb _)) (fun b e=>by rw[show b=gb from e];exact a2) ⟨b3,hpx.nodup_iff.2 hr.ow.nd,fun b hb=>hr.ow.new b (hpx.mem_iff.1 hb),fun b hb=>hr.ow.z b (hpx.mem_iff.1 hb),fun b hb=>?_⟩)) _
  have:=hr.ow.zl b hb
  have h2:=(hs1.trans (cT (w.drew.setRow gb (cur.toList.set (off+0) h.2[j]).toArray) gb ((cur.toList.set (off+0) h.2[j]).toArray.toList.set (off+j) h.2[0]).toArray)).size
  omega
 refine wp_region_any aQ ?_
 refine dL (ops:=Qx) (i:=0) (fuel:=15) hf rfl (by kernel_rfl) hQ rfl rfl (by decide) (fun w=>cZ hf rfl rfl) fun a hf=>?_
 refine dL (ops:=Qx) (i:=1) (fuel:=14) hf rfl (by kernel_rfl) hQ rfl rfl (by decide) (fun w=>cZ hf rfl rfl) fun a hf=>?_
 refine dL (ops:=Qx) (i:=2) (fuel:=13) hf rfl (by kernel_rfl) hQ rfl rfl (by decide) (fun w=>cZ hf rfl rfl) fun a hf=>?_
 refine dL (ops:=Qx) (i:=3) (fuel:=12) hf rfl (by kernel_rfl) hQ rfl rfl (by decide) (fun w=>OW hf rfl rfl rfl rfl rfl (WU _ _)) fun a hf=>?_
 refine dL (ops:=Qx) (i:=4) (fuel:=11) hf rfl (by kernel_rfl) hQ rfl rfl (by decide) (fun w=>cZ hf rfl rfl) fun a hf=>?_
 refine dL (ops:=Qx) (i:=5) (fuel:=10) hf rfl (by kernel_rfl) hQ rfl rfl (by decide) (fun w=>cZ hf rfl rfl) fun a hf=>?_
 refine dL (ops:=Qx) (i:=6) (fuel:=9) hf rfl (by kernel_rfl) hQ rfl rfl (by decide) (fun w=>OW hf rfl rfl rfl rfl rfl (WU _ _)) fun a hf=>?_
 rw[wj] at hf
 refine dL (ops:=Qx) (i:=7) (fuel:=8) hf rfl (by kernel_rfl) hQ rfl rfl (by decide) (fun w=>gC (A:=⟨gb,off,none⟩) (l:=G.length) (c:=cap) hf rfl AD pD (congrArg some e1) rfl (by omega) (by omega)) fun a hf=>?_
 refine dL (ops:=Qx) (i:=9) (fuel:=7) hf rfl (by kernel_rfl) hQ rfl rfl (by decide) (fun w=>cZ hf rfl rfl) fun a hf=>?_
 refine dL (ops:=Qx) (i:=10) (fuel:=6) hf rfl (by kernel_rfl) hQ rfl rfl (by decide) (fun w=>gC (A:=⟨gb,off,none⟩) (l:=G.length) (c:=cap) hf rfl AD pD (congrArg some e1) rfl (by decide) (by omega)) fun a hf=>?_
 rw[kE,kE,Int.toNat_natCast] at hf
 refine EM (i:=8) (j:=11) (fuel:=5) (by kernel_rfl) rfl rfl rfl rfl ?_ ?_
 ·refine oK hf rfl rfl (by decide) pD GW rfl cj fun a hf=>?_
  refine eD (i:=11) (by kernel_rfl) rfl rfl ?_
  refine oK hf rfl rfl (by decide) pD GW rfl c0 fun a hf=>?_
  exact tail _ a (by kernel_rfl) (hf.weak ⟨rfl,rfl,rfl,rfl,rfl,rfl,rfl,trivial⟩)
 ·refine oK hf rfl rfl (by decide) pD GW rfl c0 fun a hf=>?_
  refine eD (i:=8) (by kernel_rfl) rfl rfl ?_
  refine oK hf rfl rfl (by decide) pD GW rfl cj fun a hf=>?_
  exact tail _ a (by kernel_rfl) (hf.weak ⟨rfl,rfl,rfl,rfl,rfl,rfl,rfl,trivial⟩)
end
end Go.Eng.Tc
namespace Go.Eng.Tc
open Go.Eng Go.RowKit Go.Proofs Go.Eng.Rt Go.Eng.Sq Go.Eng.Tg Go.Eng.Tw
section
variable {X Z' Y:Nat→Prop} {g:Nat} {w0 w w':World} {L:List T} {dT at1:Int} {ls:List (List Z)} {G:List (List T)} {h:HX} {l:List T} {v:Value} {a:Act} {Q:Exit→Act→World→Prop}
theorem aAP{x:Int}(h1:20≤x)(h2:x≤28):Aa [(x,0),(x+3,1),(x+1,4)]:=by
 have mt:∀p∈[(x,(0:Int)),(x+3,1),(x+1,4)],(x≤p.1∧p.1≤x+3)∧0≤p.2∧p.2≤4:=fun p hp=>by
  simp only[List.mem_cons,List.not_mem_nil,or_false] at hp
  rcases hp with rfl | rfl | rfl <;> (dsimp only;omega)
 refine⟨⟨⟨by simp,fun p hp=>?_,fun p hp q hq=>?_⟩,⟨x,0,1,Tg.tri,by decide,aCA,?_⟩,by simp⟩,.inl (by simp)⟩
 ·have:=mt p hp;omega
 ·have:=mt p hp;have:=mt q hq;omega
 ·unfold Tg.tri pz;simp
set_option maxRecDepth 20000 in
set_option maxHeartbeats 4000000 in
theorem aCU{x:Int}(h1:20≤x)(h2:x≤28)(hG:ls.length≤50)(hr:Rs X g w0 L dT (GG ls) h w)(hf:Fr 118 [(0,pg g),(3,h.1),(9,vI x)] a)
 (hn:∀a' w' h' Z',Fr 118 [(0,pg g),(3,h'.1)] a'→Rs Z' g w0 L dT (GG (ls++[[(x,0),(x+3,1),(x+1,4)]])) h' w'→Q .normal a' w'):(pE [1,1,1,1,1,0,1,0,1] (tE Tryz.f28)).wp Tryz.prog Q a w:=by
 refine bW (by kernel_rfl) ?_
 refine aT hf rfl rfl (by decide) rfl fun a hf=>?_
 refine aT hf rfl rfl (by decide) rfl fun a hf=>?_
 refine BA hr.good hr.env.zl hf rfl rfl (by decide) rfl rfl (by omega) (by omega) fun y1 a w1 hf t1 d1 s1=>?_
 have hr:=hr.same t1
 refine aT hf rfl rfl (by decide) rfl fun a hf=>?_
 refine eJ hf rfl rfl (by decide) rfl rfl rfl rfl (WV _ _) fun a hf=>?_
 rw[sK (by omega) (by omega)] at hf
 refine BA hr.good hr.env.zl hf rfl rfl (by decide) rfl rfl (by omega) (by omega) fun y2 a w2 hf t2 d2 s2=>?_
 have hr:=hr.same t2
 have d1:=d1.step t2 (fun _ h=>h.elim) fun b hb=>.inl hb
 refine aT hf rfl rfl (by decide) rfl fun a hf=>?_
 refine eJ hf rfl rfl (by decide) rfl rfl rfl rfl (WV _ _) fun a hf=>?_
 rw[sK (by omega) (by omega)] at hf
 refine BA hr.good hr.env.zl hf rfl rfl (by decide) rfl rfl (by omega) (by omega) fun y3 a w3 hf t3 d3 s3=>?_
 have hr:=hr.same t3
 have d1:=d1.step t3 (fun _ h=>h.elim) fun b hb=>.inl hb
 have d2:=d2.step t3 (fun _ h=>h.elim) fun b hb=>.inl hb
 refine Qv (cs:=[y1,y2,y3]) (pts:=[wT (x,0),wT (x+3,1),wT (x+1,4)]) hr hf rfl rfl (by decide) rfl rfl (by decide) (by decide) (fun c hc=>?_) (fun t ht=>?_) rfl ?_ fun a w5 v Z' hf hz hr hp=>?_
 ·simp only[List.mem_cons,List.not_mem_nil,or_false] at hc
  rcases hc with rfl | rfl | rfl <;> assumption
 ·simp only[List.mem_cons,List.not_mem_nil,or_false] at ht
  rcases ht with rfl | rfl | rfl <;> rfl
 ·have:=d1.append (d2.append (d3.append RdT.nil'))
  simpa[flat] using this
 refine WT hf rfl rfl (by decide) rfl hp.own.one fun a w4 hf t4 hlit=>?_
 refine WX (hr.same t4) (hp.same t4) hf rfl rfl (by decide) rfl rfl hlit (by rw[zH];omega) fun a w5 h5 Z5 hf z5 hr=>?_
 refine bA hf rfl rfl (by decide) rfl fun a hf=>?_
 refine hn a w5 h5 Z5 (hf.weak ⟨rfl,rfl,trivial⟩) ?_
 rw[←Do]
 exact hr
def Z4(g:Nat)(w0:World)(L:List T)(e:Ending)(w:World):Prop:=∃h ls at1 Z',e=.returned h.1∧Rs Z' g w0 L at1 (GG ls) h w∧(∀l∈ls,Aa l)∧0<ls.length∧ls.length≤5
theorem Z6(he:Env (·=g) g w L dT w)(hg:g<w.heap.size):Rs (·=g) g w L dT (GG []) (.slice none 0 0,[]) w:=
 ⟨he,⟨⟨rfl,rowAt.nil w 35 1,fun k g v h=>by simp[GG] at h⟩,List.nodup_nil,fun b hb=>(by cases hb),fun b hb=>(by cases hb),he.zl⟩,hg⟩
set_option maxRecDepth 20000 in
set_option maxHeartbeats 8000000 in
theorem Z7(he:Env (·=g) g w L dT w)(hg:g<w.heap.size):Calls Tryz.prog 28 #[pg g] w (Z4 g w L):=by
 refine yP [pg g] 117 118 Tryz.func28 rfl rfl rfl fun a hf=>?_
 refine wp_seq (bW (by kernel_rfl) ?_)
 refine bA hf rfl rfl (by decide) rfl fun a hf=>?_
 refine wp_seq (bW (by kernel_rfl) ?_)
 refine bA hf rfl rfl (by decide) rfl fun a hf=>?_
 refine wp_seq (bW (by kernel_rfl) ?_)
 refine aT hf rfl rfl (by decide) rfl fun a hf=>?_
 refine vU he hf rfl rfl (by decide) rfl rfl (by decide) (by decide) fun u at1 a w1 hu u0 u1 hf t1 he1=>?_
 refine eJ hf rfl rfl (by decide) rfl rfl rfl rfl (QR _ _) fun a hf=>?_
 rw[sK (by omega) (by omega)] at hf
 refine bA hf rfl rfl (by decide) rfl fun a hf=>?_
 obtain⟨n,hnn⟩:∃n:Nat,1+u=n:=⟨(1+u).toNat,by omega⟩
 rw[hnn] at hf
 have hr1:Rs (·=g) g w L at1 (GG []) (.slice none 0 0,[]) w1:=(Z6 he hg).next t1 he1
 refine wp_seq (wp_seq (bW (by kernel_rfl) ?_))
 refine bA hf rfl rfl (by decide) rfl fun a hf=>?_
 refine wp_block ?_
 refine HI (m:=n) (fun k a W=>∃(i:Nat) (ls:List (List Z)) (h:HX) (at2:Int) (Z2:Nat→Prop),i+k=n∧ls.length=i∧Fr 118 [(0,pg g),(3,h.1),(4,vI (n:Nat)),(5,vI (i:Nat))] a∧Rs Z2 g w L at2 (GG ls) h W∧∀l∈ls,Aa l) ?_ ?_
  ⟨0,[],(.slice none 0 0,[]),at1,_,Nat.zero_add _,rfl,hf.weak ⟨rfl,rfl,rfl,rfl,trivial⟩,hr1,fun l hl=>by cases hl⟩
 ·rintro K a W ⟨i,ls,h,at2,Z2,hi,hli,hf,hr,hB⟩
  have hin:i=n:=by omega
  subst hin
  refine wp_seq (wp_seq (bW (by kernel_rfl) ?_))
  refine aT hf rfl rfl (by decide) rfl fun a hf=>?_
  refine aT hf rfl rfl (by decide) rfl fun a hf=>?_
  refine eJ (v:=.bool false) hf rfl rfl (by decide) rfl rfl rfl rfl ?_ fun a hf=>?_
  ·rw[Qu,aF,decide_eq_false (by omega)]
  refine wp_cond_false (hf.ev rfl) (wp_exit ?_)
  have fin:∀(a:Act) (w1:World) (ls:List (List Z)) (h:HX) (at3:Int) (Z2:Nat→Prop),0<ls.length→ls.length≤5→(∀l∈ls,Aa l)→Rs Z2 g w L at3 (GG ls) h w1→Fr 118 [(0,pg g),(3,h.1)] a→(pE [1,1,1,1,1,1] (tE Tryz.f28)).wp Tryz.prog (bodyPost Tryz.prog Tryz.f28 (Z4 g w L)) a w1:=by
   intro a w1 ls h at3 Z2 h0 h5 hB hr hf
   refine wp_seq (bW (by kernel_rfl) ?_)
   refine aT hf rfl rfl (by decide) rfl fun a hf=>?_
   refine bA hf rfl rfl (by decide) rfl fun a hf=>?_
   refine wp_ret ?_
   exact EX rfl hf rfl ⟨h,ls,at3,Z2,rfl,hr,hB,h0,h5⟩
  have fin2:∀(a:Act) (w1:World) (ls:List (List Z)) (h:HX) (at3:Int) (Z2:Nat→Prop),0<ls.length→ls.length≤4→(∀l∈ls,Aa l)→Rs Z2 g w L at3 (GG ls) h w1→Fr 118 [(0,pg g),(3,h.1)] a→(pE [1,1,1,1,1] (tE Tryz.f28)).wp Tryz.prog (bodyPost Tryz.prog Tryz.f28 (Z4 g w L)) a w1:=by
   intro a w1 ls h at3 Z2 h0 h5 hB hr hf
   refine wp_seq (wp_seq (bW (by kernel_rfl) ?_))
   refine aT hf rfl rfl (by decide) rfl fun a hf=>?_
   refine vU hr.env hf rfl rfl (by decide) rfl rfl (by decide) (by decide) fun u at1 a w1 hu u0 u1 hf t1 he1=>?_
   have hr:=hr.next t1 he1
   refine eJ hf rfl rfl (by decide) rfl rfl rfl rfl (zG _ _) fun a hf=>?_
   rw[aL] at hf
   by_cases hu0:u=0
   ·rw[decide_eq_true hu0] at hf
    refine wp_cond_true (hf.ev rfl) ?_
    refine wp_seq (bW (by kernel_rfl) ?_)
    refine aT hf rfl rfl (by decide) rfl fun a hf=>?_
    refine vU hr.env hf rfl rfl (by decide) rfl rfl (by decide) (by decide) fun u at1 a w1 hu u0 u1 hf t1 he1=>?_
    have hr:=hr.next t1 he1
    refine eJ hf rfl rfl (by decide) rfl rfl rfl rfl (QR _ _) fun a hf=>?_
    rw[sK (by omega) (by omega)] at hf
    refine bA hf rfl rfl (by decide) rfl fun a hf=>?_
    refine aCU (x:=20+u) (by omega) (by omega) (by omega) hr (hf.weak ⟨rfl,rfl,rfl,trivial⟩) fun a w2 h2 Z3 hf hr=>?_
    refine fin a w2 _ h2 _ Z3 (by rw[List.length_append];simp) (by rw[List.length_append];simp only[List.length_cons,List.length_nil];omega) (fun l hl=>?_) hr hf
    rcases List.mem_append.1 hl with hl | hl
    ·exact hB l hl
    ·rw[List.mem_singleton.1 hl]
     exact aAP (by omega) (by omega)
   ·rw[decide_eq_false hu0] at hf
    refine wp_cond_false (hf.ev rfl) (wp_skip ?_)
    exact fin a w1 ls h at1 Z2 h0 (by omega) hB hr (hf.weak ⟨rfl,rfl,trivial⟩)
  show Code.wp Tryz.prog (pE [1,1,1,1] (tE Tryz.f28)) _ _ W
  refine wp_seq (wp_seq (bW (by kernel_rfl) ?_))
  refine aT hf rfl rfl (by decide) rfl fun a hf=>?_
  refine vU hr.env hf rfl rfl (by decide) rfl rfl (by decide) (by decide) fun u at1 a w1 hu u0 u1 hf t1 he1=>?_
  have hr:=hr.next t1 he1
  refine eJ hf rfl rfl (by decide) rfl rfl rfl rfl (zG _ _) fun a hf=>?_
  rw[aL] at hf
  have h0:0<ls.length:=by omega
  by_cases hu0:u=0
  ·rw[decide_eq_true hu0] at hf
   refine wp_cond_true (hf.ev rfl) ?_
   have hj:ls.length-1<ls.length:=by omega
   refine aCT (j:=ls.length-1) (g0:=ls[0].map wT) (gj:=ls[ls.length-1].map wT) (by rw[zH];omega) (by unfold GG;rw[List.getElem?_map,List.getElem?_eq_getElem h0];rfl) (by unfold GG;rw[List.getElem?_map,List.getElem?_eq_getElem hj];rfl)
    (by rw[zH];omega) (fun c a d v w h=>by cases d <;> exact h) hr (by rw[zH,hli];exact hf.weak ⟨rfl,rfl,rfl,trivial⟩) fun a w2 h2 hf hr=>?_
   have e:((GG ls).set 0 (ls[ls.length-1].map wT)).set (ls.length-1) (ls[0].map wT)=GG ((ls.set 0 ls[ls.length-1]).set (ls.length-1) ls[0]):=by unfold GG;rw[List.map_set,List.map_set]
   rw[e] at hr
   refine fin2 a w2 _ h2 _ Z2 (by rw[List.length_set,List.length_set];exact h0) (by rw[List.length_set,List.length_set];omega) (fun l hl=>?_) hr hf
   rcases List.mem_or_eq_of_mem_set hl with hl | rfl
   ·rcases List.mem_or_eq_of_mem_set hl with hl | rfl
    ·exact hB l hl
    ·exact hB _ (List.getElem_mem hj)
   ·exact hB _ (List.getElem_mem h0)
  ·rw[decide_eq_false hu0] at hf
   refine wp_cond_false (hf.ev rfl) (wp_skip ?_)
   exact fin2 a w1 ls h at1 Z2 h0 (by omega) hB hr (hf.weak ⟨rfl,rfl,trivial⟩)
 ·rintro k K hK a W ⟨i,ls,h,at2,Z2,hi,hli,hf,hr,hB⟩
  refine wp_seq (wp_seq (bW (by kernel_rfl) ?_))
  refine aT hf rfl rfl (by decide) rfl fun a hf=>?_
  refine aT hf rfl rfl (by decide) rfl fun a hf=>?_
  refine eJ (v:=.bool true) hf rfl rfl (by decide) rfl rfl rfl rfl ?_ fun a hf=>?_
  ·rw[Qu,aF,decide_eq_true (by omega)]
  refine wp_cond_true (hf.ev rfl) (wp_skip ?_)
  refine rnd (n:=n) (i:=i) (by omega) (by omega) (by omega) (by omega) (fun c a d v w h=>by cases d <;> exact h) hr (hf.weak ⟨rfl,rfl,rfl,rfl,trivial⟩) fun a' W' h' Z3 at3 l hf' hr' hb=>?_
  refine hK a' W' ⟨i+1,ls++[l],h',at3,Z3,by omega,by rw[List.length_append,hli];rfl,hf'.weak ⟨rfl,rfl,rfl,rfl,trivial⟩,hr',fun x hx=>?_⟩
  rcases List.mem_append.1 hx with hx | hx
  ·exact hB x hx
  ·rw[List.mem_singleton.1 hx];exact hb
end
end Go.Eng.Tc
namespace Go.Eng.Tc
open Go.Eng Go.Eng.Tm Go.Eng.Tw Go.Eng.Rt Go.Eng.Tg Go.Eng.Sq
theorem Dp{L:List T}{a:Int}(hD:uZ L a){x y r:Int}(hx:x.natAbs≤4)(hy:y.natAbs≤4)(hr0:1≤r)(hr:r≤5){ps:List (Int×Int)}(hl:ps.length<100){turn:Bool}{i:Int}(hi:i=0∨i=1∨i=2∨i=3∨i=4∨i=5∨i=6∨i=7):
 ∃a' ps',aG (DS L a x y r turn i (ps.map wT))=some (.inl (DS L a' x y r turn (i+1) (ps'.map wT)))∧uZ L a'∧(ps'=ps∨ps'=ps++[pz x y r ((WM turn).getD i.toNat default)]):=by
 obtain⟨v,a',e,v0,v1,hD'⟩:=GS hD (n:=4) (by omega) (by omega)
 have bd:∀c:Int,-2≤c→c≤2→-10≤r*c∧r*c≤10:=fun c h1 h2=>by
  have:c=-2∨c=-1∨c=0∨c=1∨c=2:=by omega
  rcases this with rfl | rfl | rfl | rfl | rfl <;> omega
 have wl:∀k:Int,0≤k→k≤100→wr .i64 k=k:=fun k h1 h2=>sK (by omega) (by omega)
 have hm:∀c:Int,-2≤c→c≤2→wr .i64 (r*c)=r*c:=fun c h1 h2=>by have:=bd c h1 h2;exact dK (by omega) (by omega)
 have hax:∀c:Int,-2≤c→c≤2→wr .i64 (x+r*c)=x+r*c:=fun c h1 h2=>by have:=bd c h1 h2;exact dK (by omega) (by omega)
 have hay:∀c:Int,-2≤c→c≤2→wr .i64 (y+r*c)=y+r*c:=fun c h1 h2=>by have:=bd c h1 h2;exact dK (by omega) (by omega)
 have gx:∀c:Int,-2≤c→c≤2→aE (x+r*c,())=some (aM ((x+r*c:Int):Rat),aU ((x+r*c:Int):Rat),aY ((x+r*c:Int):Rat),()):=fun c h1 h2=>by have:=bd c h1 h2;exact LO (by omega) (by omega)
 have gy:∀c:Int,-2≤c→c≤2→aE (y+r*c,())=some (aM ((y+r*c:Int):Rat),aU ((y+r*c:Int):Rat),aY ((y+r*c:Int):Rat),()):=fun c h1 h2=>by have:=bd c h1 h2;exact LO (by omega) (by omega)
 have hroom:∀t:T,room (ps.map wT) [t] 168=some (ps.map wT++[t]):=fun t=>pP (by simp;omega) (by decide)
 by_cases h3:v=3
 ·subst h3
  refine⟨a',ps,?_,hD',.inl rfl⟩
  unfold aG
  conv=>lhs;unfold DS
  rcases hi with rfl | rfl | rfl | rfl | rfl | rfl | rfl | rfl <;> (simp only[aF,Int.reduceLT,decide_true,cond_true,e,bC,aL,aN,aJ,Int.reduceAdd,wl,Int.reduceLE];rfl)
 ·have d3:decide (v=3)=false:=decide_eq_false h3
  rcases hi with rfl | rfl | rfl | rfl | rfl | rfl | rfl | rfl <;> cases turn
  ·refine⟨a',ps++[(x+r*(2),y+r*(0))],?_,hD',.inr rfl⟩
   unfold aG DS
   simp only[aF,Int.reduceLT,decide_true,decide_false,cond_true,cond_false,e,bC,aL,d3,aN,eB,aJ,cB,fG,Int.reduceAdd,Int.reduceSub,Int.reduceEq,wl,hm,hax,hay,gx,gy,hroom,Int.reduceLE,Int.reduceNeg]
   rw[List.map_append];rfl
  ·refine⟨a',ps++[(x+r*(1),y+r*(-1))],?_,hD',.inr rfl⟩
   unfold aG DS
   simp only[aF,Int.reduceLT,decide_true,decide_false,cond_true,cond_false,e,bC,aL,d3,aN,eB,aJ,cB,fG,Int.reduceAdd,Int.reduceSub,Int.reduceEq,wl,hm,hax,hay,gx,gy,hroom,Int.reduceLE,Int.reduceNeg]
   rw[List.map_append];rfl
  ·refine⟨a',ps++[(x+r*(2),y+r*(1))],?_,hD',.inr rfl⟩
   unfold aG DS
   simp only[aF,Int.reduceLT,decide_true,decide_false,cond_true,cond_false,e,bC,aL,d3,aN,eB,aJ,cB,fG,Int.reduceAdd,Int.reduceSub,Int.reduceEq,wl,hm,hax,hay,gx,gy,hroom,Int.reduceLE,Int.reduceNeg]
   rw[List.map_append];rfl
  ·refine⟨a',ps++[(x+r*(0),y+r*(-2))],?_,hD',.inr rfl⟩
   unfold aG DS
   simp only[aF,Int.reduceLT,decide_true,decide_false,cond_true,cond_false,e,bC,aL,d3,aN,eB,aJ,cB,fG,Int.reduceAdd,Int.reduceSub,Int.reduceEq,wl,hm,hax,hay,gx,gy,hroom,Int.reduceLE,Int.reduceNeg]
   rw[List.map_append];rfl
  ·refine⟨a',ps++[(x+r*(1),y+r*(2))],?_,hD',.inr rfl⟩
   unfold aG DS
   simp only[aF,Int.reduceLT,decide_true,decide_false,cond_true,cond_false,e,bC,aL,d3,aN,eB,aJ,cB,fG,Int.reduceAdd,Int.reduceSub,Int.reduceEq,wl,hm,hax,hay,gx,gy,hroom,Int.reduceLE,Int.reduceNeg]
   rw[List.map_append];rfl
  ·refine⟨a',ps++[(x+r*(-2),y+r*(-1))],?_,hD',.inr rfl⟩
   unfold aG DS
   simp only[aF,Int.reduceLT,decide_true,decide_false,cond_true,cond_false,e,bC,aL,d3,aN,eB,aJ,cB,fG,Int.reduceAdd,Int.reduceSub,Int.reduceEq,wl,hm,hax,hay,gx,gy,hroom,Int.reduceLE,Int.reduceNeg]
   rw[List.map_append];rfl
  ·refine⟨a',ps++[(x+r*(-1),y+r*(2))],?_,hD',.inr rfl⟩
   unfold aG DS
   simp only[aF,Int.reduceLT,decide_true,decide_false,cond_true,cond_false,e,bC,aL,d3,aN,eB,aJ,cB,fG,Int.reduceAdd,Int.reduceSub,Int.reduceEq,wl,hm,hax,hay,gx,gy,hroom,Int.reduceLE,Int.reduceNeg]
   rw[List.map_append];rfl
  ·refine⟨a',ps++[(x+r*(-2),y+r*(0))],?_,hD',.inr rfl⟩
   unfold aG DS
   simp only[aF,Int.reduceLT,decide_true,decide_false,cond_true,cond_false,e,bC,aL,d3,aN,eB,aJ,cB,fG,Int.reduceAdd,Int.reduceSub,Int.reduceEq,wl,hm,hax,hay,gx,gy,hroom,Int.reduceLE,Int.reduceNeg]
   rw[List.map_append];rfl
  ·refine⟨a',ps++[(x+r*(-2),y+r*(0))],?_,hD',.inr rfl⟩
   unfold aG DS
   simp only[aF,Int.reduceLT,decide_true,decide_false,cond_true,cond_false,e,bC,aL,d3,aN,eB,aJ,cB,fG,Int.reduceAdd,Int.reduceSub,Int.reduceEq,wl,hm,hax,hay,gx,gy,hroom,Int.reduceLE,Int.reduceNeg]
   rw[List.map_append];rfl
  ·refine⟨a',ps++[(x+r*(-1),y+r*(2))],?_,hD',.inr rfl⟩
   unfold aG DS
   simp only[aF,Int.reduceLT,decide_true,decide_false,cond_true,cond_false,e,bC,aL,d3,aN,eB,aJ,cB,fG,Int.reduceAdd,Int.reduceSub,Int.reduceEq,wl,hm,hax,hay,gx,gy,hroom,Int.reduceLE,Int.reduceNeg]
   rw[List.map_append];rfl
  ·refine⟨a',ps++[(x+r*(-2),y+r*(-1))],?_,hD',.inr rfl⟩
   unfold aG DS
   simp only[aF,Int.reduceLT,decide_true,decide_false,cond_true,cond_false,e,bC,aL,d3,aN,eB,aJ,cB,fG,Int.reduceAdd,Int.reduceSub,Int.reduceEq,wl,hm,hax,hay,gx,gy,hroom,Int.reduceLE,Int.reduceNeg]
   rw[List.map_append];rfl
  ·refine⟨a',ps++[(x+r*(1),y+r*(2))],?_,hD',.inr rfl⟩
   unfold aG DS
   simp only[aF,Int.reduceLT,decide_true,decide_false,cond_true,cond_false,e,bC,aL,d3,aN,eB,aJ,cB,fG,Int.reduceAdd,Int.reduceSub,Int.reduceEq,wl,hm,hax,hay,gx,gy,hroom,Int.reduceLE,Int.reduceNeg]
   rw[List.map_append];rfl
  ·refine⟨a',ps++[(x+r*(0),y+r*(-2))],?_,hD',.inr rfl⟩
   unfold aG DS
   simp only[aF,Int.reduceLT,decide_true,decide_false,cond_true,cond_false,e,bC,aL,d3,aN,eB,aJ,cB,fG,Int.reduceAdd,Int.reduceSub,Int.reduceEq,wl,hm,hax,hay,gx,gy,hroom,Int.reduceLE,Int.reduceNeg]
   rw[List.map_append];rfl
  ·refine⟨a',ps++[(x+r*(2),y+r*(1))],?_,hD',.inr rfl⟩
   unfold aG DS
   simp only[aF,Int.reduceLT,decide_true,decide_false,cond_true,cond_false,e,bC,aL,d3,aN,eB,aJ,cB,fG,Int.reduceAdd,Int.reduceSub,Int.reduceEq,wl,hm,hax,hay,gx,gy,hroom,Int.reduceLE,Int.reduceNeg]
   rw[List.map_append];rfl
  ·refine⟨a',ps++[(x+r*(1),y+r*(-1))],?_,hD',.inr rfl⟩
   unfold aG DS
   simp only[aF,Int.reduceLT,decide_true,decide_false,cond_true,cond_false,e,bC,aL,d3,aN,eB,aJ,cB,fG,Int.reduceAdd,Int.reduceSub,Int.reduceEq,wl,hm,hax,hay,gx,gy,hroom,Int.reduceLE,Int.reduceNeg]
   rw[List.map_append];rfl
  ·refine⟨a',ps++[(x+r*(2),y+r*(0))],?_,hD',.inr rfl⟩
   unfold aG DS
   simp only[aF,Int.reduceLT,decide_true,decide_false,cond_true,cond_false,e,bC,aL,d3,aN,eB,aJ,cB,fG,Int.reduceAdd,Int.reduceSub,Int.reduceEq,wl,hm,hax,hay,gx,gy,hroom,Int.reduceLE,Int.reduceNeg]
   rw[List.map_append];rfl
theorem TZ{L:List T}{x y r:Int}(hx:x.natAbs≤4)(hy:y.natAbs≤4)(hr0:1≤r)(hr:r≤5){turn:Bool}:∀(n:Nat) {a:Int} (_:uZ L a) {s:List Z} {i:Nat} (_:i+n=8) (_:s.Sublist ((WM turn).take i)),
 ∃(a':Int) (s':List Z),aI aG (DS L a x y r turn (i:Int) ((s.map (pz x y r)).map wT))=some (.inl ((),(s'.map (pz x y r)).map wT,L,a',()))∧uZ L a'∧s'.Sublist (WM turn)
 | 0,a,hD,s,i,hi,hs=>by
  refine⟨a,s,aO ?_,hD,hs.trans (List.take_sublist _ _)⟩
  have hlt:decide ((i:Int)<8)=false:=decide_eq_false (by omega)
  unfold aG DS
  simp only[aF,hlt,cond_false]
 | n+1,a,hD,s,i,hi,hs=>by
  have hsl:s.length≤8:=by have:=hs.length_le;rw[List.length_take] at this;omega
  obtain⟨a',ps',e,hD',hc⟩:=Dp hD hx hy hr0 hr (ps:=s.map (pz x y r)) (by rw[List.length_map];omega) (turn:=turn) (i:=(i:Int)) (by omega)
  have h8:=Hk turn
  obtain⟨s',hs',es⟩:∃s':List Z,s'.Sublist ((WM turn).take (i+1))∧ps'=s'.map (pz x y r):=by
   rw[Kq (by omega)]
   rcases hc with hc | hc
   ·exact⟨s,hs.trans (List.sublist_append_left _ _),hc⟩
   ·refine⟨s++[(WM turn).getD i default],hs.append (List.Sublist.refl _),?_⟩
    rw[hc,List.map_append];rfl
  subst es
  have hi1:(i:Int)+1=((i+1:Nat):Int):=by omega
  rw[hi1] at e
  obtain⟨a2,s2,e2,r2⟩:=TZ hx hy hr0 hr (turn:=turn) n hD' (s:=s') (i:=i+1) (by omega) hs'
  exact⟨a2,s2,by rw[dU e,e2],r2⟩
theorem Vi{L:List T}{a:Int}(hD:uZ L a):∃a' ps,cK ((),L,a,())=some (ps.map wT,L,a',())∧uZ L a'∧Aa ps:=by
 obtain⟨v0,a0,e0,l0,h0,D0⟩:=GS hD (n:=9) (by omega) (by omega)
 obtain⟨v1,a1,e1,l1,h1,D1⟩:=GS D0 (n:=9) (by omega) (by omega)
 obtain⟨v2,a2,e2,l2,h2,D2⟩:=GS D1 (n:=5) (by omega) (by omega)
 obtain⟨v3,a3,e3,l3,h3,D3⟩:=GS D2 (n:=3) (by omega) (by omega)
 have w0:wr .i64 (v0-4)=v0-4:=sK (by omega) (by omega)
 have w1:wr .i64 (v1-4)=v1-4:=sK (by omega) (by omega)
 have w2:wr .i64 (1+v2)=1+v2:=sK (by omega) (by omega)
 obtain⟨a4,s,e4,D4,hs⟩:=TZ (L:=L) (x:=v0-4) (y:=v1-4) (r:=1+v2) (by omega) (by omega) (by omega) (by omega) (turn:=decide (v3=2)) 8 D3 (s:=[]) (i:=0) (by omega) (List.nil_sublist _)
 have hc:=QM hs
 have hsm:=Qg hs
 have hl:s.length≤8:=by have:=hs.length_le;rw[Hk] at this;exact this
 have hr0:0<1+v2:=by omega
 obtain⟨v5,a5,e5,l5,h5,D5⟩:=GS D4 (n:=7) (by omega) (by omega)
 have fold:((),v0-4,v1-4,1+v2,(),([]:List T),decide (v3=2),(0:Int),L,a3,(2:Int),(0:Int),(2:Int),(1:Int),(1:Int),(2:Int),(-1:Int),(2:Int),(-2:Int),(0:Int),(-2:Int),(-1:Int),(0:Int),(-2:Int),(1:Int),(-1:Int),())=DS L a3 (v0-4) (v1-4) (1+v2) (decide (v3=2)) ((0:Nat):Int) ((([]:List Z).map (pz (v0-4) (v1-4) (1+v2))).map wT):=rfl
 have hcell:∀p,T.bool? (T.cell (wT p) 0)=some (aM (p.1:Rat))∧T.sl? 1 (T.cell (wT p) 1)=some (aU (p.1:Rat))∧T.sl? 1 (T.cell (wT p) 2)=some (aY (p.1:Rat)) ∧
  T.bool? (T.cell (wT p) 3)=some (aM (p.2:Rat))∧T.sl? 1 (T.cell (wT p) 4)=some (aU (p.2:Rat))∧T.sl? 1 (T.cell (wT p) 5)=some (aY (p.2:Rat)) ∧
  T.bool? (T.cell (wT p) 6)=some false∧T.sl? 1 (T.cell (wT p) 7)=some []∧T.sl? 1 (T.cell (wT p) 8)=some []:=fun p=>⟨rfl,tA _ _,tA _ _,rfl,tA _ _,tA _ _,rfl,tA _ _,tA _ _⟩
 have bx:∀{ps:List (Int×Int)},ps.length≤8→SmS (v0-4) (v1-4) ps→Bx ps:=fun {ps} hl hs=>⟨by omega,fun p hp=>by have:=hs p hp;omega,fun p hp q hq=>by have h1:=hs p hp;have h2:=hs q hq;omega⟩
 have bs:∀{t:List Z},ZL t=true→t.length≤8→(∀p∈t,p.1.natAbs≤2∧p.2.natAbs≤2)→BS (t.map (pz (v0-4) (v1-4) (1+v2))):=fun {t} h1 h2 h3=>
  ⟨bx (by rw[List.length_map];exact h2) (aCL (by omega) (by omega) h3),⟨_,_,_,t,hr0,h1,rfl⟩,by rw[List.length_map];exact h2⟩
 unfold cK
 simp only[e0,e1,e2,e3,bC,cB,aJ,aL,w0,w1,w2,fold,e4,e5,aN]
 by_cases h6:v5=6
 ·rw[decide_eq_true h6]
  simp only[cond_true,aF,aK,List.length_map]
  match s,hl,hc,hsm with
  | [],hl,hc,hsm=>exact⟨a5,([]:List Z).map (pz (v0-4) (v1-4) (1+v2)),rfl,D5,bs (t:=[]) hc.1 hl hsm,.inl (by simp)⟩
  | [p],hl,hc,hsm=>exact⟨a5,[p].map (pz (v0-4) (v1-4) (1+v2)),rfl,D5,bs (t:=[p]) hc.1 hl hsm,.inl (by simp)⟩
  | p'::q'::r',hl,hc,hsm=>
   obtain⟨p,hpe⟩:∃p,p=pz (v0-4) (v1-4) (1+v2) p':=⟨_,rfl⟩
   obtain⟨q,hqe⟩:∃q,q=pz (v0-4) (v1-4) (1+v2) q':=⟨_,rfl⟩
   obtain⟨r,hre⟩:∃r,r=r'.map (pz (v0-4) (v1-4) (1+v2)):=⟨_,rfl⟩
   have hall:(p'::q'::r').map (pz (v0-4) (v1-4) (1+v2))=p::q::r:=by rw[hpe,hqe,hre];rfl
   have hall2:(q'::p'::r').map (pz (v0-4) (v1-4) (1+v2))=q::p::r:=by rw[hpe,hqe,hre];rfl
   have hll:(p'::q'::r').length=(p::q::r).length:=by rw[←hall,List.length_map]
   rw[hall,hll]
   obtain⟨p0,p1,p2,p3,p4,p5,p6,p7,p8⟩:=hcell p
   obtain⟨q0,q1,q2,q3,q4,q5,q6,q7,q8⟩:=hcell q
   have hlen:(((p::q::r).length:Nat):Int)=(r.length:Int)+2:=by simp;omega
   have c1:gH ((r.length:Int)+2) 1=some 1:=mD (i:=1) (by omega)
   have c0:gH ((r.length:Int)+2) 0=some 0:=mD (i:=0) (by omega)
   have hlt:decide ((1:Int)<(r.length:Int)+2)=true:=decide_eq_true (by omega)
   have u1:=aCH (.v (.bool (aM (p.1:Rat)))) (.sl 1 (aU (p.1:Rat))) (.sl 1 (aY (p.1:Rat))) (.v (.bool (aM (p.2:Rat)))) (.sl 1 (aU (p.2:Rat))) (.sl 1 (aY (p.2:Rat))) (.v (.bool false)) (.sl 1 []) (.sl 1 [])
    (.v (.bool (aM (q.1:Rat)))) (.sl 1 (aU (q.1:Rat))) (.sl 1 (aY (q.1:Rat))) (.v (.bool (aM (q.2:Rat)))) (.sl 1 (aU (q.2:Rat))) (.sl 1 (aY (q.2:Rat))) (.v (.bool false)) (.sl 1 []) (.sl 1 [])
   have u2:=aCH (.v (.bool (aM (q.1:Rat)))) (.sl 1 (aU (q.1:Rat))) (.sl 1 (aY (q.1:Rat))) (.v (.bool (aM (q.2:Rat)))) (.sl 1 (aU (q.2:Rat))) (.sl 1 (aY (q.2:Rat))) (.v (.bool false)) (.sl 1 []) (.sl 1 [])
    (.v (.bool (aM (p.1:Rat)))) (.sl 1 (aU (p.1:Rat))) (.sl 1 (aY (p.1:Rat))) (.v (.bool (aM (p.2:Rat)))) (.sl 1 (aU (p.2:Rat))) (.sl 1 (aY (p.2:Rat))) (.v (.bool false)) (.sl 1 []) (.sl 1 [])
   have u1':T.upd 9 (wT p) 0 [.v (.bool (aM (q.1:Rat))),.sl 1 (aU (q.1:Rat)),.sl 1 (aY (q.1:Rat)),.v (.bool (aM (q.2:Rat))),.sl 1 (aU (q.2:Rat)),.sl 1 (aY (q.2:Rat)),.v (.bool false),.sl 1 [],.sl 1 []]=wT q:=u1
   have u2':T.upd 9 (wT q) 0 [.v (.bool (aM (p.1:Rat))),.sl 1 (aU (p.1:Rat)),.sl 1 (aY (p.1:Rat)),.v (.bool (aM (p.2:Rat))),.sl 1 (aU (p.2:Rat)),.sl 1 (aY (p.2:Rat)),.v (.bool false),.sl 1 [],.sl 1 []]=wT p:=u2
   have hsw:Aa (q::p::r):=by
    rw[←hall2]
    refine⟨bs (t:=q'::p'::r') hc.2 (by simpa using hl) fun x hx=>hsm x (by
     simp only[List.mem_cons] at hx ⊢
     rcases hx with h | h | h
     ·exact .inr (.inl h)
     ·exact .inl h
     ·exact .inr (.inr h)),?_⟩
    by_cases h3:((q'::p'::r').map (pz (v0-4) (v1-4) (1+v2))).length/2<3
    ·exact .inl h3
    ·obtain⟨k,hk⟩:∃k,((q'::p'::r').map (pz (v0-4) (v1-4) (1+v2))).length/2=k+2:=⟨((q'::p'::r').map (pz (v0-4) (v1-4) (1+v2))).length/2-2,by omega⟩
     rw[hk]
     have hsub:(p'::q'::r'.take k).Sublist (WM (decide (v3=2))):=(((List.take_sublist k r').cons_cons q').cons_cons p').trans hs
     exact .inr ⟨_,_,_,q'::p'::r'.take k,hr0,(QM hsub).2,by rw[←List.map_take];rfl⟩
   refine⟨a5,q::p::r,?_,D5,hsw⟩
   ·have g1:((p::q::r).map wT)[1]?=some (wT q):=rfl
    have g0:((p::q::r).map wT)[0]?=some (wT p):=rfl
    have s1:((p::q::r).map wT).set 0 (wT q)=wT q::wT q::r.map wT:=rfl
    have hlen2:(((wT q::wT q::r.map wT).length:Nat):Int)=(r.length:Int)+2:=by simp;omega
    have g2:(wT q::wT q::r.map wT)[1]?=some (wT q):=rfl
    simp only[hlen,hlt,cond_true,c1,c0,bC,rH,g1,g0,p0,p1,p2,p3,p4,p5,p6,p7,p8,q0,q1,q2,q3,q4,q5,q6,q7,q8,u1',s1,hlen2,g2,u2',aN]
    rfl
 ·rw[decide_eq_false h6]
  exact⟨a5,s.map (pz (v0-4) (v1-4) (1+v2)),rfl,D5,bs hc.1 hl hsm,.inr ⟨_,_,_,s.take ((s.map (pz (v0-4) (v1-4) (1+v2))).length/2),hr0,(QM ((List.take_sublist _ _).trans hs)).1,(List.map_take ..).symm⟩⟩
end Go.Eng.Tc
namespace Go.Eng.Tc
open Go.Eng Go.RowKit Go.Proofs Go.Eng.Rt Go.Eng.Sq Go.Eng.Tg Go.Eng.Tw
theorem aAQ(L:List T)(a:Int):((aC fS cK).call [.c (.box 0 0)] (WR L a) fun rs po=>some (rs,po))=ob (cK ((),L,a,())) fun q=>some ([.c (.row 1)],[.box [.t (.sl 1 q.2.1),.t (.v (vI q.2.2.1))],.row false 34 9 q.1]):=by kernel_rfl
theorem aAR(L:List T):((aC rI jG).call [.c (.t (.sl 1 L))] [] fun rs po=>some (rs,po))=ob (jG (L,())) fun q=>some ([.c (.box 0 0)],[.box [.t (.sl 1 q.1),.t (.v (vI q.2.1))]]):=by kernel_rfl
section
variable {X Xc Y:Nat→Prop} {g:Nat} {w0 w w':World} {L:List T} {dT at1:Int} {ls:List (List Z)} {G:List (List T)} {h:HX} {l:List T} {v:Value} {a:Act} {Q:Exit→Act→World→Prop} {n d:Nat} {env:List (Nat×Value)} {o:Oper} {next:Act→World→Prop}
theorem WY{f:FuncId}(hC:G2 Tryz.prog f [.c (.box 0 0)] (WR L dT) [.c (.row 1)] [.box [.t (.sl 1 L),.t (.v (vI at1))],.row false 34 9 l])(hX:∀b,X b↔(b=g∨Xc b))(hD:Dc X g L dT w)(hgood:Good Tryz.prog w (·=g))(hxl:∀b,Xc b→b<w.heap.size)(hxg:¬Xc g):
 Calls Tryz.prog f [pg g].toArray w fun e w'=>∃v,e=.returned v∧Stp (·=g) w w'∧Dc (fun b=>X b∨b∈eF v) g L at1 w'∧OwnP w' (fun b=>X b∨b∈eF v) l v∧∀b∈eF v,w.heap.size≤b:=by
 have hρ:ZZ g 0=some (pg g):=rfl
 have hmut:∀b,sJ (WR L dT) (ZZ g) b↔b=g:=aAH hρ
 have hXB:∀b,XB (WR L dT) (ZZ g) Xc b↔X b:=fun b=>by rw[hX];exact or_congr (hmut b) Iff.rfl
 obtain⟨ys,ty,h1,h2⟩:=hD
 refine(hC w Xc (ZZ g) [pg g] (fun k o ho=>?_) (fun k k' b hk hk'=>?_) hxl (fun b hb=>by rw[hmut] at hb;subst hb;exact hxg) (fun q kd hq=>⟨fun hb=>(hgood q kd hq).1 ((hmut _).1 hb),(hgood q kd hq).2⟩) ⟨rfl,fun i s y e1 e2=>?_⟩).mono fun e w' hp=>?_
 ·cases k with
  | zero=>
   cases ho
   exact⟨pg g,hρ,g,ys,ty,rfl,h1,HeadOK.none rfl,(RdL.any (ts:=[.sl 1 L,.v (vI dT)]) h2).step (Stp.refl (fun _=>False) w) (fun _ h=>h.elim) (fun b hb=>.inl ((hXB b).1 hb)) (.refl _)⟩
  | succ k=>simp[WR] at ho
 ·obtain⟨o,v,q1,_⟩:=hk
  obtain⟨o',v',q1',_⟩:=hk'
  have:=(List.getElem?_eq_some_iff.1 q1).1
  have:=(List.getElem?_eq_some_iff.1 q1').1
  simp only[WR,List.length_cons,List.length_nil] at *
  omega
 ·match i,e1,e2 with
  | 0,e1,e2=>cases e1;cases e2;exact .inr ⟨⟨pg g,hρ,⟨g,0,none⟩,rfl,rfl⟩,rfl⟩
 ·obtain⟨v,ρ',rfl,p1,p2,p3,p4,p5,p6,p7⟩:=hp
  have hρ':ρ' 0=some (pg g):=(p2 0 (Nat.succ_pos _)).trans hρ
  have p8:RdC1 w' (XB [.box [.t (.sl 1 L),.t (.v (vI at1))],.row false 34 9 l] ρ' Xc) ρ' (.row 1) v:=p7
  rcases p8 with p8 | ⟨p8,p9⟩
  ·cases p8
  have p8':ρ' 1=some v:=p8
  have h0:Has [.box [.t (.sl 1 L),.t (.v (vI at1))],.row false 34 9 l] ρ' 0 g:=⟨_,_,rfl,rfl,hρ',.inl rfl⟩
  have hv:∀b,b∈eF v→Has [.box [.t (.sl 1 L),.t (.v (vI at1))],.row false 34 9 l] ρ' 1 b:=fun b hb=>⟨_,_,rfl,rfl,p8',.inl (dO.1 hb)⟩
  have hXB':∀b,(X b∨b∈eF v)→XB [.box [.t (.sl 1 L),.t (.v (vI at1))],.row false 34 9 l] ρ' Xc b:=fun b hb=>by
   rcases hb with hb | hb
   ·rcases(hX b).1 hb with rfl | hb
    ·exact .inl ⟨0,h0⟩
    ·exact .inr hb
   ·exact .inl ⟨1,hv b hb⟩
  refine⟨v,rfl,p1.mono fun b hb _=>(hmut b).1 hb,?_,?_,fun b hb=>?_⟩
  ·obtain⟨hh,e1,g',ys',ty',e2,e3,_,e4⟩:=p4 0 _ rfl
   rw[hρ'] at e1
   cases e1
   cases e2
   exact⟨ys',ty',e3,(RdL.any (ts:=[.sl 1 L,.v (vI at1)]) e4).step (Stp.refl (fun _=>False) w') (fun _ h=>h.elim) (fun b hb=>.inl (hXB' b hb)) (.refl _)⟩
  ·obtain⟨hh,q1,q2⟩:=p4 1 _ rfl
   rw[p8'] at q1
   cases q1
   obtain⟨_,hu,⟨xs,r1,r2⟩,_⟩:=q2
   exact⟨hu,xs,r1,r2.step (Stp.refl (fun _=>False) w') (fun _ h=>h.elim) fun b hb=>.inl (hXB' b hb)⟩
  ·rcases p6 1 b (hv b hb) with⟨k',hk'⟩ | hge
   ·have e:b=g:=(hmut b).1 ⟨k',hk'⟩
    subst e
    have:=p5 _ _ _ h0 (hv b hb)
    omega
   ·exact hge
theorem Vj{x:Operand}{ts:Array TypeId}(hr:Rs X g w0 L dT G h w)(hf:Fr n env a)(hop:o.op=.call { callee:=.value (.func 64),args:=#[x],argTypes:=ts })(hd:o.dst=some d)(hlt:d<n)(hx:qM env x=some (pg g))
 (hn:∀a' w' v Z' at1 ps,Fr n ((d,v)::env) a'→Rs Z' g w0 L at1 G h w'→Pr w0 Z' h (ps.map wT) v w'→Aa ps→next a' w'):o.wp Tryz.prog a w next Q:=by
 obtain⟨at1,ps,hu,hok,hb⟩:=Vi hr.env.ok
 have hc:=aAQ L dT
 rw[hu] at hc
 obtain⟨rs,po',h1,h2⟩:=sN.1 _ _ _ _ hc
 simp only[Option.some.injEq,Prod.mk.injEq] at h1
 obtain⟨rfl,rfl⟩:=h1
 have h0:=Vh hr
 refine xQ hf hop rfl hd hlt ⟨_,Tryz.func64,by kernel_rfl,by kernel_rfl⟩ (by simp only[Np,hx]) (WY (Xc:=fun b=>X b∧b≠g) h2 (fun b=>⟨fun h=>(Decidable.em (b=g)).imp id fun e=>⟨h,e⟩,fun h=>h.elim (fun e=>e▸hr.env.zg) (·.1)⟩) hr.env.dice hr.env.goodw (fun b hb=>hr.env.zl b hb.1) fun h=>h.2 rfl) fun e w' ⟨v,e1,t1,e2,e3,e4⟩=>⟨v,e1,fun a' hf'=>?_⟩
 have hlt':∀b,(X b∨b∈eF v)→b<w'.heap.size:=fun b hb=>by
  rcases hb with hb | hb
  ·have:=hr.env.zl b hb;have:=t1.size;omega
  ·exact e3.lt hb
 refine hn a' w' v (fun b=>X b∨b∈eF v) at1 ps hf' ⟨⟨e2,hok,hr.env.stp.trans t1,hr.env.good,.inl hr.env.zg,hlt'⟩,hr.ow.write t1 (fun b e=>by rw[show b=g from e];exact hr.env.zg) hr.ng (fun b hb=>hb.imp id fun hb=>e4 b hb) hlt' fun b hb=>.inl hb,hr.gl⟩ ⟨e3,fun b hb1 hb2=>?_,fun b hb=>?_,fun b hb=>.inr hb⟩ hb
 ·have:=Dm hr.ow hb2;have:=e4 b hb1;omega
 ·have:=e4 b hb;omega
set_option maxRecDepth 20000 in
set_option maxHeartbeats 8000000 in
theorem Z8(he:Env (·=g) g w L dT w)(hg:g<w.heap.size):Calls Tryz.prog 29 #[pg g] w (Z4 g w L):=by
 refine yP [pg g] 17 18 Tryz.func29 rfl rfl rfl fun a hf=>?_
 refine wp_seq (bW (by kernel_rfl) ?_)
 refine bA hf rfl rfl (by decide) rfl fun a hf=>?_
 refine wp_seq (bW (by kernel_rfl) ?_)
 refine bA hf rfl rfl (by decide) rfl fun a hf=>?_
 refine wp_seq (wp_seq (bW (by kernel_rfl) ?_))
 refine aT hf rfl rfl (by decide) rfl fun a hf=>?_
 refine vU he hf rfl rfl (by decide) rfl rfl (by decide) (by decide) fun u at1 a w1 hu u0 u1 hf t1 he1=>?_
 refine eJ hf rfl rfl (by decide) rfl rfl rfl rfl (QR _ _) fun a hf=>?_
 rw[sK (by omega) (by omega)] at hf
 refine bA hf rfl rfl (by decide) rfl fun a hf=>?_
 obtain⟨m,hnn⟩:∃m:Nat,1+u=m:=⟨(1+u).toNat,by omega⟩
 rw[hnn] at hf
 have hr1:Rs (·=g) g w L at1 (GG []) (.slice none 0 0,[]) w1:=(Z6 he hg).next t1 he1
 refine wp_block ?_
 refine HI (m:=m) (fun k a W=>∃(ls:List (List Z)) (h:HX) (at2:Int) (Z2:Nat→Prop),ls.length+k=m∧Fr 18 [(0,pg g),(3,h.1),(4,vI (k:Nat))] a∧Rs Z2 g w L at2 (GG ls) h W∧∀l∈ls,Aa l) ?_ ?_
  ⟨[],(.slice none 0 0,[]),at1,_,Nat.zero_add _,hf.weak ⟨rfl,rfl,rfl,trivial⟩,hr1,fun l hl=>by cases hl⟩
 ·rintro K a W ⟨ls,h,at2,Z2,hi,hf,hr,hB⟩
  refine wp_seq (wp_seq (bW (by kernel_rfl) ?_))
  refine aT hf rfl rfl (by decide) rfl fun a hf=>?_
  refine eJ (v:=.bool false) hf rfl rfl (by decide) rfl rfl rfl rfl ?_ fun a hf=>?_
  ·exact(Dn _ _).trans (by rw[aF,decide_eq_false (by omega)])
  refine wp_cond_false (hf.ev rfl) (wp_exit ?_)
  show Code.wp Tryz.prog (pE [1,1,1] (tE Tryz.f29)) _ _ W
  refine wp_seq (bW (by kernel_rfl) ?_)
  refine aT hf rfl rfl (by decide) rfl fun a hf=>?_
  refine bA hf rfl rfl (by decide) rfl fun a hf=>?_
  refine wp_ret ?_
  exact EX rfl hf rfl ⟨h,ls,at2,Z2,rfl,hr,hB,by omega,by omega⟩
 ·rintro k K hK a W ⟨ls,h,at2,Z2,hi,hf,hr,hB⟩
  refine wp_seq (wp_seq (bW (by kernel_rfl) ?_))
  refine aT hf rfl rfl (by decide) rfl fun a hf=>?_
  refine eJ (v:=.bool true) hf rfl rfl (by decide) rfl rfl rfl rfl ?_ fun a hf=>?_
  ·exact(Dn _ _).trans (by rw[aF,decide_eq_true (by omega)])
  refine wp_cond_true (hf.ev rfl) (wp_skip ?_)
  refine wp_seq (wp_block (bW (by kernel_rfl) ?_))
  refine aT hf rfl rfl (by decide) rfl fun a hf=>?_
  refine aT hf rfl rfl (by decide) rfl fun a hf=>?_
  refine Vj hr hf rfl rfl (by decide) rfl fun a w2 v Z3 at3 ps hf hr hp hb=>?_
  refine WT hf rfl rfl (by decide) rfl hp.own.one fun a w4 hf t4 hlit=>?_
  refine WX (hr.same t4) (hp.same t4) hf rfl rfl (by decide) rfl rfl hlit (by rw[zH];omega) fun a w5 h5 Z5 hf z5 hr=>?_
  refine bA hf rfl rfl (by decide) rfl fun a hf=>?_
  refine bW (by kernel_rfl) ?_
  refine aT hf rfl rfl (by decide) rfl fun a hf=>?_
  refine eJ hf rfl rfl (by decide) rfl rfl rfl rfl (WU _ _) fun a hf=>?_
  rw[sK (by omega) (by omega),show (((k+1:Nat):Int)-1)=(k:Int) by omega] at hf
  refine bA hf rfl rfl (by decide) rfl fun a hf=>?_
  rw[Do] at hr
  refine hK a w5 ⟨ls++[ps],h5,at3,Z5,by rw[List.length_append,List.length_cons,List.length_nil];omega,hf.weak ⟨rfl,rfl,rfl,trivial⟩,hr,fun x hx=>?_⟩
  rcases List.mem_append.1 hx with hx | hx
  ·exact hB x hx
  ·rw[List.mem_singleton.1 hx];exact hb
end
end Go.Eng.Tc
namespace Go.Eng.Tc
open Go.Eng Go.RowKit Go.Proofs Go.Eng.Rt Go.Eng.Sq Go.Eng.Tg Go.Eng.Tw
def aCV(w:World)(e:Ending)(w':World):Prop:=∃(h:HX) (ls:List (List Z)) (X:Nat→Prop),e=.returned h.1∧Ow w X (GG ls) h w'∧Stp (fun _=>False) w w'∧(∀l∈ls,Aa l)∧0<ls.length∧ls.length≤5
section
variable {X Xc Y:Nat→Prop} {g:Nat} {w0 w w':World} {L:List T} {v:Value} {a:Act} {Q:Exit→Act→World→Prop} {n d:Nat} {env:List (Nat×Value)} {o:Oper} {next:Act→World→Prop}
theorem Vk{x:Operand}{ts:Array TypeId}(hD:uZ L 0)(hG:Good Tryz.prog w fun _=>False)(hv:Rd w (fun _=>False) (.sl 1 L) v)(h1:v.oneCell'=true)(hf:Fr n env a)(hop:o.op=.call { callee:=.value (.func 26),args:=#[x],argTypes:=ts })(hd:o.dst=some d)(hlt:d<n)(hx:qM env x=some v)
 (hn:∀a' w' g,Fr n ((d,pg g)::env) a'→Stp (fun _=>False) w w'→w.heap.size≤g→g<w'.heap.size→Env (·=g) g w' L 0 w'→next a' w'):o.wp Tryz.prog a w next Q:=by
 have hc:=aAR L
 have hu:jG (L,())=some (L,0,()):=rfl
 rw[hu] at hc
 obtain⟨rs,po',h2,h3⟩:=B9.1 _ _ _ _ hc
 simp only[Option.some.injEq,Prod.mk.injEq] at h2
 obtain⟨rfl,rfl⟩:=h2
 have hm:∀b,¬sJ [] (fun _=>none) b:=fun b ⟨k,o,v,h1,_⟩=>by simp at h1
 have xb:∀{ρ:gU} {b:Nat},¬XB [] ρ (fun _=>False) b:=fun {ρ b} hh=>hh.elim (fun⟨k,o,v,h1,_⟩=>by simp at h1) id
 refine xQ hf hop rfl hd hlt ⟨_,Tryz.func26,by kernel_rfl,by kernel_rfl⟩ (by simp only[Np,hx]) (h3 w (fun _=>False) (fun _=>none) [v] (fun k o h=>by simp at h) (fun k k' b ⟨o,v,h1,_⟩=>by simp at h1) (fun _ h=>h.elim) (fun b h=>(hm b h).elim)
  (fun g k hg=>⟨fun hh=>hm g hh,(hG g k hg).2⟩) (pI (.inr ⟨hv.weak fun b hb=>(xb hb).elim,h1⟩))) fun e w' hp=>?_
 obtain⟨v,ρ',rfl,p1,_,_,p4,_,p6,p7⟩:=hp
 have t1:Stp (fun _=>False) w w':=p1.mono fun b hb _=>hm b hb
 obtain⟨hh,q1,g,ys,ty,q2,q3,_,q4⟩:=p4 0 _ rfl
 subst q2
 have p8:RdC1 w' (XB [.box [.t (.sl 1 L),.t (.v (vI 0))]] ρ' fun _=>False) ρ' (.box 0 0) v:=p7
 have hvg:v=pg g:=by
  rcases p8 with p8 | ⟨p8,_⟩
  ·cases p8
  ·obtain⟨h',e1,A,e2,e3⟩:=p8
   rw[q1] at e1
   cases e1
   cases e2
   rw[e3]
   rfl
 subst hvg
 have hhas:Has [.box [.t (.sl 1 L),.t (.v (vI 0))]] ρ' 0 g:=⟨_,_,rfl,rfl,q1,.inl rfl⟩
 have hge:w.heap.size≤g:=by
  rcases p6 0 g hhas with⟨k',o,hh,h1,_⟩ | h
  ·simp at h1
  ·exact h
 have hlt':g<w'.heap.size:=(Array.getElem?_eq_some_iff.1 q3).1
 refine⟨_,rfl,fun a' hf'=>hn a' w' g hf' t1 hge hlt' ⟨⟨ys,ty,q3,?_⟩,hD,Stp.refl _ _,?_,rfl,fun b hb=>by rw[show b=g from hb];exact hlt'⟩⟩
 ·exact(RdL.any (ts:=[.sl 1 L,.v (vI 0)]) q4).step (Stp.refl (fun _=>False) w') (fun _ h=>h.elim) (fun b hb=>.inl (by rw[show b=g from hb];exact .inl ⟨0,hhas⟩)) (.refl _)
 ·exact hG.call t1 fun b hb=>.inl (by rw[show b=g from hb];exact hge)
set_option maxRecDepth 20000 in
set_option maxHeartbeats 8000000 in
theorem Ky(hD:uZ L 0)(hG:Good Tryz.prog w fun _=>False)(hv:Rd w (fun _=>False) (.sl 1 L) v)(h1:v.oneCell'=true):Calls Tryz.prog 8 #[v] w (aCV w):=by
 have key:∀{g:Nat} {w1 w':World} {e:Ending},Stp (fun _=>False) w w1→w.heap.size≤g→Z4 g w1 L e w'→aCV w e w':=fun {g w1 w' e} t1 hge ⟨h,ls,at1,X,e1,hr,hB,h0,h5⟩=>
  ⟨h,ls,X,e1,⟨hr.ow.own,hr.ow.nd,fun b hb=>Nat.le_trans t1.size (hr.ow.new b hb),hr.ow.z,hr.ow.zl⟩,t1.after hr.env.stp fun b hb hl=>by rw[show b=g from hb] at hl;omega,hB,h0,h5⟩
 refine yP [v] 12 13 Tryz.func8 rfl rfl rfl fun a hf=>?_
 refine wp_seq (bW (by kernel_rfl) ?_)
 refine bA hf rfl rfl (by decide) rfl fun a hf=>?_
 refine wp_seq (bW (by kernel_rfl) ?_)
 refine aT hf rfl rfl (by decide) rfl fun a hf=>?_
 refine Vk hD hG hv h1 hf rfl rfl (by decide) rfl fun a w1 g hf t1 hge hgl he=>?_
 refine bA hf rfl rfl (by decide) rfl fun a hf=>?_
 refine wp_seq (wp_seq (bW (by kernel_rfl) ?_))
 refine aT hf rfl rfl (by decide) rfl fun a hf=>?_
 refine vU he hf rfl rfl (by decide) rfl rfl (by decide) (by decide) fun u at1 a w2 hu u0 u1 hf t2 he=>?_
 have hgl2:g<w2.heap.size:=Nat.lt_of_lt_of_le hgl t2.size
 have he2:Env (·=g) g w2 L at1 w2:=⟨he.dice,he.ok,Stp.refl _ _,he.goodw,rfl,fun b hb=>by rw[show b=g from hb];exact hgl2⟩
 have t2':Stp (fun _=>False) w w2:=t1.after t2 fun b hb hl=>by rw[show b=g from hb] at hl;omega
 refine eJ hf rfl rfl (by decide) rfl rfl rfl rfl (zG _ _) fun a hf=>?_
 rw[aL] at hf
 by_cases hu0:u=0
 ·rw[decide_eq_true hu0] at hf
  refine wp_cond_true (hf.ev rfl) ?_
  refine wp_seq (bW (by kernel_rfl) ?_)
  refine aT hf rfl rfl (by decide) rfl fun a hf=>?_
  refine xQ hf rfl rfl rfl (by decide) ⟨_,Tryz.func28,by kernel_rfl,by kernel_rfl⟩ rfl (Z7 he2 hgl2) fun e w3 hp=>?_
  have hl:=key t2' hge hp
  obtain⟨h,ls,X,e1,hl'⟩:=hl
  subst e1
  refine⟨_,rfl,fun a hf=>?_⟩
  refine bA hf rfl rfl (by decide) rfl fun a hf=>?_
  refine wp_ret ?_
  exact EX rfl hf rfl ⟨h,ls,X,rfl,hl'⟩
 ·rw[decide_eq_false hu0] at hf
  refine wp_cond_false (hf.ev rfl) (wp_skip ?_)
  refine wp_seq (bW (by kernel_rfl) ?_)
  refine aT hf rfl rfl (by decide) rfl fun a hf=>?_
  refine xQ hf rfl rfl rfl (by decide) ⟨_,Tryz.func29,by kernel_rfl,by kernel_rfl⟩ rfl (Z8 he2 hgl2) fun e w3 hp=>?_
  have hl:=key t2' hge hp
  obtain⟨h,ls,X,e1,hl'⟩:=hl
  subst e1
  refine⟨_,rfl,fun a hf=>?_⟩
  refine bA hf rfl rfl (by decide) rfl fun a hf=>?_
  refine wp_ret ?_
  exact EX rfl hf rfl ⟨h,ls,X,rfl,hl'⟩
end
end Go.Eng.Tc
namespace Go.Eng.Tc
open Go.Eng Go.RowKit Go.Proofs Go.Eng.Rt
theorem Vl(x:List T):((aC A2 lQ).call [.c (.t (.sl 1 x))] [] fun rs po=>some (rs,po))=ob (lQ (x,())) fun q=>some ([.c (.t (.sl 1 q.1)),.c (.t (.v (vI q.2.1)))],[]):=by kernel_rfl
theorem Vm(x:List T):((aC zC kA).call [.c (.t (.sl 1 x))] [] fun rs po=>some (rs,po))=ob (kA (x,())) fun q=>some ([.c (.t (.sl 1 q.1)),.c (.t (.v (vI q.2.1)))],[]):=by kernel_rfl
theorem Vn(x:List T):((aC DO gP).call [.c (.t (.sl 1 x))] [] fun rs po=>some (rs,po))=ob (gP (x,())) fun q=>some ([.c (.t (.sl 1 q.1)),.c (.t (.v (vI q.2.1)))],[]):=by kernel_rfl
theorem Vo(x:List T):((aC uY eS).call [.c (.t (.sl 1 x))] [] fun rs po=>some (rs,po))=ob (eS (x,())) fun q=>some ([.c (.t (.sl 1 q.1)),.c (.t (.v (vI q.2.1)))],[]):=by kernel_rfl
theorem aAS(x:List T):((aC tT dC).call [.c (.t (.sl 1 x))] [] fun rs po=>some (rs,po))=ob (dC (x,())) fun q=>some ([.c (.t (.v (vI q.1)))],[]):=by kernel_rfl
theorem aAT(x:List T):((aC rW dF).call [.c (.t (.sl 1 x))] [] fun rs po=>some (rs,po))=ob (dF (x,())) fun q=>some ([.c (.t (.v (vI q.1)))],[]):=by kernel_rfl
theorem Vp(x y:List T):((aC nF cP).call [.c (.t (.sl 1 x)),.c (.t (.sl 1 y))] [] fun rs po=>some (rs,po))=ob (cP (x,y,())) fun q=>some ([.c (.t (.v (.bool q.1)))],[]):=by kernel_rfl
theorem Qy(x y:List T):((aC mJ cL).call [.c (.t (.sl 1 x)),.c (.t (.sl 1 y))] [] fun rs po=>some (rs,po))=ob (cL (x,y,())) fun q=>some ([.c (.t (.v (.bool q.1)))],[]):=by kernel_rfl
theorem Hu:((aC kM cR).call [] [] fun rs po=>some (rs,po))=ob (cR ()) fun q=>some ([.c (.t (.v (.bool q.1)))],[]):=by kernel_rfl
def PF(x:List T):Prop:=∃(a b c d:List T) (e:Int),lQ (x,())=some (a,e,())∧kA (x,())=some (b,e,())∧gP (x,())=some (c,e,())∧eS (x,())=some (d,e,()) ∧
 dC (x,())=some (e,())∧dF (x,())=some (e,())∧cP (a,b,())=some (true,())∧cL (c,d,())=some (true,())∧cR ()=some (true,())
theorem Dq(x:Int):xH Tryz.prog .eql 27 27 (dV (vI x)) (dV (vI x)) some=some (dV (.bool true)):=by
 have:xH Tryz.prog .eql 27 27 (dV (vI x)) (dV (vI x)) some=some (dV (.bool (eqI x x))):=by kernel_rfl
 rw[this,aL,decide_eq_true rfl]
section
variable {w w':World} {v:Value} {a:Act} {l:List T}
theorem I0{x:Value}(h:RdRes w (fun _=>False) (fun _=>none) [.c (.t (.v x))] v):v=x:=by
 rcases(h:RdC1 _ _ _ _ _) with h | ⟨h,_⟩
 ·cases h
 ·exact Rd.inv_v h
theorem M9{z:Int}(h:RdRes w (fun _=>False) (fun _=>none) [.c (.t (.sl 1 l)),.c (.t (.v (vI z)))] v):∃y,v=.tuple #[y,vI z]∧Rd w (fun _=>False) (.sl 1 l) y∧y.oneCell'=true:=by
 obtain⟨vs,rfl,h1,h2⟩:=h
 obtain⟨l0⟩:=vs
 match l0,h1 with
 | [y0,y1],_=>
  have a0:=h2 0 _ y0 rfl rfl
  have a1:=h2 1 _ y1 rfl rfl
  rcases(a0:RdC1 _ _ _ _ _) with a0 | ⟨a0,b0⟩
  ·cases a0
  rcases(a1:RdC1 _ _ _ _ _) with a1 | ⟨a1,_⟩
  ·cases a1
  have e1:=Rd.inv_v a1
  subst e1
  exact⟨y0,rfl,a0,b0⟩
theorem Ab{t:T}(h:Rd w (fun _=>False) t v)(hs:Stp (fun _=>False) w w'):Rd w' (fun _=>False) t v:=h.step hs (fun _ h=>h.elim) fun _ h=>.inl h
theorem Dr(h:Good Tryz.prog w fun _=>False)(hs:Stp (fun _=>False) w w'):Good Tryz.prog w' fun _=>False:=h.call hs fun b h=>h.elim
set_option maxRecDepth 20000 in
set_option maxHeartbeats 8000000 in
theorem tail{x:List T}{R:Ending→World→Prop}(hG:Good Tryz.prog w fun _=>False)(hv:Rd w (fun _=>False) (.sl 1 x) v)(h1:v.oneCell'=true)(hp:PF x)(hf:Fr 146 [(7,v)] a)(hR:∀w',Stp (fun _=>False) w w'→R (.returned (.bool true)) w'):
 (pE [1,1,1,1,1] (tE Tryz.f5)).wp Tryz.prog (bodyPost Tryz.prog Tryz.f5 R) a w:=by
 obtain⟨na,nb,nc,nd,e,p1,p2,p3,p4,p5,p6,p7,p8,p9⟩:=hp
 refine wp_seq (bW (by kernel_rfl) ?_)
 refine aT hf rfl rfl (by decide) rfl fun a hf=>?_
 refine oL (args:=[.c (.t (.sl 1 x))]) hf rfl rfl rfl (by decide) ⟨_,Tryz.func19,by kernel_rfl,by kernel_rfl⟩ rfl Y6 (by rw[Vl,p1];rfl) hG (pI (.inr ⟨hv,h1⟩)) (fun r1 a w1 hf t1 hr=>?_) rfl
 obtain⟨y1,rfl,r1,o1⟩:=M9 hr
 have hG:=Dr hG t1
 have hv:=Ab hv t1
 refine aT hf rfl rfl (by decide) rfl fun a hf=>?_
 refine cY hf rfl (by decide) (nT hf rfl rfl rfl) fun a hf=>?_
 refine cY hf rfl (by decide) (nT hf rfl rfl rfl) fun a hf=>?_
 refine bA hf rfl rfl (by decide) rfl fun a hf=>?_
 refine bA hf rfl rfl (by decide) rfl fun a hf=>?_
 have hf:Fr 146 [(10,y1),(11,vI e),(7,v)] a:=hf.weak ⟨rfl,rfl,rfl,trivial⟩
 refine wp_seq (bW (by kernel_rfl) ?_)
 refine aT hf rfl rfl (by decide) rfl fun a hf=>?_
 refine oL (args:=[.c (.t (.sl 1 x))]) hf rfl rfl rfl (by decide) ⟨_,Tryz.func20,by kernel_rfl,by kernel_rfl⟩ rfl VR (by rw[Vm,p2];rfl) hG (pI (.inr ⟨hv,h1⟩)) (fun r2 a w2 hf t2 hr=>?_) rfl
 obtain⟨y2,rfl,r2,o2⟩:=M9 hr
 have hG:=Dr hG t2
 have hv:=Ab hv t2
 have r1:=Ab r1 t2
 refine aT hf rfl rfl (by decide) rfl fun a hf=>?_
 refine cY hf rfl (by decide) (nT hf rfl rfl rfl) fun a hf=>?_
 refine cY hf rfl (by decide) (nT hf rfl rfl rfl) fun a hf=>?_
 refine bA hf rfl rfl (by decide) rfl fun a hf=>?_
 refine bA hf rfl rfl (by decide) rfl fun a hf=>?_
 have hf:Fr 146 [(12,y2),(13,vI e),(10,y1),(11,vI e),(7,v)] a:=hf.weak ⟨rfl,rfl,rfl,rfl,rfl,trivial⟩
 refine wp_seq (bW (by kernel_rfl) ?_)
 refine aT hf rfl rfl (by decide) rfl fun a hf=>?_
 refine oL (args:=[.c (.t (.sl 1 x))]) hf rfl rfl rfl (by decide) ⟨_,Tryz.func15,by kernel_rfl,by kernel_rfl⟩ rfl R6 (by rw[Vn,p3];rfl) hG (pI (.inr ⟨hv,h1⟩)) (fun r3 a w3 hf t3 hr=>?_) rfl
 obtain⟨y3,rfl,r3,o3⟩:=M9 hr
 have hG:=Dr hG t3
 have hv:=Ab hv t3
 have r1:=Ab r1 t3
 have r2:=Ab r2 t3
 refine aT hf rfl rfl (by decide) rfl fun a hf=>?_
 refine cY hf rfl (by decide) (nT hf rfl rfl rfl) fun a hf=>?_
 refine cY hf rfl (by decide) (nT hf rfl rfl rfl) fun a hf=>?_
 refine bA hf rfl rfl (by decide) rfl fun a hf=>?_
 refine bA hf rfl rfl (by decide) rfl fun a hf=>?_
 have hf:Fr 146 [(14,y3),(15,vI e),(12,y2),(13,vI e),(10,y1),(11,vI e),(7,v)] a:=hf.weak ⟨rfl,rfl,rfl,rfl,rfl,rfl,rfl,trivial⟩
 refine wp_seq (bW (by kernel_rfl) ?_)
 refine aT hf rfl rfl (by decide) rfl fun a hf=>?_
 refine oL (args:=[.c (.t (.sl 1 x))]) hf rfl rfl rfl (by decide) ⟨_,Tryz.func21,by kernel_rfl,by kernel_rfl⟩ rfl PU (by rw[Vo,p4];rfl) hG (pI (.inr ⟨hv,h1⟩)) (fun r4 a w4 hf t4 hr=>?_) rfl
 obtain⟨y4,rfl,r4,o4⟩:=M9 hr
 have hG:=Dr hG t4
 have hv:=Ab hv t4
 have r1:=Ab r1 t4
 have r2:=Ab r2 t4
 have r3:=Ab r3 t4
 refine aT hf rfl rfl (by decide) rfl fun a hf=>?_
 refine cY hf rfl (by decide) (nT hf rfl rfl rfl) fun a hf=>?_
 refine cY hf rfl (by decide) (nT hf rfl rfl rfl) fun a hf=>?_
 refine bA hf rfl rfl (by decide) rfl fun a hf=>?_
 refine bA hf rfl rfl (by decide) rfl fun a hf=>?_
 have hf:Fr 146 [(16,y4),(17,vI e),(14,y3),(15,vI e),(12,y2),(13,vI e),(10,y1),(11,vI e),(7,v)] a:=hf.weak ⟨rfl,rfl,rfl,rfl,rfl,rfl,rfl,rfl,rfl,trivial⟩
 refine wp_seq (Th ?_)
 refine⟨dZ rfl,aT hf rfl rfl (by decide) rfl fun a hf=>?_⟩
 refine⟨dZ rfl,oL (args:=[.c (.t (.sl 1 x))]) hf rfl rfl rfl (by decide) ⟨_,Tryz.func9,by kernel_rfl,by kernel_rfl⟩ rfl vR (by rw[aAS,p5];rfl) hG (pI (.inr ⟨hv,h1⟩)) (fun r5 a w5 hf t5 hr=>?_) rfl⟩
 have:=I0 hr
 subst this
 have hG:=Dr hG t5
 have hv:=Ab hv t5
 refine⟨dZ rfl,aT hf rfl rfl (by decide) rfl fun a hf=>?_⟩
 refine⟨dZ rfl,oL (args:=[.c (.t (.sl 1 x))]) hf rfl rfl rfl (by decide) ⟨_,Tryz.func10,by kernel_rfl,by kernel_rfl⟩ rfl zA (by rw[aAT,p6];rfl) hG (pI (.inr ⟨hv,h1⟩)) (fun r6 a w6 hf t6 hr=>?_) rfl⟩
 have:=I0 hr
 subst this
 have hG:=Dr hG t6
 have t56:=t5.trans t6
 refine⟨dZ rfl,eJ hf rfl rfl (by decide) rfl rfl rfl rfl (Dq _) fun a hf=>?_⟩
 refine⟨dZ rfl,aT hf rfl rfl (by decide) rfl fun a hf=>?_⟩
 refine⟨eY hf rfl rfl rfl,aT hf rfl rfl (by decide) rfl fun a hf=>?_⟩
 refine⟨eY hf rfl rfl rfl,aT hf rfl rfl (by decide) rfl fun a hf=>?_⟩
 refine⟨eY hf rfl rfl rfl,eJ hf rfl rfl (by decide) rfl rfl rfl rfl (Dq _) fun a hf=>?_⟩
 refine⟨dZ rfl,cY hf rfl (by decide) (HJ hf rfl rfl rfl rfl) fun a hf=>?_⟩
 refine⟨dZ rfl,aT hf rfl rfl (by decide) rfl fun a hf=>?_⟩
 refine⟨eY hf rfl rfl rfl,aT hf rfl rfl (by decide) rfl fun a hf=>?_⟩
 refine⟨eY hf rfl rfl rfl,aT hf rfl rfl (by decide) rfl fun a hf=>?_⟩
 refine⟨eY hf rfl rfl rfl,oL (args:=[.c (.t (.sl 1 na)),.c (.t (.sl 1 nb))]) hf rfl rfl rfl (by decide) ⟨_,Tryz.func22,by kernel_rfl,by kernel_rfl⟩ rfl xD (by rw[Vp,p7];rfl) hG (CW (.inr ⟨Ab r1 t56,o1⟩) (.inr ⟨Ab r2 t56,o2⟩)) (fun r7 a w7 hf t7 hr=>?_) rfl⟩
 have:=I0 hr
 subst this
 have hG:=Dr hG t7
 have t567:=t56.trans t7
 refine⟨dZ rfl,cY hf rfl (by decide) (HJ hf rfl rfl rfl rfl) fun a hf=>?_⟩
 refine⟨dZ rfl,aT hf rfl rfl (by decide) rfl fun a hf=>?_⟩
 refine⟨eY hf rfl rfl rfl,aT hf rfl rfl (by decide) rfl fun a hf=>?_⟩
 refine⟨eY hf rfl rfl rfl,aT hf rfl rfl (by decide) rfl fun a hf=>?_⟩
 refine⟨eY hf rfl rfl rfl,eJ hf rfl rfl (by decide) rfl rfl rfl rfl (Dq _) fun a hf=>?_⟩
 refine⟨dZ rfl,cY hf rfl (by decide) (HJ hf rfl rfl rfl rfl) fun a hf=>?_⟩
 refine⟨dZ rfl,aT hf rfl rfl (by decide) rfl fun a hf=>?_⟩
 refine⟨eY hf rfl rfl rfl,aT hf rfl rfl (by decide) rfl fun a hf=>?_⟩
 refine⟨eY hf rfl rfl rfl,aT hf rfl rfl (by decide) rfl fun a hf=>?_⟩
 refine⟨eY hf rfl rfl rfl,oL (args:=[.c (.t (.sl 1 nc)),.c (.t (.sl 1 nd))]) hf rfl rfl rfl (by decide) ⟨_,Tryz.func16,by kernel_rfl,by kernel_rfl⟩ rfl vT (by rw[Qy,p8];rfl) hG (CW (.inr ⟨Ab r3 t567,o3⟩) (.inr ⟨Ab r4 t567,o4⟩)) (fun r8 a w8 hf t8 hr=>?_) rfl⟩
 have:=I0 hr
 subst this
 have hG:=Dr hG t8
 refine⟨dZ rfl,cY hf rfl (by decide) (HJ hf rfl rfl rfl rfl) fun a hf=>?_⟩
 refine⟨dZ rfl,aT hf rfl rfl (by decide) rfl fun a hf=>?_⟩
 refine⟨eY hf rfl rfl rfl,oL (args:=[]) hf rfl rfl rfl (by decide) ⟨_,Tryz.func7,by kernel_rfl,by kernel_rfl⟩ rfl qS (by rw[Hu,p9];rfl) hG ⟨rfl,fun i s y h1 h2=>by simp at h1⟩ (fun r9 a w9 hf t9 hr=>?_) rfl⟩
 have:=I0 hr
 subst this
 refine⟨dZ rfl,cY hf rfl (by decide) (HJ hf rfl rfl rfl rfl) fun a hf=>?_⟩
 refine⟨dZ rfl,bA hf rfl rfl (by decide) rfl fun a hf=>?_⟩
 refine wp_ret ?_
 exact EX rfl hf rfl (hR w9 ((((t1.trans t2).trans t3).trans t4).trans (((t567.trans t8)).trans t9)))
end
end Go.Eng.Tc
namespace Go.Eng
open Go.RowKit
section
variable {P:Program} {n:Nat} {env:List (Nat×Value)} {Df:List Deferred} {a:Act} {w w':World} {Q:Exit→Act→World→Prop} {o:Oper} {next:Act→World→Prop}
theorem Ds{x hi:Operand}{t e:TypeId}{p:Option Addr}{l c m:Nat}{i:Int}(hf:Fr n env a Df)(hop:o.op=.slice t x none (some hi) none)(hu:P.underlying t=some (.slice e))(hm:tV P e=some m)
 (hx:qM env x=some (.slice p l c)) (hh:qM env hi=some (.int .i64 i)) (h0:0≤i) (h1:i≤l) (hc:l≤c):(execOp a.eval o).run P w=.ok (.value (.slice (if c=0 then p else p.map (·.add (0*m))) i.toNat c)) w:=by
 have h:(Instr.sliceAt t (.slice p l c) none (some (.int .i64 i)) none).run P w=.ok (.slice (if c=0 then p else p.map (·.add (0*m))) i.toNat c) w:=by
  unfold Instr.sliceAt
  simp only[Sem.run_bind,run_underlying hu,Result.andThen_ok]
  unfold Instr.slice
  simp only[Sem.run_bind,run_underlying hu,Result.andThen_ok]
  rw[nN (l:=0) (h:=i) (.inl ⟨rfl,rfl⟩) (.inr ⟨.i64,rfl⟩) h0 h1 hc (Int.le_refl _) h0]
  simp only[Result.andThen_ok,bR hm,Sem.run_pure,Int.toNat_zero,Nat.sub_zero]
 unfold execOp;rw[hop];simp only[hf.ev hx,Option.map_some,Option.map_none,hf.ev hh,Sem.run_bind,h,Result.andThen_ok];rfl
theorem aAU{x:Operand}{t e:TypeId}{p:Option Addr}{l c:Nat}(hf:Fr n env a Df)(hop:o.op=.call { callee:=.builtin .len,args:=#[x],argTypes:=#[t] })(hu:P.underlying t=some (.slice e))(hx:qM env x=some (.slice p l c)):(execOp a.eval o).run P w=.ok (.value (.int .i64 l)) w:=by
 have hexec:execOp a.eval o=builtin .len #[t] o.type (#[x].map fun | .const _=>true | _=>false) (#[x].map a.eval):=by
  unfold execOp;rw[hop];rfl
 rw[hexec]
 simp only[builtin,List.map_toArray,List.map_cons,List.map_nil,hf.ev hx,Sem.run_bind]
 unfold Builtin.len_
 simp only[List.getElem?_toArray,List.getElem?_cons_zero,Sem.run_bind,run_underlying hu,Result.andThen_ok]
 rfl
theorem Kz{x:Operand}{ix:Operand}{t e:TypeId}{A:Addr}{l m:Nat}{i:Int}(hf:Fr n env a Df)(hop:o.op=.indexAddr t x ix)(hu:P.underlying t=some (.array l e))(hm:tV P e=some m)
 (hx:qM env x=some (.pointer (some A))) (hi:qM env ix=some (.int .i64 i)) (h0:0≤i) (h1:i<l):(execOp a.eval o).run P w=.ok (.value (.pointer (some (A.add (i.toNat*m))))) w:=by
 have h:(Instr.indexAt t (.pointer (some A)) (.int .i64 i)).run P w=.ok (.pointer (some (A.add (i.toNat*m)))) w:=by
  unfold Instr.indexAt
  simp only[asIntOf,Sem.run_bind,Sem.run_pure,run_underlying hu,Result.andThen_ok,Instr.sureAddr]
  rw[Sem.run_ite,if_pos (by omega)]
  simp only[Sem.run_bind,bR hm,Result.andThen_ok,Sem.run_pure]
 unfold execOp;rw[hop];simp only[hf.ev hx,hf.ev hi,Sem.run_bind,h,Result.andThen_ok];rfl
end
end Go.Eng
namespace Go.Eng.Tc
open Go.Eng Go.RowKit Go.Proofs Go.Eng.Rt
structure Oz (w0:World) (X:Nat→Prop) (G:List (List T)) (h:HX) (w:World):Prop where
 own:OwnX w X G h
 sep:∀v∈h.2,∀b∈eF v,b∉eF h.1
 new:∀b∈I1 h,w0.heap.size≤b
 z:∀b∈I1 h,X b
 zl:∀b,X b→b<w.heap.size
def Dk(k:Nat)(h:HX):Prop:=∀(j:Nat) v vk,h.2[j]?=some v→h.2[k]?=some vk→j≠k→∀b∈eF v,b∉eF vk
theorem Ow.oz{w0 w:World}{X:Nat→Prop}{G:List (List T)}{h:HX}(ho:Ow w0 X G h w):Oz w0 X G h w:=⟨ho.own,ho.sep,ho.new,ho.z,ho.zl⟩
theorem Ow.dk{w0 w:World}{X:Nat→Prop}{G:List (List T)}{h:HX}(ho:Ow w0 X G h w)(k:Nat):Dk k h:=fun j v vk h1 h2 hne b hb hb2=>
 hne ((Qp (List.nodup_append.1 ho.nd).2.1).2 j k v vk b h1 h2 hb hb2)
section
variable {n:Nat} {env:List (Nat×Value)} {a:Act} {w0 w w':World} {Q:Exit→Act→World→Prop} {o o1 o2:Oper} {next:Act→World→Prop} {d:Nat} {X X' Y:Nat→Prop} {G:List (List T)} {h:HX} {l:List T} {v:Value}
theorem Oz.rowm(ho:Oz w0 X G h w){k:Nat}{v:Value}(hv:h.2[k]?=some v){b:Nat}(hb:b∈eF v):b∈I1 h:=List.mem_append.2 (.inr (List.mem_flatMap.2 ⟨v,List.mem_of_getElem? hv,hb⟩))
theorem Oz.hdm{h:HX}{b:Nat}(hb:b∈eF h.1):b∈I1 h:=List.mem_append.2 (.inl hb)
theorem Oz.grow(ho:Oz w0 X G h w)(hs:Stp (fun _=>False) w w')(h1:∀b,X' b→X b∨w.heap.size≤b)(h2:∀b,X' b→b<w'.heap.size)(h3:∀b,X b→X' b):Oz w0 X' G h w':=
 ⟨ho.own.step hs (fun _ _ h=>h) (fun _ h=>h.elim) h1,ho.sep,ho.new,fun b hb=>h3 b (ho.z b hb),h2⟩
theorem Oz.same(ho:Oz w0 X G h w)(hs:Stp (fun _=>False) w w'):Oz w0 X G h w':=
 ho.grow hs (fun b hb=>.inl hb) (fun b hb=>Nat.lt_of_lt_of_le (ho.zl b hb) hs.size) fun b hb=>hb
theorem Oz.rd(ho:Oz w0 X G h w):Rd w (fun _=>False) (.sl 1 (G.map (T.sl 9))) h.1:=ho.own.rd (fun _ _ h=>h) fun _ h=>h.elim
theorem Oz.shape(ho:Oz w0 X G h w):∃p c,h.1=.slice p G.length c∧G.length≤c:=by
 rcases id ho.own.row.2 with⟨h1 | ⟨a,h1⟩,h0⟩ | ⟨g,off,cap,cur,e1,h1,h2,h3,_⟩
 ·exact⟨none,0,by rw[h1,h0],by omega⟩
 ·exact⟨some a,0,by rw[h1,h0],by omega⟩
 ·exact⟨_,_,e1,h3⟩
theorem OwnP.shape(hp:OwnP w X l v):∃p c,v=.slice p l.length c∧l.length≤c:=by
 obtain⟨_,cs,hr,_⟩:=hp
 rcases id hr.2 with⟨h1 | ⟨a,h1⟩,h0⟩ | ⟨g,off,cap,cur,e1,h1,h2,h3,_⟩
 ·exact⟨none,0,by rw[h1,h0],by omega⟩
 ·exact⟨some a,0,by rw[h1,h0],by omega⟩
 ·exact⟨_,_,e1,h3⟩
theorem OwnP.pre{p:Option Addr}{c m:Nat}(hp:OwnP w X l (.slice p l.length c))(hm:m≤l.length):OwnP w X (l.take m) (.slice (if c=0 then p else p.map (·.add (0*9))) m c)∧∀b∈eF (.slice (if c=0 then p else p.map (·.add (0*9))) m c),b∈eF (.slice p l.length c):=by
 have hb:(if c=0 then p else p.map (·.add (0*9)))=p:=by
  split
  ·rfl
  ·rename_i hc0
   cases p with
   | none=>rfl
   | some A=>
    obtain⟨g,off,t⟩:=A
    obtain⟨_,cs,hr,_⟩:=hp
    rcases id hr.2 with⟨h1 | ⟨a,h1⟩,h0⟩ | ⟨g',off',cap',cur',e1,_⟩
    ·cases h1
    ·simp only[Value.slice.injEq] at h1
     exact(hc0 h1.2.2).elim
    ·cases e1
     show some (Addr.add _ _)=_
     rw[Nat.zero_mul,yO,Nat.add_zero]
 rw[hb]
 refine⟨?_,fun b hb=>?_⟩
 ·cases p with
  | none=>
   obtain⟨hu,cs,hr,hd⟩:=hp
   rcases id hr.2 with⟨h1 | ⟨a,h1⟩,h0⟩ | ⟨g',off',cap',cur',e1,_⟩
   ·simp only[Value.slice.injEq,true_and] at h1
    obtain⟨_,rfl⟩:=h1
    have hm0:m=0:=by omega
    subst hm0
    exact⟨Uni.nil 9,[],⟨rfl,.inl ⟨.inl rfl,rfl⟩⟩,RdT.nil'⟩
   ·cases h1
   ·cases e1
  | some A=>
   obtain⟨g,off,t⟩:=A
   rcases id hp with⟨hu,cs,hr,hd⟩
   rcases id hr.2 with⟨h1 | ⟨a,h1⟩,h0⟩ | ⟨g',off',cap',cur',e1,_⟩
   ·cases h1
   ·simp only[Value.slice.injEq] at h1
    obtain⟨_,_,rfl⟩:=h1
    have hm0:m=0:=by omega
    subst hm0
    exact⟨Uni.nil 9,[],⟨rfl,.inl ⟨.inr ⟨_,rfl⟩,rfl⟩⟩,RdT.nil'⟩
   ·cases e1
    exact hp.take hm
 ·have:=dO.1 hb
  rw[dO]
  cases p with
  | none=>simp[blk] at this
  | some A=>exact this
theorem GX{k:Nat}(ho:Oz w0 X G h w){vk:Value}(hv:h.2[k]?=some vk):∃gb off cap cur,h.1=.slice (some ⟨gb,off,none⟩) G.length cap∧G.length≤cap∧w.heap[gb]?=some (.cells cur 35 (0,0))∧w.cell? ⟨gb,off+k,none⟩=some vk∧k<G.length:=by
 have hk:k<G.length:=by rw[←ho.own.len];exact(List.getElem?_eq_some_iff.1 hv).1
 obtain⟨gb,off,cap,cur,e1,e2,e3,e4,e5,e6,e7⟩:=rowAt.open_ ho.own.row (by omega)
 exact⟨gb,off,cap,cur,e1,e3,e4,e7 k vk hv,hk⟩
theorem Oz.put{k gb off cap:Nat}{cur:Array Value}{g':List T}{v':Value}(ho:Oz w0 X G h w)(hk:k<G.length)(hp:OwnP w X g' v')(hv:∀b∈eF v',b∉eF h.1)(hn:∀b∈eF v',w0.heap.size≤b)(hz:∀b∈eF v',X b)(e1:h.1=.slice (some ⟨gb,off,none⟩) G.length cap)(e2:w.heap[gb]?=some (.cells cur 35 (0,0))):
 off+k<cur.size∧gb∈eF h.1∧Oz w0 X (G.set k g') (h.1,h.2.set k v') (w.setRow gb (cur.toList.set (off+k) v').toArray):=by
 obtain⟨a1,a2,a3⟩:=ho.own.header' hk ho.sep hp hv (fun b hb=>ho.z b (Oz.hdm hb)) e1 e2
 have hmem:∀b,b∈I1 (h.1,h.2.set k v')→b∈I1 h∨b∈eF v':=fun b hb=>by
  rcases List.mem_append.1 hb with hb | hb
  ·exact .inl (Oz.hdm hb)
  ·obtain⟨u,hu,hb3⟩:=List.mem_flatMap.1 hb
   rcases List.mem_or_eq_of_mem_set hu with hu | e
   ·exact .inl (List.mem_append.2 (.inr (List.mem_flatMap.2 ⟨u,hu,hb3⟩)))
   ·exact .inr (e▸hb3)
 refine⟨a1,a2,a3,fun v hv2=>?_,fun b hb=>(hmem b hb).elim (ho.new b) (hn b),fun b hb=>(hmem b hb).elim (ho.z b) (hz b),fun b hb=>?_⟩
 ·rcases List.mem_or_eq_of_mem_set hv2 with hv2 | rfl
  ·exact ho.sep v hv2
  ·exact hv
 ·have:=ho.zl b hb
  have:=(cT w gb (cur.toList.set (off+k) v').toArray).size
  omega
theorem Vq{x y:Operand}{g m:List T}{v sv:Value}(hf:Fr n env a)(hop:o.op=.call { callee:=.builtin .append,args:=#[x,y],argTypes:=#[35,35] })(hd:o.dst=some d)(hlt:d<n)(hx:qM env x=some v)(hy:qM env y=some sv)
 (hg:OwnP w X g v) (hm:OwnP w X m sv) (hz:∀b∈eF v,X b) (hmx:g.length+m.length≤1000)
 (hn:∀a' v' w',Fr n ((d,v')::env) a'→Stp (fun b=>b∈eF v) w w'→OwnP w' (fun b=>X b∨b∈eF v') (g++m) v'→OwnP w' (fun b=>X b∨b∈eF v') g v→((∀b,b∈eF v'↔b∈eF v)∨∀b,b∈eF v'↔b=w.heap.size)→next a' w'):o.wp Tryz.prog a w next Q:=by
 obtain⟨i,z,i1,i2,i3,i4,i5⟩:=EW Hp
 obtain⟨hmu,ms,m1,m2⟩:=hm
 obtain⟨hgu,gs,g1,g2⟩:=hg
 have hsrc:Src Tryz.prog i.size 35 sv m.length ms w:=by rw[i4];exact WS xG m1 (RdT.ones m2)
 have g1':rowAt w 34 i.size v g.length gs:=by rw[i4];exact g1
 refine Cd hf hop hd hlt xG i1 i2 (by rw[i3,i4]) (by rw[i4];decide) hx hy g1' hsrc (by simp only[maxLen];omega) (by
  have:(g.length+m.length)*i.bytes≤1000*1000:=Nat.mul_le_mul hmx i5
  omega) fun a' v' w' hf' hrow hgr hb hkeep=>?_
 rw[i4] at hrow hkeep
 have hs:Stp (fun b=>b∈eF v) w w':=Stp.grown hgr fun b e=>dO.2 e
 have hb':(∀b,b∈eF v'↔b∈eF v)∨∀b,b∈eF v'↔b=w.heap.size:=by
  rcases hb with hb | hb
  ·left;intro b;rw[dO,dO,hb]
  ·right;intro b;rw[dO,hb];simp[eq_comm]
 have hX':∀b,(X b∨b∈eF v')→X b∨w.heap.size≤b:=fun b hbb=>by
  rcases hbb with h1 | h1
  ·exact .inl h1
  ·rcases hb' with hb' | hb'
   ·exact .inl (hz b ((hb' b).1 h1))
   ·right;have:=(hb' b).1 h1;omega
 refine hn a' v' w' hf' hs ⟨hgu.append hmu,gs++ms,by rw[List.length_append];exact hrow,?_⟩ ⟨hgu,gs,hkeep,g2.step hs hz hX'⟩ hb'
 rw[iH]
 exact(g2.step hs hz hX').append (m2.step hs hz hX')
end
end Go.Eng.Tc
namespace Go.Eng.Tc
open Go.Eng Go.RowKit Go.Proofs Go.Eng.Rt
theorem aDV:Tryz.prog.underlying 34=some (.array 3 31):=by kernel_rfl
theorem aCW:tV Tryz.prog 31=some 3:=by kernel_rfl
theorem WZ(x y:Int):xH Tryz.prog .leq 3 3 (dV (vI x)) (dV (vI y)) some=some (dV (.bool (vC x y))):=by kernel_rfl
theorem aAV(x y:Int)(h:y≠0):xH Tryz.prog .quo 3 3 (dV (vI x)) (dV (vI y)) some=some (dV (vI (wr .i64 (dP x y)))):=by
 have:xH Tryz.prog .quo 3 3 (dV (vI x)) (dV (vI y)) some=ob (nz y) fun y=>some (dV (vI (wr .i64 (dP x y)))):=by kernel_rfl
 rw[this,N7 h];rfl
def NA(p:Int×Int)(z:Int):T:=.agg [.v (.bool (aM (p.1:Rat))),.sl 1 (aU (p.1:Rat)),.sl 1 (aY (p.1:Rat)),.v (.bool (aM (p.2:Rat))),.sl 1 (aU (p.2:Rat)),.sl 1 (aY (p.2:Rat)),.v (.bool (aM (z:Rat))),.sl 1 (aU (z:Rat)),.sl 1 (aY (z:Rat))]
section
variable {a:Act} {w0 w w':World} {Q:Exit→Act→World→Prop} {X X' Y:Nat→Prop} {G:List (List T)} {h:HX} {l:List T} {v:Value}
theorem Oz.rowPut{k:Nat}{vk:Value}{g':List T}(ho:Oz w0 X G h w)(hd:Dk k h)(hv:h.2[k]?=some vk)(hs:Stp Y w w')(hY:∀b,Y b→b∈eF vk)(hp:OwnP w' X g' vk):Oz w0 X (G.set k g') h w':=by
 have hz:∀b,Y b→X b:=fun b hb=>ho.z b (ho.rowm hv (hY b hb))
 refine⟨⟨by rw[List.length_set];exact ho.own.len,by rw[List.length_set];exact ho.own.row.step hs fun b e1 e2=>ho.sep vk (List.mem_of_getElem? hv) b (hY b e2) (dO.2 e1),fun j g u h1 h2=>?_⟩,ho.sep,ho.new,ho.z,fun b hb=>Nat.lt_of_lt_of_le (ho.zl b hb) hs.size⟩
 by_cases e:k=j
 ·subst e
  rw[hv] at h2
  cases h2
  have hk:k<G.length:=by have:=(List.getElem?_eq_some_iff.1 h1).1;rwa[List.length_set] at this
  rw[List.getElem?_set,if_pos rfl,if_pos hk] at h1
  cases h1
  exact hp
 ·rw[List.getElem?_set,if_neg e] at h1
  exact(ho.own.sub j g u h1 h2).step hs (fun b hb e2=>hd j u vk h2 hv (fun e3=>e e3.symm) b hb (hY b e2)) hz fun b hb=>.inl hb
noncomputable abbrev r10:Array Oper:=TY (pE [1,1,1,1,0,1,0,1,1,1,0,1,0] (tE Tryz.f5))
set_option maxRecDepth 20000 in
set_option maxHeartbeats 4000000 in
theorem aCY{k:Nat}{p:Int×Int}{rest:List T}(hQ:∀c a d v w,Q (.panic c) (a.put d v) w→Q (.panic c) a w)(ho:Oz w0 X G h w)(hd:Dk k h)(hG:Good Tryz.prog w fun _=>False)(hk:G[k]?=some (wT p::rest))(hf:Fr 146 [(7,h.1),(8,vI (k:Nat))] a)
 (hn:∀a' w',Fr 146 [(7,h.1)] a'→Oz w0 X (G.set k (NA p 1::rest)) h w'→Stp (fun b=>b∈I1 h) w w'→Q .normal a' w'):(pE [1,1,1,1,0,1,0,1,1,1,0,1,0] (tE Tryz.f5)).wp Tryz.prog Q a w:=by
 have ho:=ho.same (Stp.drew _ w)
 have hG:=Dr hG (Stp.drew _ w)
 have hkl:k<G.length:=(List.getElem?_eq_some_iff.1 hk).1
 obtain⟨vk,hv⟩:∃vk,h.2[k]?=some vk:=⟨_,List.getElem?_eq_getElem (by rw[ho.own.len];exact hkl)⟩
 obtain⟨hb,hoff,hcap,hcur,e1,e2,e3,e4,_⟩:=GX ho hv
 have hp:=ho.own.sub k _ _ hk hv
 obtain⟨gb,off,cap,cur,q1,q2,q3,q4,ys,l1,c1,r1⟩:=hp.get (i:=0) (t:=wT p) rfl
 subst q1
 have hcl:cur.toList.length=cur.size:=Array.length_toList
 simp only[List.length_cons] at q4
 have hgb:gb∈eF (.slice (some ⟨gb,off,none⟩) (wT p::rest).length cap):=dO.2 q2
 have fin:∀(K:Array Bool) a w1 (cs:Array Value),K=#[true,true,true,true,true,true,false,false]→Stp (fun _=>False) w.drew w1→RdT w1 X [.v (.bool (aM ((1:Int):Rat))),.sl 1 (aU ((1:Int):Rat)),.sl 1 (aY ((1:Int):Rat))] cs.toList→cs.size=3 →
  Fr 146 [(44,.agg cs),(45,.pointer (some ⟨gb,off+0*9,none⟩)),(7,h.1)] a→wpAny Tryz.prog .any r10 Q 2 K a w1:=by
  intro K a w1 cs eK t1 d1 s1 hf
  subst eK
  have hw1:w1.heap[gb]?=some (.cells cur 34 (0,0)):=(t1.blk gb (Array.getElem?_eq_some_iff.1 q3).1 id).trans q3
  refine eD (i:=6) (fuel:=1) (by kernel_rfl) rfl rfl ?_
  refine cY hf rfl (by decide) (Kz hf rfl aDV aCW rfl rfl (by decide) (by decide)) fun a hf=>?_
  refine eD (i:=7) (fuel:=0) (by kernel_rfl) rfl rfl ?_
  refine AC (cs:=cs) hf rfl rfl (by rw[s1];exact aCW) (tO rfl (yO gb (off+0*9) (2*3))) rfl (RdT.ones d1) hw1 (by rw[s1];omega) fun a hf=>?_
  rw[s1]
  have hp1:=hp.step t1 (fun _ _ h=>h) (fun _ h=>h.elim) fun b hb=>.inl hb
  have r1':=r1.step t1 (fun _ h=>h.elim) fun b hb=>.inl hb
  have hsp:=RdT.splice r1' d1 (p:=6) (Nat.le_of_eq rfl)
  have hsp2:RdT w1 X (NA p 1).cells (ys.take 6++cs.toList):=by
   have e:ys.drop 9=[]:=List.drop_of_length_le (by omega)
   have:RdT w1 X ((wT p).cells.take 6++[.v (.bool (aM ((1:Int):Rat))),.sl 1 (aU ((1:Int):Rat)),.sl 1 (aY ((1:Int):Rat))]++(wT p).cells.drop 9) (ys.take 6++cs.toList++ys.drop 9):=hsp
   rw[e,List.append_nil] at this
   exact this
  have hput:=hp1.put (i:=0) (t:=NA p 1) (Nat.succ_pos _) rfl hw1 (ho.z gb (ho.rowm hv hgb)) rfl hsp2
  have hcells:cur.toList.take (off+0*9+2*3)++cs.toList++cur.toList.drop (off+0*9+2*3+3)=cur.toList.take (off+0*9)++(ys.take 6++cs.toList)++cur.toList.drop (off+0*9+9):=by
   rw[←c1,List.take_take,List.take_add]
   simp[List.append_assoc]
  have hs:=cT w1 gb (cur.toList.take (off+0*9+2*3)++cs.toList++cur.toList.drop (off+0*9+2*3+3)).toArray
  have ho2:=(ho.same t1).rowPut hd hv hs (fun b e=>by rw[show b=gb from e];exact hgb) (by rw[hcells];exact hput)
  refine wpAny_done (by kernel_rfl) (hn a _ (hf.weak ⟨rfl,trivial⟩) ho2 ?_) _
  exact(((Stp.drew (fun b=>b∈I1 h) w).trans (t1.mono fun b hb=>hb.elim)).trans (hs.mono fun b e _=>by rw[show b=gb from e];exact ho.rowm hv hgb))
 refine wp_region_any aQ ?_
 refine dL (ops:=r10) (i:=0) (fuel:=7) hf rfl (by kernel_rfl) hQ rfl rfl (by decide) (fun w=>cZ hf rfl rfl) fun a hf=>?_
 refine dL (ops:=r10) (i:=1) (fuel:=6) hf rfl (by kernel_rfl) hQ rfl rfl (by decide) (fun w=>cZ hf rfl rfl) fun a hf=>?_
 refine dL (ops:=r10) (i:=2) (fuel:=5) hf rfl (by kernel_rfl) hQ rfl rfl (by decide) (fun w=>gC (A:=⟨hb,hoff,none⟩) (l:=G.length) (c:=hcap) hf rfl AD pD (congrArg some e1) rfl (by omega) (by omega)) fun a hf=>?_
 rw[kE,Int.toNat_natCast] at hf
 refine EM (i:=3) (j:=4) (fuel:=4) (by kernel_rfl) rfl rfl rfl rfl ?_ ?_
 ·refine oK hf rfl rfl (by decide) pD GW rfl e4 fun a hf=>?_
  refine dL (ops:=r10) (i:=5) (fuel:=3) hf rfl (by kernel_rfl) hQ rfl rfl (by decide) (fun w=>gC hf rfl xG vB rfl rfl (by decide) (Int.ofNat_lt.2 (Nat.succ_pos rest.length))) fun a hf=>?_
  rw[show Int.toNat 0=0 from rfl,yO] at hf
  refine eD (i:=4) (fuel:=2) (by kernel_rfl) rfl rfl ?_
  refine Hr hG ho.zl hf rfl rfl (by decide) rfl (by decide) fun cs a w1 hf t1 d1 s1=>?_
  exact fin _ a w1 cs (by kernel_rfl) t1 d1 s1 (hf.weak ⟨rfl,rfl,rfl,trivial⟩)
 ·refine Hr hG ho.zl hf rfl rfl (by decide) rfl (by decide) fun cs a w1 hf t1 d1 s1=>?_
  refine eD (i:=3) (fuel:=3) (by kernel_rfl) rfl rfl ?_
  refine oK hf rfl rfl (by decide) pD GW rfl (t1.cell e4 id) fun a hf=>?_
  refine eD (i:=5) (fuel:=2) (by kernel_rfl) rfl rfl ?_
  refine cY hf rfl (by decide) (gC hf rfl xG vB rfl rfl (by decide) (Int.ofNat_lt.2 (Nat.succ_pos rest.length))) fun a hf=>?_
  rw[show Int.toNat 0=0 from rfl,yO] at hf
  exact fin _ a w1 cs (by kernel_rfl) t1 d1 s1 (hf.weak ⟨rfl,rfl,rfl,trivial⟩)
set_option maxRecDepth 20000 in
set_option maxHeartbeats 4000000 in
theorem aAW{g0:List T}{v0:Value}(ho:Oz w0 X G h w)(h0:G[0]?=some g0)(hv0:h.2[0]?=some v0)(hw0:w0.heap.size≤w.heap.size)(hl:G.length≤17)(hf:Fr 146 [(7,h.1)] a)
 (hn:∀a' w' h' X',Fr 146 [(7,h'.1)] a'→Oz w0 X' (G++List.replicate (17-G.length) g0) h' w'→Stp (fun b=>w0.heap.size≤b) w w'→Q .normal a' w'):(pE [1,1,1,1,0,1,0,1,1,1,1,1,0] (tE Tryz.f5)).wp Tryz.prog Q a w:=by
 refine wp_block ?_
 refine HI (m:=17-G.length) (fun m a W=>∃(h:HX) (X:Nat→Prop),m≤17-G.length∧Fr 146 [(7,h.1)] a∧Oz w0 X (G++List.replicate (17-G.length-m) g0) h W∧h.2[0]?=some v0∧Stp (fun b=>w0.heap.size≤b) w W) ?_ ?_
  ⟨h,X,Nat.le_refl _,hf,by rw[Nat.sub_self,List.replicate_zero,List.append_nil];exact ho,hv0,Stp.refl _ _⟩
 ·rintro K a W ⟨h,X,hm,hf,ho,hv0,hs⟩
  rw[Nat.sub_zero] at ho
  obtain⟨p,c,e1,e2⟩:=ho.shape
  rw[e1] at hf
  refine wp_seq (wp_seq (bW (by kernel_rfl) ?_))
  refine aT hf rfl rfl (by decide) rfl fun a hf=>?_
  refine JM hf rfl rfl (by decide) AD rfl fun a hf=>?_
  refine eJ (v:=.bool false) hf rfl rfl (by decide) rfl rfl rfl rfl ?_ fun a hf=>?_
  ·refine(WZ _ _).trans ?_
   rw[kH,decide_eq_false (by rw[List.length_append,List.length_replicate];omega)]
  refine wp_cond_false (hf.ev rfl) (wp_exit ?_)
  rw[←e1] at hf
  exact hn a W h X (hf.weak ⟨rfl,trivial⟩) ho hs
 ·rintro m K hK a W ⟨h,X,hm,hf,ho,hv0,hs⟩
  obtain⟨p,c,e1,e2⟩:=ho.shape
  rw[e1] at hf
  refine wp_seq (wp_seq (bW (by kernel_rfl) ?_))
  refine aT hf rfl rfl (by decide) rfl fun a hf=>?_
  refine JM hf rfl rfl (by decide) AD rfl fun a hf=>?_
  refine eJ (v:=.bool true) hf rfl rfl (by decide) rfl rfl rfl rfl ?_ fun a hf=>?_
  ·refine(WZ _ _).trans ?_
   rw[kH,decide_eq_true (by rw[List.length_append,List.length_replicate];omega)]
  refine wp_cond_true (hf.ev rfl) (wp_skip ?_)
  rw[←e1] at hf
  obtain⟨hb,hoff,hcap,hcur,q1,q2,q3,q4,q5⟩:=GX ho hv0
  refine wp_block (bW (by kernel_rfl) ?_)
  refine aT hf rfl rfl (by decide) rfl fun a hf=>?_
  refine aT hf rfl rfl (by decide) rfl fun a hf=>?_
  refine cY hf rfl (by decide) (gC (A:=⟨hb,hoff,none⟩) (l:=(G++List.replicate (17-G.length-(m+1)) g0).length) (c:=hcap) hf rfl AD pD (congrArg some q1) rfl (by decide) (by omega)) fun a hf=>?_
  rw[kE] at hf
  refine oK hf rfl rfl (by decide) pD GW rfl q4 fun a hf=>?_
  have hG0:(G++List.replicate (17-G.length-(m+1)) g0)[0]?=some g0:=by
   rw[List.getElem?_append_left (List.getElem?_eq_some_iff.1 h0).1];exact h0
  have hp0:=ho.own.sub 0 _ _ hG0 hv0
  refine WT hf rfl rfl (by decide) rfl hp0.one fun a w4 hf t4 hlit=>?_
  have ho:=ho.same t4
  have hp0:=ho.own.sub 0 _ _ hG0 hv0
  refine Hs hf rfl rfl (by decide) rfl rfl ho.own ho.sep (fun b hb=>ho.z b (Oz.hdm hb)) hlit hp0 (ho.sep v0 (List.mem_of_getElem? hv0)) (by rw[List.length_append,List.length_replicate];omega) fun a v' w5 hf t5 hx hb' hlt'=>?_
  refine bA hf rfl rfl (by decide) rfl fun a hf=>?_
  have e:(G++List.replicate (17-G.length-(m+1)) g0)++[g0]=G++List.replicate (17-G.length-m) g0:=by
   rw[List.append_assoc,←List.replicate_succ',show 17-G.length-(m+1)+1=17-G.length-m by omega]
  rw[e] at hx
  have hge:w0.heap.size≤w4.heap.size:=by have:=hs.size;have:=t4.size;omega
  refine hK a w5 ⟨(v',h.2++[v0]),_,by omega,hf.weak ⟨rfl,trivial⟩,⟨hx,fun u hu b hbu hbv=>?_,fun b hb=>?_,fun b hb=>?_,fun b hb=>?_⟩,?_,(hs.trans (t4.mono fun b hb=>hb.elim)).trans (t5.mono fun b hb _=>ho.new b (Oz.hdm hb))⟩
  ·have hu':u∈h.2:=by
    rcases List.mem_append.1 hu with hu | hu
    ·exact hu
    ·rw[List.mem_singleton.1 hu];exact List.mem_of_getElem? hv0
   rcases hb' with hb' | hb'
   ·exact ho.sep u hu' b hbu ((hb' b).1 hbv)
   ·have:=(hb' b).1 hbv
    have:=ho.zl b (ho.z b (List.mem_append.2 (.inr (List.mem_flatMap.2 ⟨u,hu',hbu⟩))))
    omega
  ·rcases List.mem_append.1 hb with hb | hb
   ·rcases hb' with hb' | hb'
    ·exact ho.new b (Oz.hdm ((hb' b).1 hb))
    ·have:=(hb' b).1 hb;omega
   ·obtain⟨u,hu,hbu⟩:=List.mem_flatMap.1 hb
    have hu':u∈h.2:=by
     rcases List.mem_append.1 hu with hu | hu
     ·exact hu
     ·rw[List.mem_singleton.1 hu];exact List.mem_of_getElem? hv0
    exact ho.new b (List.mem_append.2 (.inr (List.mem_flatMap.2 ⟨u,hu',hbu⟩)))
  ·rcases List.mem_append.1 hb with hb | hb
   ·exact .inr hb
   ·obtain⟨u,hu,hbu⟩:=List.mem_flatMap.1 hb
    have hu':u∈h.2:=by
     rcases List.mem_append.1 hu with hu | hu
     ·exact hu
     ·rw[List.mem_singleton.1 hu];exact List.mem_of_getElem? hv0
    exact .inl (ho.z b (List.mem_append.2 (.inr (List.mem_flatMap.2 ⟨u,hu',hbu⟩))))
  ·rcases hb with hb | hb
   ·have:=ho.zl b hb;have:=t5.size;omega
   ·exact hlt' b hb
  ·rw[List.getElem?_append_left (List.getElem?_eq_some_iff.1 hv0).1];exact hv0
set_option maxRecDepth 20000 in
set_option maxHeartbeats 4000000 in
theorem aCZ{k:Nat}{l:List T}(ho:Oz w0 X G h w)(hk:G[k]?=some l)(hl:l.length≤1000)(hf:Fr 146 [(7,h.1),(8,vI (k:Nat))] a)
 (hn:∀a' w' h',Fr 146 [(7,h'.1)] a'→Oz w0 X (G.set k (l.take (l.length/2))) h' w'→Stp (fun b=>b∈I1 h) w w'→Q .normal a' w'):(pE [1,1,1,1,0,1,0,1,1,1,1,1,1,1,1,1,0] (tE Tryz.f5)).wp Tryz.prog Q a w:=by
 have ho:=ho.same (Stp.drew _ w)
 have hkl:k<G.length:=(List.getElem?_eq_some_iff.1 hk).1
 obtain⟨vk,hv⟩:∃vk,h.2[k]?=some vk:=⟨_,List.getElem?_eq_getElem (by rw[ho.own.len];exact hkl)⟩
 obtain⟨hb,hoff,hcap,hcur,e1,e2,e3,e4,_⟩:=GX ho hv
 have hp:=ho.own.sub k _ _ hk hv
 obtain⟨p,c,rfl,hc⟩:=hp.shape
 have hdiv:wr .i64 (dP (l.length:Int) 2)=((l.length/2:Nat):Int):=by
  rw[UL,Int.tdiv_eq_ediv_of_nonneg (by omega),sK (by omega) (by omega)];omega
 refine Tf (P:=Tryz.prog) 13 aQ (by kernel_rfl) (by kernel_rfl) ?_
 refine tD hf rfl (by decide) (cZ hf rfl rfl) fun a hf=>?_
 refine tD hf rfl (by decide) (cZ hf rfl rfl) fun a hf=>?_
 refine tD hf rfl (by decide) (cZ hf rfl rfl) fun a hf=>?_
 refine tD hf rfl (by decide) (cZ hf rfl rfl) fun a hf=>?_
 refine tD hf rfl (by decide) (gC (A:=⟨hb,hoff,none⟩) (l:=G.length) (c:=hcap) hf rfl AD pD (congrArg some e1) rfl (by omega) (by omega)) fun a hf=>?_
 rw[kE,Int.toNat_natCast] at hf
 refine tD hf rfl (by decide) (UZ hf rfl pD GW rfl e4) fun a hf=>?_
 refine tD hf rfl (by decide) (cZ hf rfl rfl) fun a hf=>?_
 refine tD hf rfl (by decide) (cZ hf rfl rfl) fun a hf=>?_
 refine tD hf rfl (by decide) (gC (A:=⟨hb,hoff,none⟩) (l:=G.length) (c:=hcap) hf rfl AD pD (congrArg some e1) rfl (by omega) (by omega)) fun a hf=>?_
 rw[kE,Int.toNat_natCast] at hf
 refine tD hf rfl (by decide) (UZ hf rfl pD GW rfl e4) fun a hf=>?_
 refine tD hf rfl (by decide) (aAU hf rfl xG rfl) fun a hf=>?_
 refine tD hf rfl (by decide) (OW hf rfl rfl rfl rfl rfl (aAV _ _ (by decide))) fun a hf=>?_
 rw[hdiv] at hf
 refine tD hf rfl (by decide) (Ds hf rfl xG vB rfl rfl (by omega) (by omega) hc) fun a hf=>?_
 rw[Int.toNat_natCast] at hf
 obtain⟨s1,s2⟩:=hp.pre (m:=l.length/2) (by omega)
 refine wQ (A:=⟨hb,hoff,none⟩) (l:=G.length) (c:=hcap) hf rfl rfl (by decide) AD pD (congrArg some e1) rfl (by omega) (by omega) fun a hf=>?_
 rw[kE,Int.toNat_natCast] at hf
 have hm:=List.mem_of_getElem? hv
 obtain⟨a1,a2,a3⟩:=ho.put hkl s1 (fun b hb=>ho.sep _ hm b (s2 b hb)) (fun b hb=>ho.new b (ho.rowm hv (s2 b hb))) (fun b hb=>ho.z b (ho.rowm hv (s2 b hb))) e1 e3
 refine HH hf rfl rfl pD rfl rfl s1.one e3 a1 fun a hf=>?_
 exact hn a _ (h.1,_) (hf.weak ⟨rfl,trivial⟩) a3 ((Stp.drew _ w).trans ((cT _ hb _).mono fun b e _=>by rw[show b=hb from e];exact Oz.hdm a2))
end
end Go.Eng.Tc
namespace Go.Eng.Tc
open Go.Eng Go.RowKit Go.Proofs Go.Eng.Rt
def E0(i:Nat):List T:=(List.range i).map fun j=>wT (((j*j:Nat):Int),(j:Int))
theorem QS(i:Nat):(E0 i).length=i:=by unfold E0;rw[List.length_map,List.length_range]
theorem La(i:Nat):E0 (i+1)=E0 i++[wT (((i*i:Nat):Int),(i:Int))]:=by unfold E0;rw[List.range_succ,List.map_append];rfl
section
variable {a:Act} {w0 w w':World} {Q:Exit→Act→World→Prop} {X X' Y:Nat→Prop} {G:List (List T)} {h:HX} {l:List T} {v:Value}
theorem Oz.rowKeep{k:Nat}{vk:Value}{g:List T}(ho:Oz w0 X G h w)(hd:Dk k h)(hk:G[k]?=some g)(hv:h.2[k]?=some vk)(hs:Stp Y w w')(hY:∀b,Y b→b∈eF vk)(hp:OwnP w' X' g vk)(h1:∀b,X' b→X b∨w.heap.size≤b)(h2:∀b,X' b→b<w'.heap.size)(h3:∀b,X b→X' b):Oz w0 X' G h w':=by
 have hz:∀b,Y b→X b:=fun b hb=>ho.z b (ho.rowm hv (hY b hb))
 refine⟨⟨ho.own.len,ho.own.row.step hs fun b e1 e2=>ho.sep vk (List.mem_of_getElem? hv) b (hY b e2) (dO.2 e1),fun j g' u q1 q2=>?_⟩,ho.sep,ho.new,fun b hb=>h3 b (ho.z b hb),h2⟩
 by_cases e:j=k
 ·subst e
  rw[hv] at q2
  rw[hk] at q1
  cases q1;cases q2
  exact hp
 ·exact(ho.own.sub j g' u q1 q2).step hs (fun b hb e2=>hd j u vk q2 hv e b hb (hY b e2)) hz h1
noncomputable abbrev Ri:Array Oper:=TY (pE [1,1,1,1,0,1,0,1,1,1,1,1,1,1,0,1,0,0,1,0,0] (tE Tryz.f5))
set_option maxRecDepth 20000 in
set_option maxHeartbeats 4000000 in
theorem aAX{k i:Nat}{g:List T}(hQ:∀c a d v w,Q (.panic c) (a.put d v) w→Q (.panic c) a w)(ho:Oz w0 X G h w)(hd:Dk k h)(hG:Good Tryz.prog w fun _=>False)(hk:G[k]?=some g)(hg:g.length≤100)(hi:i≤100)(hw0:w0.heap.size≤w.heap.size)(hf:Fr 146 [(7,h.1),(8,vI (k:Nat)),(9,vI (i:Nat))] a)
 (hn:∀a' w' h' X',Fr 146 [(7,h'.1),(8,vI (k:Nat)),(9,vI (i:Nat))] a'→Oz w0 X' (G.set k (g++[wT (((i*i:Nat):Int),(i:Int))])) h' w'→Dk k h'→Stp (fun b=>b∈I1 h) w w'→Q .normal a' w'):(pE [1,1,1,1,0,1,0,1,1,1,1,1,1,1,0,1,0,0,1,0,0] (tE Tryz.f5)).wp Tryz.prog Q a w:=by
 have ho:=ho.same (Stp.drew _ w)
 have hG:=Dr hG (Stp.drew _ w)
 have hkl:k<G.length:=(List.getElem?_eq_some_iff.1 hk).1
 obtain⟨vk,hv⟩:∃vk,h.2[k]?=some vk:=⟨_,List.getElem?_eq_getElem (by rw[ho.own.len];exact hkl)⟩
 have hvm:=List.mem_of_getElem? hv
 obtain⟨hb,hoff,hcap,hcur,e1,e2,e3,e4,_⟩:=GX ho hv
 have hii:wr .i64 ((i:Int)*i)=((i*i:Nat):Int):=by
  have:i*i≤100*100:=Nat.mul_le_mul hi hi
  rw[←Int.natCast_mul,sK (by omega) (by omega)]
 have hib:i*i≤100*100:=Nat.mul_le_mul hi hi
 have fin:∀(K:Array Bool) a w2 (lv:Value) (X2:Nat→Prop),K=#[true,true,true,true,true,true,true,true,true,true,true,true,false,false,false]→Stp (fun _=>False) w.drew w2→Oz w0 X2 G h w2→OwnP w2 X2 [wT (((i*i:Nat):Int),(i:Int))] lv →
  Fr 146 [(73,vk),(79,lv),(68,h.1),(69,vI (k:Nat)),(7,h.1),(8,vI (k:Nat)),(9,vI (i:Nat))] a→wpAny Tryz.prog .any Ri Q 3 K a w2:=by
  intro K a w2 lv X2 eK t2 ho hlp hf
  subst eK
  have hp:=ho.own.sub k _ _ hk hv
  refine eD (i:=12) (fuel:=2) (by kernel_rfl) rfl rfl ?_
  refine Vq hf rfl rfl (by decide) rfl rfl hp hlp (fun b hb=>ho.z b (ho.rowm hv hb)) (by simp only[List.length_cons,List.length_nil];omega) fun a v' w3 hf t3 hp3 hk3 hb'=>?_
  have h1:∀b,(X2 b∨b∈eF v')→X2 b∨w2.heap.size≤b:=fun b hbb=>by
   rcases hbb with h1 | h1
   ·exact .inl h1
   ·rcases hb' with hb' | hb'
    ·exact .inl (ho.z b (ho.rowm hv ((hb' b).1 h1)))
    ·right;have:=(hb' b).1 h1;omega
  have h2:∀b,(X2 b∨b∈eF v')→b<w3.heap.size:=fun b hbb=>by
   rcases hbb with h1 | h1
   ·have:=ho.zl b h1;have:=t3.size;omega
   ·exact hp3.lt h1
  have ho3:=ho.rowKeep hd hk hv t3 (fun b hb=>hb) hk3 h1 h2 fun b hb=>.inl hb
  have hcur:w3.heap[hb]?=some (.cells hcur 35 (0,0)):=by
   have hmb:hb∈eF h.1:=dO.2 (by rw[e1];show (if hcap=0 then none else some hb)=some hb;rw[if_neg (by omega)])
   have hlt:=(Array.getElem?_eq_some_iff.1 e3).1
   rw[t3.blk hb (Nat.lt_of_lt_of_le hlt t2.size) fun hx=>ho.sep vk hvm hb hx hmb,t2.blk hb hlt id]
   exact e3
  have hbn:∀b∈eF v',b∉eF h.1:=fun b hb1 hb2=>by
   rcases hb' with hb' | hb'
   ·exact ho.sep vk hvm b ((hb' b).1 hb1) hb2
   ·have:=ho.zl b (ho.z b (Oz.hdm hb2));have:=(hb' b).1 hb1;omega
  obtain⟨a1,a2,a3⟩:=ho3.put hkl hp3 hbn (fun b hb1=>by
   rcases hb' with hb' | hb'
   ·exact ho.new b (ho.rowm hv ((hb' b).1 hb1))
   ·have:=(hb' b).1 hb1;have:=t2.size;have:w.drew.heap.size=w.heap.size:=rfl;omega) (fun b hb1=>.inr hb1) e1 hcur
  refine eD (i:=13) (fuel:=1) (by kernel_rfl) rfl rfl ?_
  refine wQ (A:=⟨hb,hoff,none⟩) (l:=G.length) (c:=hcap) hf rfl rfl (by decide) AD pD (congrArg some e1) rfl (by omega) (by omega) fun a hf=>?_
  rw[kE,Int.toNat_natCast] at hf
  refine eD (i:=14) (fuel:=0) (by kernel_rfl) rfl rfl ?_
  refine HH hf rfl rfl pD rfl rfl hp3.one hcur a1 fun a hf=>?_
  refine wpAny_done (by kernel_rfl) (hn a _ (h.1,h.2.set k v') _ (hf.weak ⟨rfl,rfl,rfl,trivial⟩) a3 (fun j u uk q1 q2 hne b hb1 hb2=>?_) ?_) _
  ·have hkh:k<h.2.length:=(List.getElem?_eq_some_iff.1 hv).1
   simp only[List.getElem?_set] at q1
   rw[if_neg (fun e=>hne e.symm)] at q1
   rw[List.getElem?_set_self hkh] at q2
   cases q2
   rcases hb' with hb' | hb'
   ·exact hd j u vk q1 hv hne b hb1 ((hb' b).1 hb2)
   ·have:=ho.zl b (ho.z b (ho.rowm q1 hb1));have:=(hb' b).1 hb2;omega
  ·exact(((Stp.drew (fun b=>b∈I1 h) w).trans (t2.mono fun b hb=>hb.elim)).trans (t3.mono fun b hb _=>ho.rowm hv hb)).trans ((cT _ hb _).mono fun b e _=>by rw[show b=hb from e];exact Oz.hdm a2)
 have lit:∀{w2:World},Stp (fun _=>False) w.drew w2→∀{a:Act} {env} {next:Act→World→Prop} {ys:Array Value} {o:Oper},Fr 146 env a→o.op=.buildSlice 35 1 #[(0,.tmp 78)]→o.dst=some 79→env.lookup 78=some (.agg ys)→RdT w2 X (wT (((i*i:Nat):Int),(i:Int))).cells ys.toList→ys.size=9 →
  (∀a' w3 lv X2,Fr 146 ((79,lv)::env) a'→Stp (fun _=>False) w.drew w3→Stp (fun _=>False) w2 w3→Oz w0 X2 G h w3→OwnP w3 X2 [wT (((i*i:Nat):Int),(i:Int))] lv→next a' w3)→o.wp Tryz.prog a w2 next Q:=by
  intro w2 t2 a env next ys o hf hop hd' hlk d1 s1 hn'
  have ho2:=ho.same t2
  refine Qr (Z:=X) (cs:=[ys]) (pts:=[wT (((i*i:Nat):Int),(i:Int))]) hf hop hd' (by decide) (by show wR env [(0,.tmp 78)]=_;simp only[wR,qM,hlk];rfl) rfl (by decide) (by decide) (fun c hc=>by rw[List.mem_singleton] at hc;rw[hc];exact s1) (fun t ht=>by rw[List.mem_singleton] at ht;rw[ht];rfl) rfl (by have:=d1.append RdT.nil';simpa[flat] using this) fun a' w3 hf' t3 hlt hown=>?_
  refine hn' a' w3 _ _ hf' (t2.trans t3) t3 (ho2.grow t3 (fun b hb=>hb.imp id fun e=>by omega) (fun b hb=>?_) fun b hb=>.inl hb) hown
  rcases hb with hb | hb
  ·have:=ho2.zl b hb;omega
  ·omega
 refine wp_region_any aQ ?_
 refine dL (ops:=Ri) (i:=0) (fuel:=14) hf rfl (by kernel_rfl) hQ rfl rfl (by decide) (fun w=>cZ hf rfl rfl) fun a hf=>?_
 refine dL (ops:=Ri) (i:=1) (fuel:=13) hf rfl (by kernel_rfl) hQ rfl rfl (by decide) (fun w=>cZ hf rfl rfl) fun a hf=>?_
 refine dL (ops:=Ri) (i:=2) (fuel:=12) hf rfl (by kernel_rfl) hQ rfl rfl (by decide) (fun w=>cZ hf rfl rfl) fun a hf=>?_
 refine dL (ops:=Ri) (i:=3) (fuel:=11) hf rfl (by kernel_rfl) hQ rfl rfl (by decide) (fun w=>cZ hf rfl rfl) fun a hf=>?_
 refine dL (ops:=Ri) (i:=4) (fuel:=10) hf rfl (by kernel_rfl) hQ rfl rfl (by decide) (fun w=>gC (A:=⟨hb,hoff,none⟩) (l:=G.length) (c:=hcap) hf rfl AD pD (congrArg some e1) rfl (by omega) (by omega)) fun a hf=>?_
 refine dL (ops:=Ri) (i:=6) (fuel:=9) hf rfl (by kernel_rfl) hQ rfl rfl (by decide) (fun w=>cZ hf rfl rfl) fun a hf=>?_
 refine dL (ops:=Ri) (i:=7) (fuel:=8) hf rfl (by kernel_rfl) hQ rfl rfl (by decide) (fun w=>cZ hf rfl rfl) fun a hf=>?_
 refine dL (ops:=Ri) (i:=8) (fuel:=7) hf rfl (by kernel_rfl) hQ rfl rfl (by decide) (fun w=>OW hf rfl rfl rfl rfl rfl (Qt _ _)) fun a hf=>?_
 refine dL (ops:=Ri) (i:=9) (fuel:=6) hf rfl (by kernel_rfl) hQ rfl rfl (by decide) (fun w=>cZ hf rfl rfl) fun a hf=>?_
 rw[kE,Int.toNat_natCast,hii] at hf
 refine EM (i:=5) (j:=10) (fuel:=5) (by kernel_rfl) rfl rfl rfl rfl ?_ ?_
 ·refine oK hf rfl rfl (by decide) pD GW rfl e4 fun a hf=>?_
  refine eD (i:=10) (fuel:=4) (by kernel_rfl) rfl rfl ?_
  refine BA hG ho.zl hf rfl rfl (by decide) rfl rfl (by omega) (by omega) fun ys a w1 hf t1 d1 s1=>?_
  refine eD (i:=11) (fuel:=3) (by kernel_rfl) rfl rfl ?_
  refine lit t1 hf rfl rfl rfl d1 s1 fun a w3 lv X2 hf t3 _ ho3 hp3=>?_
  exact fin _ a w3 lv X2 (by kernel_rfl) t3 ho3 hp3 (hf.weak ⟨rfl,rfl,rfl,rfl,rfl,rfl,rfl,trivial⟩)
 ·refine BA hG ho.zl hf rfl rfl (by decide) rfl rfl (by omega) (by omega) fun ys a w1 hf t1 d1 s1=>?_
  refine EM (i:=5) (j:=11) (fuel:=4) (by kernel_rfl) rfl rfl rfl rfl ?_ ?_
  ·refine oK hf rfl rfl (by decide) pD GW rfl (t1.cell e4 id) fun a hf=>?_
   refine eD (i:=11) (fuel:=3) (by kernel_rfl) rfl rfl ?_
   refine lit t1 hf rfl rfl rfl d1 s1 fun a w3 lv X2 hf t3 _ ho3 hp3=>?_
   exact fin _ a w3 lv X2 (by kernel_rfl) t3 ho3 hp3 (hf.weak ⟨rfl,rfl,rfl,rfl,rfl,rfl,rfl,trivial⟩)
  ·refine lit t1 hf rfl rfl rfl d1 s1 fun a w3 lv X2 hf t3 _ ho3 hp3=>?_
   refine eD (i:=5) (fuel:=3) (by kernel_rfl) rfl rfl ?_
   refine oK hf rfl rfl (by decide) pD GW rfl (t3.cell e4 id) fun a hf=>?_
   exact fin _ a w3 lv X2 (by kernel_rfl) t3 ho3 hp3 (hf.weak ⟨rfl,rfl,rfl,rfl,rfl,rfl,rfl,trivial⟩)
set_option maxRecDepth 20000 in
set_option maxHeartbeats 4000000 in
theorem aAY{k:Nat}{l0:List T}(hQ:∀c a d v w,Q (.panic c) (a.put d v) w→Q (.panic c) a w)(ho:Oz w0 X G h w)(hd:Dk k h)(hG:Good Tryz.prog w fun _=>False)(hk:G[k]?=some l0)(hl:l0.length≤64)(hw0:w0.heap.size≤w.heap.size)(hgl:∀g k,EH Tryz.prog g k→g<w0.heap.size)(hf:Fr 146 [(7,h.1),(8,vI (k:Nat))] a)
 (hn:∀a' w' h' X',Fr 146 [(7,h'.1)] a'→Oz w0 X' (G.set k (l0++E0 (65-l0.length))) h' w'→Stp (fun b=>w0.heap.size≤b) w w'→Q .normal a' w'):(pE [1,1,1,1,0,1,0,1,1,1,1,1,1,1,0] (tE Tryz.f5)).wp Tryz.prog Q a w:=by
 have hkl:k<G.length:=(List.getElem?_eq_some_iff.1 hk).1
 have e0:G.set k (l0++E0 0)=G:=by
  show G.set k (l0++[])=G
  rw[List.append_nil]
  apply List.ext_getElem?
  intro j
  by_cases e:k=j
  ·subst e;rw[List.getElem?_set_self hkl,hk]
  ·rw[List.getElem?_set_ne e]
 refine wp_seq (bW (by kernel_rfl) ?_)
 refine bA hf rfl rfl (by decide) rfl fun a hf=>?_
 refine wp_block ?_
 refine HI (m:=65-l0.length) (fun m a W=>∃(h:HX) (X:Nat→Prop) (i:Nat),i+m=65-l0.length∧Fr 146 [(7,h.1),(8,vI (k:Nat)),(9,vI (i:Nat))] a∧Oz w0 X (G.set k (l0++E0 i)) h W∧Dk k h∧Stp (fun b=>w0.heap.size≤b) w W) ?_ ?_
  ⟨h,X,0,Nat.zero_add _,hf.weak ⟨rfl,rfl,rfl,trivial⟩,by rw[e0];exact ho,hd,Stp.refl _ _⟩
 ·rintro K a W ⟨h,X,i,hi,hf,ho,hd,hs⟩
  have hgk:(G.set k (l0++E0 i))[k]?=some (l0++E0 i):=by rw[List.getElem?_set,if_pos rfl,if_pos hkl]
  obtain⟨vk,hv⟩:∃vk,h.2[k]?=some vk:=⟨_,List.getElem?_eq_getElem (by rw[ho.own.len,List.length_set];exact hkl)⟩
  obtain⟨hb,hoff,hcap,hcur,e1,e2,e3,e4,_⟩:=GX ho hv
  rw[List.length_set] at e1 e2
  obtain⟨p,c,rfl,hc⟩:=(ho.own.sub k _ _ hgk hv).shape
  refine wp_seq (wp_seq (bW (by kernel_rfl) ?_))
  refine aT hf rfl rfl (by decide) rfl fun a hf=>?_
  refine aT hf rfl rfl (by decide) rfl fun a hf=>?_
  refine wQ (A:=⟨hb,hoff,none⟩) (l:=G.length) (c:=hcap) hf rfl rfl (by decide) AD pD (congrArg some e1) rfl (by omega) (by omega) fun a hf=>?_
  rw[kE,Int.toNat_natCast] at hf
  refine oK hf rfl rfl (by decide) pD GW rfl e4 fun a hf=>?_
  refine JM hf rfl rfl (by decide) xG rfl fun a hf=>?_
  refine eJ (v:=.bool false) hf rfl rfl (by decide) rfl rfl rfl rfl ?_ fun a hf=>?_
  ·refine(WZ _ _).trans ?_
   rw[kH,decide_eq_false (by rw[List.length_append,QS];omega)]
  refine wp_cond_false (hf.ev rfl) (wp_exit ?_)
  have hi':i=65-l0.length:=by omega
  subst hi'
  exact hn a W h X (hf.weak ⟨rfl,trivial⟩) ho hs
 ·rintro m K hK a W ⟨h,X,i,hi,hf,ho,hd,hs⟩
  have hgk:(G.set k (l0++E0 i))[k]?=some (l0++E0 i):=by rw[List.getElem?_set,if_pos rfl,if_pos hkl]
  obtain⟨vk,hv⟩:∃vk,h.2[k]?=some vk:=⟨_,List.getElem?_eq_getElem (by rw[ho.own.len,List.length_set];exact hkl)⟩
  obtain⟨hb,hoff,hcap,hcur,e1,e2,e3,e4,_⟩:=GX ho hv
  rw[List.length_set] at e1 e2
  obtain⟨p,c,rfl,hc⟩:=(ho.own.sub k _ _ hgk hv).shape
  refine wp_seq (wp_seq (bW (by kernel_rfl) ?_))
  refine aT hf rfl rfl (by decide) rfl fun a hf=>?_
  refine aT hf rfl rfl (by decide) rfl fun a hf=>?_
  refine wQ (A:=⟨hb,hoff,none⟩) (l:=G.length) (c:=hcap) hf rfl rfl (by decide) AD pD (congrArg some e1) rfl (by omega) (by omega) fun a hf=>?_
  rw[kE,Int.toNat_natCast] at hf
  refine oK hf rfl rfl (by decide) pD GW rfl e4 fun a hf=>?_
  refine JM hf rfl rfl (by decide) xG rfl fun a hf=>?_
  refine eJ (v:=.bool true) hf rfl rfl (by decide) rfl rfl rfl rfl ?_ fun a hf=>?_
  ·refine(WZ _ _).trans ?_
   rw[kH,decide_eq_true (by rw[List.length_append,QS];omega)]
  refine wp_cond_true (hf.ev rfl) (wp_skip ?_)
  have hsz:=hs.size
  have hGW:Good Tryz.prog W fun _=>False:=fun q kd hq=>⟨id,let ⟨z,hz⟩:=(hG q kd hq).2;⟨z,hs.cell hz (fun e=>by have e:w0.heap.size≤q:=e;have:=hgl q kd hq;omega)⟩⟩
  refine wp_seq (wp_block (aAX (g:=l0++E0 i) (fun c a d v w h=>by cases d <;> exact hQ c a _ v w h) ho hd hGW hgk (by rw[List.length_append,QS];omega) (by omega) (by omega) (hf.weak ⟨rfl,rfl,rfl,trivial⟩) fun a w3 h3 X3 hf ho3 hd3 t3=>?_))
  refine bW (by kernel_rfl) ?_
  refine aT hf rfl rfl (by decide) rfl fun a hf=>?_
  refine eJ hf rfl rfl (by decide) rfl rfl rfl rfl (QR _ _) fun a hf=>?_
  rw[sK (by omega) (by omega),show ((i:Int)+1)=((i+1:Nat):Int) by omega] at hf
  refine bA hf rfl rfl (by decide) rfl fun a hf=>?_
  rw[List.set_set,List.append_assoc,←La] at ho3
  exact hK a w3 ⟨h3,X3,i+1,by omega,hf.weak ⟨rfl,rfl,rfl,trivial⟩,ho3,hd3,hs.trans (t3.mono fun b hb _=>ho.new b hb)⟩
end
end Go.Eng.Tc
namespace Go.Eng.Tc
open Go.Eng Go.RowKit Go.Proofs Go.Eng.Rt Go.Eng.Tg Go.Eng.Tw
structure PA (G:List (List T)) (k:Nat):Prop where
 none:PF []
 same:PF (G.map (T.sl 9))
 third:∀p rest,G[k]?=some (wT p::rest)→PF ((G.set k (NA p 1::rest)).map (T.sl 9))
 many:∀g0,G[0]?=some g0→PF ((G++List.replicate (17-G.length) g0).map (T.sl 9))
 long:∀l,G[k]?=some l→PF ((G.set k (l++E0 (65-l.length))).map (T.sl 9))
 half:∀l,G[k]?=some l→PF ((G.set k (l.take (l.length/2))).map (T.sl 9))
theorem Vr(L:List T):((aC qN fO).call [.c (.t (.sl 1 L))] [] fun rs po=>some (rs,po))=ob (fO (L,())) fun q=>some ([.c (.t (.v (.bool q.1)))],[]):=by kernel_rfl
theorem Wx(i n:Int):((aC sP eZ).call [.c (.t (.v (vI i))),.c (.t (.v (vI n)))] [] fun rs po=>some (rs,po))=ob (eZ (i,n,())) fun q=>some ([.c (.t (.v (vI q.1)))],[]):=by kernel_rfl
section
variable {w0 w w':World} {X:Nat→Prop} {G:List (List T)} {h:HX} {Q:Exit→Act→World→Prop} {a:Act}
set_option maxRecDepth 20000 in
set_option maxHeartbeats 8000000 in
theorem aAZ{k:Nat}{m:Int}(hQ:∀c a d v w,Q (.panic c) (a.put d v) w→Q (.panic c) a w)(ho:Ow w0 X G h w)(hG:Good Tryz.prog w fun _=>False)(hgl:∀g k,EH Tryz.prog g k→g<w0.heap.size)(hw0:w0.heap.size≤w.heap.size)(hk:k<G.length)(hl:G.length≤17)(hr:∀l∈G,l.length≤64∧(l=[]∨∃p rest,l=wT p::rest))(hP:PA G k)
 (hf:Fr 146 [(7,h.1),(8,vI (k:Nat)),(29,vI m)] a) (hn:∀a' w' v x,Fr 146 [(7,v)] a'→Rd w' (fun _=>False) (.sl 1 x) v→v.oneCell'=true→PF x→Stp (fun b=>w0.heap.size≤b) w w'→Q .normal a' w'):(pE [1,1,1,1,0,1,0] (tE Tryz.f5)).wp Tryz.prog Q a w:=by
 have hz:=ho.oz
 have h1:∀{h:HX} {w:World} {X:Nat→Prop} {G:List (List T)},Oz w0 X G h w→h.1.oneCell'=true:=fun ho=>by obtain⟨p,c,e,_⟩:=ho.shape;rw[e];rfl
 obtain⟨l,hkl⟩:∃l,G[k]?=some l:=⟨_,List.getElem?_eq_getElem hk⟩
 obtain⟨hll,hlc⟩:=hr l (List.mem_of_getElem? hkl)
 have st:∀{w':World} {Y:Nat→Prop},Stp Y w w'→(∀b,Y b→b∈I1 h)→Stp (fun b=>w0.heap.size≤b) w w':=fun hs hY=>hs.mono fun b hb _=>hz.new b (hY b hb)
 have keep:∀{a'},Fr 146 [(7,h.1)] a'→Q .normal a' w:=fun hf=>hn _ w h.1 _ hf hz.rd (h1 hz) hP.same (Stp.refl _ _)
 refine wp_seq (bW (by kernel_rfl) ?_)
 refine eJ hf rfl rfl (by decide) rfl rfl rfl rfl (zG _ _) fun a hf=>?_
 rw[aL] at hf
 refine bA hf rfl rfl (by decide) rfl fun a hf=>?_
 by_cases c11:m=11
 ·rw[decide_eq_true c11] at hf
  refine wp_cond_true (hf.ev rfl) ?_
  refine bW (by kernel_rfl) ?_
  refine bA hf rfl rfl (by decide) rfl fun a hf=>?_
  exact hn a w (.slice none 0 0) [] (hf.weak ⟨rfl,trivial⟩) (.nil 1 (by decide)) rfl hP.none (Stp.refl _ _)
 rw[decide_eq_false c11] at hf
 refine wp_cond_false (hf.ev rfl) ?_
 refine wp_seq (bW (by kernel_rfl) ?_)
 refine eJ hf rfl rfl (by decide) rfl rfl rfl rfl (zG _ _) fun a hf=>?_
 rw[aL] at hf
 refine bA hf rfl rfl (by decide) rfl fun a hf=>?_
 by_cases c12:m=12
 ·rw[decide_eq_true c12] at hf
  refine wp_cond_true (hf.ev rfl) ?_
  obtain⟨vk,hv⟩:∃vk,h.2[k]?=some vk:=⟨_,List.getElem?_eq_getElem (by rw[hz.own.len];exact hk)⟩
  obtain⟨hb,hoff,hcap,hcur,e1,e2,e3,e4,_⟩:=GX hz hv
  obtain⟨p,c,rfl,hc⟩:=(hz.own.sub k _ _ hkl hv).shape
  refine wp_seq (bW (by kernel_rfl) ?_)
  refine aT hf rfl rfl (by decide) rfl fun a hf=>?_
  refine aT hf rfl rfl (by decide) rfl fun a hf=>?_
  refine wQ (A:=⟨hb,hoff,none⟩) (l:=G.length) (c:=hcap) hf rfl rfl (by decide) AD pD (congrArg some e1) rfl (by omega) (by omega) fun a hf=>?_
  rw[kE,Int.toNat_natCast] at hf
  refine oK hf rfl rfl (by decide) pD GW rfl e4 fun a hf=>?_
  refine JM hf rfl rfl (by decide) xG rfl fun a hf=>?_
  refine eJ hf rfl rfl (by decide) rfl rfl rfl rfl (Dn _ _) fun a hf=>?_
  rw[aF] at hf
  rcases hlc with rfl | ⟨q,rest,rfl⟩
  ·rw[decide_eq_false (by simp)] at hf
   refine wp_cond_false (hf.ev rfl) (wp_skip ?_)
   exact keep (hf.weak ⟨rfl,trivial⟩)
  ·rw[decide_eq_true (by simp only[List.length_cons];omega)] at hf
   refine wp_cond_true (hf.ev rfl) ?_
   exact aCY (fun c a d v w h=>hQ c a d v w h) hz (ho.dk k) hG hkl (hf.weak ⟨rfl,rfl,trivial⟩) fun a w' hf hz' hs=>hn a w' h.1 _ hf hz'.rd (h1 hz') (hP.third q rest hkl) (st hs fun b hb=>hb)
 rw[decide_eq_false c12] at hf
 refine wp_cond_false (hf.ev rfl) ?_
 refine wp_seq (bW (by kernel_rfl) ?_)
 refine eJ hf rfl rfl (by decide) rfl rfl rfl rfl (zG _ _) fun a hf=>?_
 rw[aL] at hf
 refine bA hf rfl rfl (by decide) rfl fun a hf=>?_
 by_cases c13:m=13
 ·rw[decide_eq_true c13] at hf
  refine wp_cond_true (hf.ev rfl) ?_
  obtain⟨g0,hg0⟩:∃g0,G[0]?=some g0:=⟨_,List.getElem?_eq_getElem (by omega)⟩
  obtain⟨v0,hv0⟩:∃v0,h.2[0]?=some v0:=⟨_,List.getElem?_eq_getElem (by rw[hz.own.len];omega)⟩
  exact aAW hz hg0 hv0 hw0 hl (hf.weak ⟨rfl,trivial⟩) fun a w' h' X' hf hz' hs=>hn a w' h'.1 _ hf hz'.rd (h1 hz') (hP.many g0 hg0) hs
 rw[decide_eq_false c13] at hf
 refine wp_cond_false (hf.ev rfl) ?_
 refine wp_seq (bW (by kernel_rfl) ?_)
 refine eJ hf rfl rfl (by decide) rfl rfl rfl rfl (zG _ _) fun a hf=>?_
 rw[aL] at hf
 refine bA hf rfl rfl (by decide) rfl fun a hf=>?_
 by_cases c14:m=14
 ·rw[decide_eq_true c14] at hf
  refine wp_cond_true (hf.ev rfl) ?_
  exact aAY (fun c a d v w h=>hQ c a d v w h) hz (ho.dk k) hG hkl hll hw0 hgl (hf.weak ⟨rfl,rfl,trivial⟩) fun a w' h' X' hf hz' hs=>hn a w' h'.1 _ hf hz'.rd (h1 hz') (hP.long l hkl) hs
 rw[decide_eq_false c14] at hf
 refine wp_cond_false (hf.ev rfl) ?_
 refine wp_seq (bW (by kernel_rfl) ?_)
 refine eJ hf rfl rfl (by decide) rfl rfl rfl rfl (zG _ _) fun a hf=>?_
 rw[aL] at hf
 refine bA hf rfl rfl (by decide) rfl fun a hf=>?_
 by_cases c15:m=15
 ·rw[decide_eq_true c15] at hf
  refine wp_cond_true (hf.ev rfl) ?_
  exact aCZ hz hkl (by omega) (hf.weak ⟨rfl,rfl,trivial⟩) fun a w' h' hf hz' hs=>hn a w' h'.1 _ hf hz'.rd (h1 hz') (hP.half l hkl) (st hs fun b hb=>hb)
 rw[decide_eq_false c15] at hf
 refine wp_cond_false (hf.ev rfl) (wp_skip ?_)
 exact keep (hf.weak ⟨rfl,trivial⟩)
set_option maxRecDepth 20000 in
set_option maxHeartbeats 8000000 in
theorem checks(W:World)(hG:Good Tryz.prog W fun _=>False)(zs:List Int)(what by_:Int)(v:Value)(hv:Rd W (fun _=>False) (.sl 1 (zs.map De)) v)(h1:v.oneCell'=true)(haw:cR ()=some (true,()))
 (hP:∀(ls:List (List Z)) (k:Nat),(∀l∈ls,Aa l)→ls.length≤5→k<ls.length→PA (GG ls) k):Calls Tryz.prog 5 #[v,vI what,vI by_] W fun e W'=>e=.returned (.bool true)∧Below W.heap.size W W':=by
 have hgl:∀g k,EH Tryz.prog g k→g<W.heap.size:=fun g k hg=>let ⟨_,hm⟩:=(hG g k hg).2;World.block_lt_of_cell? W _ hm
 have hlen:=Ur (zs.map De)
 refine yP [v,vI what,vI by_] 143 146 Tryz.func5 rfl rfl rfl fun a hf=>?_
 refine wp_seq (bW (by kernel_rfl) ?_)
 refine bA hf rfl rfl (by decide) rfl fun a hf=>?_
 refine wp_seq (wp_seq (bW (by kernel_rfl) ?_))
 refine aT hf rfl rfl (by decide) rfl fun a hf=>?_
 refine oL (args:=[.c (.t (.sl 1 (zs.map De)))]) hf rfl rfl rfl (by decide) ⟨_,Tryz.func6,by kernel_rfl,by kernel_rfl⟩ rfl AW (by rw[Vr,hlen];rfl) hG (pI (.inr ⟨hv,h1⟩)) (fun r1 a w1 hf t1 hr=>?_) rfl
 have:=I0 hr
 subst this
 have hG1:=Dr hG t1
 refine cY hf rfl (by decide) (Yc hf rfl rfl) fun a hf=>?_
 by_cases hle:(zs.map De).length≤500
 case neg=>
  rw[decide_eq_false hle] at hf
  refine wp_cond_true (hf.ev rfl) ?_
  refine wp_seq (bW (by kernel_rfl) ?_)
  refine oL (args:=[]) hf rfl rfl rfl (by decide) ⟨_,Tryz.func7,by kernel_rfl,by kernel_rfl⟩ rfl qS (by rw[Hu,haw];rfl) hG1 ⟨rfl,fun i s y h1 h2=>by simp at h1⟩ (fun r2 a w2 hf t2 hr=>?_) rfl
  have:=I0 hr
  subst this
  refine bA hf rfl rfl (by decide) rfl fun a hf=>?_
  refine wp_ret ?_
  exact EX (fn:=Tryz.f5) (R:=fun e W'=>e=.returned (.bool true)∧Below W.heap.size W W') rfl hf rfl ⟨rfl,(t1.trans t2).below fun b=>id⟩
 rw[decide_eq_true hle] at hf
 refine wp_cond_false (hf.ev rfl) (wp_skip ?_)
 have hD:uZ (zs.map De) 0:=⟨zs,rfl,by rw[List.length_map] at hle;omega,by omega,by omega⟩
 refine wp_seq (bW (by kernel_rfl) ?_)
 refine aT hf rfl rfl (by decide) rfl fun a hf=>?_
 refine xQ hf rfl rfl rfl (by decide) ⟨_,Tryz.func8,by kernel_rfl,by kernel_rfl⟩ rfl (Ky hD hG1 (Ab hv t1) h1) fun e w2 ⟨h,ls,X,e1,ho,t2,hB,h0,h5⟩=>?_
 subst e1
 refine⟨_,rfl,fun a hf=>?_⟩
 have ho:Ow W X (GG ls) h w2:=⟨ho.own,ho.nd,fun b hb=>Nat.le_trans t1.size (ho.new b hb),ho.z,ho.zl⟩
 have hG2:=Dr hG1 t2
 have t12:=t1.trans t2
 refine bA hf rfl rfl (by decide) rfl fun a hf=>?_
 obtain⟨p,c,e1,e2⟩:=ho.oz.shape
 rw[zH] at e1
 have hf:Fr 146 [(7,h.1),(1,vI what),(2,vI by_)] a:=hf.weak ⟨rfl,rfl,rfl,trivial⟩
 rw[e1] at hf
 refine wp_seq (bW (by kernel_rfl) ?_)
 refine aT hf rfl rfl (by decide) rfl fun a hf=>?_
 refine aT hf rfl rfl (by decide) rfl fun a hf=>?_
 refine JM hf rfl rfl (by decide) AD rfl fun a hf=>?_
 refine oL (args:=[.c (.t (.v (vI by_))),.c (.t (.v (vI (ls.length:Nat))))]) hf rfl rfl rfl (by decide) ⟨_,Tryz.func12,by kernel_rfl,by kernel_rfl⟩ rfl nU (by rw[Wx,Pj by_ (by omega) (by omega)];rfl) hG2 (CW (.inr ⟨.v _,rfl⟩) (.inr ⟨.v _,rfl⟩)) (fun r3 a w3 hf t3 hr=>?_) rfl
 have:=I0 hr
 subst this
 have hG3:=Dr hG2 t3
 refine bA hf rfl rfl (by decide) rfl fun a hf=>?_
 have k0:=Gt by_ (n:=(ls.length:Int)) (by omega)
 have k1:=Gu by_ (n:=(ls.length:Int)) (by omega)
 obtain⟨k,hk⟩:∃k:Nat,WC by_ (ls.length:Int)=k:=⟨(WC by_ (ls.length:Int)).toNat,by omega⟩
 dsimp only at hf
 rw[hk] at hf
 refine wp_seq (wp_seq (bW (by kernel_rfl) ?_))
 refine aT hf rfl rfl (by decide) rfl fun a hf=>?_
 refine oL (args:=[.c (.t (.v (vI what))),.c (.t (.v (vI 16)))]) hf rfl rfl rfl (by decide) ⟨_,Tryz.func12,by kernel_rfl,by kernel_rfl⟩ rfl nU (by rw[Wx,Pj what (by omega) (by omega)];rfl) hG3 (CW (.inr ⟨.v _,rfl⟩) (.inr ⟨.v _,rfl⟩)) (fun r4 a w4 hf t4 hr=>?_) rfl
 have:=I0 hr
 subst this
 have hG4:=Dr hG3 t4
 have ho4:Ow W X (GG ls) h w4:=(ho.grow t3 (fun b hb=>.inl hb) (fun b hb=>Nat.lt_of_lt_of_le (ho.zl b hb) t3.size) fun b hb=>hb).grow t4 (fun b hb=>.inl hb) (fun b hb=>Nat.lt_of_lt_of_le (ho.zl b hb) (Nat.le_trans t3.size t4.size)) fun b hb=>hb
 have t14:=(t12.trans t3).trans t4
 rw[←e1] at hf
 refine wp_block ?_
 refine aAZ (k:=k) (m:=WC what 16) (fun c a d v w h=>by cases d <;> exact h) ho4 hG4 hgl t14.size (by rw[zH];omega) (by rw[zH];omega) (fun l hl=>?_) (hP ls k hB h5 (by omega)) (hf.weak ⟨rfl,rfl,rfl,trivial⟩) fun a w5 v x hf hx hx1 hp hs=>?_
 ·obtain⟨q,hq,rfl⟩:=List.mem_map.1 hl
  refine⟨by rw[List.length_map];have:=(hB q hq).1.2.2;omega,?_⟩
  cases q with
  | nil=>exact .inl rfl
  | cons p q=>exact .inr ⟨p,q.map wT,rfl⟩
 have hs5:Stp (fun b=>W.heap.size≤b) W w5:=(t14.mono fun b hb=>hb.elim).trans hs
 have hs5':Stp (fun _=>False) W w5:=hs5.mono fun b hb hl=>by have hb:W.heap.size≤b:=hb;omega
 exact tail (Dr hG hs5') hx hx1 hp hf fun w6 t6=>⟨rfl,(hs5'.trans t6).below fun b=>id⟩
end
end Go.Eng.Tc
namespace Go.Eng.Tc
open Go.Eng Go.Eng.Tw Go.Eng.Tm Go.Eng.Tg Go.Eng.Rt Go.Eng.Nst Go.Eng.Ord Go.Eng.Tcp
theorem W0{x:List T}{e:Int}(h1:dC (x,())=some (e,()))(h2:dF (x,())=some (e,()))(he:¬e=0):PF x:=by
 have si:=QQ (fun x:Int=>x) [] (Nat.zero_le _)
 refine⟨[],[],[],[],e,?_,?_,?_,?_,h1,h2,si,Ve,Sq.w_awake⟩
 ·unfold lQ
  simp only[h1,bC,aL,decide_eq_false he,Bool.not_false,cond_true]
 ·unfold kA
  simp only[h2,bC,aL,decide_eq_false he,Bool.not_false,cond_true]
 ·unfold gP
  simp only[h1,bC,aL,decide_eq_false he,Bool.not_false,cond_true]
 ·unfold eS
  simp only[h2,bC,aL,decide_eq_false he,Bool.not_false,cond_true]
theorem Hv{ls:List (List Z)}(hB:A6 ls)(hl:ls.length≤12)(h64:∀l∈ls,l.length≤64)(hc:Cv ls)(hne:0<ls.length):PF (ls.map lT):=by
 have p:=IQ hB (by omega) hne h64
 have r:=WH hB (by omega) hne h64
 rw[←Dl hc] at r
 have ck:=WL hc
 by_cases hk:Zv ls
 ·have e:=ck.1 hk
  have n1:=aAB hB (by omega) h64 hne
  have n2:=Vf hB (by omega) h64 hne hc
  rw[e,if_pos rfl] at n1 n2
  rw[e] at p r
  have hB2:A6 (nrm ls):=fun l hl=>by
   obtain⟨m,hm,rfl⟩:=List.mem_map.1 ((EV _).mem_iff.1 hl)
   exact IY (hB m hm)
  have si:cP ((List.range ls.length).map fun i=>bT (sG ls i),((List.range ls.length).map fun i=>bT (sG ls i),()))=some (true,()):=
   QQ (fun i=>Z9 (sG ls i)) (List.range ls.length) (by rw[List.length_range];omega)
  exact⟨_,_,_,_,0,n1,n2,(Ql hB hl h64 hc hne).1 hk,(Kw hB hl h64 hc hne).1 hk,p,r,si,LR hB2 (by unfold nrm;rw[(EV _).length_eq,List.length_map];omega),Sq.w_awake⟩
 ·have e:=ck.2 hk
  rw[e] at p r
  exact W0 p r (by decide)
theorem Hw(ls:List (List Z)):(GG ls).map (T.sl 9)=ls.map lT:=by unfold GG lT;rw[List.map_map];rfl
theorem aA0{ls:List (List Z)}(hm:ls.length≤1000){k:Nat}(hk:k<ls.length)(h:64<(bH ls k).length)(hj:∀j,j<k→(bH ls j).length≤64):aZ (ls.map lT,(),())=some (true,()):=by
 have lp:=eQ (F:=aH) k (fun k=>(ls.map lT,(),(ls.length:Int),(k:Int),())) fun j hjk=>by
  have wk:wr .i64 ((j:Int)+1)=((j+1:Nat):Int):=by rw[dK (by omega) (by omega)];push_cast;rfl
  have hl:=hj j hjk
  have ll:lenL ((bH ls j).map wT)=((bH ls j).length:Int):=by rw[aK,List.length_map]
  unfold aH oD
  simp only[aF,decide_eq_true (by omega:(j:Int)<(ls.length:Int)),cond_true,(eA (ls:=ls) (i:=j) (by omega)).1,bC,B4,ll,decide_eq_false (by omega:¬(64:Int)<((bH ls j).length:Int)),cond_false,aJ,wk]
 have hout:aI aH (ls.map lT,(),(ls.length:Int),(k:Int),())=some (.inl ((k:Int),())):=aO (by
  have ll:lenL ((bH ls k).map wT)=((bH ls k).length:Int):=by rw[aK,List.length_map]
  unfold aH oD
  simp only[aF,decide_eq_true (by omega:(k:Int)<(ls.length:Int)),cond_true,(eA hk).1,bC,B4,ll,decide_eq_true (by omega:(64:Int)<((bH ls k).length:Int))])
 rw[hout] at lp
 have lp:aI aH (ls.map lT,(),(ls.length:Int),(0:Int),())=some (.inl ((k:Int),())):=lp
 unfold aZ cA
 simp only[eO,lp,bC,aN,kH,decide_eq_true (by omega:(0:Int)≤(k:Int))]
theorem Qz{ls:List (List Z)}(hm:ls.length≤1000)(hW:∀l∈ls,Wl l)(b0:Bool):∃b:Bool,aI bL (ls.map lT,b0,(0:Int),())=some (.inr (.inl (ls.map lT,b,())))∧(b0=true→b=true)∧((∃k,k<ls.length∧64<(bH ls k).length)→b=true):=by
 have lp:∀d k b,k+d=ls.length→∃b':Bool,aI bL (ls.map lT,b,(k:Int),())=some (.inr (.inl (ls.map lT,b',())))∧(b=true→b'=true)∧((∃j,k≤j∧j<ls.length∧64<(bH ls j).length)→b'=true):=by
  intro d
  induction d with
  | zero=>
   intro k b hk
   have:k=ls.length:=by omega
   subst this
   refine⟨b,aO ?_,id,fun⟨j,h1,h2,_⟩=>by omega⟩
   unfold bL
   simp only[aF,eO,decide_eq_false (by omega:¬(ls.length:Int)<(ls.length:Int)),cond_false]
  | succ d ih=>
   intro k b hk
   have hkl:k<ls.length:=by omega
   have wk:wr .i64 ((k:Int)+1)=((k+1:Nat):Int):=by rw[dK (by omega) (by omega)];push_cast;rfl
   cases b with
   | true=>
    have hp:=Py hW hkl true
    obtain⟨b',e,h1,_⟩:=ih (k+1) true (by omega)
    refine⟨b',?_,h1,fun _=>h1 rfl⟩
    rw[←e]
    refine dU ?_
    unfold bL
    simp only[aF,eO,decide_eq_true (by omega:(k:Int)<(ls.length:Int)),cond_true,bC,hp,aN,kQ,aJ,wk]
   | false=>
    have hp:=Py hW hkl (decide ((64:Int)<((bH ls k).length:Int)))
    obtain⟨b',e,h1,h2⟩:=ih (k+1) (decide ((64:Int)<((bH ls k).length:Int))) (by omega)
    refine⟨b',?_,(fun h=>nomatch h),fun⟨j,q1,q2,q3⟩=>?_⟩
    ·rw[←e]
     refine dU ?_
     unfold bL
     simp only[aF,eO,decide_eq_true (by omega:(k:Int)<(ls.length:Int)),cond_true,cond_false,(eA hkl).1,bC,iB,WQ,hp,aN,kQ,aJ,wk]
    ·rcases Nat.lt_or_ge k j with h | h
     ·exact h2 ⟨j,by omega,q2,q3⟩
     ·have:j=k:=by omega
      subst this
      exact h1 (decide_eq_true (by omega))
 obtain⟨b,e,h1,h2⟩:=lp ls.length 0 b0 (Nat.zero_add _)
 exact⟨b,e,h1,fun⟨k,q1,q2⟩=>h2 ⟨k,Nat.zero_le _,q1,q2⟩⟩
theorem Hx{ls:List (List Z)}(hm:ls.length≤1000)(h0:0<ls.length)(hW:∀l∈ls,Wl l)(h:16<ls.length∨∃k,k<ls.length∧64<(bH ls k).length∧∀j,j<k→(bH ls j).length≤64):PF (ls.map lT):=by
 have v:=Gx hW hm
 obtain⟨b,r,hb1,hb2⟩:=Qz hm hW (decide ((16:Int)<(ls.length:Int)))
 have hb:b=true:=by
  rcases h with h | ⟨k,h1,h2,_⟩
  ·exact hb1 (decide_eq_true (by omega))
  ·exact hb2 ⟨k,h1,h2⟩
 rw[hb] at r
 refine W0 (e:=2) ?_ ?_ (by decide)
 ·unfold dC
  simp only[eO,aL,decide_eq_false (by omega:¬(ls.length:Int)=0),cond_false,v,bC,aN,kQ,aF]
  by_cases hl:16<ls.length
  ·simp only[decide_eq_true (by omega:(16:Int)<(ls.length:Int)),cond_true]
  ·obtain⟨k,h1,h2,h3⟩:=h.resolve_left hl
   simp only[decide_eq_false (by omega:¬(16:Int)<(ls.length:Int)),cond_false,aA0 hm h1 h2 h3,bC,cond_true]
 ·unfold dF
  simp only[eO,aL,decide_eq_false (by omega:¬(ls.length:Int)=0),cond_false,aF,r,bC,aN,kQ,cond_true]
end Go.Eng.Tc
namespace Go.Eng.Tc
open Go.Eng Go.Eng.Tw Go.Eng.Tm Go.Eng.Tg Go.Eng.Rt Go.Eng.Nst Go.Eng.Ord Go.Eng.Tcp
theorem Ra{ls:List (List Z)}(hm:ls.length≤1000)(hW:∀l∈ls,Wl l){k:Nat}(hk:k<ls.length){p:Z}{rest:List T}(hp:p.1.natAbs<1000000∧p.2.natAbs<1000000)(hr:rest.length≤100):PF ((ls.map lT).set k (T.sl 9 (NA p 1::rest))):=by
 obtain⟨R,hR⟩:∃R,R=T.sl 9 (NA p 1::rest):=⟨_,rfl⟩
 obtain⟨xs,hx⟩:∃xs,xs=(ls.map lT).set k R:=⟨_,rfl⟩
 rw[←hR,←hx]
 have ln:lenL xs=(ls.length:Int):=by rw[hx,aK,List.length_set,List.length_map]
 have gj:∀j,j<k→bG xs (j:Int)=some (lT (bH ls j)):=fun j hj=>by
  have:=(eA (ls:=ls) (i:=j) (by omega)).1
  rw[bY] at this ⊢
  rw[hx,List.getElem?_set_ne (by omega)]
  exact this
 have gk:bG xs (k:Int)=some R:=by rw[bY,hx,List.getElem?_set_self (by rw[List.length_map];exact hk)]
 have rc:T.cell R 0=R:=by rw[hR];unfold T.cell;rfl
 have rl:T.len? R=some ((rest.length+1:Nat):Int):=by
  rw[hR]
  show (if (9:Nat)<1000000000 then some (lenL (NA p 1::rest)) else none)=_
  rw[if_pos (by decide),aK]
  rfl
 have rs:T.sl? 9 R=some (NA p 1::rest):=by rw[hR];unfold T.sl?;exact if_pos rfl
 have rr:T.rw? 9 R=some (NA p 1::rest):=by
  have:T.sl? 9 (T.cell R 0)=some (NA p 1::rest):=by rw[rc];exact rs
  have:=Xv (by decide) this
  rwa[rc] at this
 have g0:bG (NA p 1::rest) 0=some (NA p 1):=by rw[show (0:Int)=((0:Nat):Int) from rfl,bY];rfl
 have c0:T.bool? (T.cell (NA p 1) 0)=some (aM (p.1:Rat)):=rfl
 have c1:T.sl? 1 (T.cell (NA p 1) 1)=some (aU (p.1:Rat)):=tA _ _
 have c2:T.sl? 1 (T.cell (NA p 1) 2)=some (aY (p.1:Rat)):=tA _ _
 have c3:T.bool? (T.cell (NA p 1) 3)=some (aM (p.2:Rat)):=rfl
 have c4:T.sl? 1 (T.cell (NA p 1) 4)=some (aU (p.2:Rat)):=tA _ _
 have c5:T.sl? 1 (T.cell (NA p 1) 5)=some (aY (p.2:Rat)):=tA _ _
 have c6:T.bool? (T.cell (NA p 1) 6)=some (aM ((1:Int):Rat)):=rfl
 have c7:T.sl? 1 (T.cell (NA p 1) 7)=some (aU ((1:Int):Rat)):=tA _ _
 have c8:T.sl? 1 (T.cell (NA p 1) 8)=some (aY ((1:Int):Rat)):=tA _ _
 have sgq:lK ((1:Int):Rat)=1:=by decide +kernel
 refine W0 (e:=1) ?_ ?_ (by decide)
 ·have cf:=Gw (p:=p) (z:=1) hp (by decide)
  have sg:=A3 (kP (n:=1) (by decide)).fit
  rw[sgq] at sg
  have hit:fY (xs,xs,(ls.length:Int),(k:Int),R,((rest.length+1:Nat):Int),(0:Int),())=some (.inr (.inl (1,()))):=by
   unfold fY
   simp -implicitDefEqProofs only[aF,decide_eq_true (by omega:(0:Int)<((rest.length+1:Nat):Int)),cond_true,rr,g0,bC,c0,c1,c2,c3,c4,c5,c6,c7,c8,cf,cond_false,sg,aL,decide_eq_false (by decide:¬(1:Int)=0),Bool.not_false]
  have lp:=eQ (F:=dX) k (fun j=>(xs,xs,(ls.length:Int),(j:Int),())) fun j hj=>by
   have wk:wr .i64 ((j:Int)+1)=((j+1:Nat):Int):=by rw[dK (by omega) (by omega)];push_cast;rfl
   have hp:=Wt (hW _ (bO (ls:=ls) (i:=j) (by omega))) xs xs (ls.length:Int) (j:Int)
   unfold dX
   simp only[aF,decide_eq_true (by omega:(j:Int)<(ls.length:Int)),cond_true,gj j hj,bC,iB,WQ,hp,aN,kQ,aJ,wk]
  have hout:dX (xs,xs,(ls.length:Int),(k:Int),())=some (.inr (.inl (1,()))):=by
   unfold dX
   simp only[aF,decide_eq_true (by omega:(k:Int)<(ls.length:Int)),cond_true,gk,bC,rc,rl,aO hit,aN]
  rw[aO hout] at lp
  have lp:aI dX (xs,xs,(ls.length:Int),(0:Int),())=some (.inl (1,())):=lp
  unfold dC
  simp only[ln,aL,decide_eq_false (by omega:¬(ls.length:Int)=0),cond_false,lp,bC,aN]
 ·have v1:=AA (n:=p.1) hp.1
  have v2:=AA (n:=p.2) hp.2
  have v3:=AA (n:=1) (by decide)
  have sg:=DW ((1:Int):Rat)
  rw[sgq] at sg
  have vv:mP (aM (p.1:Rat),aU (p.1:Rat),aY (p.1:Rat),aM (p.2:Rat),aU (p.2:Rat),aY (p.2:Rat),aM ((1:Int):Rat),aU ((1:Int):Rat),aY ((1:Int):Rat),())=some (true,()):=by
   unfold mP
   simp only[v1,v2,v3,bC,cond_true]
  have hit:∀b,cD (xs,b,(k:Int),(0:Int),())=some (.inr (.inl (1,()))):=fun b=>by
   unfold cD
   simp -implicitDefEqProofs only[gk,bC,rc,rl,aF,decide_eq_true (by omega:(0:Int)<((rest.length+1:Nat):Int)),cond_true,rr,g0,c0,c1,c2,c3,c4,c5,c6,c7,c8,vv,Bool.not_true,cond_false,sg,aL,decide_eq_false (by decide:¬(1:Int)=0),Bool.not_false]
  have lp:∀d j b,j+d=k→aI bL (xs,b,(j:Int),())=some (.inl (1,())):=by
   intro d
   induction d with
   | zero=>
    intro j b hj
    have:j=k:=by omega
    subst this
    refine aO ?_
    unfold bL
    cases b with
    | true=>simp only[aF,ln,decide_eq_true (by omega:(j:Int)<(ls.length:Int)),cond_true,aO (hit true),bC,aN]
    | false=>simp only[aF,ln,decide_eq_true (by omega:(j:Int)<(ls.length:Int)),cond_true,cond_false,gk,bC,rc,rl,aO (hit _),aN]
   | succ d ih=>
    intro j b hj
    have hjk:j<k:=by omega
    have wk:wr .i64 ((j:Int)+1)=((j+1:Nat):Int):=by rw[dK (by omega) (by omega)];push_cast;rfl
    have pts:∀b,aI cD (xs,b,(j:Int),(0:Int),())=some (.inr (.inl (xs,b,(j:Int),()))):=fun b=>by
     have hb:=hW _ (bO (ls:=ls) (i:=j) (by omega))
     have hle:=hb.1
     have lp:=eQ (F:=cD) (bH ls j).length (fun q=>(xs,b,(j:Int),(q:Int),())) fun q hq=>by
      have wq:wr .i64 ((q:Int)+1)=((q+1:Nat):Int):=by rw[dK (by omega) (by omega)];push_cast;rfl
      obtain⟨c0,c1,c2,c3,c4,c5,c6,c7,c8⟩:=cells (aV (bH ls j) q)
      have v:=TT (hb.2 _ (yM (by omega) q).1)
      have sg:dA (false,([]:List T),([]:List T),())=some (0,()):=by
       have:=DW 0
       rw[Fw,DY,DZ] at this
       exact this
      unfold cD
      simp -implicitDefEqProofs only[gj j hjk,bC,iB,WQ,aF,decide_eq_true (by omega:(q:Int)<((bH ls j).length:Int)),cond_true,GT,sS hq,c0,c1,c2,c3,c4,c5,c6,c7,c8,v,Bool.not_true,cond_false,sg,aL,decide_true,aJ,wq]
     have hout:cD (xs,b,(j:Int),((bH ls j).length:Int),())=some (.inr (.inr (.inl (xs,b,(j:Int),())))):=by
      unfold cD
      simp only[gj j hjk,bC,iB,WQ,aF,decide_eq_false (by omega:¬((bH ls j).length:Int)<((bH ls j).length:Int)),cond_false]
     rw[aO hout] at lp
     exact lp
    have go:∃b',bL (xs,b,(j:Int),())=some (.inl (xs,b',((j+1:Nat):Int),())):=by
     cases b with
     | true=>
      refine⟨true,?_⟩
      unfold bL
      simp only[aF,ln,decide_eq_true (by omega:(j:Int)<(ls.length:Int)),cond_true,bC,pts,aN,kQ,aJ,wk]
     | false=>
      refine⟨decide ((64:Int)<((bH ls j).length:Int)),?_⟩
      unfold bL
      simp only[aF,ln,decide_eq_true (by omega:(j:Int)<(ls.length:Int)),cond_true,cond_false,gj j hjk,bC,iB,WQ,pts,aN,kQ,aJ,wk]
    obtain⟨b',e⟩:=go
    rw[dU e]
    exact ih (j+1) b' (by omega)
  have l0:=lp k 0 (decide ((16:Int)<(ls.length:Int))) (Nat.zero_add _)
  have l0:aI bL (xs,decide ((16:Int)<(ls.length:Int)),(0:Int),())=some (.inl (1,())):=l0
  unfold dF
  simp only[ln,aL,decide_eq_false (by omega:¬(ls.length:Int)=0),cond_false,aF,l0,bC,aN]
theorem Rb(n:Nat):E0 n=((List.range n).map fun j=>(((j*j:Nat):Int),(j:Int))).map wT:=by unfold E0;rw[List.map_map];rfl
theorem Hy{ls:List (List Z)}{k:Nat}(hk:k<ls.length)(l:List Z)(j:Nat):bH (ls.set k l) j=if k=j then l else bH ls j:=by
 unfold bH
 rw[List.getD_eq_getElem?_getD,List.getElem?_set]
 split
 ·rfl
 ·rw[List.getD_eq_getElem?_getD]
theorem all{ls:List (List Z)}(hB:∀l∈ls,Aa l)(h5:ls.length≤5){k:Nat}(hk:k<ls.length):PA (GG ls) k:=by
 have aB:A6 ls:=fun l hl=>(hB l hl).1.1
 have aW:∀l∈ls,Wl l:=fun l hl=>Pn (aB l hl)
 have a8:∀l∈ls,l.length≤8:=fun l hl=>(hB l hl).1.2.2
 have hS:∀l∈ls,Shp l:=fun l hl=>(hB l hl).1.2.1
 have gk:(GG ls)[k]?=some ((bH ls k).map wT):=by unfold GG bH;rw[List.getElem?_map,List.getD_eq_getElem?_getD,List.getElem?_eq_getElem hk];rfl
 have mk:=bO (ls:=ls) hk
 have st:∀l:List Z,((GG ls).set k (l.map wT)).map (T.sl 9)=(ls.set k l).map lT:=fun l=>by rw[←Hw];unfold GG;simp only[List.map_set]
 refine⟨W0 Sq.nilChecks.1 Sq.nilChecks.2 (by decide),?_,fun p rest h=>?_,fun g0 h=>?_,fun l h=>?_,fun l h=>?_⟩
 ·rw[Hw]
  exact Hv aB (by omega) (fun l hl=>by have:=a8 l hl;omega) (Wu hS) (by omega)
 ·rw[gk] at h
  have h':(bH ls k).map wT=wT p::rest:=Option.some.inj h
  obtain⟨q,m,hq⟩:∃q m,bH ls k=q::m:=by
   cases hn:bH ls k with
   | nil=>rw[hn] at h';cases h'
   | cons q m=>exact⟨q,m,rfl⟩
  rw[hq,List.map_cons] at h'
  have h1:wT q=wT p:=(List.cons.inj h').1
  have h2:m.map wT=rest:=(List.cons.inj h').2
  have e:NA p 1=NA q 1:=by
   unfold wT at h1
   have h1:=T.agg.inj h1
   simp only[List.cons.injEq,T.v.injEq,Value.bool.injEq,T.sl.injEq,true_and,and_true] at h1
   obtain⟨a,b,c,d,e,f⟩:=h1
   unfold NA
   rw[a,b,c,d,e,f]
  rw[e,List.map_set,Hw]
  have hb:=aW _ mk
  rw[hq] at hb
  exact Ra (by omega) aW hk (hb.2 q (List.mem_cons_self ..)) (by rw[←h2,List.length_map];have:=a8 _ mk;rw[hq,List.length_cons] at this;omega)
 ·have h0:0<ls.length:=by omega
  have g:(GG ls)[0]?=some (ls[0].map wT):=by unfold GG;rw[List.getElem?_map,List.getElem?_eq_getElem h0];rfl
  rw[g] at h
  cases h
  have e:(GG ls++List.replicate (17-(GG ls).length) (ls[0].map wT)).map (T.sl 9)=(ls++List.replicate (17-ls.length) ls[0]).map lT:=by
   rw[←Hw,zH]
   unfold GG
   simp only[List.map_append,List.map_replicate]
  rw[e]
  refine Hx (by simp;omega) (by simp;omega) (fun l hl=>?_) (.inl (by simp;omega))
  rcases List.mem_append.1 hl with hl | hl
  ·exact aW l hl
  ·rw[(List.mem_replicate.1 hl).2];exact aW _ (List.getElem_mem h0)
 ·rw[gk] at h
  cases h
  rw[List.length_map,Rb,←List.map_append,st]
  have hl:=a8 _ mk
  refine Hx (by rw[List.length_set];omega) (by rw[List.length_set];omega) (fun l hl2=>?_) (.inr ⟨k,by rw[List.length_set];exact hk,?_,fun j hj=>?_⟩)
  ·rcases List.mem_or_eq_of_mem_set hl2 with hl2 | rfl
   ·exact aW l hl2
   ·refine⟨by simp;omega,fun p hp=>?_⟩
    rcases List.mem_append.1 hp with hp | hp
    ·exact(aW _ mk).2 p hp
    ·obtain⟨j,hj,rfl⟩:=List.mem_map.1 hp
     have hj:=List.mem_range.1 hj
     have:j*j≤65*65:=Nat.mul_le_mul (by omega) (by omega)
     dsimp only
     omega
  ·rw[Hy hk,if_pos rfl]
   simp;omega
  ·rw[Hy hk,if_neg (by omega)]
   have:=a8 _ (bO (ls:=ls) (i:=j) (by omega));omega
 ·rw[gk] at h
  cases h
  rw[List.length_map,←List.map_take,st]
  have hmem:∀l∈ls.set k ((bH ls k).take ((bH ls k).length/2)),l∈ls∨l=(bH ls k).take ((bH ls k).length/2):=fun l hl=>List.mem_or_eq_of_mem_set hl
  have hBt:Bx ((bH ls k).take ((bH ls k).length/2)):=by
   have:=aB _ mk
   exact⟨by rw[List.length_take];have:=this.1;omega,fun p hp=>this.2.1 p (List.mem_of_mem_take hp),fun p hp q hq=>this.2.2 p (List.mem_of_mem_take hp) q (List.mem_of_mem_take hq)⟩
  refine Hv (fun l hl=>?_) (by rw[List.length_set];omega) (fun l hl=>?_) (fun h1 h2=>?_) (by rw[List.length_set];omega)
  ·rcases hmem l hl with hl | rfl
   ·exact aB l hl
   ·exact hBt
  ·rcases hmem l hl with hl | rfl
   ·have:=a8 l hl;omega
   ·rw[List.length_take];have:=a8 _ mk;omega
  ·refine Wu (fun l hl=>?_) h1 h2
   rcases hmem l hl with hl2 | e
   ·exact hS l hl2
   ·have h3:=(h1 l hl).1
    rw[e,List.length_take] at h3
    rw[e]
    exact(hB _ mk).2.resolve_left (by omega)
end Go.Eng.Tc
