/- The functions and the laws of this seat in plain words; each statement names its conditions. -/
import Derived.Test.YtlcfmafkolgagaaGreatLaw
import Derived.Test.YtlcfmafkolgagaaGreatGen3
import Derived.Test.YtlcfmafkolgagaaGreatEng3
set_option linter.unusedSimpArgs false
set_option linter.unusedVariables false
namespace Go.Eng.Sq
open Go.Eng Go.Eng.Tm Go.Eng.Tw Go.Eng.Rt Go.Eng.Tg
def KQ(ls:List (List Z)):Prop:=∀l∈ls,BS l
theorem Qo{L:List T}{a:Int}(hD:kY L a):∃a' ps,cU ((),L,a,())=some (ps.map wT,L,a',())∧kY L a'∧BS ps:=by
 obtain⟨v0,a0,e0,l0,h0,D0⟩:=oS hD (n:=9) (by omega) (by omega)
 obtain⟨v1,a1,e1,l1,h1,D1⟩:=oS D0 (n:=9) (by omega) (by omega)
 obtain⟨v2,a2,e2,l2,h2,D2⟩:=oS D1 (n:=5) (by omega) (by omega)
 obtain⟨v3,a3,e3,l3,h3,D3⟩:=oS D2 (n:=3) (by omega) (by omega)
 have w0:wr .i64 (v0-4)=v0-4:=sR (by omega) (by omega)
 have w1:wr .i64 (v1-4)=v1-4:=sR (by omega) (by omega)
 have w2:wr .i64 (1+v2)=1+v2:=sR (by omega) (by omega)
 obtain⟨a4,s,e4,D4,hs⟩:=RJ (L:=L) (x:=v0-4) (y:=v1-4) (r:=1+v2) (by omega) (by omega) (by omega) (by omega) (turn:=decide (v3=2)) 8 D3 (s:=[]) (i:=0) (by omega) (List.nil_sublist _)
 have hc:=Mi hs
 have hsm:=Mj hs
 have hl:s.length≤8:=by have:=hs.length_le;rw[Dt] at this;exact this
 have hr0:0<1+v2:=by omega
 obtain⟨v5,a5,e5,l5,h5,D5⟩:=oS D4 (n:=7) (by omega) (by omega)
 have fold:((),v0-4,v1-4,1+v2,(),([]:List T),decide (v3=2),(0:Int),L,a3,(2:Int),(0:Int),(2:Int),(1:Int),(1:Int),(2:Int),(-1:Int),(2:Int),(-2:Int),(0:Int),(-2:Int),(-1:Int),(0:Int),(-2:Int),(1:Int),(-1:Int),())=DS L a3 (v0-4) (v1-4) (1+v2) (decide (v3=2)) ((0:Nat):Int) ((([]:List Z).map (pz (v0-4) (v1-4) (1+v2))).map wT):=rfl
 have hcell:∀p,T.bool? (T.cell (wT p) 0)=some (aM (p.1:Rat))∧T.sl? 1 (T.cell (wT p) 1)=some (aU (p.1:Rat))∧T.sl? 1 (T.cell (wT p) 2)=some (bA (p.1:Rat)) ∧
  T.bool? (T.cell (wT p) 3)=some (aM (p.2:Rat))∧T.sl? 1 (T.cell (wT p) 4)=some (aU (p.2:Rat))∧T.sl? 1 (T.cell (wT p) 5)=some (bA (p.2:Rat)) ∧
  T.bool? (T.cell (wT p) 6)=some false∧T.sl? 1 (T.cell (wT p) 7)=some []∧T.sl? 1 (T.cell (wT p) 8)=some []:=fun p=>⟨rfl,wH _ _,wH _ _,rfl,wH _ _,wH _ _,rfl,wH _ _,wH _ _⟩
 have bx:∀{ps:List (Int×Int)},ps.length≤8→Zn (v0-4) (v1-4) ps→Bx ps:=fun {ps} hl hs=>⟨by omega,fun p hp=>by have:=hs p hp;omega,fun p hp q hq=>by have h1:=hs p hp;have h2:=hs q hq;omega⟩
 have bs:∀{t:List Z},W3 t=true→t.length≤8→(∀p∈t,p.1.natAbs≤2∧p.2.natAbs≤2)→BS (t.map (pz (v0-4) (v1-4) (1+v2))):=fun {t} h1 h2 h3=>
  ⟨bx (by rw[List.length_map];exact h2) (Xu (by omega) (by omega) h3),⟨_,_,_,t,hr0,h1,rfl⟩,by rw[List.length_map];exact h2⟩
 unfold cU
 simp only[e0,e1,e2,e3,aY,bK,aO,aR,w0,w1,w2,fold,e4,e5,aP]
 by_cases h6:v5=6
 ·rw[decide_eq_true h6]
  simp only[cond_true,aF,aL,List.length_map]
  match s,hl,hc,hsm with
  | [],hl,hc,hsm=>exact⟨a5,([]:List Z).map (pz (v0-4) (v1-4) (1+v2)),rfl,D5,bs (t:=[]) hc.1 hl hsm⟩
  | [p],hl,hc,hsm=>exact⟨a5,[p].map (pz (v0-4) (v1-4) (1+v2)),rfl,D5,bs (t:=[p]) hc.1 hl hsm⟩
  | p'::q'::r',hl,hc,hsm=>
   obtain⟨p,hpe⟩:∃p,p=pz (v0-4) (v1-4) (1+v2) p':=⟨_,rfl⟩
   obtain⟨q,hqe⟩:∃q,q=pz (v0-4) (v1-4) (1+v2) q':=⟨_,rfl⟩
   obtain⟨r,hre⟩:∃r,r=r'.map (pz (v0-4) (v1-4) (1+v2)):=⟨_,rfl⟩
   have hall:(p'::q'::r').map (pz (v0-4) (v1-4) (1+v2))=p::q::r:=by rw[hpe,hqe,hre];rfl
   have hall2:(q'::p'::r').map (pz (v0-4) (v1-4) (1+v2))=q::p::r:=by rw[hpe,hqe,hre];rfl
   have hll:(p'::q'::r').length=(p::q::r).length:=by rw[←hall,List.length_map]
   rw[hall,hll]
   obtain⟨p0,p1,p2,p3,p4,p5,p6,p7,p8⟩:=hcell p
   obtain⟨q0,q1,q2,q3,q4,q5,q6,q7,q8⟩:=hcell q
   have hlen:(((p::q::r).length:Nat):Int)=(r.length:Int)+2:=by simp;omega
   have c1:dO ((r.length:Int)+2) 1=some 1:=nX (i:=1) (by omega)
   have c0:dO ((r.length:Int)+2) 0=some 0:=nX (i:=0) (by omega)
   have hlt:decide ((1:Int)<(r.length:Int)+2)=true:=decide_eq_true (by omega)
   have u1:=Un (.v (.bool (aM (p.1:Rat)))) (.sl 1 (aU (p.1:Rat))) (.sl 1 (bA (p.1:Rat))) (.v (.bool (aM (p.2:Rat)))) (.sl 1 (aU (p.2:Rat))) (.sl 1 (bA (p.2:Rat))) (.v (.bool false)) (.sl 1 []) (.sl 1 [])
    (.v (.bool (aM (q.1:Rat)))) (.sl 1 (aU (q.1:Rat))) (.sl 1 (bA (q.1:Rat))) (.v (.bool (aM (q.2:Rat)))) (.sl 1 (aU (q.2:Rat))) (.sl 1 (bA (q.2:Rat))) (.v (.bool false)) (.sl 1 []) (.sl 1 [])
   have u2:=Un (.v (.bool (aM (q.1:Rat)))) (.sl 1 (aU (q.1:Rat))) (.sl 1 (bA (q.1:Rat))) (.v (.bool (aM (q.2:Rat)))) (.sl 1 (aU (q.2:Rat))) (.sl 1 (bA (q.2:Rat))) (.v (.bool false)) (.sl 1 []) (.sl 1 [])
    (.v (.bool (aM (p.1:Rat)))) (.sl 1 (aU (p.1:Rat))) (.sl 1 (bA (p.1:Rat))) (.v (.bool (aM (p.2:Rat)))) (.sl 1 (aU (p.2:Rat))) (.sl 1 (bA (p.2:Rat))) (.v (.bool false)) (.sl 1 []) (.sl 1 [])
   have u1':T.upd 9 (wT p) 0 [.v (.bool (aM (q.1:Rat))),.sl 1 (aU (q.1:Rat)),.sl 1 (bA (q.1:Rat)),.v (.bool (aM (q.2:Rat))),.sl 1 (aU (q.2:Rat)),.sl 1 (bA (q.2:Rat)),.v (.bool false),.sl 1 [],.sl 1 []]=wT q:=u1
   have u2':T.upd 9 (wT q) 0 [.v (.bool (aM (p.1:Rat))),.sl 1 (aU (p.1:Rat)),.sl 1 (bA (p.1:Rat)),.v (.bool (aM (p.2:Rat))),.sl 1 (aU (p.2:Rat)),.sl 1 (bA (p.2:Rat)),.v (.bool false),.sl 1 [],.sl 1 []]=wT p:=u2
   refine⟨a5,q::p::r,?_,D5,by rw[←hall2];exact bs (t:=q'::p'::r') hc.2 (by simpa using hl) fun x hx=>hsm x (by
    simp only[List.mem_cons] at hx ⊢
    rcases hx with h | h | h
    ·exact .inr (.inl h)
    ·exact .inl h
    ·exact .inr (.inr h))⟩
   ·have g1:((p::q::r).map wT)[1]?=some (wT q):=rfl
    have g0:((p::q::r).map wT)[0]?=some (wT p):=rfl
    have s1:((p::q::r).map wT).set 0 (wT q)=wT q::wT q::r.map wT:=rfl
    have hlen2:(((wT q::wT q::r.map wT).length:Nat):Int)=(r.length:Int)+2:=by simp;omega
    have g2:(wT q::wT q::r.map wT)[1]?=some (wT q):=rfl
    simp only[hlen,hlt,cond_true,c1,c0,aY,pW,g1,g0,p0,p1,p2,p3,p4,p5,p6,p7,p8,q0,q1,q2,q3,q4,q5,q6,q7,q8,u1',s1,hlen2,g2,u2',aP]
    rfl
 ·rw[decide_eq_false h6]
  exact⟨a5,s.map (pz (v0-4) (v1-4) (1+v2)),rfl,D5,bs hc.1 hl hsm⟩
theorem XH{L:List T}:∀(k:Nat) (n a:Int) (ls:List (List (Int×Int))),n=k→n≤3→ls.length+k≤3→kY L a→KQ ls→∃ls' a',aH bM ((),ls.map lT,n,L,a,())=some (.inl (ls'.map lT,L,a',()))∧KQ ls'∧ls'.length≤3:=by
 intro k
 induction k with
 | zero=>
  intro n a ls hn _ hl hD hB
  refine⟨ls,a,aQ ?_,hB,by omega⟩
  unfold bM
  simp only[aF]
  rw[decide_eq_false (by omega)]
  rfl
 | succ k ih=>
  intro n a ls hn h3 hl hD hB
  obtain⟨a1,ps,e1,D1,B1⟩:=Qo hD
  have hr:=kR (l:=ls.map lT) (m:=[lT ps]) (b:=24) (by simp only[List.length_map,List.length_cons,List.length_nil];omega) (by decide)
  have hr:room (ls.map lT) [T.sl 9 (ps.map wT)] 24=some ((ls++[ps]).map lT):=by rw[List.map_append];exact hr
  have hw:wr .i64 (n-1)=n-1:=sR (by omega) (by omega)
  have hgo:bM ((),ls.map lT,n,L,a,())=some (.inl ((),(ls++[ps]).map lT,n-1,L,a1,())):=by
   unfold bM
   simp only[aF,decide_eq_true (show (0:Int)<n by omega),cond_true,e1,aY,hr,bK,hw]
  rw[dN hgo]
  exact ih (n-1) a1 (ls++[ps]) (by omega) (by omega) (by rw[List.length_append];simp only[List.length_cons,List.length_nil];omega) D1 fun l hl2=>by
   rcases List.mem_append.1 hl2 with h | h
   ·exact hB l h
   ·rw[List.mem_singleton.1 h];exact B1
theorem Mk{L:List T}{a:Int}(hD:kY L a):∃ls a',dL ((),L,a,())=some (ls.map lT,L,a',())∧KQ ls∧ls.length≤3:=by
 obtain⟨v0,a0,e0,l0,h0,D0⟩:=oS hD (n:=3) (by omega) (by omega)
 have hw:wr .i64 (1+v0)=1+v0:=sR (by omega) (by omega)
 obtain⟨k,hk⟩:∃k:Nat,1+v0=k:=⟨(1+v0).toNat,by omega⟩
 obtain⟨ls,a',e,h1,h2⟩:=XH (L:=L) k (1+v0) a0 [] hk (by omega) (by simp;omega) D0 (fun l hl=>by cases hl)
 refine⟨ls,a',?_,h1,h2⟩
 have e:aH bM ((),([]:List T),1+v0,L,a0,())=some (.inl (ls.map lT,L,a',())):=e
 unfold dL
 simp only[e0,aY,aO,hw,e,aP]
end Go.Eng.Sq
namespace Go.Eng.Sq
open Go.Eng Go.Eng.Tm Go.Eng.Tw Go.Eng.Rt Go.Eng.Tg
def Qp(r:Int)(l:List (Int×Int)):Prop:=1≤r∧(l=Li.map (pz 0 0 r)∨l=W4.map (pz 0 0 r))
theorem Uz{r:Int}(hr:r≤9){m:List (Int×Int)}(h:Qp r m){j:Nat}(hj:j<4):BS (m.drop j++m.take j):=by
 obtain⟨h1,h2⟩:=h
 have hc:=Ug
 rw[List.all_eq_true] at hc
 have hc:=hc j (List.mem_range.2 hj)
 rw[Bool.and_eq_true] at hc
 have key:∀w:List Z,w.length=4→(∀p∈w,p.1.natAbs≤1∧p.2.natAbs≤1)→W3 (w.drop j++w.take j)=true→BS ((w.map (pz 0 0 r)).drop j++(w.map (pz 0 0 r)).take j):=fun w hw hp hk=>by
  rw[←List.map_drop,←List.map_take,←List.map_append]
  have hl:((w.drop j++w.take j).map (pz 0 0 r)).length≤8:=by rw[List.length_map,List.length_append,List.length_drop,List.length_take];omega
  have hb:∀p∈(w.drop j++w.take j).map (pz 0 0 r),p.1.natAbs≤9∧p.2.natAbs≤9:=fun p hm=>by
   obtain⟨q,hq,rfl⟩:=List.mem_map.1 hm
   have hq:q∈w:=by
    rcases List.mem_append.1 hq with h | h
    ·exact List.mem_of_mem_drop h
    ·exact List.mem_of_mem_take h
   obtain⟨b1,b2⟩:=hp q hq
   have bd:∀c:Int,c.natAbs≤1→(0+r*c).natAbs≤9:=fun c hc=>by
    rw[Int.zero_add,Int.natAbs_mul]
    have:=Nat.mul_le_mul (show r.natAbs≤9 by omega) hc
    omega
   exact⟨bd _ b1,bd _ b2⟩
  exact⟨⟨by omega,fun p hp=>by have:=hb p hp;omega,fun p hp q hq=>by have h1:=hb p hp;have h2:=hb q hq;omega⟩,⟨0,0,r,_,by omega,hk,rfl⟩,hl⟩
 rcases h2 with rfl | rfl
 ·exact key Li rfl (by decide) hc.1
 ·exact key W4 rfl (by decide) hc.2
theorem CV{L:List T}{a n i:Int}(hD:kY L a)(hi:0≤i)(hn:n≤4){r:Int}(hr:r≤9){ls:List (List (Int×Int))}(hl:ls.length≤5){m:List (Int×Int)}(hm:m.length=4)(hS:Qp r m)(hin:i<n):∃ps a',(ob (aD ((),(4:Int),L,a,())) fun x64=>ob (AD 4 x64.1 4) fun x65=>ob (room [] (fW (m.map wT) x65.1 x65.2) 168) fun x66=>ob (AD 4 (0:Int) x64.1) fun x67=>ob (room x66 (fW (m.map wT) x67.1 x67.2) 168) fun x68=>ob (room (ls.map lT) [T.sl 9 x68] 24) fun x69=>(some (Sum.inl ((),x69,n,wr .i64 (i+1),x64.2.1,x64.2.2.1,())):Option ((Unit×List T×Int×Int×List T×Int×Unit)⊕((Unit×List T×Int×List T×Int×Unit)⊕Empty)))) =
 some (Sum.inl ((),(ls++[ps]).map lT,n,i+1,L,a',()))∧BS ps∧kY L a':=by
 obtain⟨k,a',e,k0,k1,D⟩:=oS hD (n:=4) (by omega) (by omega)
 obtain⟨j,rfl⟩:∃j:Nat,k=j:=⟨k.toNat,by omega⟩
 have c1:AD (4:Int) (j:Int) 4=some (j,4-j):=WQ (L:=4) (l:=j) (h:=4) (by omega) (by omega)
 have c2:AD (4:Int) 0 (j:Int)=some (0,j-0):=WQ (L:=4) (l:=0) (h:=j) (by omega) (by omega)
 have e1:fW (m.map wT) j (4-j)=(m.drop j).map wT:=by
  rw[TV,←List.map_drop,List.take_of_length_le (by simp;omega)]
 have e2:fW (m.map wT) 0 (j-0)=(m.take j).map wT:=by
  rw[TV,List.drop_zero,Nat.sub_zero,List.map_take]
 have r1:=kR (l:=([]:List T)) (m:=(m.drop j).map wT) (b:=168) (by simp;omega) (by decide)
 rw[List.nil_append] at r1
 have r2:=kR (l:=(m.drop j).map wT) (m:=(m.take j).map wT) (b:=168) (by simp;omega) (by decide)
 rw[←List.map_append] at r2
 have r3:=kR (l:=ls.map lT) (m:=[lT (m.drop j++m.take j)]) (b:=24) (by simp only[List.length_map,List.length_cons,List.length_nil];omega) (by decide)
 have r3:room (ls.map lT) [T.sl 9 ((m.drop j++m.take j).map wT)] 24=some ((ls++[m.drop j++m.take j]).map lT):=r3.trans (by simp)
 refine⟨m.drop j++m.take j,a',?_,Uz hr hS (by omega),D⟩
 ·simp only[e,aY,c1,e1,r1,c2,e2,r2,r3,sR (n:=i+1) (by omega) (by omega)]
set_option maxHeartbeats 2000000 in
theorem Z4{L:List T}{a n i:Int}(hD:kY L a)(hi:0≤i)(hin:i<n)(hn:n≤4){ls:List (List (Int×Int))}(hl:ls.length≤5):∃ps a',cQ ((),ls.map lT,n,i,L,a,())=some (.inl ((),(ls++[ps]).map lT,n,i+1,L,a',()))∧BS ps∧kY L a':=by
 obtain⟨v,a1,e1,v0,v1,D1⟩:=oS hD (n:=2) (by omega) (by omega)
 obtain⟨r,hr⟩:∃r,r=2*(n-i)+v:=⟨_,rfl⟩
 have x1:wr .i64 (n-i)=n-i:=sR (by omega) (by omega)
 have x2:wr .i64 (2*(n-i))=2*(n-i):=sR (by omega) (by omega)
 have x3:wr .i64 (2*(n-i)+v)=r:=by rw[hr];exact sR (by omega) (by omega)
 have x4:wr .i64 (0-r)=-r:=by rw[dK (by omega) (by omega)];omega
 have t1:=B9 (x:=-r) (y:=-r) (by omega) (by omega)
 have t2:=B9 (x:=r) (y:=-r) (by omega) (by omega)
 have t3:=B9 (x:=r) (y:=r) (by omega) (by omega)
 have t4:=B9 (x:=-r) (y:=r) (by omega) (by omega)
 obtain⟨u,a2,e2,u0,u1,D2⟩:=oS D1 (n:=9) (by omega) (by omega)
 have q1:Qp r [(-r,-r),(r,-r),(r,r),(-r,r)]:=⟨by omega,.inl (by unfold Li pz;simp)⟩
 have q2:Qp r [(-r,-r),(-r,r),(r,r),(r,-r)]:=⟨by omega,.inr (by unfold W4 pz;simp)⟩
 unfold cQ
 simp -implicitDefEqProofs only[aF,decide_eq_true hin,cond_true,e1,aY,bK,eI,aO,oD,x1,x2,x3,x4,t1,t2,t3,t4,UB,aR]
 by_cases h1:i.tmod 2=1
 ·simp -implicitDefEqProofs only[decide_eq_true h1,cond_true,Lx,Up,Uq,Zb,Zc,JM,Ur,aY,w0,w1,w2,w3,w4,w5,w6,w7,w8,Uo,aP,e2]
  by_cases h2:u=8
  ·simp -implicitDefEqProofs only[decide_eq_true h2,cond_true,Lx,Up,Uq,Zb,Zc,JM,Ur,aY,w0,w1,w2,w3,w4,w5,w6,w7,w8,Uo,aP]
   exact CV (m:=[(-r,-r),(r,-r),(r,r),(-r,r)]) D2 hi hn (r:=r) (by omega) hl rfl q1 hin
  ·simp -implicitDefEqProofs only[decide_eq_false h2,cond_false,Lx,aY,aP]
   exact CV (m:=[(-r,-r),(-r,r),(r,r),(r,-r)]) D2 hi hn (r:=r) (by omega) hl rfl q2 hin
 ·simp -implicitDefEqProofs only[decide_eq_false h1,cond_false,aY,aP,e2]
  by_cases h2:u=8
  ·simp -implicitDefEqProofs only[decide_eq_true h2,cond_true,Lx,Up,Uq,Zb,Zc,JM,Ur,aY,w0,w1,w2,w3,w4,w5,w6,w7,w8,Uo,aP]
   exact CV (m:=[(-r,-r),(-r,r),(r,r),(r,-r)]) D2 hi hn (r:=r) (by omega) hl rfl q2 hin
  ·simp -implicitDefEqProofs only[decide_eq_false h2,cond_false,Lx,aY,aP]
   exact CV (m:=[(-r,-r),(r,-r),(r,r),(-r,r)]) D2 hi hn (r:=r) (by omega) hl rfl q1 hin
theorem Va(x l:List (Int×Int)):T.upd 1 (lT x) 0 [T.sl 9 (l.map wT)]=lT l:=by unfold T.upd;rfl
theorem Zf{ls:List (List (Int×Int))}{k:Nat}(h:k<ls.length):fY (ls.map lT) k=some (lT (ls.getD k [])):=by
 rw[pW,List.getElem?_map,List.getElem?_eq_getElem h,List.getD_eq_getElem?_getD,List.getElem?_eq_getElem h];rfl
theorem Zp{N k:Nat}(h:k<N):dO (N:Int) (k:Int)=some k:=nX (by omega)
theorem XI{ls:List (List (Int×Int))}{k:Nat}(h:k<ls.length):ls.getD k []∈ls:=by
 rw[List.getD_eq_getElem?_getD,List.getElem?_eq_getElem h];exact List.getElem_mem h
theorem Z5{L:List T}{n:Int}(hn:n≤4):∀(k:Nat) (i a:Int) (ls:List (List (Int×Int))),n-i=k→0≤i→(ls.length:Int)=i→kY L a→KQ ls →
 ∃ls' a',aH cQ ((),ls.map lT,n,i,L,a,())=some (.inl ((),ls'.map lT,n,L,a',()))∧KQ ls'∧(ls'.length:Int)=n∧kY L a':=by
 intro k
 induction k with
 | zero=>
  intro i a ls hk hi hl hD hB
  refine⟨ls,a,aQ ?_,hB,by omega,hD⟩
  unfold cQ
  simp only[aF,decide_eq_false (show ¬i<n by omega),cond_false]
 | succ k ih=>
  intro i a ls hk hi hl hD hB
  obtain⟨ps,a1,e1,B1,D1⟩:=Z4 hD hi (n:=n) (by omega) hn (ls:=ls) (by omega)
  rw[dN e1]
  exact ih (i+1) a1 (ls++[ps]) (by omega) (by omega) (by rw[List.length_append];simp only[List.length_cons,List.length_nil];omega) D1 fun l hl2=>by
   rcases List.mem_append.1 hl2 with h | h
   ·exact hB l h
   ·rw[List.mem_singleton.1 h];exact B1
theorem XJ{ls:List (List (Int×Int))}{i:Nat}{x:List (Int×Int)}(hB:KQ ls)(hx:BS x):KQ (ls.set i x):=fun l hl=>by
 rcases List.mem_or_eq_of_mem_set hl with h | h
 ·exact hB l h
 ·rw[h];exact hx
set_option maxHeartbeats 1000000 in
theorem Qq{L:List T}{a:Int}(hD:kY L a):∃ls a',eE ((),L,a,())=some (ls.map lT,L,a',())∧KQ ls∧ls.length≤5:=by
 obtain⟨v0,a0,e0,l0,h0,D0⟩:=oS hD (n:=4) (by omega) (by omega)
 have hw:wr .i64 (1+v0)=1+v0:=sR (by omega) (by omega)
 obtain⟨k,hk⟩:∃k:Nat,1+v0=k:=⟨(1+v0).toNat,by omega⟩
 rw[hk] at hw
 obtain⟨ls,a1,e1,B1,hl1,D1⟩:=Z5 (L:=L) (n:=(k:Int)) (by omega) k 0 a0 [] (by omega) (by omega) rfl D0 (fun l hl=>by cases hl)
 have e1:aH cQ ((),([]:List T),(k:Int),(0:Int),L,a0,())=some (.inl ((),ls.map lT,(k:Int),L,a1,())):=e1
 have hl1:ls.length=k:=by omega
 obtain⟨v2,a2,e2,l2,h2,D2⟩:=oS D1 (n:=2) (by omega) (by omega)
 have fin:∀(ms:List (List (Int×Int))) (b:Int),kY L b→KQ ms→ms.length≤4→∃ls a',(ob (ob (aD ((),(4:Int),L,b,())) fun x87=>(bif decide (x87.1=0) then (ob (aD ((),(9:Int),x87.2.1,x87.2.2.1,())) fun x88=>(ob (aI ((wr Go.IntKind.i64 (20+x88.1)),(0:Int),())) fun x89=>(ob (aI ((wr Go.IntKind.i64 (wr Go.IntKind.i64 (20+x88.1)+3)),(1:Int),())) fun x90=>(ob (aI ((wr Go.IntKind.i64 (wr Go.IntKind.i64 (20+x88.1)+1)),(4:Int),())) fun x91=>(ob (room (ms.map lT) [(T.sl 9 [(T.agg [(T.v (Go.Value.bool x89.1)),(T.sl 1 x89.2.1),(T.sl 1 x89.2.2.1),(T.v (Go.Value.bool x89.2.2.2.1)),(T.sl 1 x89.2.2.2.2.1),(T.sl 1 x89.2.2.2.2.2.1),(T.v (Go.Value.bool x89.2.2.2.2.2.2.1)),(T.sl 1 x89.2.2.2.2.2.2.2.1),(T.sl 1 x89.2.2.2.2.2.2.2.2.1)]),(T.agg [(T.v (Go.Value.bool x90.1)),(T.sl 1 x90.2.1),(T.sl 1 x90.2.2.1),(T.v (Go.Value.bool x90.2.2.2.1)),(T.sl 1 x90.2.2.2.2.1),(T.sl 1 x90.2.2.2.2.2.1),(T.v (Go.Value.bool x90.2.2.2.2.2.2.1)),(T.sl 1 x90.2.2.2.2.2.2.2.1),(T.sl 1 x90.2.2.2.2.2.2.2.2.1)]),(T.agg [(T.v (Go.Value.bool x91.1)),(T.sl 1 x91.2.1),(T.sl 1 x91.2.2.1),(T.v (Go.Value.bool x91.2.2.2.1)),(T.sl 1 x91.2.2.2.2.1),(T.sl 1 x91.2.2.2.2.2.1),(T.v (Go.Value.bool x91.2.2.2.2.2.2.1)),(T.sl 1 x91.2.2.2.2.2.2.2.1),(T.sl 1 x91.2.2.2.2.2.2.2.2.1)])])] 24) fun x92=>(some (Sum.inl (x92,x88.2.1,x88.2.2.1,())):Option ((List T×List T×Int×Unit)⊕Empty))))))) else (some (Sum.inl (ms.map lT,x87.2.1,x87.2.2.1,()))))) fun q93=>cM q93 (fun t94=>(some (t94.1,t94.2.1,t94.2.2.1,()))) fun q95=>dE q95)=some (ls.map lT,L,a',())∧KQ ls∧ls.length≤5:=by
  intro ms b Db Bm hm
  obtain⟨v3,a3,e3,l3,h3,D3⟩:=oS Db (n:=4) (by omega) (by omega)
  by_cases hv:v3=0
  ·obtain⟨v4,a4,e4,l4,h4,D4⟩:=oS D3 (n:=9) (by omega) (by omega)
   have x1:wr .i64 (20+v4)=20+v4:=sR (by omega) (by omega)
   have x2:wr .i64 (20+v4+3)=20+v4+3:=sR (by omega) (by omega)
   have x3:wr .i64 (20+v4+1)=20+v4+1:=sR (by omega) (by omega)
   have t1:=B9 (x:=20+v4) (y:=0) (by omega) (by omega)
   have t2:=B9 (x:=20+v4+3) (y:=1) (by omega) (by omega)
   have t3:=B9 (x:=20+v4+1) (y:=4) (by omega) (by omega)
   obtain⟨tri,htri⟩:∃tri:List (Int×Int),tri=[(20+v4,0),(20+v4+3,1),(20+v4+1,4)]:=⟨_,rfl⟩
   have hr:=kR (l:=ms.map lT) (m:=[lT tri]) (b:=24) (by simp only[List.length_map,List.length_cons,List.length_nil];omega) (by decide)
   have hr:room (ms.map lT) [T.sl 9 [wT (20+v4,0),wT (20+v4+3,1),wT (20+v4+1,4)]] 24=some ((ms++[tri]).map lT):=by
    rw[List.map_append];rw[htri] at hr ⊢;exact hr
   have mt:∀p∈tri,(20+v4≤p.1∧p.1≤20+v4+3)∧0≤p.2∧p.2≤4:=fun p hp=>by
    rw[htri] at hp
    simp only[List.mem_cons,List.not_mem_nil,or_false] at hp
    rcases hp with rfl | rfl | rfl <;> (dsimp only;omega)
   refine⟨ms++[tri],a4,?_,fun l hl=>?_,by rw[List.length_append];simp only[List.length_cons,List.length_nil];omega⟩
   ·simp only[e3,aY,decide_eq_true hv,cond_true,e4,x1,x2,x3,t1,t2,t3,UB,hr,aP]
   ·rcases List.mem_append.1 hl with h | h
    ·exact Bm l h
    ·rw[List.mem_singleton.1 h]
     refine⟨⟨by rw[htri];simp,fun p hp=>?_,fun p hp q hq=>?_⟩,⟨20+v4,0,1,Tg.tri,by decide,Xg,?_⟩,by rw[htri];simp⟩
     ·have:=mt p hp;omega
     ·have:=mt p hp;have:=mt q hq;omega
     ·rw[htri];unfold Tg.tri pz;simp
  ·refine⟨ms,a3,?_,Bm,by omega⟩
   simp only[e3,aY,decide_eq_false hv,cond_false,aP]
 unfold eE
 simp -implicitDefEqProofs only[e0,aY,aO,bK,aR,hk,hw,e1,aP,e2]
 by_cases hv:v2=0
 ·have k0:0<ls.length:=by omega
  have k1:k-1<ls.length:=by omega
  have x1:wr .i64 ((k:Int)-1)=((k-1:Nat):Int):=by rw[sR (by omega) (by omega)];omega
  have hlen:lenL (ls.map lT)=(ls.length:Int):=by rw[aL,List.length_map]
  have c1:=Zp k1
  have c0:dO (ls.length:Int) 0=some 0:=Zp (k:=0) k0
  have hs1:(ls.map lT).set 0 (lT (ls.getD (k-1) []))=(ls.set 0 (ls.getD (k-1) [])).map lT:=by rw[List.map_set]
  obtain⟨ms,hms⟩:∃ms,ms=ls.set 0 (ls.getD (k-1) []):=⟨_,rfl⟩
  have hml:ms.length=ls.length:=by rw[hms,List.length_set]
  have hlen2:lenL (ms.map lT)=(ls.length:Int):=by rw[aL,List.length_map,hml]
  have hs2:(ms.map lT).set (k-1) (lT (ls.getD 0 []))=(ms.set (k-1) (ls.getD 0 [])).map lT:=by rw[List.map_set]
  have i2:=Zf (ls:=ms) (k:=k-1) (by omega)
  rw[←hms] at hs1
  obtain⟨rs,a',hr,B,hl⟩:=fin (ms.set (k-1) (ls.getD 0 [])) a2 D2 (XJ (by rw[hms];exact XJ B1 (B1 _ (XI k1))) (B1 _ (XI k0))) (by rw[List.length_set];omega)
  refine⟨rs,a',?_,B,hl⟩
  simp -implicitDefEqProofs only[decide_eq_true hv,cond_true,hlen,x1,c1,aY,Zf k1,c0,Zf k0,OF,Va,hs1,hlen2,i2,hs2,aP]
  exact hr
 ·obtain⟨rs,a',hr,B,hl⟩:=fin ls a2 D2 B1 (by omega)
  refine⟨rs,a',?_,B,hl⟩
  simp -implicitDefEqProofs only[decide_eq_false hv,cond_false,aY,aP]
  exact hr
theorem d_loops(zs:List Int)(h:zs.length≤500):∃ls,eF (zs.map Lt,())=some (ls.map lT,())∧KQ ls∧ls.length≤5:=by
 have hD:kY (zs.map Lt) 0:=⟨zs,rfl,by omega,by omega,by omega⟩
 obtain⟨v0,a0,e0,l0,h0,D0⟩:=oS hD (n:=2) (by omega) (by omega)
 unfold eF
 simp only[Lu,aY,e0,aR]
 by_cases hv:v0=0
 ·obtain⟨ls,a',e,B,hl⟩:=Qq D0
  exact⟨ls,by simp only[decide_eq_true hv,cond_true,e,aY],B,hl⟩
 ·obtain⟨ls,a',e,B,hl⟩:=Mk D0
  exact⟨ls,by simp only[decide_eq_false hv,cond_false,e,aY],B,by omega⟩
end Go.Eng.Sq
namespace Go.Eng
theorem UH{S E:Type}{F:S→Option (S⊕E)}(n:Nat)(s:S):Le (pK F n s) (aH F s):=Cg (fun _=>HQ) n s
noncomputable def v_ref01_Trim(n:Nat)(t:((List T)×Unit)):Option ((List T)×Unit):=
 (ob (pK iM n (t.1,(Go.Eng.lenL t.1),())) fun q3=>cM q3 (fun t4=>(ob (Go.Eng.cutL t4.1 (0:Int) t4.2.1) fun x5=>(ob (Go.Eng.room [] x5 4) fun x6=>(some (x6,()))))) fun q7=>dE q7)
theorem PZ(n:Nat)(t:((List T)×Unit)):Le (v_ref01_Trim n t) (bX t):=by
 unfold v_ref01_Trim bX
 repeat' with_reducible first | exact HQ | refine F2 ?_ ?_ | refine M7 (fun _=>?_) fun _=>?_ | refine WE ?_ fun _=>?_ | refine F3 ?_ ?_ | exact UH _ _
noncomputable def v_ref01_byLimb(n:Nat)(t:((List T)×Int×Unit)):Option ((List T)×Int×Unit):=
 (ob (Go.Eng.mkLen (Go.Eng.lenL t.1) (Go.Eng.lenL t.1) 4) fun x0=>(ob (pK vI n (t.1,t.2.1,(Go.Eng.repL x0.1 (Go.Eng.T.v (Go.Value.int Go.IntKind.u32 (0:Int)))),(0:Int),(Go.Eng.wr Go.IntKind.i64 (Go.Eng.subI (Go.Eng.lenL t.1) (1:Int))),())) fun q9=>cM q9 (fun t10=>(ob (Go.Eng.v_ref01_Trim n (t10.1,())) fun x11=>(some (x11.1,(Go.Eng.wr Go.IntKind.u32 t10.2.1),())))) fun q12=>dE q12))
theorem KR(n:Nat)(t:((List T)×Int×Unit)):Le (v_ref01_byLimb n t) (mM t):=by
 unfold v_ref01_byLimb mM
 repeat' with_reducible first | exact HQ | refine F2 ?_ ?_ | refine M7 (fun _=>?_) fun _=>?_ | refine WE ?_ fun _=>?_ | refine F3 ?_ ?_ | exact PZ n _ | exact UH _ _
noncomputable def tD(n:Nat)(s0:(List T×List T×Unit)):Option ((List T×List T×Unit)⊕((List T×Unit)⊕Empty)):=
 (bif (Go.Eng.ltI (0:Int) (Go.Eng.lenL s0.1)) then (ob (Go.Eng.v_ref01_byLimb n (s0.1,(1000000000:Int),())) fun x1=>(ob (pK zL n (s0.2.1,x1.1,x1.2.1,(0:Int),())) fun q5=>cM q5 (fun t6=>(some (Sum.inl (t6.2.1,t6.1,())))) fun q7=>dE q7)) else (some (Sum.inr (Sum.inl (s0.2.1,())))))
theorem IF(n:Nat)(s0:(List T×List T×Unit)):Le (tD n s0) (sT s0):=by
 unfold tD sT
 repeat' with_reducible first | exact HQ | refine F2 ?_ ?_ | refine M7 (fun _=>?_) fun _=>?_ | refine WE ?_ fun _=>?_ | refine F3 ?_ ?_ | exact KR n _ | exact UH _ _
noncomputable def v_ref01_Text(n:Nat)(t:((List T)×Unit)):Option (ByteArray×Unit):=
 (bif (Go.Eng.eqI (Go.Eng.lenL t.1) (0:Int)) then (some ((ByteArray.mk #[48]),())) else (ob (pK (tD n) n (t.1,[],())) fun q8=>cM q8 (fun t9=>(ob (Go.Eng.mkLen (Go.Eng.lenL t9.1) (Go.Eng.lenL t9.1) 1) fun x10=>(ob (pK zM n (t9.1,(Go.Eng.repL x10.1 (Go.Eng.T.v (Go.Value.int Go.IntKind.u8 (0:Int)))),(0:Int),())) fun q17=>cM q17 (fun t18=>(ob (Go.Eng.strOf t18.1) fun x19=>(some (x19,())))) fun q20=>dE q20))) fun q21=>dE q21))
theorem P0(n:Nat)(t:((List T)×Unit)):Le (v_ref01_Text n t) (pZ t):=by
 unfold v_ref01_Text pZ
 repeat' with_reducible first | exact HQ | refine F2 ?_ ?_ | refine M7 (fun _=>?_) fun _=>?_ | refine WE ?_ fun _=>?_ | refine F3 ?_ ?_ | exact Cg (IF n) _ _ | exact UH _ _
noncomputable def G1(n:Nat)(t:(Bool×(List T)×(List T)×Unit)):Option (ByteArray×Unit):=
 (ob (Go.Eng.v_ref01_Text n (t.2.1,())) fun x0=>(ob (α:=((Unit×ByteArray×Bool×List T×List T×Unit)⊕Empty)) (bif t.1 then (ob (Go.Eng.catS (ByteArray.mk #[45]) x0.1) fun x1=>(some (Sum.inl ((),x1,t.1,t.2.1,t.2.2.1,())))) else (some (Sum.inl ((),x0.1,t.1,t.2.1,t.2.2.1,())))) fun q2=>cM q2 (fun t3=>(ob (α:=((ByteArray×Unit)⊕Empty)) (bif (Go.Eng.ltI (0:Int) (Go.Eng.lenL t3.2.2.2.2.1)) then (ob (Go.Eng.v_ref01_Text n (t3.2.2.2.2.1,())) fun x4=>(ob (Go.Eng.catS (ByteArray.mk #[47]) x4.1) fun x5=>(ob (Go.Eng.catS t3.2.1 x5) fun x6=>(some (Sum.inl (x6,())))))) else (some (Sum.inl (t3.2.1,())))) fun q7=>cM q7 (fun t8=>(some (t8.1,()))) fun q9=>dE q9)) fun q10=>dE q10))
theorem P1(n:Nat)(t:(Bool×(List T)×(List T)×Unit)):Le (G1 n t) (nI t):=by
 unfold G1 nI
 repeat' with_reducible first | exact HQ | refine F2 ?_ ?_ | refine M7 (fun _=>?_) fun _=>?_ | refine WE ?_ fun _=>?_ | refine F3 ?_ ?_ | exact P0 n _
end Go.Eng
namespace Go.Eng.Sq
open Go.Eng Go.Eng.Tm Go.Eng.Tw Go.Eng.Rt Go.Eng.Tg
instance dBt(d u:Rat):Decidable (Bt d u):=inferInstanceAs (Decidable ((0≤u∧u≤d)∨(d≤u∧u≤0)))
instance dOn(a b p:Q):Decidable (On a b p):=inferInstanceAs (Decidable (cr a b p=0∧Bt (b.1-a.1) (p.1-a.1)∧Bt (b.2-a.2) (p.2-a.2)))
instance dMe(a b c d:Q):Decidable (kJ a b c d):=inferInstanceAs (Decidable (On a b c∨On a b d∨On c d a∨On c d b∨(cr a b c*cr a b d<0∧cr c d a*cr c d b<0)))
instance dFo(a b c:Q):Decidable (KN a b c):=inferInstanceAs (Decidable (cr a b c=0∧0<(a.1-b.1)*(c.1-b.1)+(a.2-b.2)*(c.2-b.2)))
instance dMa(l:List Z)(i j:Nat):Decidable (eQ l i j):=inferInstanceAs (Decidable (kJ _ _ _ _))
instance dOL(E:List Ed)(z:Q):Decidable (EZ E z):=inferInstanceAs (Decidable (∃e∈E,On e.1 e.2 z))
def P2:List Z:=[(0,0),(1,0),(1,1),(0,1)]
def Vb:List Z:=[(0,0),(0,1),(1,1),(1,0)]
theorem Zq:Bx P2∧Bx Vb:=⟨⟨by decide,by decide,by decide⟩,⟨by decide,by decide,by decide⟩⟩
theorem Qr:KO [P2]∧KO [Vb]:=⟨fun l h=>(List.mem_singleton.1 h)▸Zq.1,fun l h=>(List.mem_singleton.1 h)▸Zq.2⟩
theorem Zg:rM P2:=by
 refine⟨by decide,fun⟨i,hi,h⟩=>?_⟩
 have hi:i<4:=hi
 have key:∀i,i<4→¬(aN P2 i=aN P2 (i+1))∧¬KN (cq (aN P2 i)) (cq (aN P2 (i+1))) (cq (aN P2 (i+2)))∧∀j,j<4→i+2≤j→(0<i∨j<3)→¬eQ P2 i j:=by decide +kernel
 rcases h with h | h | ⟨j,h1,h2,h3⟩
 ·exact(key i hi).1 h
 ·exact(key i hi).2.1 h
 ·by_cases h0:0<i
  ·rw[if_pos h0] at h2
   exact(key i hi).2.2 j h2 h1 (.inl h0) h3
  ·rw[if_neg h0] at h2
   have h2:j<3:=h2
   exact(key i hi).2.2 j (by omega) h1 (.inr h2) h3
theorem Ry(l:List Z):outs [l] 0=0:=by
 have h:JN [l] 0 1=[]:=by
  unfold JN
  rw[List.filter_eq_nil_iff]
  intro j hj
  have hj:j=0:=by have:=List.mem_range.1 hj;omega
  rw[hj,gU (fun c=>c.1 rfl)]
  exact Bool.false_ne_true
 show ((JN [l] 0 1).map fun j=>sA (bO [l] j)).sum=0
 rw[h];rfl
theorem Zh:GZ [P2]=0:=by
 unfold GZ
 rw[gU,gU]
 ·rfl
 ·rintro ⟨i,_,hi,h⟩
  have hi:i=0:=by have hi:i<1:=hi;omega
  subst hi
  refine h (.inr ?_)
  rw[Ry]
  exact⟨by decide +kernel,rfl⟩
 ·rintro ⟨i,_,hi,h⟩
  have hi:i=0:=by have hi:i<1:=hi;omega
  subst hi
  rcases h with h | ⟨k,_,hk,_⟩
  ·exact h Zg
  ·omega
theorem Zi:GZ [Vb]=8:=by
 unfold GZ
 rw[jO (P:=∃i,0≤i∧i<[Vb].length∧KP [Vb] i)]
 ·generalize bP _=b
  cases b <;> rfl
 ·refine⟨0,Nat.le_refl _,by decide,fun h=>?_⟩
  rw[Ry] at h
  have e:sA (bO [Vb] 0)=-1:=by decide +kernel
  rw[e] at h
  omega
theorem Vc(p:Q)(e:Ed):we p e=if decide (e.1.2≤p.2)&&decide (p.2<e.2.2)&&decide (0<cr e.1 e.2 p) then 1 else if decide (e.2.2≤p.2)&&decide (p.2<e.1.2)&&decide (cr e.1 e.2 p<0) then -1 else 0:=by
 unfold we
 simp only[Bool.and_eq_true,decide_eq_true_eq,and_assoc]
theorem wsA:uV [P2] (1/2,1/2) 1=1:=by
 show ([wd (fV (qs P2)) (1/2,1/2)]).sum=1
 unfold wd
 have:(fun e=>we (1/2,1/2) e)=fun e:Ed=>if decide (e.1.2≤(1/2:Rat))&&decide ((1/2:Rat)<e.2.2)&&decide (0<cr e.1 e.2 (1/2,1/2)) then 1 else if decide (e.2.2≤(1/2:Rat))&&decide ((1/2:Rat)<e.1.2)&&decide (cr e.1 e.2 (1/2,1/2)<0) then -1 else 0:=funext fun e=>Vc _ e
 rw[show we (1/2,1/2)=fun e=>we (1/2,1/2) e from rfl,this]
 decide +kernel
theorem Xv:kT (1,2,())=some (c3 (1/2) ())∧Fr 2 20 (1/2):=by
 have e:=Kr (n:=1) (d:=2) (by omega) (by omega) (by omega) (by omega) (by omega)
 have h:GQ 1 2=(1/2:Rat):=by decide +kernel
 rw[h] at e
 exact⟨e,by decide,1,by decide,by decide +kernel⟩
theorem Zr:¬wW [P2] (1/2,1/2)∧wW [P2] (((1:Int):Rat),1/2):=by
 refine⟨?_,0,Nat.le_refl _,by decide,?_⟩
 ·rintro ⟨j,_,hj,h⟩
  have hj:j=0:=by have hj:j<1:=hj;omega
  subst hj
  revert h
  decide +kernel
 ·decide +kernel
theorem Xw:nI (aM 2,aU 2,bA 2,())=some (ByteArray.mk #[50],()):=by
 have e1:aU 2=[eX 2]:=rJ (by decide) (by decide)
 have e2:bA 2=[]:=by show dn 1=[];exact if_pos rfl
 rw[e1,e2]
 exact P1 60 _ _ (by kernel_rfl)
theorem w_awake:bZ ()=some (true,()):=by
 have a00:=B9 (x:=0) (y:=0) (by decide) (by decide)
 have a10:=B9 (x:=1) (y:=0) (by decide) (by decide)
 have a11:=B9 (x:=1) (y:=1) (by decide) (by decide)
 have a01:=B9 (x:=0) (y:=1) (by decide) (by decide)
 have c1:=G0 Qr.1 (by decide) (by decide) (by decide)
 have c2:=G0 Qr.2 (by decide) (by decide) (by decide)
 rw[Zh] at c1
 rw[Zi] at c2
 have ar:=Kx (l:=P2) (by unfold Tu;decide) (by decide)
 rw[show (B2 P2:Rat)=2 from by decide +kernel] at ar
 have i1:=WT (n:=1) (by decide) (by decide)
 have f2:=Xv.2
 have w1:=K6 Qr.1 (by decide) (D:=2) (px:=1/2) (py:=1/2) (pz:=0) ⟨by decide,f2.mono (by decide),f2.mono (by decide),(Fr.zero (by decide)).mono (by decide)⟩
 have w2:=K6 Qr.1 (by decide) (D:=2) (px:=((1:Int):Rat)) (py:=1/2) (pz:=0) ⟨by decide,(Fr.ofInt (l:=1) (by decide) (by decide)).mono (by decide),f2.mono (by decide),(Fr.zero (by decide)).mono (by decide)⟩
 rw[gU Zr.1,show uV [P2] (1/2,1/2) [P2].length=1 from wsA] at w1
 rw[jO Zr.2] at w2
 rw[z3] at w1 w2
 have hA:[T.sl 9 (P2.map wT)]=[P2].map lT:=rfl
 have hB:[T.sl 9 [wT (0,0),wT (0,1),wT (1,1),wT (1,0)]]=[Vb].map lT:=rfl
 have hC:[wT (0,0),wT (1,0),wT (1,1),wT (0,1)]=P2.map wT:=rfl
 unfold bZ
 simp only[a00,a10,a11,a01,aY,Xv.1,c3] 
 simp only[UB,hB,hC,c2,ar,Xw,aY]
 have q (s:ByteArray):Ee s s=true:=by unfold Ee;simp
 have w1':=w1;have w2':=w2
 simp only[c3] at w1' w2'
 simp only[hA,c1,aY,aR,decide_true,cond_true,q,w1',i1,w2',cond_false]
end Go.Eng.Sq
namespace Go.Eng.Sq
open Go.Eng Go.Eng.Tm Go.Eng.Tw Go.Eng.Rt Go.Eng.Tg
theorem d_Rat(n d:Int):∃q:Rat,eD (n,d,())=some (c3 q ())∧Fr ((qP d 8).toNat+1) 20 q:=by
 have a0:=K5 n (n:=41) (by decide)
 have a1:=GY n (n:=41) (by decide)
 have b0:=K5 d (n:=8) (by decide)
 have b1:=GY d (n:=8) (by decide)
 have x1:wr .i64 (qP n 41-20)=qP n 41-20:=dK (by omega) (by omega)
 have x2:wr .i64 (qP d 8+1)=qP d 8+1:=sR (by omega) (by omega)
 have e:=Kr (n:=qP n 41-20) (d:=qP d 8+1) (by omega) (by omega) (by omega) (by omega) (by omega)
 refine⟨GQ (qP n 41-20) (qP d 8+1),?_,?_⟩
 ·unfold eD
  simp only[Dn n (n:=41) (by decide) (by decide),Dn d (n:=8) (by decide) (by decide),aY,bK,aO,x1,x2,e]
 ·unfold GQ
  have hD:(qP d 8+1).natAbs=(qP d 8).toNat+1:=by omega
  have hs:sg (decide (qP n 41-20<0) != decide (qP d 8+1<0)) (qP n 41-20).natAbs=qP n 41-20:=by
   rw[decide_eq_false (show ¬qP d 8+1<0 by omega)]
   by_cases h:qP n 41-20<0
   ·rw[decide_eq_true h];show -((qP n 41-20).natAbs:Int)=_;omega
   ·rw[decide_eq_false h];show ((qP n 41-20).natAbs:Int)=_;omega
  rw[hs,hD]
  exact(Fr.mk (by omega)).mono (by omega)
theorem allB{ls:List (List Z)}(h:KQ ls):KO ls:=fun l hl=>(h l hl).1
theorem nilChecks:dX (([]:List T),())=some (1,())∧DN (([]:List T),())=some (1,()):=by
 constructor
 ·unfold dX
  simp only[aL,List.length_nil,aR]
  rfl
 ·unfold DN
  simp only[aL,List.length_nil,aR]
  rfl
end Go.Eng.Sq
namespace Go.Eng.Ord
open Go.Eng Go.Eng.Tw Go.Eng.Tm Go.Eng.Tg Go.Eng.Rt
abbrev L:=List Z
def hx(a:L):Int:=(aN a 0).1
def hy(a:L):Int:=(aN a 0).2
def sameK(a b:L):Prop:=hx a=hx b∧hy a=hy b
instance (a b:L):Decidable (sameK a b):=inferInstanceAs (Decidable (hx a=hx b∧hy a=hy b))
theorem sameK.symm{a b:L}(h:sameK a b):sameK b a:=⟨h.1.symm,h.2.symm⟩
def KD(m:List L):Prop:=m.Pairwise fun a b=>¬sameK a b
def K7(a b:L):Prop:=hx a<hx b∨(hx a=hx b∧hy a<hy b)
instance (a b:L):Decidable (K7 a b):=inferInstanceAs (Decidable (hx a<hx b∨(hx a=hx b∧hy a<hy b)))
theorem IG{a b c:L}(h:K7 a b)(h':K7 b c):K7 a c:=by unfold K7 at *;omega
theorem Hf{a b:L}(h:K7 a b):¬K7 b a:=by unfold K7 at *;omega
theorem Ml{a b:L}(h:¬sameK a b):K7 a b∨K7 b a:=by unfold K7 sameK at *;omega
theorem Vd{a b:L}(h:K7 a b):¬sameK a b:=by unfold K7 sameK at *;omega
abbrev SL(m:List L):Prop:=m.Pairwise K7
theorem SL.kd{m:List L}(h:SL m):KD m:=h.imp Vd
theorem E5:∀{l m:List L},l.Perm m→SL l→SL m→l=m
 | [],m,hp,_,_=>(List.nil_perm.1 hp).symm
 | a::l,[],hp,_,_=>(List.perm_nil.1 hp)
 | a::l,b::m,hp,hl,hm=>by
  obtain⟨a1,a2⟩:=List.pairwise_cons.1 hl
  obtain⟨b1,b2⟩:=List.pairwise_cons.1 hm
  have hab:a=b:=by
   rcases List.mem_cons.1 (hp.mem_iff.1 (List.mem_cons_self (a:=a) (l:=l))) with h | h
   ·exact h
   ·rcases List.mem_cons.1 (hp.mem_iff.2 (List.mem_cons_self (a:=b) (l:=m))) with h' | h'
    ·exact h'.symm
    ·exact absurd (b1 a h) (Hf (a1 b h'))
  subst hab
  rw[E5 ((List.perm_cons a).1 hp) a2 b2]
def Hg(e:L):List L→List L
 | []=>[e]
 | x::m=>if K7 e x then e::x::m else x::Hg e m
def P3(l:List L):List L:=l.foldr Hg []
theorem IH(e:L):∀m:List L,(Hg e m).Perm (e::m)
 | []=>.refl _
 | x::m=>by
  simp only[Hg]
  split
  ·exact .refl _
  ·exact((IH e m).cons x).trans (.swap e x m)
theorem xX(l:List L):(P3 l).Perm l:=by
 induction l with
 | nil=>exact .refl _
 | cons e l ih=>exact(IH e _).trans (ih.cons e)
theorem Du(e:L):∀{m:List L},SL m→(∀x∈m,¬sameK e x)→SL (Hg e m)
 | [],_,_=>List.pairwise_singleton _ _
 | x::m,h,hn=>by
  obtain⟨h1,h2⟩:=List.pairwise_cons.1 h
  simp only[Hg]
  split
  ·rename_i hlt
   exact List.pairwise_cons.2 ⟨fun y hy=>by
    rcases List.mem_cons.1 hy with rfl | hy
    ·exact hlt
    ·exact IG hlt (h1 y hy),h⟩
  ·rename_i hlt
   refine List.pairwise_cons.2 ⟨fun y hy=>?_,Du e h2 fun y hy=>hn y (by simp[hy])⟩
   rcases List.mem_cons.1 ((IH e m).mem_iff.1 hy) with rfl | hy
   ·exact(Ml (hn x (by simp))).resolve_left hlt
   ·exact h1 y hy
theorem K8:∀{l:List L},KD l→SL (P3 l)
 | [],_=>List.Pairwise.nil
 | e::l,h=>by
  obtain⟨h1,h2⟩:=List.pairwise_cons.1 h
  exact Du e (K8 h2) fun x hx=>h1 x ((xX l).mem_iff.1 hx)
theorem KD.perm{l m:List L}(h:KD l)(hp:l.Perm m):KD m:=(hp.pairwise_iff (fun hab hba=>hab hba.symm)).1 h
theorem Z6{l m:List L}(hp:l.Perm m)(h:KD l):P3 l=P3 m:=
 E5 (((xX l).trans hp).trans (xX m).symm) (K8 h) (K8 (h.perm hp))
theorem Qs{l m:List L}(hp:m.Perm l)(h:KD l)(hm:SL m):m=P3 l:=E5 (hp.trans (xX l).symm) hm (K8 h)
def KS:List L→L→List L→List L
 | [],e,A=>e::A
 | x::R,e,A=>if K7 e x then KS R e (x::A) else (x::R).reverse++e::A
theorem RK:∀(R:List L) (e:L) (A:List L),(KS R e A).Perm (R.reverse++e::A)
 | [],e,A=>.refl _
 | x::R,e,A=>by
  simp only[KS]
  split
  ·refine(RK R e (x::A)).trans ?_
   rw[List.reverse_cons,List.append_assoc]
   exact List.Perm.append_left _ (.swap x e A)
  ·exact .refl _
theorem Dv:∀(R:List L) (e:L) (A:List L),SL (R.reverse++A)→(∀y∈A,K7 e y)→(∀y∈R,¬sameK e y)→SL (KS R e A)
 | [],e,A,h,h1,_=>List.pairwise_cons.2 ⟨h1,h⟩
 | x::R,e,A,h,h1,h2=>by
  simp only[KS]
  have h':SL (R.reverse++x::A):=by rw[List.reverse_cons,List.append_assoc] at h;exact h
  split
  ·rename_i hlt
   exact Dv R e (x::A) h' (fun y hy=>by
    rcases List.mem_cons.1 hy with rfl | hy
    ·exact hlt
    ·exact h1 y hy) fun y hy=>h2 y (by simp[hy])
  ·rename_i hlt
   have hxe:K7 x e:=(Ml (h2 x (by simp))).resolve_left hlt
   obtain⟨p1,p2,p3⟩:=List.pairwise_append.1 h'
   obtain⟨q1,q2⟩:=List.pairwise_cons.1 p2
   have hAe:SL (e::A):=List.pairwise_cons.2 ⟨h1,q2⟩
   refine List.pairwise_append.2 ⟨(List.pairwise_append.1 h).1,hAe,fun a ha b hb=>?_⟩
   have hax:a=x∨K7 a x:=by
    rcases List.mem_cons.1 (List.mem_reverse.1 ha) with h | h
    ·exact .inl h
    ·exact .inr (p3 a (List.mem_reverse.2 h) x (by simp))
   have hae:K7 a e:=by
    rcases hax with rfl | hax
    ·exact hxe
    ·exact IG hax hxe
   rcases List.mem_cons.1 hb with rfl | hb
   ·exact hae
   ·exact IG hae (h1 b hb)
end Go.Eng.Ord
namespace Go.Eng.Ord
open Go.Eng Go.Eng.Tw Go.Eng.Tm Go.Eng.Tg Go.Eng.Rt
def eY(k:Nat)(l:L):L:=(List.range l.length).map fun i=>aN l (k+i)
theorem dY(k:Nat)(l:L):(eY k l).length=l.length:=by unfold eY;rw[List.length_map,List.length_range]
theorem CC(l:L)(i:Nat):aN l (i%l.length)=aN l i:=by unfold aN;rw[Nat.mod_mod]
theorem II(l:L)(i:Nat):aN l (i+l.length)=aN l i:=by unfold aN;rw[Nat.add_mod_right]
theorem iJ{l:L}(h:0<l.length)(k i:Nat):aN (eY k l) i=aN l (k+i):=by
 have hi:=Nat.mod_lt i h
 have e:aN (eY k l) i=(eY k l).getD (i%l.length) default:=by unfold aN;rw[dY]
 rw[e,List.getD_eq_getElem?_getD]
 unfold eY
 rw[List.getElem?_map,List.getElem?_range hi]
 show aN l (k+i%l.length)=aN l (k+i)
 unfold aN
 rw[Nat.add_mod_mod]
theorem UI{l:L}{k:Nat}{p:Z}:p∈eY k l→p∈l:=fun h=>by
 unfold eY at h
 obtain⟨i,hi,rfl⟩:=List.mem_map.1 h
 have:=List.mem_range.1 hi
 exact(DT (by omega) _).1
theorem G2{l m:L}(h:l.length=m.length)(hi:∀i,i<l.length→aN l i=aN m i):l=m:=by
 refine List.ext_getElem h fun i h1 h2=>?_
 have:=hi i h1
 unfold aN at this
 rw[Nat.mod_eq_of_lt h1,Nat.mod_eq_of_lt h2,List.getD_eq_getElem?_getD,List.getD_eq_getElem?_getD,List.getElem?_eq_getElem h1,List.getElem?_eq_getElem h2] at this
 exact this
theorem Mm(l:L):eY 0 l=l:=by
 refine G2 (dY _ _) fun i hi=>?_
 rw[dY] at hi
 rw[iJ (by omega),Nat.zero_add]
theorem Dw(j k:Nat)(l:L):eY j (eY k l)=eY (k+j) l:=by
 refine G2 (by rw[dY,dY,dY]) fun i hi=>?_
 rw[dY,dY] at hi
 have h:0<l.length:=by omega
 rw[iJ (by rw[dY];exact h),iJ h,iJ h,Nat.add_assoc]
theorem UJ(k:Nat)(l:L):eY (k%l.length) l=eY k l:=by
 refine G2 (by rw[dY,dY]) fun i hi=>?_
 rw[dY] at hi
 have h:0<l.length:=by omega
 rw[iJ h,iJ h]
 unfold aN
 rw[Nat.mod_add_mod]
theorem XK(k:Nat)(l:L):∃j,eY j (eY k l)=l:=by
 refine⟨l.length-k%l.length,?_⟩
 rw[Dw]
 by_cases h:0<l.length
 ·have:=Nat.mod_lt k h
  rw[←UJ,←Nat.mod_add_mod,show k%l.length+(l.length-k%l.length)=l.length by omega,Nat.mod_self,Mm]
 ·refine G2 (dY _ _) fun i hi=>?_
  rw[dY] at hi;omega
theorem Qt{l:L}{n:Nat}(h:n≤l.length):l.drop n++l.take n=eY n l:=by
 refine G2 (by rw[dY,List.length_append,List.length_drop,List.length_take];omega) fun i hi=>?_
 rw[List.length_append,List.length_drop,List.length_take] at hi
 have hi:i<l.length:=by omega
 have h0:0<l.length:=by omega
 rw[iJ h0]
 have e:(l.drop n++l.take n).length=l.length:=by rw[List.length_append,List.length_drop,List.length_take];omega
 unfold aN
 rw[e,Nat.mod_eq_of_lt hi,List.getD_eq_getElem?_getD,List.getD_eq_getElem?_getD]
 congr 1
 by_cases hc:i<l.length-n
 ·rw[List.getElem?_append_left (by rw[List.length_drop];exact hc),List.getElem?_drop,Nat.mod_eq_of_lt (by omega)]
 ·rw[List.getElem?_append_right (by rw[List.length_drop];omega),List.length_drop,List.getElem?_take,if_pos (by omega)]
  have e2:(n+i)%l.length=i-(l.length-n):=by
   rw[show n+i=i-(l.length-n)+l.length by omega,Nat.add_mod_right,Nat.mod_eq_of_lt (by omega)]
  rw[e2]
theorem IJ{n:Nat}{f:Nat→Int}(hf:∀i,f (i+n)=f i):∀k,lJ n (fun i=>f (k+i))=lJ n f
 | 0=>iB fun j _=>by rw[Nat.zero_add]
 | k+1=>by
  rw[←IJ hf k]
  have key:∀m,lJ m (fun i=>f (k+1+i))+f k=lJ m (fun i=>f (k+i))+f (k+m):=fun m=>by
   induction m with
   | zero=>show 0+f k=0+f (k+0);rw[Nat.add_zero]
   | succ m ih=>rw[gT,gT,show k+1+m=k+(m+1) by omega];omega
  have:=key n
  rw[hf] at this
  omega
theorem WW(k:Nat)(l:L):B2 (eY k l)=B2 l:=by
 rw[CB,CB,dY]
 by_cases h:0<l.length
 ·rw[←IJ (n:=l.length) (f:=fun i=>PX (aN l i) (aN l (i+1))) (fun i=>by
   show PX (aN l (i+l.length)) (aN l (i+l.length+1))=_
   rw[II,show i+l.length+1=i+1+l.length by omega,II]) k]
  exact iB fun j _=>by rw[iJ h,iJ h];rfl
 ·rw[show l.length=0 by omega];rfl
theorem Mn(k:Nat)(l:L):sA (eY k l)=sA l:=by unfold sA;rw[WW]
theorem CW{k:Nat}{l:L}{e:Ed}:e∈fV (qs (eY k l))↔e∈fV (qs l):=by
 rw[B8,B8,dY]
 constructor
 ·rintro ⟨i,hi,rfl⟩
  have h:0<l.length:=by omega
  refine⟨(k+i)%l.length,Nat.mod_lt _ h,?_⟩
  rw[iJ h,iJ h,CC]
  unfold aN
  rw[Nat.mod_add_mod]
  rfl
 ·rintro ⟨i,hi,rfl⟩
  have h:0<l.length:=by omega
  have hk:=Nat.mod_lt k h
  refine⟨(i+(l.length-k%l.length))%l.length,Nat.mod_lt _ h,?_⟩
  have e:∀j,aN (eY k l) ((i+(l.length-k%l.length))%l.length+j)=aN l (i+j):=fun j=>by
   rw[iJ h]
   unfold aN
   congr 1
   rw[show k+((i+(l.length-k%l.length))%l.length+j)=k+j+(i+(l.length-k%l.length))%l.length by omega,Nat.add_mod_mod,show k+j+(i+(l.length-k%l.length))=k+(i+(l.length-k%l.length)+j) by omega,←Nat.mod_add_mod,show k%l.length+(i+(l.length-k%l.length)+j)=i+j+l.length by omega,Nat.add_mod_right]
  rw[e 1]
  have:=e 0
  rw[Nat.add_zero,Nat.add_zero] at this
  rw[this]
theorem OD(l:L)(p:Q):wd (fV (qs l)) p=lJ l.length fun i=>we p (cq (aN l i),cq (aN l (i+1))):=by
 unfold wd lJ fV
 rw[List.map_map,kX]
 refine congrArg List.sum (List.map_congr_left fun i hi=>?_)
 have hi:=List.mem_range.1 hi
 have h0:0<l.length:=by omega
 rw[←mX h0,←mX h0]
 unfold aN
 rw[kX,Nat.mod_eq_of_lt hi]
 rfl
theorem Mo(k:Nat)(l:L)(p:Q):wd (fV (qs (eY k l))) p=wd (fV (qs l)) p:=by
 rw[OD,OD,dY]
 by_cases h:0<l.length
 ·rw[←IJ (n:=l.length) (f:=fun i=>we p (cq (aN l i),cq (aN l (i+1)))) (fun i=>by
   show we p (cq (aN l (i+l.length)),cq (aN l (i+l.length+1)))=_
   rw[II,show i+l.length+1=i+1+l.length by omega,II]) k]
  exact iB fun j _=>by rw[iJ h,iJ h];rfl
 ·rw[show l.length=0 by omega];rfl
theorem Z7{k:Nat}{l:L}{p:Q}:EZ (fV (qs (eY k l))) p↔EZ (fV (qs l)) p:=
 ⟨fun⟨e,he,ho⟩=>⟨e,CW.1 he,ho⟩,fun⟨e,he,ho⟩=>⟨e,CW.2 he,ho⟩⟩
theorem Ve(k:Nat)(l:L)(p:Q):wn (eY k l) p=wn l p:=by unfold wn;rw[jG Z7,Mo]
theorem RL{j k:Nat}{l m:L}(h:Apart (fV (qs l)) (fV (qs m))):Apart (fV (qs (eY j l))) (fV (qs (eY k m))):=
 fun e he f hf=>h e (CW.1 he) f (CW.1 hf)
theorem Mp{k:Nat}{l:L}(h:Bx l):Bx (eY k l):=
 ⟨by rw[dY];exact h.1,fun p hp=>h.2.1 p (UI hp),fun p hp q hq=>h.2.2 p (UI hp) q (UI hq)⟩
def Xx(l:L):Prop:=3≤l.length∧∀i,aN l i≠aN l (i+1)∧¬KN (cq (aN l i)) (cq (aN l (i+1))) (cq (aN l (i+2)))∧∀d,2≤d→d+2≤l.length→¬eQ l i (i+d)
theorem Dx{l:L}(h:rM l):Xx l:=by
 obtain⟨h3,hb⟩:=h
 have h0:0<l.length:=by omega
 have e:∀i j,aN l (i%l.length+j)=aN l (i+j):=fun i j=>by unfold aN;rw[Nat.mod_add_mod]
 refine⟨h3,fun i=>?_⟩
 have hi:=Nat.mod_lt i h0
 have nb:¬ID l (i%l.length):=fun c=>hb ⟨_,hi,c⟩
 refine⟨fun c=>nb (.inl (by rw[e,CC];exact c)),fun c=>nb (.inr (.inl (by rw[e,e,CC];exact c))),fun d h1 h2 c=>?_⟩
 by_cases hw:i%l.length+d<l.length
 ·refine nb (.inr (.inr ⟨i%l.length+d,by omega,?_,?_⟩))
  ·split
   ·exact hw
   ·omega
  ·unfold eQ at *
   rw[show i%l.length+d+1=i%l.length+(d+1) by omega,e,e,e,CC]
   exact c
 ·-- the other edge comes first
  refine hb ⟨i%l.length+d-l.length,by omega,.inr (.inr ⟨i%l.length,by omega,?_,?_⟩)⟩
  ·split
   ·exact hi
   ·omega
  ·unfold eQ at *
   have e3:∀j,aN l (i%l.length+d-l.length+j)=aN l (i+d+j):=fun j=>by
    rw[←II,show i%l.length+d-l.length+j+l.length=i%l.length+(d+j) by omega,e,Nat.add_assoc]
   have e4:=e3 0
   rw[Nat.add_zero,Nat.add_zero] at e4
   rw[e3,e4,e,CC]
   exact zC c
theorem Qu{l:L}(h:Xx l):rM l:=by
 obtain⟨h3,h⟩:=h
 refine⟨h3,?_⟩
 rintro ⟨i,hi,hb | hb | ⟨j,h1,h2,hm⟩⟩
 ·exact(h i).1 hb
 ·exact(h i).2.1 hb
 ·refine(h i).2.2 (j-i) (by omega) ?_ (by rw[show i+(j-i)=j by omega];exact hm)
  split at h2 <;> omega
theorem OI{k:Nat}{l:L}(h:rM l):rM (eY k l):=by
 have hs:=Dx h
 have h0:0<l.length:=by have:=hs.1;omega
 refine Qu ⟨by rw[dY];exact hs.1,fun i=>?_⟩
 unfold eQ
 rw[dY]
 simp only[iJ h0]
 refine⟨(hs.2 (k+i)).1,(hs.2 (k+i)).2.1,fun d h1 h2 c=>(hs.2 (k+i)).2.2 d h1 h2 ?_⟩
 unfold eQ
 rw[Nat.add_assoc k i d]
 exact c
theorem Mq{l:L}(h:rM l){i j:Nat}(hi:i<l.length)(hj:j<l.length)(e:aN l i=aN l j):i=j:=by
 have key:∀i d,i+d<l.length→0<d→aN l i≠aN l (i+d):=fun i d hd h0 c=>by
  have hs:=Dx h
  by_cases h1:d=1
  ·subst h1;exact(hs.2 i).1 c
  ·by_cases h2:d+2≤l.length
   ·refine(hs.2 i).2.2 d (by omega) h2 ?_
    unfold eQ
    rw[←c]
    refine .inl ?_
    have:=qK (a:=cq (aN l i)) (b:=cq (aN l (i+1))) (t:=0) (by decide) (by decide)
    rwa[WZ] at this
   ·have hd1:i=0∧d+1=l.length:=by omega
    obtain⟨rfl,hd1⟩:=hd1
    refine(hs.2 (0+d)).1 ?_
    rw[←c,show 0+d+1=0+l.length by omega,II]
 rcases Nat.lt_trichotomy i j with h1 | h1 | h1
 ·exact absurd (by rw[show i+(j-i)=j by omega];exact e) (key i (j-i) (by omega) (by omega))
 ·exact h1
 ·exact absurd (by rw[show j+(i-j)=i by omega];exact e.symm) (key j (i-j) (by omega) (by omega))
end Go.Eng.Ord
namespace Go.Eng.Ord
open Go.Eng Go.Eng.Tw Go.Eng.Tm Go.Eng.Tg Go.Eng.Rt
noncomputable def sW(ls:List L)(p:Q):Int:=(ls.map fun l=>wn l p).sum
def P4(l:L):Q:=cq (aN l 0)
def Z8(ls:List L):Prop:=(∀l∈ls,rM l)∧ls.Pairwise (fun l m=>Apart (fV (qs l)) (fV (qs m)))∧∀l∈ls,0≤sW ls (P4 l)∧sW ls (P4 l)≤1∧0≤sW ls (P4 l)+sA l∧sW ls (P4 l)+sA l≤1
theorem mB{ls:List L}{i:Nat}(h:i<ls.length):bO ls i=ls[i]:=by unfold bO;rw[List.getD_eq_getElem?_getD,List.getElem?_eq_getElem h];rfl
theorem rT{ls:List L}{l:L}(h:l∈ls):∃i,i<ls.length∧bO ls i=l:=by
 obtain⟨i,hi,e⟩:=List.mem_iff_getElem.1 h
 exact⟨i,hi,by rw[mB hi];exact e⟩
theorem IK{ls:List L}{R:L→L→Prop}:ls.Pairwise R↔∀i,i<ls.length→∀j,j<i→R (bO ls j) (bO ls i):=by
 rw[List.pairwise_iff_getElem]
 constructor
 ·intro h i hi j hj
  rw[mB hi,mB (by omega)]
  exact h j i (by omega) hi hj
 ·intro h i j hi hj hij
  have:=h j hj i hij
  rwa[mB hi,mB hj] at this
theorem G3(ls:List L)(p:Q):sW ls p=lJ ls.length fun j=>wn (bO ls j) p:=by
 unfold sW lJ
 congr 1
 refine List.ext_getElem (by rw[List.length_map,List.length_map,List.length_range]) fun i h1 h2=>?_
 rw[List.length_map] at h1
 rw[List.getElem_map,List.getElem_map,List.getElem_range,mB h1]
theorem Z9{l:L}(h:0<l.length)(k:Nat):wn l (cq (aN l k))=0:=by
 have:EZ (fV (qs l)) (cq (aN l k)):=by
  refine⟨_,E0 (L:=qs l) (i:=k) (by rw[kX];exact h),?_⟩
  rw[mX h,mX h]
  have:=qK (a:=cq (aN l k)) (b:=cq (aN l (k+1))) (t:=0) (by decide) (by decide)
  rwa[WZ] at this
 unfold wn
 rw[jO this];rfl
theorem Dy{ls:List L}{i:Nat}(hi:i<ls.length)(h:0<(bO ls i).length):OH ls i ls.length=sW ls (P4 (bO ls i)):=by
 rw[G3]
 refine iB fun j _=>?_
 by_cases e:j=i
 ·rw[if_pos e,e];exact(Z9 h 0).symm
 ·rw[if_neg e];rfl
theorem OJ{ls:List L}:(¬∃i,0≤i∧i<ls.length∧CY ls i)↔(∀l∈ls,rM l)∧ls.Pairwise (fun l m=>Apart (fV (qs l)) (fV (qs m))):=by
 rw[IK]
 constructor
 ·intro h
  refine⟨fun l hl=>?_,fun i hi j hj=>?_⟩
  ·obtain⟨i,hi,rfl⟩:=rT hl
   exact Classical.byContradiction fun c=>h ⟨i,Nat.zero_le _,hi,.inl c⟩
  ·exact(IE.1 fun c=>h ⟨i,Nat.zero_le _,hi,.inr ⟨j,Nat.zero_le _,hj,c⟩⟩).symm
 ·rintro ⟨h1,h2⟩ ⟨i,_,hi,c | ⟨k,_,hk,c⟩⟩
  ·exact c (h1 _ (cJ hi))
  ·exact IE.2 (h2 i hi k hk).symm c
def Cv(ls:List L):Prop:=(∀l∈ls,rM l)→ls.Pairwise (fun l m=>Apart (fV (qs l)) (fV (qs m)))→∃G,Reg ls G
theorem Xy{ls:List L}(hS:∀l∈ls,Xt l):Cv ls:=fun h1 h2=>Mh hS (OJ.2 ⟨h1,h2⟩)
theorem UK{ls:List L}(hc:Cv ls):(Z8 ls→GZ ls=0)∧(¬Z8 ls→GZ ls=8):=by
 unfold GZ
 by_cases hA:∃i,0≤i∧i<ls.length∧CY ls i
 ·rw[jO hA]
  exact⟨fun h=>absurd hA (OJ.2 ⟨h.1,h.2.1⟩),fun _=>rfl⟩
 ·rw[gU hA,cond_false]
  obtain⟨h1,h2⟩:=OJ.1 hA
  obtain⟨G,hR⟩:=hc h1 h2
  by_cases hN:∃i,0≤i∧i<ls.length∧KP ls i
  ·rw[jO hN]
   refine⟨fun h=>?_,fun _=>rfl⟩
   obtain⟨i,_,hi,hb⟩:=hN
   refine absurd ?_ ((hR.bad hi).1 hb)
   rw[Dy hi (hR.pos i hi)]
   exact h.2.2 _ (cJ hi)
  ·rw[gU hN]
   refine⟨fun _=>rfl,fun h=>absurd ⟨h1,h2,fun l hl=>?_⟩ h⟩
   obtain⟨i,hi,rfl⟩:=rT hl
   have nb:¬Ql ls i:=fun c=>hN ⟨i,Nat.zero_le _,hi,(hR.bad hi).2 c⟩
   unfold Ql at nb
   rw[Dy hi (hR.pos i hi)] at nb
   exact Classical.byContradiction fun c=>nb c
theorem XL{α:Type}(f:α→Int){l m:List α}(h:l.Perm m):(l.map f).sum=(m.map f).sum:=by
 induction h with
 | nil=>rfl
 | cons x _ ih=>rw[List.map_cons,List.map_cons,List.sum_cons,List.sum_cons,ih]
 | swap x y l=>simp only[List.map_cons,List.sum_cons];omega
 | trans _ _ h1 h2=>exact h1.trans h2
theorem Qv{ls ms:List L}(h:ls.Perm ms)(p:Q):sW ls p=sW ms p:=XL _ h
theorem XM{ls ms:List L}(h:ls.Perm ms)(hk:Z8 ls):Z8 ms:=by
 obtain⟨h1,h2,h3⟩:=hk
 refine⟨fun l hl=>h1 l (h.mem_iff.2 hl),(h.pairwise_iff fun hab=>hab.symm).1 h2,fun l hl=>?_⟩
 have:=h3 l (h.mem_iff.2 hl)
 rwa[Qv h] at this
def RotS(ls zs:List L):Prop:=zs.length=ls.length∧∀i,i<ls.length→∃k,bO zs i=eY k (bO ls i)
theorem RotS.symm{ls zs:List L}(h:RotS ls zs):RotS zs ls:=⟨h.1.symm,fun i hi=>by
 obtain⟨k,e⟩:=h.2 i (by rw[←h.1];exact hi)
 obtain⟨j,ej⟩:=XK k (bO ls i)
 exact⟨j,by rw[e,ej]⟩⟩
theorem Vf{ls zs:List L}(h:RotS ls zs)(p:Q):sW zs p=sW ls p:=by
 rw[G3,G3,h.1]
 refine iB fun j hj=>?_
 obtain⟨k,e⟩:=h.2 j hj
 rw[e,Ve]
open Classical in
theorem Reg.first{ls:List L}{G:Nat→List Ed}(hR:Reg ls G){i:Nat}(hi:i<ls.length)(k:Nat):sW ls (cq (aN (bO ls i) k))=sW ls (P4 (bO ls i)):=by
 rw[G3,G3]
 refine iB fun j hj=>?_
 have h0:=hR.pos i hi
 by_cases e:j=i
 ·subst e
  rw[Z9 h0,show P4 (bO ls j)=cq (aN (bO ls j) 0) from rfl,Z9 h0]
 ·have off:∀k,¬EZ (fV (qs (bO ls j))) (cq (aN (bO ls i) k)):=fun k=>by
   rintro ⟨e',he,ho⟩
   have:=E0 (L:=qs (bO ls i)) (i:=k) (by rw[kX];exact h0)
   rw[mX h0,mX h0] at this
   exact hR.ap i hi j hj (Ne.symm e) _ this e' he (.inr (.inr (.inl ho)))
  have val:∀k,wn (bO ls j) (cq (aN (bO ls i) k))=if H (G j) (cq (aN (bO ls i) k)) then sA (bO ls j) else 0:=fun k=>by
   unfold wn
   rw[gU (off k),cond_false]
   exact(hR.lp j hj).wind (off k)
  have hin:∀a b,H (G j) (cq (aN (bO ls i) a))→H (G j) (cq (aN (bO ls i) b)):=fun a b h=>by
   obtain⟨e1,he1,v1⟩:=(hR.lp i hi).at (by rw[kX];exact h0) a
   obtain⟨e2,he2,v2⟩:=(hR.lp i hi).at (by rw[kX];exact h0) b
   rw[mX h0] at v1 v2
   have ap:=(hR.lp i hi).apart (hR.lp j hj) (hR.ap i hi j hj (Ne.symm e))
   have:=T5 (hR.lp j hj).gd ap (hR.lp i hi).gd (hR.lp i hi).con he1 (by rw[v1];exact h) e2 he2
   rwa[v2] at this
  unfold P4
  rw[val,val]
  by_cases hh:H (G j) (cq (aN (bO ls i) k))
  ·rw[if_pos hh,if_pos (hin _ _ hh)]
  ·rw[if_neg hh,if_neg fun c=>hh (hin _ _ c)]
theorem Dz{ls zs:List L}(h:RotS ls zs)(hc:Cv ls)(hk:Z8 ls):Z8 zs:=by
 obtain⟨h1,h2,h3⟩:=hk
 obtain⟨G,hR⟩:=hc h1 h2
 refine⟨fun l hl=>?_,IK.2 fun i hi j hj=>?_,fun l hl=>?_⟩
 ·obtain⟨i,hi,rfl⟩:=rT hl
  rw[h.1] at hi
  obtain⟨k,e⟩:=h.2 i hi
  rw[e];exact OI (h1 _ (cJ hi))
 ·rw[h.1] at hi
  obtain⟨k,e⟩:=h.2 i hi
  obtain⟨k',e'⟩:=h.2 j (by omega)
  rw[e,e']
  exact RL (IK.1 h2 i hi j hj)
 ·obtain⟨i,hi,rfl⟩:=rT hl
  rw[h.1] at hi
  obtain⟨k,e⟩:=h.2 i hi
  have h0:=hR.pos i hi
  rw[Vf h,e,Mn]
  have e2:P4 (eY k (bO ls i))=cq (aN (bO ls i) k):=by unfold P4;rw[iJ h0];rfl
  rw[e2,Reg.first hR hi k]
  exact h3 _ (cJ hi)
theorem Mr{E F:List Ed}(h:∀e,e∈E↔e∈F)(hn:F.Nodup)(g:Gd E):Gd F where
 cvx:=fun e he f hf=>g.cvx e ((h e).2 he) f ((h f).2 hf)
 clo:=fun e he=>let ⟨f,hf,q⟩:=g.clo e ((h e).2 he);⟨f,(h f).1 hf,q⟩
 nz:=fun e he=>g.nz e ((h e).2 he)
 up1:=fun e he f hf=>g.up1 e ((h e).2 he) f ((h f).2 hf)
 dn1:=fun e he f hf=>g.dn1 e ((h e).2 he) f ((h f).2 hf)
 nd:=hn
 top:=let ⟨e,he,f,hf,a,b,c,d,q⟩:=g.top;⟨e,(h e).1 he,f,(h f).1 hf,a,b,fun k hk=>c k ((h k).2 hk),d,q.imp id fun q=>⟨(h _).1 q.1,q.2⟩⟩
 bot:=let ⟨e,he,f,hf,a,b,c,d,q⟩:=g.bot;⟨e,(h e).1 he,f,(h f).1 hf,a,b,fun k hk=>c k ((h k).2 hk),d,q.imp id fun q=>⟨(h _).1 q.1,q.2⟩⟩
 str:=fun y ⟨a,ha,p⟩ ⟨b,hb,q⟩=>let ⟨⟨e,he,r⟩,f,hf,s⟩:=g.str y ⟨a,(h a).2 ha,p⟩ ⟨b,(h b).2 hb,q⟩;⟨⟨e,(h e).1 he,r⟩,f,(h f).1 hf,s⟩
theorem Vg{l:L}(h:rM l):(fV (qs l)).Nodup:=by
 unfold fV
 refine List.Pairwise.map _ (R:=fun i j=>i∈List.range l.length∧j∈List.range l.length∧i≠j) (fun i j ⟨hi,hj,hne⟩ c=>?_) ?_
 ·have hi:=List.mem_range.1 hi
  have hj:=List.mem_range.1 hj
  have h0:0<l.length:=by omega
  have e:∀i,i<l.length→(qs l).getD i default=cq (aN l i):=fun i hi=>by
   rw[←mX h0];unfold aN;rw[kX,Nat.mod_eq_of_lt hi]
  have c:=(Prod.mk.inj c).1
  rw[e i hi,e j hj] at c
  exact hne (Mq h hi hj (IC c))
 ·rw[kX]
  have:=List.nodup_range (n:=l.length)
  exact List.Pairwise.imp_of_mem (fun ha hb hab=>⟨ha,hb,hab⟩) this
theorem Xz{E:List Ed}(h:E.Nodup):(sw E).Nodup:=by
 unfold sw
 refine List.Pairwise.map _ (fun a b hab c=>hab ?_) h
 have:=Prod.mk.inj c
 exact Prod.ext this.2 this.1
theorem Vh{l:L}{s:Int}{G:List Ed}(k:Nat)(h:rM l)(hl:Lp (qs l) s G):∃G',Lp (qs (eY k l)) s G':=by
 have hn:=Vg (OI (k:=k) h)
 rcases hl.dir with⟨es,e⟩ | ⟨es,e⟩
 ·refine⟨fV (qs (eY k l)),?_,T6 _,.inl ⟨es,rfl⟩⟩
  exact Mr (fun x=>by rw[e];exact CW.symm) hn hl.gd
 ·refine⟨sw (fV (qs (eY k l))),?_,ZY _,.inr ⟨es,rfl⟩⟩
  exact Mr (fun x=>by rw[e,uU,uU];exact CW.symm) (Xz hn) hl.gd
def zT(ls ms:List L):Prop:=∃zs,RotS ls zs∧zs.Perm ms
theorem Vi{ls zs:List L}(h:RotS ls zs)(h1:∀l∈ls,rM l)(h2:ls.Pairwise (fun l m=>Apart (fV (qs l)) (fV (qs m)))):(∀l∈zs,rM l)∧zs.Pairwise (fun l m=>Apart (fV (qs l)) (fV (qs m))):=by
 refine⟨fun l hl=>?_,IK.2 fun i hi j hj=>?_⟩
 ·obtain⟨i,hi,rfl⟩:=rT hl
  rw[h.1] at hi
  obtain⟨k,e⟩:=h.2 i hi
  rw[e];exact OI (h1 _ (cJ hi))
 ·rw[h.1] at hi
  obtain⟨k,e⟩:=h.2 i hi
  obtain⟨k',e'⟩:=h.2 j (by omega)
  rw[e,e']
  exact RL (IK.1 h2 i hi j hj)
theorem K9{ls ms:List L}(h:zT ls ms)(hc:Cv ls):Cv ms:=by
 obtain⟨zs,hr,hp⟩:=h
 intro h1 h2
 have z1:∀l∈zs,rM l:=fun l hl=>h1 l (hp.mem_iff.1 hl)
 have z2:=(hp.symm.pairwise_iff (R:=fun l m=>Apart (fV (qs l)) (fV (qs m))) fun hab=>hab.symm).1 h2
 obtain⟨x1,x2⟩:=Vi hr.symm z1 z2
 obtain⟨G,hR⟩:=hc x1 x2
 have key:∀i,i<ms.length→∃G',Lp (qs (bO ms i)) (sA (bO ms i)) G':=fun i hi=>by
  obtain⟨j,hj,e⟩:=rT (hp.mem_iff.2 (cJ hi))
  rw[hr.1] at hj
  obtain⟨k,ek⟩:=hr.2 j hj
  rw[←e,ek,Mn]
  exact Vh k (x1 _ (cJ hj)) (hR.lp j hj)
 have ap:=IK.1 h2
 refine⟨fun i=>if hi:i<ms.length then Classical.choose (key i hi) else [],fun i hi=>?_,fun i hi=>by have:=(h1 _ (cJ hi)).1;omega,fun i hi j hj hne=>?_⟩
 ·rw[dif_pos hi];exact Classical.choose_spec (key i hi)
 ·rcases Nat.lt_or_ge i j with h | h
  ·exact ap j hj i h
  ·exact(ap i hi j (by omega)).symm
theorem OL{ls ms:List L}(h:zT ls ms)(hc:Cv ls)(hk:Z8 ls):Z8 ms:=by
 obtain⟨zs,hr,hp⟩:=h
 exact XM hp (Dz hr hc hk)
theorem XN{ls ms:List L}(h:zT ls ms)(hc:Cv ls)(hk:Z8 ms):Z8 ls:=by
 obtain⟨zs,hr,hp⟩:=h
 exact Dz hr.symm (K9 ⟨zs,hr,.refl _⟩ hc) (XM hp.symm hk)
theorem Ms{ls ms:List L}(h:zT ls ms)(hc:Cv ls):GZ ms=GZ ls:=by
 have c1:=UK hc
 have c2:=UK (K9 h hc)
 by_cases hk:Z8 ls
 ·rw[c1.1 hk,c2.1 (OL h hc hk)]
 ·rw[c1.2 hk,c2.2 fun k=>hk (XN h hc k)]
end Go.Eng.Ord
namespace Go.Eng.Ord
open Go.Eng Go.Eng.Tw Go.Eng.Tm Go.Eng.Tg Go.Eng.Rt
def US(p q:Z):Prop:=p.1<q.1∨(p.1=q.1∧p.2<q.2)
instance (p q:Z):Decidable (US p q):=inferInstanceAs (Decidable (p.1<q.1∨(p.1=q.1∧p.2<q.2)))
theorem Hh{a b c:Z}(h:¬US a b)(h':US c b):¬US a c:=by unfold US at *;omega
theorem Vj{a b:Z}(h:¬US a b)(h':¬US b a):a=b:=by unfold US at *;exact Prod.ext (by omega) (by omega)
theorem Qw(a:Z):¬US a a:=by unfold US;omega
def qQ(l:L):Nat→Nat
 | 0=>0
 | i+1=>if US (aN l i) (aN l (qQ l i)) then i else qQ l i
theorem UL{l:L}(h:0<l.length):∀{n:Nat},n≤l.length→qQ l n<l.length
 | 0,_=>h
 | n+1,hn=>by
  unfold qQ
  split
  ·omega
  ·exact UL h (by omega)
theorem UM{l:L}:∀{n j:Nat},j<n→¬US (aN l j) (aN l (qQ l n))
 | 0,_,h=>by omega
 | n+1,j,h=>by
  unfold qQ
  split
  ·rename_i hlt
   by_cases e:j=n
   ·subst e;exact Qw _
   ·exact Hh (UM (by omega)) hlt
  ·rename_i hlt
   by_cases e:j=n
   ·subst e;exact hlt
   ·exact UM (by omega)
def iC(l:L):L:=eY (qQ l l.length) l
theorem Mu{l:L}(h:0<l.length)(j:Nat):¬US (aN l j) (aN l (qQ l l.length)):=by
 rw[←CC]
 exact UM (Nat.mod_lt _ h)
theorem Hi{l:L}(h:rM l)(k:Nat):iC (eY k l)=iC l:=by
 have h0:0<l.length:=by have:=h.1;omega
 unfold iC
 rw[Dw]
 have a1:∀j,¬US (aN l j) (aN l (k+qQ (eY k l) (eY k l).length)):=fun j=>by
  have a:=Mu (l:=eY k l) (by rw[dY];exact h0)
  obtain⟨i,e⟩:=XK k l
  have:=a (i+j)
  rw[iJ h0,iJ h0] at this
  have e2:aN l (k+(i+j))=aN l j:=by
   have:aN (eY i (eY k l)) j=aN l j:=by rw[e]
   rwa[iJ (by rw[dY];exact h0),iJ h0] at this
  rwa[e2] at this
 have a2:=Mu h0
 have e:aN l (k+qQ (eY k l) (eY k l).length)=aN l (qQ l l.length):=Vj (a2 _) (a1 _)
 rw[←CC,←CC l (qQ l l.length)] at e
 rw[←UJ,←UJ (qQ l l.length),Mq h (Nat.mod_lt _ h0) (Nat.mod_lt _ h0) e]
def Ya(ls:List L):List L:=P3 (ls.map iC)
theorem XO{ls:List L}(h1:∀l∈ls,rM l)(h2:ls.Pairwise (fun l m=>Apart (fV (qs l)) (fV (qs m)))):KD (ls.map iC):=by
 unfold KD
 rw[List.pairwise_map]
 refine List.Pairwise.imp_of_mem (fun {l m} hl hm ha c=>?_) h2
 have l0:0<l.length:=by have:=(h1 l hl).1;omega
 have m0:0<m.length:=by have:=(h1 m hm).1;omega
 have e:aN (iC l) 0=aN (iC m) 0:=Prod.ext c.1 c.2
 unfold iC at e
 rw[iJ l0,iJ m0] at e
 have e1:=E0 (L:=qs l) (i:=qQ l l.length+0) (by rw[kX];exact l0)
 have e2:=E0 (L:=qs m) (i:=qQ m m.length+0) (by rw[kX];exact m0)
 refine ha _ e1 _ e2 (.inl ?_)
 dsimp only
 rw[mX l0,mX l0,mX m0,←e]
 have:=qK (a:=cq (aN l (qQ l l.length+0))) (b:=cq (aN l (qQ l l.length+0+1))) (t:=0) (by decide) (by decide)
 rwa[WZ] at this
theorem Aa(ls:List L):RotS ls (ls.map iC):=⟨List.length_map ..,fun i hi=>⟨qQ (bO ls i) (bO ls i).length,by
 rw[mB (ls:=ls.map iC) (by rw[List.length_map];exact hi),List.getElem_map,←mB hi];rfl⟩⟩
theorem Vk(ls:List L):zT ls (Ya ls):=⟨ls.map iC,Aa ls,(xX _).symm⟩
theorem Ab{ls zs:List L}(h:RotS ls zs)(h1:∀l∈ls,rM l):zs.map iC=ls.map iC:=by
 refine List.ext_getElem (by rw[List.length_map,List.length_map,h.1]) fun i a b=>?_
 rw[List.length_map] at a b
 rw[List.getElem_map,List.getElem_map,←mB a,←mB b]
 obtain⟨k,e⟩:=h.2 i b
 rw[e,Hi (h1 _ (cJ b))]
theorem XP{ls ms:List L}(h:zT ls ms)(hk:Z8 ls):Ya ms=Ya ls:=by
 obtain⟨zs,hr,hp⟩:=h
 unfold Ya
 have e:=Ab hr hk.1
 have hp:=hp.map iC
 rw[e] at hp
 exact(Z6 hp (XO hk.1 hk.2.1)).symm
noncomputable def Yp(ls:List L)(p:Q):Int:=bif bP (wW ls p) then 0 else bif decide (uV ls p ls.length=1) then 1 else -1
theorem OM{ls:List L}{p:Q}:wW ls p↔∃l∈ls,EZ (fV (qs l)) p:=by
 constructor
 ·rintro ⟨j,_,hj,h⟩;exact⟨_,cJ hj,h⟩
 ·rintro ⟨l,hl,h⟩
  obtain⟨j,hj,rfl⟩:=rT hl
  exact⟨j,Nat.zero_le _,hj,h⟩
theorem XQ(ls:List L)(p:Q):uV ls p ls.length=(ls.map fun l=>wd (fV (qs l)) p).sum:=by
 unfold uV lJ
 congr 1
 refine List.ext_getElem (by rw[List.length_map,List.length_map,List.length_range]) fun i h1 h2=>?_
 rw[List.length_map] at h2
 rw[List.getElem_map,List.getElem_map,List.getElem_range,mB h2]
theorem Qx{ls ms:List L}(h:zT ls ms)(p:Q):Yp ms p=Yp ls p:=by
 obtain⟨zs,hr,hp⟩:=h
 have e1:uV ms p ms.length=uV ls p ls.length:=by
  rw[XQ,←XL _ hp,←XQ]
  unfold uV
  rw[hr.1]
  refine iB fun j hj=>?_
  obtain⟨k,e⟩:=hr.2 j hj
  rw[e,Mo]
 have e2:wW ms p↔wW ls p:=by
  rw[OM,OM]
  constructor
  ·rintro ⟨l,hl,ho⟩
   obtain⟨j,hj,rfl⟩:=rT (hp.mem_iff.2 hl)
   rw[hr.1] at hj
   obtain⟨k,e⟩:=hr.2 j hj
   rw[e] at ho
   exact⟨_,cJ hj,Z7.1 ho⟩
  ·rintro ⟨l,hl,ho⟩
   obtain⟨j,hj,rfl⟩:=rT hl
   obtain⟨k,e⟩:=hr.2 j hj
   refine⟨_,hp.mem_iff.1 (cJ (by rw[hr.1];exact hj)),?_⟩
   rw[e];exact Z7.2 ho
 unfold Yp
 rw[e1,jG e2]
end Go.Eng.Ord
namespace Go.Eng.Ord
open Go.Eng Go.Eng.Tw Go.Eng.Tm Go.Eng.Tg Go.Eng.Rt
def Hj(p q:Z):Int:=if lS (p.1:Rat) (q.1:Rat)=0 then lS (p.2:Rat) (q.2:Rat) else lS (p.1:Rat) (q.1:Rat)
theorem Yb(a b:Int):lS (a:Rat) (b:Rat)=if a<b then -1 else if a=b then 0 else 1:=by
 unfold lS
 simp only[Rat.intCast_lt_intCast,Rat.intCast_inj]
theorem UN{p q:Z}:Hj p q<0↔US p q:=by
 unfold Hj US
 rw[Yb,Yb]
 repeat' split
 all_goals omega
section
variable {p q:Z} (hp:Sp p) (hq:Sp q)
include hp hq
theorem RM:mU (aM (p.1:Rat),aU (p.1:Rat),bA (p.1:Rat),aM (p.2:Rat),aU (p.2:Rat),bA (p.2:Rat),false,[],[],aM (q.1:Rat),aU (q.1:Rat),bA (q.1:Rat),aM (q.2:Rat),aU (q.2:Rat),bA (q.2:Rat),false,[],[],())=some (Hj p q,()):=by
 have s:∀{n:Int},n.natAbs≤32→Sm (n:Rat):=fun h=>zA (by omega)
 unfold mU Hj
 simp only[GS (s hp.1) (s hq.1),GS (s hp.2) (s hq.2),aY,aR]
 by_cases h:lS (p.1:Rat) (q.1:Rat)=0
 ·rw[decide_eq_true h,if_pos h];rfl
 ·rw[decide_eq_false h,if_neg h];rfl
omit hq in
theorem Vl:tR (aM (p.1:Rat),aU (p.1:Rat),bA (p.1:Rat),aM (p.2:Rat),aU (p.2:Rat),bA (p.2:Rat),false,[],[],false,[],[],false,[],[],false,[],[],())=some (c3 (p.1:Rat) (c3 (p.2:Rat) (c3 0 ()))):=by
 have s:∀{n:Int},n.natAbs≤32→Sm (n:Rat):=fun h=>zA (by omega)
 have a1:=WR (s hp.1) DR
 have a2:=WR (s hp.2) DR
 have a3:=WR DR DR
 have z:aM 0=false:=rfl
 rw[Rat.add_zero,DP,DQ,z] at a1 a2 a3
 unfold tR mA
 simp only[a1,a2,a3,aY,aP,c3,DP,DQ,z]
end
theorem Hk{a b:L}(ha:Bx a)(hb:Bx b)(a0:0<a.length)(b0:0<b.length):oI (a.map wT,b.map wT,())=some (Hj (aN a 0) (aN b 0),()):=by
 have i1:bE (a.map wT) 0=some (wT (aN a 0)):=CA (i:=0) a0
 have i2:bE (b.map wT) 0=some (wT (aN b 0)):=CA (i:=0) b0
 have sp:=nQ ha a0 0
 have sq:=nQ hb b0 0
 obtain⟨a0,a1,a2,a3,a4,a5,a6,a7,a8⟩:=cells (aN a 0)
 obtain⟨b0,b1,b2,b3,b4,b5,b6,b7,b8⟩:=cells (aN b 0)
 unfold oI
 simp only[i1,i2,aY,a0,a1,a2,a3,a4,a5,a6,a7,a8,b0,b1,b2,b3,b4,b5,b6,b7,b8,RM sp sq]
theorem Vm(l:L):T.len? (lT l)=some (l.length:Int):=by
 show (if (9:Nat)<1000000000 then some (lenL (l.map wT)) else none)=_
 rw[if_pos (by decide),aL,List.length_map]
section
variable {l:L} (hB:Bx l) (h0:0<l.length)
include hB h0
theorem Ea(o y:List T)(n i:Int):∀d k,k+d=l.length→aH kB (o,lT l,(qQ l k:Nat),y,n,i,lT l,(l.length:Int),(k:Int),())=some (.inl (o,lT l,(qQ l l.length:Nat),y,n,i,())) 
 | 0,k,h=>by
  have:k=l.length:=by omega
  subst this
  refine aQ ?_
  unfold kB
  simp only[aF,decide_eq_false (by omega:¬(l.length:Int)<(l.length:Int)),cond_false]
 | d+1,k,h=>by
  have hk:k<l.length:=by omega
  have ih:=Ea o y n i d (k+1) (by omega)
  rw[←ih]
  refine dN ?_
  have hle:=hB.1
  have wk:wr .i64 ((k:Int)+1)=((k+1:Nat):Int):=by rw[dK (by omega) (by omega)];push_cast;rfl
  have hj:=UL (l:=l) h0 (n:=k) (by omega)
  have g1:=CA hk
  have g2:=CA hj
  have sp:=nQ hB h0 k
  have sq:=nQ hB h0 (qQ l k)
  obtain⟨a0,a1,a2,a3,a4,a5,a6,a7,a8⟩:=cells (aN l k)
  obtain⟨b0,b1,b2,b3,b4,b5,b6,b7,b8⟩:=cells (aN l (qQ l k))
  have e:qQ l (k+1)=if US (aN l k) (aN l (qQ l k)) then k else qQ l k:=rfl
  unfold kB
  simp only[aF,decide_eq_true (by omega:(k:Int)<(l.length:Int)),cond_true,OG,g1,g2,aY,a0,a1,a2,a3,a4,a5,a6,a7,a8,b0,b1,b2,b3,b4,b5,b6,b7,b8,RM sp sq,aO]
  by_cases hlt:US (aN l k) (aN l (qQ l k))
  ·rw[decide_eq_true (UN.2 hlt),e,if_pos hlt]
   simp only[cond_true,aY,aP,wk]
  ·rw[decide_eq_false (fun c=>hlt (UN.1 c)),e,if_neg hlt]
   simp only[cond_false,aY,aP,wk]
theorem Mv(o y:List T)(n i x:Int){a:Nat}(ha:a<l.length):∀d k,k+d=l.length→aH kC (o,lT l,(a:Int),((List.range k).map fun j=>wT (aN l (a+j))),y,n,i,(l.length:Int),(k:Int),())=some (.inl (o,(eY a l).map wT,y,n,i,())) 
 | 0,k,h=>by
  have:k=l.length:=by omega
  subst this
  refine aQ ?_
  unfold kC eY
  rw[List.map_map]
  simp only[aF,decide_eq_false (by omega:¬(l.length:Int)<(l.length:Int)),cond_false]
  rfl
 | d+1,k,h=>by
  have hk:k<l.length:=by omega
  have ih:=Mv o y n i x ha d (k+1) (by omega)
  rw[←ih]
  refine dN ?_
  have hle:=hB.1
  have wk:wr .i64 ((k:Int)+1)=((k+1:Nat):Int):=by rw[dK (by omega) (by omega)];push_cast;rfl
  have wa:wr .i64 ((a:Int)+(k:Int))=((a+k:Nat):Int):=by rw[dK (by omega) (by omega)];push_cast;rfl
  have hm:((a+k:Nat):Int).tmod (l.length:Int)=(((a+k)%l.length:Nat):Int):=by
   rw[Int.tmod_eq_emod_of_nonneg (by omega)];rfl
  have hl:=Vm l
  have g:=E4 h0 (a+k)
  have sp:=nQ hB h0 (a+k)
  have va:=Vl sp
  obtain⟨a0,a1,a2,a3,a4,a5,a6,a7,a8⟩:=cells (aN l (a+k))
  have r:=kR (l:=(List.range k).map fun j=>wT (aN l (a+j))) (m:=[wT (aN l (a+k))]) (b:=168) (by simp only[List.length_map,List.length_range,List.length_cons,List.length_nil];omega) (by decide)
  have e:((List.range k).map fun j=>wT (aN l (a+j)))++[wT (aN l (a+k))]=(List.range (k+1)).map fun j=>wT (aN l (a+j)):=by
   rw[List.range_succ,List.map_append];rfl
  rw[e] at r
  simp only[c3,DP,DQ,show aM 0=false from rfl] at va
  unfold kC
  simp only[aF,decide_eq_true (by omega:(k:Int)<(l.length:Int)),cond_true,hl,aY,VO (show (l.length:Int)≠0 by omega),OG,aO,oD,wa,hm,g,a0,a1,a2,a3,a4,a5,a6,a7,a8,va,UB,r,wk]
end
end Go.Eng.Ord
namespace Go.Eng.Ord
open Go.Eng Go.Eng.Tw Go.Eng.Tm Go.Eng.Tg Go.Eng.Rt
theorem upT(x l:L):T.upd 1 (lT x) 0 [T.sl 9 (l.map wT)]=lT l:=by unfold T.upd;rfl
theorem Yc{ls:List L}(hB:KO ls)(h0:∀l∈ls,0<l.length)(hn:ls.length≤1000):aH gS ([],ls.map lT,(ls.length:Int),(0:Int),())=some (.inl ((ls.map iC).map lT,())):=by
 have lp:=jT (F:=gS) ls.length (fun k=>(((ls.take k).map iC).map lT,ls.map lT,(ls.length:Int),(k:Int),())) fun k hk=>by
  have wk:wr .i64 ((k:Int)+1)=((k+1:Nat):Int):=by rw[dK (by omega) (by omega)];push_cast;rfl
  have hm:=cJ (ls:=ls) hk
  have g:=(kZ (ls:=ls) (i:=k) hk).1
  have b:=hB _ hm
  have l0:=h0 _ hm
  have le:=Ea b l0 (((ls.take k).map iC).map lT) (ls.map lT) (ls.length:Int) (k:Int) (bO ls k).length 0 (by omega)
  have tu:=Mv b l0 (((ls.take k).map iC).map lT) (ls.map lT) (ls.length:Int) (k:Int) 0 (UL l0 (Nat.le_refl _)) (bO ls k).length 0 (by omega)
  have tu:aH kC (((ls.take k).map iC).map lT,lT (bO ls k),(qQ (bO ls k) (bO ls k).length:Nat),[],ls.map lT,(ls.length:Int),(k:Int),((bO ls k).length:Int),(0:Int),())=_:=tu
  have le:aH kB (((ls.take k).map iC).map lT,lT (bO ls k),(0:Int),ls.map lT,(ls.length:Int),(k:Int),lT (bO ls k),((bO ls k).length:Int),(0:Int),())=_:=le
  have r:=kR (l:=((ls.take k).map iC).map lT) (m:=[lT (iC (bO ls k))]) (b:=24) (by simp only[List.length_map,List.length_take,List.length_cons,List.length_nil];omega) (by decide)
  have e:((ls.take k).map iC).map lT++[lT (iC (bO ls k))]=((ls.take (k+1)).map iC).map lT:=by
   rw[List.take_add_one,List.getElem?_eq_getElem hk,List.map_append,List.map_append,←mB hk];rfl
  rw[e] at r
  have sl:T.sl 9 ((eY (qQ (bO ls k) (bO ls k).length) (bO ls k)).map wT)=lT (iC (bO ls k)):=rfl
  unfold gS
  simp only[aF,decide_eq_true (by omega:(k:Int)<(ls.length:Int)),cond_true,g,aY,oL,Vm,le,aP,tu,sl,r,aO,wk]
 have hout:gS (((ls.take ls.length).map iC).map lT,ls.map lT,(ls.length:Int),(ls.length:Int),())=some (.inr (.inl ((ls.map iC).map lT,()))):=by
  unfold gS
  simp only[aF,decide_eq_false (by omega:¬(ls.length:Int)<(ls.length:Int)),cond_false,List.take_length]
 rw[aQ hout] at lp
 exact lp
def Yd(l:L):Prop:=Bx l∧0<l.length
theorem Vn(P Z:List L)(x:L)(n:Nat)(h:P.length=n):(P++x::Z)[n]?=some x:=by
 subst h;rw[List.getElem?_append_right (Nat.le_refl _),Nat.sub_self];rfl
theorem Qy(P Z:List L)(x y:L)(n:Nat)(h:P.length=n):(P++x::y::Z)[n+1]?=some y:=by
 subst h;rw[List.getElem?_append_right (by omega),Nat.add_sub_cancel_left];rfl
theorem Mw(P Z:List L)(x y:L)(n:Nat)(h:P.length=n):(((P++x::y::Z).map lT).set (n+1) (lT x)).set n (lT y)=(P++y::x::Z).map lT:=by
 subst h
 rw[←List.map_set,←List.map_set]
 congr 1
 rw[List.set_append_right _ _ (by omega),List.set_append_right _ _ (by omega),Nat.add_sub_cancel_left,Nat.sub_self]
 rfl
theorem ON(rest:List L)(N i:Int):∀(R:List L) (e:L) (A:List L),(R.length+A.length+rest.length<1000)→(∀x∈R,Yd x)→Yd e →
 aH bB ((R.reverse++e::A++rest).map lT,0,N,(),i,(R.length:Int),())=some (.inl ((KS R e A++rest).map lT,0,N,(),i,()))
 | [],e,A,_,_,_=>by
  refine aQ ?_
  unfold bB
  simp only[aF]
  rw[decide_eq_false (by simp)];rfl
 | x::R,e,A,hlen,hR,he=>by
  have hD:(x::R).reverse++e::A++rest=R.reverse++x::e::(A++rest):=by simp
  have hlen':R.length+1+A.length+rest.length<1000:=by simpa using hlen
  have hrl:R.reverse.length=R.length:=List.length_reverse
  have hx:=hR x (List.mem_cons_self ..)
  have g0:(R.reverse++x::e::(A++rest))[R.length]?=some x:=Vn _ _ _ _ hrl
  have g1:(R.reverse++x::e::(A++rest))[R.length+1]?=some e:=Qy _ _ _ _ _ hrl
  have hLen:((R.reverse++x::e::(A++rest)).map lT).length=R.length+(A.length+rest.length+2):=by simp
  have hj:wr .i64 (((R.length+1:Nat):Int)-1)=(R.length:Int):=by rw[show ((R.length+1:Nat):Int)-1=(R.length:Int) by omega,UR (by omega)]
  have cm:=Hk he.1 hx.1 he.2 hx.2
  have step:bB ((R.reverse++x::e::(A++rest)).map lT,0,N,(),i,((R.length+1:Nat):Int),()) =
   if K7 e x then some (.inl ((R.reverse++e::x::(A++rest)).map lT,0,N,(),i,(R.length:Int),())) else some (.inr (.inl ((R.reverse++x::e::(A++rest)).map lT,0,N,(),i,()))):=by
   have set1:(((R.reverse++x::e::(A++rest)).map lT).set (R.length+1) (lT x))[R.length]?=some (lT x):=by
    rw[List.getElem?_set_ne (by omega),List.getElem?_map,g0];rfl
   unfold bB
   simp only[aF,bK,hj,aL,hLen]
   rw[decide_eq_true (by omega),nX (i:=R.length+1) (by omega),nX (i:=R.length) (by omega)]
   simp only[cond_true,aY,pW,List.getElem?_map,g0,g1,Option.map_some,OF,cm]
   have hlt':Hj (aN e 0) (aN x 0)<0↔K7 e x:=UN
   by_cases hlt:K7 e x
   ·rw[if_pos hlt,decide_eq_true (hlt'.2 hlt)]
    simp only[cond_true,upT,List.length_set,hLen,nX (i:=R.length) (show (R.length:Int)<((R.length+(A.length+rest.length+2):Nat):Int) by omega),aY,set1]
    rw[Mw _ _ _ _ _ hrl]
   ·rw[if_neg hlt,decide_eq_false (fun h=>hlt (hlt'.1 h))]
    rfl
  rw[hD,show (((x::R).length:Nat):Int)=((R.length+1:Nat):Int) by simp]
  simp only[KS]
  by_cases hlt:K7 e x
  ·rw[if_pos hlt] at step
   rw[dN step,if_pos hlt]
   have ih:=ON rest N i R e (x::A) (by simp;omega) (fun y hy=>hR y (List.mem_cons_of_mem _ hy)) he
   rw[show R.reverse++e::x::(A++rest)=R.reverse++e::(x::A)++rest by simp]
   exact ih
  ·rw[if_neg hlt] at step
   rw[aQ step,if_neg hlt]
   congr 4
   simp
theorem OO(N:Nat):∀(rest P:List L),P.length+rest.length=N→N<1000→SL P→KD (P++rest)→(∀x∈P++rest,Yd x) →
 ∃r:List L,aH aT ((P++rest).map lT,0,(N:Int),(),(P.length:Int),())=some (.inl (r.map lT,()))∧r.Perm (P++rest)∧SL r
 | [],P,hl,hN,hP,_,_=>by
  refine⟨P,aQ ?_,by simp,hP⟩
  unfold aT
  simp only[aF,List.append_nil]
  rw[decide_eq_false (by simp at hl;omega)];rfl
 | e::rest,P,hl,hN,hP,hk,ho=>by
  simp only[List.length_cons] at hl
  have hin:=ON rest (N:Int) (P.length:Int) P.reverse e [] (by simp;omega) (fun x hx=>ho x (by simp[List.mem_reverse.1 hx])) (ho e (by simp))
  rw[List.reverse_reverse,List.length_reverse] at hin
  obtain⟨k1,k2,k3⟩:=List.pairwise_append.1 hk
  have hs:SL (KS P.reverse e []):=Dv P.reverse e [] (by simpa using hP) (by simp) fun y hy hs=>k3 y (List.mem_reverse.1 hy) e (by simp) hs.symm
  have hp:(KS P.reverse e []).Perm (P++[e]):=by have:=RK P.reverse e [];rwa[List.reverse_reverse] at this
  have hpl:(KS P.reverse e []).length=P.length+1:=by rw[hp.length_eq];simp
  have hperm:(KS P.reverse e []++rest).Perm (P++e::rest):=by
   have:=hp.append_right rest
   rwa[List.append_assoc] at this
  obtain⟨r,r1,r2,r3⟩:=OO N rest (KS P.reverse e []) (by omega) hN hs (hk.perm hperm.symm) (fun x hx=>ho x (hperm.mem_iff.1 hx))
  refine⟨r,?_,r2.trans hperm,r3⟩
  rw[←r1]
  refine dN ?_
  unfold aT
  simp only[aF,aO]
  rw[decide_eq_true (by omega)]
  rw[show P++e::[]++rest=P++e::rest by simp] at hin
  simp only[cond_true,hin,aY,aP]
  rw[show (P.length:Int)+1=((P.length+1:Nat):Int) by omega,UR (by omega),hpl]
theorem XR(l:List L)(hl:l.length<1000)(hk:KD l)(ho:∀x∈l,Yd x):bR (l.map lT,0,(l.length:Int),(),())=some ((P3 l).map lT,()):=by
 have key:∃r:List L,aH aT (l.map lT,0,(l.length:Int),(),1,())=some (.inl (r.map lT,()))∧r.Perm l∧SL r:=by
  cases l with
  | nil=>
   refine⟨[],aQ ?_,.refl _,List.Pairwise.nil⟩
   unfold aT
   simp only[aF]
   rw[decide_eq_false (by simp)];rfl
  | cons e l=>exact OO (l.length+1) l [e] (by simp;omega) (by simpa using hl) (List.pairwise_singleton _ _) hk ho
 obtain⟨r,r1,r2,r3⟩:=key
 unfold bR
 simp only[aO]
 rw[show wr .i64 ((0:Int)+1)=1 from dK (by omega) (by omega)]
 simp only[r1,aY,aP,Qs r2 hk r3]
theorem Ye:∀n:Nat,n≤12→∃v,sY ((n:Int),())=some (v,())
 | 0,_=>⟨0,by kernel_rfl⟩
 | 1,_=>⟨1,by kernel_rfl⟩
 | 2,_=>⟨2,by kernel_rfl⟩
 | 3,_=>⟨2,by kernel_rfl⟩
 | 4,_=>⟨3,by kernel_rfl⟩
 | 5,_=>⟨3,by kernel_rfl⟩
 | 6,_=>⟨3,by kernel_rfl⟩
 | 7,_=>⟨3,by kernel_rfl⟩
 | 8,_=>⟨4,by kernel_rfl⟩
 | 9,_=>⟨4,by kernel_rfl⟩
 | 10,_=>⟨4,by kernel_rfl⟩
 | 11,_=>⟨4,by kernel_rfl⟩
 | 12,_=>⟨4,by kernel_rfl⟩
 | n+13,h=>by omega
theorem Ac(l:List L)(hl:l.length≤12)(hk:KD l)(ho:∀x∈l,Yd x):bL (l.map lT,(),())=some ((P3 l).map lT,()):=by
 obtain⟨v,hv⟩:=Ye l.length hl
 have hp:∀v:Int,cG (l.map lT,0,(l.length:Int),v,(),())=some ((P3 l).map lT,()):=fun v=>by
  unfold cG
  have:cY (l.map lT,0,(l.length:Int),v,(),true,true,())=some (.inr (.inl ((P3 l).map lT,()))):=by
   unfold cY
   simp only[lP,bK]
   rw[show (l.length:Int)-0=(l.length:Int) by omega,UR (by omega),decide_eq_true (by omega)]
   simp only[cond_true,XR l (by omega) hk ho,aY]
  rw[aQ this]
  rfl
 unfold bL
 simp only[aL,List.length_map]
 rw[eH (by simp only[eB];omega),hv]
 simp only[aY,hp]
theorem Mx{l:L}(h:Bx l):Bx (iC l):=Mp h
theorem OP{ls:List L}(hB:KO ls)(hl:ls.length≤12)(h64:∀l∈ls,l.length≤64)(hc:Cv ls)(hne:0<ls.length):(Z8 ls→dW (ls.map lT,())=some ((Ya ls).map lT,0,()))∧(¬Z8 ls→dW (ls.map lT,())=some ([],8,())):=by
 have c:=G0 hB (by omega) hne h64
 have ck:=UK hc
 constructor
 ·intro hk
  rw[ck.1 hk] at c
  have h0:∀l∈ls,0<l.length:=fun l hl=>by have:=(hk.1 l hl).1;omega
  have s:=Ac (ls.map iC) (by rw[List.length_map];exact hl) (XO hk.1 hk.2.1) fun x hx=>by
   obtain⟨l,hl,rfl⟩:=List.mem_map.1 hx
   exact⟨Mx (hB l hl),by unfold iC;rw[dY];exact h0 l hl⟩
  unfold dW
  simp only[c,aY,aR,decide_true,Bool.not_true,cond_false,rL,Yc hB h0 (by omega),aP,s]
  rfl
 ·intro hk
  rw[ck.2 hk] at c
  unfold dW
  simp only[c,aY,aR,decide_eq_false (by decide:¬(8:Int)=0),Bool.not_false,cond_true]
end Go.Eng.Ord
namespace Go.Eng.Ord
open Go.Eng Go.Eng.Tw Go.Eng.Tm Go.Eng.Tg Go.Eng.Rt
theorem My{S E:Type}{F:S→Option (S⊕E)}(n:Nat)(st:Nat→S)(out:E)(h:∀k,k<n→F (st k)=some (.inl (st (k+1))))(hout:F (st n)=some (.inr out)):aH F (st 0)=some out:=by
 have:=jT (F:=F) n st h
 rw[aQ hout] at this
 exact this
theorem Ad{l:L}(hB:Bx l):nN (l.map wT,l.map wT,())=some (true,()):=by
 have lp:=My (F:=fX) l.length (fun k=>(l.map wT,l.map wT,(k:Int),())) (.inr (.inl ())) (fun k hk=>by
  have hle:=hB.1
  have wk:wr .i64 ((k:Int)+1)=((k+1:Nat):Int):=by rw[dK (by omega) (by omega)];push_cast;rfl
  have g:=CA hk
  have sp:=nQ hB (by omega) k
  have s:=Dq sp sp
  rw[jO rfl] at s
  have z:aM 0=false:=rfl
  simp only[lit,c3,DP,DQ,z] at s
  obtain⟨a0,a1,a2,a3,a4,a5,a6,a7,a8⟩:=cells (aN l k)
  unfold fX
  simp only[aF,aL,List.length_map,decide_eq_true (by omega:(k:Int)<(l.length:Int)),cond_true,g,aY,a0,a1,a2,a3,a4,a5,a6,a7,a8,s,Bool.not_true,cond_false,aO,wk]) (by
  unfold fX
  simp only[aF,aL,List.length_map,decide_eq_false (by omega:¬(l.length:Int)<(l.length:Int)),cond_false])
 have lp:aH fX (l.map wT,l.map wT,(0:Int),())=_:=lp
 unfold nN
 simp only[aR,decide_true,Bool.not_true,cond_false,lp,aY,aP,sB]
theorem JO{ls:List L}(hB:KO ls)(hn:ls.length≤1000):bV (ls.map lT,ls.map lT,())=some (true,()):=by
 have lp:=My (F:=cR) ls.length (fun k=>(ls.map lT,ls.map lT,(k:Int),())) (.inr (.inl ())) (fun k hk=>by
  have wk:wr .i64 ((k:Int)+1)=((k+1:Nat):Int):=by rw[dK (by omega) (by omega)];push_cast;rfl
  have g:=(kZ (ls:=ls) (i:=k) hk).1
  have s:=Ad (hB _ (cJ hk))
  unfold cR
  simp only[aF,rL,decide_eq_true (by omega:(k:Int)<(ls.length:Int)),cond_true,g,aY,OF,s,Bool.not_true,cond_false,aO,wk]) (by
  unfold cR
  simp only[aF,rL,decide_eq_false (by omega:¬(ls.length:Int)<(ls.length:Int)),cond_false])
 have lp:aH cR (ls.map lT,ls.map lT,(0:Int),())=_:=lp
 unfold bV
 simp only[aR,decide_true,Bool.not_true,cond_false,lp,aY,aP,sB]
theorem Mz{ls:List L}(hl:∀l∈ls,l.length≤64)(hn:ls.length≤12)(i j m:Int):∀(k:Nat),k≤ls.length→∀ys:List L,ys.length+k=ls.length→∃ws:List L,ws.length=k∧(∀t,t<k→∃r,bO ws t=eY r (bO ls (k-1-t))) ∧
 aH cL (i,j,m,ls.map lT,ys.map lT,(k:Int)-1,())=some (.inl (i,j,m,ls.map lT,(ys++ws).map lT,())) 
 | 0,_,ys,_=>by
  refine⟨[],rfl,fun t h=>by omega,aQ ?_⟩
  unfold cL
  simp only[lP,List.append_nil]
  rw[decide_eq_false (by omega)];rfl
 | k+1,hk,ys,hy=>by
  have hkl:k<ls.length:=by omega
  have hm:=cJ (ls:=ls) hkl
  have h64:=hl _ hm
  have g:=(kZ (ls:=ls) (i:=k) hkl).1
  have mx:0<max 1 ((bO ls k).length:Int):=by omega
  have hlo:=K5 (wr .i64 (i+((k:Int)).tmod 7)) mx
  have hhi:=GY (wr .i64 (i+((k:Int)).tmod 7)) mx
  have md:=Dn (wr .i64 (i+((k:Int)).tmod 7)) mx (by omega)
  obtain⟨r,hr⟩:∃r:Nat,qP (wr .i64 (i+((k:Int)).tmod 7)) (max 1 ((bO ls k).length:Int))=(r:Int):=⟨(qP (wr .i64 (i+((k:Int)).tmod 7)) (max 1 ((bO ls k).length:Int))).toNat,by omega⟩
  rw[hr] at md hhi
  have hrl:r≤(bO ls k).length:=by omega
  obtain⟨ws,w1,w2,w3⟩:=Mz hl hn i j m k (by omega) (ys++[eY r (bO ls k)]) (by simp;omega)
  refine⟨eY r (bO ls k)::ws,by simp[w1],fun t ht=>?_,?_⟩
  ·cases t with
   | zero=>exact⟨r,rfl⟩
   | succ t=>
    obtain⟨r',e⟩:=w2 t (by omega)
    exact⟨r',by rw[show k+1-1-(t+1)=k-1-t by omega,←e];rfl⟩
  ·rw[show ys++eY r (bO ls k)::ws=ys++[eY r (bO ls k)]++ws by simp,←w3]
   refine dN ?_
   have hk1:((k+1:Nat):Int)-1=(k:Int):=by omega
   have hk2:wr .i64 ((k:Int)-1)=(k:Int)-1:=dK (by omega) (by omega)
   have c1:cutL ((bO ls k).map wT) (r:Int) (((bO ls k).length:Nat):Int)=some (((bO ls k).drop r).map wT):=by
    rw[MJ hrl (by rw[List.length_map];omega),List.take_of_length_le (by rw[List.length_map];omega),List.map_drop]
   have c2:cutL ((bO ls k).map wT) (0:Int) (r:Int)=some (((bO ls k).take r).map wT):=by
    have:=MJ (l:=(bO ls k).map wT) (lo:=0) (hi:=r) (Nat.zero_le _) (by rw[List.length_map];omega)
    rw[List.drop_zero,←List.map_take] at this
    exact this
   have r1:=kR (l:=([]:List T)) (m:=((bO ls k).drop r).map wT) (b:=168) (by simp only[List.length_map,List.length_drop,List.length_nil];omega) (by decide)
   have r2:=kR (l:=((bO ls k).drop r).map wT) (m:=((bO ls k).take r).map wT) (b:=168) (by simp only[List.length_map,List.length_drop,List.length_take];omega) (by decide)
   rw[←List.map_append,Qt hrl] at r2
   rw[List.nil_append] at r1
   have r3:=kR (l:=ys.map lT) (m:=[lT (eY r (bO ls k))]) (b:=24) (by simp only[List.length_map,List.length_cons,List.length_nil];omega) (by decide)
   have e3:ys.map lT++[lT (eY r (bO ls k))]=(ys++[eY r (bO ls k)]).map lT:=by rw[List.map_append];rfl
   rw[e3] at r3
   have sl:T.sl 9 ((eY r (bO ls k)).map wT)=lT (eY r (bO ls k)):=rfl
   have ll:lenL ((bO ls k).map wT)=(((bO ls k).length:Nat):Int):=by rw[aL,List.length_map]
   rw[hk1]
   unfold cL
   simp only[lP,decide_eq_true (by omega:(0:Int)≤(k:Int)),cond_true,g,aY,oL,Vm,Xq,oD,aO,md,OG,ll,c1,r1,c2,r2,sl,r3,bK,hk2]
theorem Vo{ls ws:List L}(h1:ws.length=ls.length)(h2:∀t,t<ls.length→∃r,bO ws t=eY r (bO ls (ls.length-1-t))):zT ls ws:=by
 refine⟨ws.reverse,⟨by rw[List.length_reverse,h1],fun i hi=>?_⟩,List.reverse_perm ws⟩
 obtain⟨r,e⟩:=h2 (ls.length-1-i) (by omega)
 rw[show ls.length-1-(ls.length-1-i)=i by omega] at e
 refine⟨r,?_⟩
 rw[←e,mB (ls:=ws.reverse) (by rw[List.length_reverse];omega),List.getElem_reverse,mB (ls:=ws) (by omega)]
 congr 1
 rw[h1]
theorem Na{ls ms:List L}(h:zT ls ms):ms.length=ls.length:=by
 obtain⟨zs,hr,hp⟩:=h
 rw[←hp.length_eq,hr.1]
theorem XS{ls ms:List L}(h:zT ls ms){l:L}(hl:l∈ms):∃m∈ls,∃k,l=eY k m:=by
 obtain⟨zs,hr,hp⟩:=h
 obtain⟨j,hj,rfl⟩:=rT (hp.mem_iff.2 hl)
 rw[hr.1] at hj
 obtain⟨k,e⟩:=hr.2 j hj
 exact⟨_,cJ hj,k,e⟩
theorem Eb{ls ms:List L}(h:zT ls ms)(hB:KO ls):KO ms:=fun l hl=>by
 obtain⟨m,hm,k,rfl⟩:=XS h hl
 exact Mp (hB m hm)
theorem UO{ls ms:List L}(h:zT ls ms)(hB:∀l∈ls,l.length≤64):∀l∈ms,l.length≤64:=fun l hl=>by
 obtain⟨m,hm,k,rfl⟩:=XS h hl
 rw[dY];exact hB m hm
theorem RN:dW (([]:List T),())=some ([],1,()):=by
 unfold dW
 simp only[Sq.nilChecks.1,aY,aR,decide_eq_false (by decide:¬(1:Int)=0),Bool.not_false,cond_true]
theorem Ec:bV (([]:List T),([]:List T),())=some (true,()):=JO (ls:=[]) (fun l h=>by cases h) (by decide)
theorem law_orders(zs:List Int)(i j m:Int):bF (zs.map Lt,i,j,m,())=some (true,()):=by
 unfold bF
 simp only[Do,aY,List.length_map,Sq.w_awake]
 by_cases h:zs.length≤500
 rotate_left
 ·simp only[decide_eq_false h,Bool.not_false,cond_true]
 obtain⟨ls,el,B,hl⟩:=Sq.d_loops zs h
 simp only[decide_eq_true h,Bool.not_true,cond_false,el,aY]
 have h64:∀l∈ls,l.length≤64:=fun l hl=>by have:=(B l hl).2.2;omega
 obtain⟨ws,w1,w2,w3⟩:=Mz h64 (by omega) i j m ls.length (Nat.le_refl _) [] (by simp)
 rw[List.nil_append] at w3
 have w3:aH cL (i,j,m,ls.map lT,[],((ls.length:Nat):Int)-1,())=_:=w3
 have hk2:wr .i64 ((ls.length:Int)-1)=(ls.length:Int)-1:=dK (by omega) (by omega)
 simp only[bK,rL,hk2,w3,aY,aP]
 have hs:=Vo w1 w2
 by_cases h0:ls=[]
 ·subst h0
  have:ws=[]:=List.eq_nil_of_length_eq_zero w1
  subst this
  rw[List.map_nil]
  simp only[RN,aY,Sq.nilChecks.1,aR,decide_true,Bool.not_true,cond_false,Ec,decide_eq_false (by decide:¬(1:Int)=0),Bool.not_false,cond_true]
 have h0:0<ls.length:=List.length_pos_iff.2 h0
 have hB:=Sq.allB B
 have cv:Cv ls:=Xy fun l hl=>(B l hl).2.1
 have hBw:=Eb hs hB
 have cvw:=K9 hs cv
 have hw0:0<ws.length:=by omega
 have n1:=OP hB (by omega) h64 cv h0
 have n2:=OP hBw (by omega) (UO hs h64) cvw hw0
 have c1:=G0 hB (by omega) h0 h64
 have c2:=G0 hBw (by omega) hw0 (UO hs h64)
 rw[Ms hs cv] at c2
 simp only[c1,c2,aR,decide_true,Bool.not_true,cond_false,aY]
 by_cases hk:Z8 ls
 rotate_left
 ·have n1:=n1.2 hk
  have n2:=n2.2 fun c=>hk (XN hs cv c)
  simp only[n1,n2,aY,RN,Ec,decide_true,Bool.not_true,cond_false,decide_eq_false (by decide:¬(8:Int)=0),Bool.not_false,cond_true]
 ·have n1:=n1.1 hk
  have n2:=n2.1 (OL hs cv hk)
  rw[XP hs hk] at n2
  have hs3:=Vk ls
  have hB3:=Eb hs3 hB
  have len3:=Na hs3
  have n3:=(OP hB3 (by omega) (UO hs3 h64) (K9 hs3 cv) (by omega)).1 (OL hs3 cv hk)
  rw[XP hs3 hk] at n3
  have sm:=JO hB3 (by omega)
  obtain⟨px,ex,fx⟩:=Sq.d_Rat i m
  obtain⟨py,ey,fy⟩:=Sq.d_Rat j m
  have b1:=GY m (n:=8) (by decide)
  have hp:Pp ((qP m 8).toNat+1) 20 px py 0:=⟨by omega,fx,fy,(Fr.zero (by decide)).mono (by decide)⟩
  have hr:=Pr.of hp
  have q1:=K6 hB (by omega) hr.up
  have q2:=K6 hBw (by omega) hr.up
  have eq:_=_:=Qx hs (px,py)
  unfold Yp at eq
  rw[eq] at q2
  rw[z3] at q1 q2
  simp only[n1,n2,n3,aY,sm,decide_true,Bool.not_true,cond_false,cond_true,ex,ey,c3]
  simp only[c3] at q1 q2
  simp only[q1,q2,aY,decide_true,cond_true]
end Go.Eng.Ord
