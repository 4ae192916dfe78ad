/- The functions and the laws of this seat in plain words; each statement names its conditions. -/
import Derived.Test.YtlcfmafkolgagaaGreatLaw
import Derived.Test.YtlcfmafkolgagaaGreatEng2
import Derived.Test.YtlcfmafkolgagaaGreatEng3
set_option linter.unusedSimpArgs false
set_option linter.unusedVariables false
namespace Go.Eng.Rt
open Go.Eng
abbrev LM:Nat:=1000000
theorem LN(l:List Nat)(hl:l.length<LM):∀n,n≤l.length→aI jN (eC l,(n:Int),())=some (.inl (eC l,(((uL (l.take n)).length:Nat):Int),())):=by
 intro n
 induction n with
 | zero=>intro _;exact aO (by simp[jN,uL])
 | succ n ih=>
  intro hn
  have hlt:n<l.length:=hn
  have ht:l.take (n+1)=l.take n++[l[n]]:=List.take_succ_eq_append_getElem hlt
  have step:jN (eC l,((n+1:Nat):Int),())=if l[n]=0 then some (.inl (eC l,(n:Int),())) else some (.inr (.inl (eC l,((n+1:Nat):Int),()))):=by
   unfold jN
   simp only[aF,cB]
   rw[decide_eq_true (by omega),show ((n+1:Nat):Int)-1=(n:Int) by omega,W3 (by simp only[LM] at hl;omega),bY,iG,List.getElem?_eq_getElem hlt]
   simp only[cond_true,Option.map_some,bC,eE,uM,aL]
   by_cases h0:l[n]=0
   ·rw[if_pos h0,decide_eq_true (by omega)];rfl
   ·rw[if_neg h0,decide_eq_false (by omega)];rfl
  rw[ht]
  by_cases h0:l[n]=0
  ·rw[if_pos h0] at step
   rw[dU step,ih (by omega),h0,DR]
  ·rw[if_neg h0] at step
   rw[aO step,GO h0]
   simp only[List.length_append,List.length_take,Nat.min_eq_left (Nat.le_of_lt hlt),List.length_cons,List.length_nil]
theorem Cn{l:List Nat}(h:Lim l):(lm (val l)).length≤l.length:=by rw[←P0 h,eP];exact IH l
theorem VW{l:List Nat}(h:Lim l)(hl:l.length<LM):cQ (eC l,())=some (lm (val l),()):=by
 unfold cQ
 have e:=LN l hl l.length (Nat.le_refl _)
 rw[List.take_length] at e
 simp only[aK,eP,e,bC,aN]
 rw[XW (by omega) (by omega) (by rw[eP];have:=IH l;omega)]
 simp only[Int.toNat_natCast,Int.toNat_zero,List.drop_zero,bC,Y8,PZ,P0 h]
 have hlen:=Cn h
 rw[pP (by simp only[List.length_nil];simp only[LM] at hl;omega) (by decide)]
 rfl
theorem II{n:Nat}(h:(bF n).length<LM):cQ (lm n,())=some (lm n,()):=by
 have:=VW (gM n) h
 rw[fE] at this
 exact this
theorem rY{n:Nat}(h:n<eW):(bF n).length<LM:=by
 have:(bF n).length≤2:=mR.2 h
 simp only[LM];omega
theorem Oc{n:Nat}(h:n<eW):kI ((n:Int),())=some (lm n,()):=by
 unfold kI
 simp only[VU,bC,LL,PY]
 have hd:n/BB<BB:=Nat.div_lt_of_lt_mul h
 have e:=VW (l:=[n%BB,n/BB%BB]) (Lim.cons (Nat.mod_lt _ (by decide)) (Lim.cons (Nat.mod_lt _ (by decide)) Lim.nil)) (by simp only[List.length_cons,List.length_nil,LM];omega)
 have hv:val [n%BB,n/BB%BB]=n:=by
  rw[Nat.mod_eq_of_lt hd]
  simp only[val,Nat.mul_zero,Nat.add_zero]
  exact Nat.mod_add_div n BB
 rw[hv] at e
 simp only[eC,List.map_cons,List.map_nil,gA] at e
 rw[e]
 rfl
theorem Tk{l:List Nat}(h:Lim l):eR (eC l,())=some (if l.length≤2 then (val l:Int) else 0,decide (l.length≤2),()):=by
 match l,h with
 | [],_=>unfold eR;simp[eC,val]
 | [a],h=>
  have ha:=h.head
  unfold eR
  simp only[aK,eP,List.length_cons,List.length_nil,aL]
  rw[uB _ (by omega)]
  simp[eC,eE,mK,val,fF (show a<eW by simp only[BB,eW] at *;omega)]
 | [a,b],h=>
  have ha:=h.head
  have hb:=h.tail.head
  unfold eR
  simp only[aK,eP,List.length_cons,List.length_nil,aL]
  rw[uB _ (by omega),uB _ (by omega)]
  have e1:wr .u64 (a:Int)=(a:Int):=fF (by simp only[BB,eW] at *;omega)
  have e2:wr .u64 (b:Int)=(b:Int):=fF (by simp only[BB,eW] at *;omega)
  have e3:wr .u64 ((b*BB:Nat):Int)=((b*BB:Nat):Int):=fF (by simp only[BB,eW] at *;omega)
  have g0:(eC [a,b])[(0:Int).toNat]?=some (gA a):=rfl
  have g1:(eC [a,b])[(1:Int).toNat]?=some (gA b):=rfl
  rw[g0,g1,decide_eq_false (by omega),decide_eq_false (by omega),decide_eq_true (by omega)]
  simp only[cond_false,cond_true,bC,eE,mK,VU,e1,e2,Wc,e3,aBQ ha hb]
  rw[if_pos (by omega),decide_eq_true (by omega)]
  simp only[val,Nat.mul_zero,Nat.add_zero]
  rw[Nat.mul_comm b BB]
 | a::b::c::l,h=>
  unfold eR
  simp only[aK,eP,List.length_cons,aL]
  rw[decide_eq_false (by omega),decide_eq_false (by omega),decide_eq_false (by omega),if_neg (by omega),decide_eq_false (by omega)]
  rfl
theorem Co{a b:List Nat}(ha:Lim a)(hb:Lim b)(hl:a.length=b.length)(hm:a.length<LM):∀n,n≤a.length→a.drop n=b.drop n →
 aI nV (eC a,eC b,(n:Int)-1,())=some (if val a=val b then .inr (.inl ()) else .inl (cmpN (val a) (val b),())):=by
 intro n
 induction n with
 | zero=>
  intro _ hd
  have:a=b:=by simpa using hd
  subst this
  rw[if_pos rfl]
  exact aO (by unfold nV;simp only[kH];rw[decide_eq_false (by omega)];rfl)
 | succ n ih=>
  intro hn hd
  have h1:n<a.length:=hn
  have h2:n<b.length:=by omega
  have ga:=List.getElem?_eq_getElem h1
  have gb:=List.getElem?_eq_getElem h2
  have step:nV (eC a,eC b,((n+1:Nat):Int)-1,())=if a[n]<b[n] then some (.inr (.inl (-1,()))) else if b[n]<a[n] then some (.inr (.inl (1,()))) else some (.inl (eC a,eC b,(n:Int)-1,())):=by
   unfold nV
   rw[show ((n+1:Nat):Int)-1=(n:Int) by omega]
   simp only[kH,aF,cB]
   rw[decide_eq_true (by omega),bY,bY,iG,iG,ga,gb,dK (by omega) (by simp only[LM] at hm;omega)]
   simp only[cond_true,Option.map_some,bC,eE,uM]
   by_cases c1:a[n]<b[n]
   ·rw[if_pos c1,decide_eq_true (by omega)];rfl
   ·rw[if_neg c1,decide_eq_false (by omega)]
    by_cases c2:b[n]<a[n]
    ·rw[if_pos c2,decide_eq_true (by omega)];rfl
    ·rw[if_neg c2,decide_eq_false (by omega)];rfl
  by_cases c1:a[n]<b[n]
  ·rw[if_pos c1] at step
   have:=EN ha ga gb c1 hd
   rw[aO step,if_neg (by omega)]
   unfold cmpN
   rw[if_pos this]
  ·rw[if_neg c1] at step
   by_cases c2:b[n]<a[n]
   ·rw[if_pos c2] at step
    have:=EN hb gb ga c2 hd.symm
    rw[aO step,if_neg (by omega)]
    unfold cmpN
    rw[if_neg (by omega),if_neg (by omega)]
   ·rw[if_neg c2] at step
    rw[dU step]
    refine ih (by omega) ?_
    rw[List.drop_eq_getElem_cons h1,List.drop_eq_getElem_cons h2,hd,show a[n]=b[n] by omega]
theorem VX{x y:Nat}(h:(bF x).length<(bF y).length):x<y:=by
 have h1:x<BB ^ (bF x).length:=mR.1 (Nat.le_refl _)
 have h2:¬y<BB ^ (bF x).length:=fun hh=>by
  have:=mR.2 hh
  omega
 omega
theorem P1{x y:Nat}(hx:(bF x).length<LM)(hy:(bF y).length<LM):fW (lm x,lm y,())=some (cmpN x y,()):=by
 unfold fW
 simp only[aK,DT,aL,aF,cB]
 by_cases hl:(bF x).length=(bF y).length
 ·rw[decide_eq_true (by omega),dK (by omega) (by simp only[LM] at hx;omega)]
  have:=Co (gM x) (gM y) hl hx (bF x).length (Nat.le_refl _) (by rw[List.drop_length,hl,List.drop_length])
  rw[fE,fE] at this
  simp only[lm,Bool.not_true,cond_false,this,bC]
  by_cases he:x=y
  ·subst he;simp[cmpN]
  ·rw[if_neg he];rfl
 ·rw[decide_eq_false (by omega)]
  simp only[Bool.not_false,cond_true]
  by_cases hc:(bF x).length<(bF y).length
  ·have:=VX hc
   rw[decide_eq_true (by omega)]
   unfold cmpN
   rw[if_pos this];rfl
  ·have:=VX (x:=y) (y:=x) (by omega)
   rw[decide_eq_false (by omega)]
   unfold cmpN
   rw[if_neg (by omega),if_neg (by omega)];rfl
theorem Od{a b o:List Nat}(ha:Lim a)(hb:Lim b)(ho:Lim o){i j x y z c:Nat}(hi:a[i]?=some x)(hj:b[j]?=some y)(hz:o[i+j]?=some z)(hc:c<BB)(hla:a.length<LM)(hlb:b.length<LM):
 jA (eC a,eC b,eC o,(i:Int),(c:Int),(j:Int),())=some (.inl (eC a,eC b,eC (o.set (i+j) ((c+(x*y+z))%BB)),(i:Int),(((c+(x*y+z))/BB:Nat):Int),((j+1:Nat):Int),())):=by
 have hx:=ha.get hi
 have hy:=hb.get hj
 have hzb:=ho.get hz
 have h1:i<a.length:=(List.getElem?_eq_some_iff.1 hi).1
 have h2:j<b.length:=(List.getElem?_eq_some_iff.1 hj).1
 have h3:i+j<o.length:=(List.getElem?_eq_some_iff.1 hz).1
 have hxy:x*y≤(BB-1)*(BB-1):=Nat.mul_le_mul (by omega) (by omega)
 have hbound:(BB-1)*(BB-1)+(BB-1)+(BB-1)<eW:=by decide
 unfold jA
 simp only[aF,aK,eP,aJ,fG]
 rw[decide_eq_true (by omega)]
 simp only[cond_true,bY,iG,hi,hj,Option.map_some,bC,eE,mK]
 rw[show (i:Int)+(j:Int)=((i+j:Nat):Int) by omega,W3 (by simp only[LM] at *;omega),mD (by omega)]
 simp only[bC,rH,iG,hz,Option.map_some,eE,mK,VU]
 rw[fF (n:=x) (by simp only[BB,eW] at *;omega),fF (n:=y) (by simp only[BB,eW] at *;omega),fF (n:=z) (by simp only[BB,eW] at *;omega)]
 rw[show (x:Int)*(y:Int)=((x*y:Nat):Int) by push_cast;rfl,fF (n:=x*y) (by simp only[BB,eW] at *;omega)]
 rw[show ((x*y:Nat):Int)+(z:Int)=((x*y+z:Nat):Int) by omega,fF (n:=x*y+z) (by simp only[BB,eW] at *;omega)]
 rw[show (c:Int)+((x*y+z:Nat):Int)=((c+(x*y+z):Nat):Int) by omega,fF (n:=c+(x*y+z)) (by simp only[BB,eW] at *;omega)]
 rw[LL,PY,show (j:Int)+1=((j+1:Nat):Int) by omega,W3 (by simp only[LM] at *;omega),IG _ _ ⟨z,rfl⟩,M6]
theorem Kd{a b o:List Nat}(ha:Lim a)(hb:Lim b)(ho:Lim o){i x:Nat}(hi:a[i]?=some x)(hlo:o.length=a.length+b.length)(hla:a.length<LM)(hlb:b.length<LM):
 ∀k,k≤b.length→∃(o':List Nat) (c:Nat),aI jA (eC a,eC b,eC o,(i:Int),(0:Int),(0:Int),())=aI jA (eC a,eC b,eC o',(i:Int),(c:Int),(k:Int),()) ∧
  o'.length=o.length∧Lim o'∧c<BB∧val o'+BB ^ (i+k)*c=val o+BB ^ i*(x*val (b.take k))∧∀m,i+k≤m→o'[m]?=o[m]?:=by
 intro k
 induction k with
 | zero=>intro _;exact⟨o,0,rfl,rfl,ho,by decide,by simp[val],fun _ _=>rfl⟩
 | succ k ih=>
  intro hk
  obtain⟨o',c,h1,h2,h3,h4,h5,h6⟩:=ih (by omega)
  have hik:i<a.length:=(List.getElem?_eq_some_iff.1 hi).1
  have hj:=List.getElem?_eq_getElem (show k<b.length from hk)
  have hz:=List.getElem?_eq_getElem (show i+k<o'.length by omega)
  have hs:=Od ha hb h3 hi hj hz h4 hla hlb
  refine⟨_,_,h1.trans (dU hs),by rw[List.length_set,h2],h3.set (Nat.mod_lt _ (by decide)) _,?_,?_,fun m hm=>?_⟩
  ·have hx:=ha.get hi
   have hy:=hb.get hj
   have hzb:=h3.get hz
   have hxy:x*b[k]≤(BB-1)*(BB-1):=Nat.mul_le_mul (by omega) (by omega)
   have hbound:(BB-1)*(BB-1)+(BB-1)+(BB-1)<BB*BB:=by decide
   exact Nat.div_lt_of_lt_mul (by omega)
  ·have hv:=VV (x:=(c+(x*b[k]+o'[i+k]))%BB) hz
   rw[zD hj]
   have hm:=Nat.mod_add_div (c+(x*b[k]+o'[i+k])) BB
   generalize (c+(x*b[k]+o'[i+k]))%BB=r at *
   generalize (c+(x*b[k]+o'[i+k]))/BB=q at *
   generalize o'[i+k]=z at *
   generalize b[k]=y at *
   generalize val (o'.set (i+k) r)=v' at *
   have e1:BB ^ (i+(k+1))*q=BB ^ (i+k)*(BB*q):=by rw[←Nat.add_assoc,Nat.pow_succ,Nat.mul_assoc]
   have e2:BB ^ (i+k)*(r+BB*q)=BB ^ (i+k)*(c+(x*y+z)):=by rw[hm]
   have e3:BB ^ i*(x*(val (b.take k)+BB ^ k*y))=BB ^ i*(x*val (b.take k))+BB ^ (i+k)*(x*y):=by
    rw[Nat.mul_add,Nat.mul_add,Nat.pow_add,Nat.mul_assoc (BB ^ i) (BB ^ k),←Nat.mul_assoc x (BB ^ k) y,Nat.mul_comm x (BB ^ k),Nat.mul_assoc (BB ^ k) x y]
   rw[e1,e3]
   rw[Nat.mul_add,Nat.mul_add,Nat.mul_add] at e2
   omega
  ·rw[List.getElem?_set_ne (by omega)]
   exact h6 m (by omega)
theorem P2{a b o:List Nat}(ha:Lim a)(hb:Lim b)(ho:Lim o){i:Nat}(hi:i<a.length)(hlo:o.length=a.length+b.length)(hla:a.length<LM)(hlb:b.length<LM)(hv:val o=val (a.take i)*val b)(h0:∀m,i+b.length≤m→m<o.length→o[m]?=some 0):
 ∃o',jB (eC a,eC b,eC o,(i:Int),())=some (.inl (eC a,eC b,eC o',((i+1:Nat):Int),()))∧o'.length=o.length∧Lim o'∧val o'=val (a.take (i+1))*val b∧∀m,i+1+b.length≤m→m<o'.length→o'[m]?=some 0:=by
 have gi:=List.getElem?_eq_getElem hi
 obtain⟨o',c,h1,h2,h3,h4,h5,h6⟩:=Kd ha hb ho gi hlo hla hlb b.length (Nat.le_refl _)
 have hend:jA (eC a,eC b,eC o',(i:Int),(c:Int),(b.length:Int),())=some (.inr (.inl (eC a,eC b,eC o',(i:Int),(c:Int),()))):=by
  unfold jA
  simp only[aF,aK,eP]
  rw[decide_eq_false (by omega)];rfl
 have hz:o'[i+b.length]?=some 0:=by rw[h6 _ (Nat.le_refl _)];exact h0 _ (Nat.le_refl _) (by omega)
 refine⟨o'.set (i+b.length) c,?_,by rw[List.length_set,h2],h3.set h4 _,?_,fun m hm hlt=>?_⟩
 ·unfold jB
  simp only[aF,aK,eP,aJ]
  rw[decide_eq_true (by omega)]
  simp only[cond_true]
  rw[h1.trans (aO hend)]
  simp only[bC,aN,eP]
  rw[show (i:Int)+(b.length:Int)=((i+b.length:Nat):Int) by omega,W3 (by simp only[LM] at *;omega),mD (by omega)]
  simp only[bC,rH,iG,hz,Option.map_some]
  rw[Oa h4,show (i:Int)+1=((i+1:Nat):Int) by omega,W3 (by simp only[LM] at *;omega),IG _ _ ⟨0,rfl⟩,M6]
 ·have e1:=VV (x:=c) hz
  rw[zD gi,Nat.add_mul,←hv]
  rw[List.take_length] at h5
  rw[Nat.mul_assoc]
  omega
 ·rw[List.getElem?_set_ne (by omega),h6 m (by omega)]
  rw[List.length_set,h2] at hlt
  exact h0 m (by omega) hlt
theorem Yh{a b:List Nat}(ha:Lim a)(hb:Lim b)(hab:a.length+b.length<LM):bK (eC a,eC b,())=some (lm (val a*val b),()):=by
 have hla:a.length<LM:=by omega
 have hlb:b.length<LM:=by omega
 have key:∀k,k≤a.length→∃o,aI jB (eC a,eC b,eC (List.replicate (a.length+b.length) 0),(0:Int),())=aI jB (eC a,eC b,eC o,(k:Int),()) ∧
  o.length=a.length+b.length∧Lim o∧val o=val (a.take k)*val b∧∀m,k+b.length≤m→m<o.length→o[m]?=some 0:=by
  intro k
  induction k with
  | zero=>
   intro _
   refine⟨_,rfl,by simp,Lim.rep _,by simp[Fl,val],fun m _ hm=>?_⟩
   rw[List.getElem?_replicate,if_pos (by simpa using hm)]
  | succ k ih=>
   intro hk
   obtain⟨o,h1,h2,h3,h4,h5⟩:=ih (by omega)
   obtain⟨o',g1,g2,g3,g4,g5⟩:=P2 ha hb h3 (show k<a.length from hk) h2 hla hlb h4 h5
   exact⟨o',h1.trans (dU g1),g2.trans h2,g3,g4,g5⟩
 obtain⟨o,h1,h2,h3,h4,_⟩:=key a.length (Nat.le_refl _)
 have hend:jB (eC a,eC b,eC o,(a.length:Int),())=some (.inr (.inl (eC o,()))):=by
  unfold jB
  simp only[aF,aK,eP]
  rw[decide_eq_false (by omega)];rfl
 unfold bK
 simp only[aK,eP,aJ]
 rw[show (a.length:Int)+(b.length:Int)=((a.length+b.length:Nat):Int) by omega,W3 (by simp only[LM] at *;omega),N9 (by omega) (by omega) (by simp only[LM] at *;omega) (by decide)]
 simp only[bC,Int.toNat_natCast,M3,Fk]
 rw[h1.trans (aO hend)]
 simp only[bC,aN]
 rw[VW h3 (by omega)]
 rw[List.take_length] at h4
 simp only[bC,h4]
theorem aBS{x y:Nat}(h:(bF x).length+(bF y).length<LM):bK (lm x,lm y,())=some (lm (x*y),()):=by
 have:=Yh (gM x) (gM y) h
 rw[fE,fE] at this
 exact this
theorem IJ{n:Nat}(h:n<eW):eR (lm n,())=some ((n:Int),true,()):=by
 have h2:(bF n).length≤2:=mR.2 h
 have:=Tk (gM n)
 rw[if_pos h2,decide_eq_true h2,fE] at this
 exact this
theorem Oe(a b:Nat):(a:Int).tdiv (b:Int)=((a/b:Nat):Int):=rfl
theorem Wd(a b:Nat):(a:Int).tmod (b:Int)=((a%b:Nat):Int):=rfl
theorem Fm{a b:Nat}(ha:a<eW)(hb:b<eW)(h0:b≠0):jZ (lm a,lm b,())=some (lm (a/b),lm (a%b),0,()):=by
 unfold jZ
 simp only[aK,aL,aF]
 have hbl:(lm b).length≠0:=fun h=>h0 (yJ.1 h)
 rw[decide_eq_false (by omega)]
 simp only[cond_false,P1 (rY ha) (rY hb),bC]
 unfold cmpN
 by_cases hlt:a<b
 ·rw[if_pos hlt,decide_eq_true (by omega)]
  simp only[cond_true,II (rY ha),bC]
  rw[Nat.div_eq_of_lt hlt,Nat.mod_eq_of_lt hlt,mA]
 ·rw[if_neg hlt]
  have:decide ((if a=b then (0:Int) else 1)<0)=false:=decide_eq_false (by split <;> omega)
  rw[this]
  simp only[cond_false,IJ ha,IJ hb,bC,cond_true,UL,pO,Oe,Wd]
  rw[N7 (by omega)]
  have hd:a/b<eW:=Nat.lt_of_le_of_lt (Nat.div_le_self _ _) ha
  have hm:a%b<eW:=Nat.lt_of_le_of_lt (Nat.mod_le _ _) ha
  simp only[bC,Oe,Wd,fF hd,Oc hd,Oc hm]
theorem Y9{a b:Nat}:aI nY ((a:Int),(b:Int),())=some (.inl (((a.gcd b:Nat):Int),())):=by
 induction b using Nat.strongRecOn generalizing a with
 | _ b ih=>
  by_cases h0:b=0
  ·subst h0
   exact aO (by unfold nY;simp[Nat.gcd_zero_right])
  ·have step:nY ((a:Int),(b:Int),())=some (.inl ((b:Int),((a%b:Nat):Int),())):=by
    unfold nY
    simp only[aL,pO]
    rw[decide_eq_false (by omega),N7 (by omega)]
    rfl
   rw[dU step,ih (a%b) (Nat.mod_lt _ (Nat.pos_of_ne_zero h0)),Nat.gcd_comm a b,Nat.gcd_rec b a,Nat.gcd_comm]
theorem We{a b:Nat}(ha:a<eW)(hb:b<eW):iJ (lm a,lm b,())=some (lm (a.gcd b),()):=by
 unfold iJ
 simp only[II (rY ha),II (rY hb),bC]
 by_cases h0:b=0
 ·subst h0
  rw[aO (e:=.inr (.inl (lm a,()))) (by unfold wS;simp[mA])]
  simp[Nat.gcd_zero_right]
 ·have hbl:(lm b).length≠0:=fun h=>h0 (yJ.1 h)
  have hg:a.gcd b<eW:=Nat.lt_of_le_of_lt (Nat.gcd_le_right _ (Nat.pos_of_ne_zero h0)) hb
  rw[aO (e:=.inl (lm (a.gcd b),())) (by
   unfold wS
   simp only[aF,aK]
   rw[decide_eq_true (by omega)]
   simp only[cond_true,IJ ha,IJ hb,bC,Y9,aN,Oc hg])]
  rfl
theorem Fo{d:Nat}(hd:d<eW)(h0:d≠0):(lm d).length=1↔d<BB:=by
 constructor
 ·intro h;exact Ob.1 (by omega)
 ·intro h;rw[tJ h0 h];rfl
theorem rZ(neg:Bool){n d:Nat}(hn:n<eW)(hd:d<eW)(h0:d≠0):dW (neg,lm n,lm d,())=some (aM (mkRat (sg neg n) d),aU (mkRat (sg neg n) d),aY (mkRat (sg neg n) d),()):=by
 unfold dW
 simp only[II (rY hn),II (rY hd),bC,aK,aL]
 by_cases hz:n=0
 ·subst hz
  rw[decide_eq_true (by rw[mA];rfl),Fg,wA,wB,wC]
  rfl
 ·have hnl:(lm n).length≠0:=fun h=>hz (yJ.1 h)
  have hg:n.gcd d<eW:=Nat.lt_of_le_of_lt (Nat.gcd_le_right _ (Nat.pos_of_ne_zero h0)) hd
  have hg0:n.gcd d≠0:=Nat.gcd_ne_zero_right h0
  rw[decide_eq_false (by omega),Nx neg h0 hz,Fh neg h0,Fi neg h0]
  have hq0:d/n.gcd d≠0:=by
   have:=Nat.div_pos (Nat.le_of_dvd (Nat.pos_of_ne_zero h0) (Nat.gcd_dvd_right n d)) (Nat.pos_of_ne_zero hg0)
   omega
  have hq:d/n.gcd d<eW:=Nat.lt_of_le_of_lt (Nat.div_le_self _ _) hd
  have fin:∀(N:List T) (e:Nat),e<eW→e≠0→(ob (α:=((Bool×List T×List T×Unit×Bool×T×T×Unit)⊕Empty)) (bif (eqI (lenL (lm e)) (1:Int)) then (ob (bG (lm e) (0:Int)) fun x11=>(ob (T.int? .u32 (T.cell x11 0)) fun x12=>(bif (eqI x12 (1:Int)) then (some (Sum.inl (neg,N,[],(),false,(T.v (.slice none 0 0)),(T.v (.slice none 0 0)),()))) else (some (Sum.inl (neg,N,lm e,(),false,(T.v (.slice none 0 0)),(T.v (.slice none 0 0)),())))))) else (some (Sum.inl (neg,N,lm e,(),false,(T.v (.slice none 0 0)),(T.v (.slice none 0 0)),()))))
   fun q13=>dE q13 (fun t14=>(some (t14.1,t14.2.1,t14.2.2.1,()))) fun q15=>eB q15)=some (neg,N,dn e,()):=by
   intro N e he he0
   simp only[aK,aL]
   by_cases h1:e<BB
   ·rw[decide_eq_true (by rw[tJ he0 h1];rfl)]
    simp only[cond_true]
    rw[tJ he0 h1,uB _ (by omega)]
    simp only[Int.toNat_zero,List.getElem?_cons_zero,bC,eE,uM]
    unfold dn
    by_cases h2:e=1
    ·subst h2;rfl
    ·rw[if_neg h2,decide_eq_false (by omega),tJ he0 h1];rfl
   ·rw[decide_eq_false (by have:=(Fo he he0).1;omega)]
    unfold dn
    rw[if_neg (by simp only[BB] at h1;omega)]
    rfl
  simp only[cond_false,We hn hd,bC,aK]
  have tail:=fin (lm (n/n.gcd d)) (d/n.gcd d) hq hq0
  simp only[aK,aL] at tail
  by_cases h1:n.gcd d=1
  ·have e1:lm (n.gcd d)=[gA 1]:=by rw[h1];exact tJ (by decide) (by decide)
   rw[e1]
   rw[h1,Nat.div_one,Nat.div_one] at tail ⊢
   simp only[List.length_cons,List.length_nil]
   rw[decide_eq_true (by omega),uB _ (by omega)]
   simp only[Bool.not_true,cond_false,Int.toNat_zero,List.getElem?_cons_zero,bC,eE,uM]
   rw[decide_eq_true (by omega)]
   simp only[Bool.not_true,cond_false,bC,aN]
   exact tail
  ·by_cases h2:n.gcd d<BB
   ·have e1:lm (n.gcd d)=[gA (n.gcd d)]:=tJ hg0 h2
    rw[decide_eq_true (by rw[e1];rfl)]
    have e2:bG (lm (n.gcd d)) 0=some (gA (n.gcd d)):=by rw[e1,uB _ (by omega)];rfl
    simp only[Bool.not_true,cond_false,e2,bC,eE,uM]
    rw[decide_eq_false (by omega)]
    simp only[Bool.not_false,cond_true,Fm hn hg hg0,Fm hd hg hg0,bC,aN]
    exact tail
   ·rw[decide_eq_false (by have:=(Fo hg hg0).1;omega)]
    simp only[Bool.not_false,cond_true,Fm hn hg hg0,Fm hd hg hg0,bC,aN]
    exact tail
theorem Cp{n:Int}(h1:-4611686018427387904<n)(h2:n<4611686018427387904):oN (n,())=some (lm n.natAbs,decide (n<0),()):=by
 unfold oN
 simp only[aF,aJ,cB]
 by_cases h:n<0
 ·rw[decide_eq_true h]
  have e:wr .u64 (wr .u64 (wr .i64 (0-wr .i64 (n+1)))+1)=((n.natAbs:Nat):Int):=by
   rw[dK (n:=n+1) (by omega) (by omega),dK (by omega) (by omega),show 0-(n+1)=((n.natAbs-1:Nat):Int) by omega,fF (by simp only[eW];omega),
    show ((n.natAbs-1:Nat):Int)+1=((n.natAbs:Nat):Int) by omega,fF (by simp only[eW];omega)]
  simp only[cond_true,e,Oc (n:=n.natAbs) (by simp only[eW];omega),bC]
 ·rw[decide_eq_false h]
  have e:wr .u64 n=((n.natAbs:Nat):Int):=by
   rw[show n=((n.natAbs:Nat):Int) by omega,fF (by simp only[eW];omega)];rfl
  simp only[cond_false,e,Oc (n:=n.natAbs) (by simp only[eW];omega),bC]
def P3(n d:Int):Rat:=mkRat (sg (decide (n<0) != decide (d<0)) n.natAbs) d.natAbs
theorem Tl(a b:Bool):(!(a==b))=(a != b):=rfl
theorem Yi{n d:Int}(h1:-4611686018427387904<n)(h2:n<4611686018427387904)(h3:-4611686018427387904<d)(h4:d<4611686018427387904)(h0:d≠0):
 vM (n,d,())=some (aM (P3 n d),aU (P3 n d),aY (P3 n d),0,()):=by
 unfold vM
 simp only[aL]
 rw[decide_eq_false h0]
 simp only[cond_false,Cp h1 h2,Cp h3 h4,bC,AP,Tl]
 rw[rZ _ (by simp only[eW];omega) (by simp only[eW];omega) (by omega)]
 rfl
theorem Yj{n d:Int}(h1:-4611686018427387904<n)(h2:n<4611686018427387904)(h3:-4611686018427387904<d)(h4:d<4611686018427387904)(h0:d≠0):
 oO (n,d,())=some (aM (P3 n d),aU (P3 n d),aY (P3 n d),()):=by
 unfold oO
 simp only[Yi h1 h2 h3 h4 h0,bC]
def Of(q:Rat):Prop:=(bF q.num.natAbs).length<LM∧(bF q.den).length<LM
theorem Sm.fit{q:Rat}(h:Sm q):Of q:=⟨rY (by have:=h.1;simp only[eW];omega),rY (by have:=h.2;simp only[eW];omega)⟩
theorem ZA(d:Nat):∃m,dn d=lm m∧(m=d∨m=0):=by
 unfold dn
 split
 ·exact⟨0,mA.symm,.inr rfl⟩
 ·exact⟨d,rfl,.inl rfl⟩
theorem EO{a b:Nat}:cmpN a b=0↔a=b:=by
 unfold cmpN
 by_cases h1:a<b
 ·rw[if_pos h1];omega
 ·rw[if_neg h1];split <;> omega
theorem Cq{p q:Rat}(hp:Of p)(hq:Of q):oP (aM p,aU p,aY p,aM q,aU q,aY q,())=some (decide (p=q),()):=by
 unfold oP
 simp only[AP]
 by_cases hn:aM p=aM q
 ·rw[hn]
  simp only[beq_self_eq_true,cond_true]
  unfold aU
  rw[P1 hp.1 hq.1]
  simp only[bC,aL]
  by_cases h1:p.num.natAbs=q.num.natAbs
  ·rw[decide_eq_true (EO.2 h1)]
   simp only[cond_true]
   obtain⟨m,e1,c1⟩:=ZA p.den
   obtain⟨m',e2,c2⟩:=ZA q.den
   have l1:(bF m).length<LM:=by rcases c1 with rfl | rfl;exact hp.2;rw[fT];decide
   have l2:(bF m').length<LM:=by rcases c2 with rfl | rfl;exact hq.2;rw[fT];decide
   unfold aY
   rw[e1,e2,P1 l1 l2]
   simp only[bC]
   congr 2
   rw[decide_eq_decide,EO]
   constructor
   ·intro h
    exact Fj hn h1 (Ny p.den_nz q.den_nz (by rw[e1,e2,h]))
   ·intro h
    subst h
    exact PV (e1.symm.trans e2)
  ·rw[decide_eq_false (fun h=>h1 (EO.1 h)),decide_eq_false (fun h=>h1 (by rw[h]))]
   rfl
 ·have hb:(aM p==aM q)=false:=by simpa using hn
  rw[hb,decide_eq_false (fun h=>hn (by rw[h]))]
  rfl
def lK(q:Rat):Int:=if q=0 then 0 else if aM q then -1 else 1
theorem IK{q:Rat}:(aU q).length=0↔q=0:=by unfold aU;rw[yJ,PW]
theorem Ke(q:Rat):aU (-q)=aU q∧aY (-q)=aY q∧aM (-q)=(!aM q&&decide (q≠0)):=by
 refine⟨by unfold aU;rw[Rat.neg_num,Int.natAbs_neg],by unfold aY;rw[Rat.neg_den],?_⟩
 unfold aM
 rw[Rat.neg_num]
 have h0:q.num=0↔q=0:=Rat.num_eq_zero
 by_cases h:q=0
 ·subst h;rfl
 ·have:q.num≠0:=fun hh=>h (h0.1 hh)
  rw[decide_eq_true h,Bool.and_true]
  by_cases hl:q.num<0
  ·rw[decide_eq_true hl,decide_eq_false (by omega)];rfl
  ·rw[decide_eq_false hl,decide_eq_true (by omega)];rfl
theorem aBT(q:Rat):uI (aM q,aU q,aY q,())=some (aM (-q),aU (-q),aY (-q),()):=by
 obtain⟨e1,e2,e3⟩:=Ke q
 unfold uI
 simp only[aF,aK,e1,e2,e3]
 cases hn:aM q with
 | true=>simp
 | false=>
  simp only[Bool.not_false,cond_true,Bool.true_and]
  congr 3
  apply propext
  have:=IK (q:=q)
  constructor
  ·intro h hq;have:=this.2 hq;omega
  ·intro h;have:(aU q).length≠0:=fun hh=>h (this.1 hh);omega
end Go.Eng.Rt
namespace Go.Eng.Rt
open Go.Eng
theorem ZB(l:List Nat)(hl:l.length<LM):∀n,n≤l.length→aI xY (eC l,(n:Int),())=some (.inl (eC l,(((uL (l.take n)).length:Nat):Int),())):=
 LN l hl
theorem Yk{l:List Nat}(h:Lim l)(hl:l.length<LM):fP (eC l,())=some (lm (val l),()):=by
 unfold fP
 have e:=ZB l hl l.length (Nat.le_refl _)
 rw[List.take_length] at e
 simp only[aK,eP,e,bC,aN]
 rw[XW (by omega) (by omega) (by rw[eP];have:=IH l;omega)]
 simp only[Int.toNat_natCast,Int.toNat_zero,List.drop_zero,bC,Y8,PZ,P0 h]
theorem VY{n:Nat}(h:(bF n).length<LM):fP (lm n,())=some (lm n,()):=by
 have:=Yk (gM n) h
 rw[fE] at this
 exact this
def Fp(s:ByteArray)(t:(Int×Unit)):Option (Int×Unit):=
 (ob (α:=((Int×Int×Unit)⊕Empty)) (bif (vC (65536:Int) t.1) then (ob (nn (16:Int)) fun x0=>(some (Sum.inl ((jI .u32 t.1 x0),(16:Int),())))) else (some (Sum.inl (t.1,(0:Int),())))) fun q1=>dE q1 (fun t2=>(ob (α:=((Int×Int×Unit)⊕Empty)) (bif (vC (256:Int) t2.1) then (ob (nn (8:Int)) fun x3=>(some (Sum.inl ((jI .u32 t2.1 x3),(wr .i64 (aP t2.2.1 (8:Int))),())))) else (some (Sum.inl (t2.1,t2.2.1,())))) fun q4=>dE q4 (fun t5=>(ob (T1 s (wr .u8 t5.1)) fun x6=>(some ((wr .i64 (aP t5.2.1 (wr .i64 x6))),())))) fun q7=>eB q7)) fun q8=>eB q8)
def aBU(s:ByteArray):Bool:=(List.range 256).all fun y=>match T1 s (y:Int) with
 | some k=>decide (0≤k)&&decide (k≤8)&&(y==0||decide (1≤k))
 | none=>false
theorem Tn:∃s,(∀t,nA t=Fp s t)∧aBU s=true:=⟨_,fun _=>rfl,by decide +kernel⟩
theorem aBV(n:Nat):jI .u32 (n:Int) 16=((n/65536:Nat):Int):=by
 unfold jI
 rw[show ((2:Int) ^ (min (Int.toNat 16) (IntKind.bits .u32)))=((65536:Nat):Int) from rfl,Int.fdiv_eq_ediv_of_nonneg _ (by omega)]
 exact(Int.natCast_ediv n _).symm
theorem aBW(n:Nat):jI .u32 (n:Int) 8=((n/256:Nat):Int):=by
 unfold jI
 rw[show ((2:Int) ^ (min (Int.toNat 8) (IntKind.bits .u32)))=((256:Nat):Int) from rfl,Int.fdiv_eq_ediv_of_nonneg _ (by omega)]
 exact(Int.natCast_ediv n _).symm
theorem To{x:Nat}(hx:x<BB):∃k:Nat,nA ((x:Int),())=some ((k:Int),())∧k≤32∧(x≠0→k≠0):=by
 obtain⟨s,hs,ht⟩:=Tn
 have tab:∀y:Nat,y<256→∃k:Nat,T1 s (wr .u8 (y:Int))=some (k:Int)∧k≤8∧(y≠0→k≠0):=fun y hy=>by
  have:=List.all_eq_true.1 ht y (List.mem_range.2 hy)
  rw[aDE (by omega) (by omega)]
  cases hi:T1 s (y:Int) with
  | none=>rw[hi] at this;cases this
  | some k=>
   rw[hi] at this
   simp only[Bool.and_eq_true,decide_eq_true_eq,Bool.or_eq_true,beq_iff_eq] at this
   obtain⟨k',rfl⟩:=Int.eq_ofNat_of_zero_le this.1.1
   exact⟨k',rfl,by omega,fun h=>by omega⟩
 rw[hs]
 unfold Fp
 have n16:nn (16:Int)=some 16:=by unfold nn;rfl
 have n8:nn (8:Int)=some 8:=by unfold nn;rfl
 simp only[kH,aJ]
 have last:∀(y c:Nat),y<256→c≤24→∃k:Nat,(ob (T1 s (wr .u8 (y:Int))) fun x6=>(some ((wr .i64 ((c:Int)+(wr .i64 x6))),())))=some ((k:Int),())∧k≤32∧(y≠0∨c≠0→k≠0):=fun y c hy hc=>by
  obtain⟨k,h1,h2,h3⟩:=tab y hy
  rw[h1]
  simp only[bC]
  rw[W3 (n:=k) (by omega),show (c:Int)+(k:Int)=((c+k:Nat):Int) by omega,W3 (by omega)]
  exact⟨c+k,rfl,by omega,fun h=>by omega⟩
 by_cases h1:65536≤x
 ·rw[decide_eq_true (by omega)]
  simp only[cond_true,n16,bC,aBV,aN]
  by_cases h2:256≤x/65536
  ·rw[decide_eq_true (by omega)]
   simp only[cond_true,n8,bC,aBW,aN]
   rw[show (16:Int)+8=((24:Nat):Int) from rfl,W3 (by omega)]
   obtain⟨k,e1,e2,e3⟩:=last (x/65536/256) 24 (by simp only[BB] at hx;omega) (by omega)
   exact⟨k,e1,e2,fun _=>e3 (.inr (by omega))⟩
  ·rw[decide_eq_false (by omega)]
   simp only[cond_false,bC,aN]
   obtain⟨k,e1,e2,e3⟩:=last (x/65536) 16 (by omega) (by omega)
   exact⟨k,e1,e2,fun _=>e3 (.inr (by omega))⟩
 ·rw[decide_eq_false (by omega)]
  simp only[cond_false,bC,aN]
  by_cases h2:256≤x
  ·rw[decide_eq_true (by omega)]
   simp only[cond_true,n8,bC,aBW,aN]
   rw[show (0:Int)+8=((8:Nat):Int) from rfl,W3 (by omega)]
   obtain⟨k,e1,e2,e3⟩:=last (x/256) 8 (by omega) (by omega)
   exact⟨k,e1,e2,fun _=>e3 (.inr (by omega))⟩
  ·rw[decide_eq_false (by omega)]
   simp only[cond_false,bC,aN]
   obtain⟨k,e1,e2,e3⟩:=last x 0 (by omega) (by omega)
   exact⟨k,e1,e2,fun h=>e3 (.inl h)⟩
theorem P4{n:Nat}(h:n≠0):∃x,(bF n)[(bF n).length-1]?=some x∧x≠0∧x<BB:=by
 have hne:bF n≠[]:=Nu h
 obtain⟨m,a,e⟩:∃m a,bF n=m++[a]:=⟨(bF n).dropLast,(bF n).getLast hne,(List.dropLast_concat_getLast hne).symm⟩
 have hl:=gM n
 refine⟨a,by rw[e];simp,?_,hl a (by rw[e];simp)⟩
 intro h0
 subst h0
 have h1:bF (val (bF n))=uL (bF n):=J2 hl
 rw[fE,e,DR] at h1
 have h2:=congrArg List.length h1
 have h3:=IH m
 simp at h2
 omega
theorem Yl{n:Nat}(h:(bF n).length<LM):∃k:Nat,jC (lm n,())=some ((k:Int),())∧(k=0↔n=0):=by
 unfold jC
 simp only[VY h,bC,aK,aL,cB,fG,aJ]
 by_cases h0:n=0
 ·subst h0
  rw[decide_eq_true (by rw[mA];rfl)]
  exact⟨0,rfl,by simp⟩
 ·have hl:(lm n).length≠0:=fun hh=>h0 (yJ.1 hh)
  obtain⟨x,h1,h2,h3⟩:=P4 h0
  obtain⟨k,g1,g2,g3⟩:=To h3
  rw[decide_eq_false (by omega),dK (by omega) (by rw[DT];simp only[LM] at h;omega)]
  have hll:=DT n
  rw[show ((lm n).length:Int)-1=(((bF n).length-1:Nat):Int) by omega]
  simp only[cond_false,bY]
  unfold lm
  simp only[iG,h1,Option.map_some,bC,eE,uM,g1]
  rw[show (32:Int)*(((bF n).length-1:Nat):Int)=((32*((bF n).length-1):Nat):Int) by push_cast;rfl,W3 (by simp only[LM] at h;omega),
   show ((32*((bF n).length-1):Nat):Int)+(k:Int)=((32*((bF n).length-1)+k:Nat):Int) by omega,W3 (by simp only[LM] at h;omega)]
  exact⟨_,rfl,by constructor <;> intro hh <;> have:=g3 h2 <;> omega⟩
theorem Cr{a b:List Nat}(ha:Lim a)(hb:Lim b)(hl:a.length=b.length)(hm:a.length<LM):∀n,n≤a.length→a.drop n=b.drop n →
 aI kY (eC a,eC b,(n:Int)-1,())=some (if val a=val b then .inr (.inl ()) else .inl (cmpN (val a) (val b),())):=by
 intro n
 induction n with
 | zero=>
  intro _ hd
  have:a=b:=by simpa using hd
  subst this
  rw[if_pos rfl]
  exact aO (by unfold kY;simp only[kH];rw[decide_eq_false (by omega)];rfl)
 | succ n ih=>
  intro hn hd
  have h1:n<a.length:=hn
  have h2:n<b.length:=by omega
  have ga:=List.getElem?_eq_getElem h1
  have gb:=List.getElem?_eq_getElem h2
  have step:kY (eC a,eC b,((n+1:Nat):Int)-1,())=if a[n]<b[n] then some (.inr (.inl (-1,()))) else if b[n]<a[n] then some (.inr (.inl (1,()))) else some (.inl (eC a,eC b,(n:Int)-1,())):=by
   unfold kY
   rw[show ((n+1:Nat):Int)-1=(n:Int) by omega]
   simp only[kH,aF,cB,aL]
   rw[decide_eq_true (by omega),bY,bY,iG,iG,ga,gb,dK (by omega) (by simp only[LM] at hm;omega)]
   simp only[cond_true,Option.map_some,bC,eE,uM]
   by_cases c1:a[n]<b[n]
   ·rw[if_pos c1,decide_eq_false (by omega),decide_eq_true (by omega)];rfl
   ·rw[if_neg c1]
    by_cases c2:b[n]<a[n]
    ·rw[if_pos c2,decide_eq_false (by omega),decide_eq_false (by omega)];rfl
    ·rw[if_neg c2,decide_eq_true (by omega)];rfl
  by_cases c1:a[n]<b[n]
  ·rw[if_pos c1] at step
   have:=EN ha ga gb c1 hd
   rw[aO step,if_neg (by omega)]
   unfold cmpN
   rw[if_pos this]
  ·rw[if_neg c1] at step
   by_cases c2:b[n]<a[n]
   ·rw[if_pos c2] at step
    have:=EN hb gb ga c2 hd.symm
    rw[aO step,if_neg (by omega)]
    unfold cmpN
    rw[if_neg (by omega),if_neg (by omega)]
   ·rw[if_neg c2] at step
    rw[dU step]
    refine ih (by omega) ?_
    rw[List.drop_eq_getElem_cons h1,List.drop_eq_getElem_cons h2,hd,show a[n]=b[n] by omega]
theorem aBX{x y:Nat}(hx:(bF x).length<LM)(hy:(bF y).length<LM):mM (lm x,lm y,())=some (cmpN x y,()):=by
 unfold mM
 simp only[VY hx,VY hy,bC,aK,DT,aL,aF,cB]
 by_cases hl:(bF x).length=(bF y).length
 ·rw[decide_eq_true (by omega),dK (by omega) (by simp only[LM] at hx;omega)]
  have:=Cr (gM x) (gM y) hl hx (bF x).length (Nat.le_refl _) (by rw[List.drop_length,hl,List.drop_length])
  rw[fE,fE] at this
  simp only[lm,Bool.not_true,cond_false,this,bC]
  by_cases he:x=y
  ·subst he;simp[cmpN]
  ·rw[if_neg he];rfl
 ·rw[decide_eq_false (by omega)]
  simp only[Bool.not_false,cond_true]
  by_cases hc:(bF x).length<(bF y).length
  ·have:=VX hc
   rw[decide_eq_true (by omega)]
   unfold cmpN
   rw[if_pos this];rfl
  ·have:=VX (x:=y) (y:=x) (by omega)
   rw[decide_eq_false (by omega)]
   unfold cmpN
   rw[if_neg (by omega),if_neg (by omega)];rfl
theorem Ym{n:Nat}(h:n<BB):mE (lm n,())=some ((n:Int),()):=by
 unfold mE
 by_cases h0:n=0
 ·subst h0
  rw[mA]
  rw[aO (e:=.inl (0,())) (by simp[lY,dK])]
  rfl
 ·rw[tJ h0 h]
  have e:vF .or .u64 (0:Int) (n:Int)=(n:Int):=by
   have:=aBR (a:=n) (b:=0) h (by decide)
   simpa using this
  rw[dU (s':=([gA n],(n:Int),-1,())) (by
   unfold lY
   simp only[kH,aK,cB,List.length_cons,List.length_nil]
   rw[dK (by omega) (by omega),decide_eq_true (by omega),uB _ (by omega),dK (by omega) (by omega)]
   simp only[cond_true,VU,bC]
   have e2:FV .u64 (0:Int) 32=0:=by have:=Wc 0;simpa using this
   have e3:wr .u64 (0:Int)=0:=fF (n:=0) (by decide)
   simp[eE,mK,e2,e3,fF (show n<eW by simp only[BB,eW] at *;omega),e])]
  rw[aO (e:=.inl ((n:Int),())) (by simp[lY])]
  rfl
def S1q(q:Rat):Prop:=q.num.natAbs<BB∧q.den<BB
theorem Sm.s1{q:Rat}(h:Sm q):S1q q:=⟨by have:=h.1;simp only[BB];omega,by have:=h.2;simp only[BB];omega⟩
theorem EQ{q:Rat}(h:S1q q)(b:Bool):cU (b,aU q,aY q,())=some ((q.num.natAbs:Int),(q.den:Int),true,()):=by
 obtain⟨h1,h2⟩:=h
 have hd:=q.den_nz
 have l1:(aU q).length≤1:=Ob.2 h1
 unfold cU
 simp only[aF,aK,aL]
 rw[decide_eq_false (by omega)]
 have w:mE (aU q,())=some ((q.num.natAbs:Int),()):=Ym h1
 rw[Ti h2]
 by_cases hd1:q.den=1
 ·rw[if_pos hd1]
  simp only[List.length_nil]
  rw[decide_eq_false (by omega),decide_eq_false (by omega)]
  simp only[cond_false,bC,aN,w]
  rw[hd1];rfl
 ·rw[if_neg hd1]
  simp only[List.length_cons,List.length_nil]
  rw[decide_eq_false (by omega),decide_eq_true (by omega),uB _ (by omega)]
  simp only[cond_false,cond_true,Int.toNat_zero,List.getElem?_cons_zero,bC,eE,mK,aN,w]
  rw[fF (by simp only[BB,eW] at *;omega),decide_eq_false (by omega)]
  rfl
theorem Kf(a b:Nat):jD ((a:Int),(b:Int),())=some (((a.gcd b:Nat):Int),()):=by
 unfold jD
 have:aI sQ ((a:Int),(b:Int),())=some (.inl (((a.gcd b:Nat):Int),())):=Y9
 rw[this];rfl
theorem Fq{α:Type}(l:List α)(a n:Nat):iM l a n=(l.drop a).take n:=by unfold iM;rfl
theorem aBY{L l h:Nat}(h1:l≤h)(h2:h≤L):wF (L:Int) (l:Int) (h:Int) (h:Int)=some (l,h-l):=by
 unfold wF
 rw[if_pos ⟨by omega,by omega,rfl,by omega⟩]
 simp
theorem ZC{L l h:Nat}(h1:l≤h)(h2:h≤L):FW (L:Int) (l:Int) (h:Int)=some (l,h-l):=by
 unfold FW
 rw[if_pos ⟨by omega,by omega,by omega⟩]
 simp
theorem Tp(a b:Nat):qA a b=a+b:=by unfold qA;rfl
theorem aDH:repL 4 (T.v (.int .u32 (0:Int)))=[gA 0,gA 0,gA 0,gA 0]:=by rw[M3];rfl
theorem Yn:mkLen (4:Int) 4 4=some (4,4):=by unfold mkLen;rfl
theorem aDI{n:Int}(h:0<n):gH n 0=some 0:=by rw[Mp (by omega) h];rfl
theorem Yo(n:Nat):T.v (.int .u32 (wr .u32 (n:Int)))=gA (n%BB):=by rw[LL];rfl
theorem aBZ(n m:Nat):T.upd 1 (gA n) 0 [gA m]=gA m:=Mo _ _
theorem k1:wF 4 0 1 1=some (0,1):=by unfold wF;rfl
theorem k2:wF 4 1 2 2=some (1,1):=by unfold wF;rfl
theorem k3:wF 4 1 3 3=some (1,2):=by unfold wF;rfl
theorem k4:wF 4 0 2 2=some (0,2):=by unfold wF;rfl
theorem k5:wF 4 2 3 3=some (2,1):=by unfold wF;rfl
theorem k6:wF 4 2 4 4=some (2,2):=by unfold wF;rfl
theorem k7:FW 4 1 4=some (1,3):=by unfold FW;rfl
theorem k8:FW 4 2 4=some (2,2):=by unfold FW;rfl
theorem k9:wr .i64 (1+1)=2:=sK (by omega) (by omega)
theorem k10:wr .i64 (1+2)=3:=sK (by omega) (by omega)
theorem k11:wr .i64 (2+1)=3:=sK (by omega) (by omega)
theorem k12:wr .i64 (2+2)=4:=sK (by omega) (by omega)
theorem k19:GZ 3=3:=by unfold GZ;rfl
theorem k20:GZ 2=2:=by unfold GZ;rfl
theorem k13:gH 4 0=some 0:=by unfold gH;rfl
theorem k14:gH 4 1=some 1:=by unfold gH;rfl
theorem k15:gH 3 0=some 0:=by unfold gH;rfl
theorem k16:gH 3 1=some 1:=by unfold gH;rfl
theorem k17:gH 2 0=some 0:=by unfold gH;rfl
theorem k18:gH 2 1=some 1:=by unfold gH;rfl
theorem M7(neg:Bool){n d:Nat}(hn:n<eW)(hd:d<eW)(h0:d≠0):
 cC (neg,(n:Int),(d:Int),())=some (aM (mkRat (sg neg n) d),aU (mkRat (sg neg n) d),aY (mkRat (sg neg n) d),()):=by
 unfold cC
 simp only[aL]
 by_cases hz:n=0
 ·subst hz
  rw[decide_eq_true (by omega),Fg,wA,wB,wC]
  rfl
 ·rw[decide_eq_false (by omega)]
  have hg0:n.gcd d≠0:=Nat.gcd_ne_zero_right h0
  have hq1:n/n.gcd d≠0:=by
   have:=Nat.div_pos (Nat.le_of_dvd (Nat.pos_of_ne_zero hz) (Nat.gcd_dvd_left n d)) (Nat.pos_of_ne_zero hg0)
   omega
  have hq2:d/n.gcd d≠0:=by
   have:=Nat.div_pos (Nat.le_of_dvd (Nat.pos_of_ne_zero h0) (Nat.gcd_dvd_right n d)) (Nat.pos_of_ne_zero hg0)
   omega
  have b1:n/n.gcd d<eW:=Nat.lt_of_le_of_lt (Nat.div_le_self _ _) hn
  have b2:d/n.gcd d<eW:=Nat.lt_of_le_of_lt (Nat.div_le_self _ _) hd
  rw[Nx neg h0 hz,Fh neg h0,Fi neg h0]
  simp only[cond_false,Kf,bC,N7 (show ((n.gcd d:Nat):Int)≠0 by omega),Yn,aDH,aK,List.length_cons,List.length_nil,UL,Oe,fF b1,fF b2]
  generalize n/n.gcd d=N at *
  generalize d/n.gcd d=M at *
  clear hn hd hz h0 hg0
  have m1:N%BB<BB:=Nat.mod_lt _ (by decide)
  have m2:M%BB<BB:=Nat.mod_lt _ (by decide)
  have c1:N/BB<BB:=Nat.div_lt_of_lt_mul b1
  have c2:M/BB<BB:=Nat.div_lt_of_lt_mul b2
  rw[aDI (by omega)]
  simp only[bC,rH,List.getElem?_cons_zero,VU,PY,Yo,aBZ,List.set_cons_zero,aF,aJ]
  have l4:∀a b c d:T,(([a,b,c,d]:List T).length:Int)=4:=fun _ _ _ _=>rfl
  have dm:∀(m:Nat),m<eW→decide (((m/BB:Nat):Int)=0)=decide (m<BB):=fun m hm=>by
   rw[decide_eq_decide]
   constructor
   ·intro h
    have:m/BB=0:=by omega
    exact(Nat.div_eq_zero_iff.1 this).resolve_left (by decide)
   ·intro h;rw[Nat.div_eq_of_lt h];rfl
  have d1:decide ((1:Int)<(M:Int))=!decide (M=1):=by
   by_cases h:M=1
   ·subst h;rfl
   ·rw[decide_eq_true (by omega),decide_eq_false h];rfl
  rw[dm N b1]
  have r1:N/BB%BB=N/BB:=Nat.mod_eq_of_lt c1
  have r2:M/BB%BB=M/BB:=Nat.mod_eq_of_lt c2
  have two:∀m:Nat,¬m<BB→m<eW→lm m=[gA (m%BB),gA (m/BB)]:=fun m h1 h2=>Yd (by omega) h2
  unfold dn
  have fN:N<BB→lm N=[gA (N%BB)]:=fun h=>by rw[Nat.mod_eq_of_lt h,tJ hq1 h]
  have fM:M<BB→lm M=[gA (M%BB)]:=fun h=>by rw[Nat.mod_eq_of_lt h,tJ hq2 h]
  have e1:decide (M=1)=true∨decide (M=1)=false:=by cases decide (M=1) <;> simp
  have e2:decide (N<BB)=true∧lm N=[gA (N%BB)]∨decide (N<BB)=false∧lm N=[gA (N%BB),gA (N/BB)]:=by
   by_cases h:N<BB
   ·exact .inl ⟨decide_eq_true h,fN h⟩
   ·exact .inr ⟨decide_eq_false h,two N h b1⟩
  have e3:decide (M<BB)=true∧lm M=[gA (M%BB)]∨decide (M<BB)=false∧lm M=[gA (M%BB),gA (M/BB)]:=by
   by_cases h:M<BB
   ·exact .inl ⟨decide_eq_true h,fM h⟩
   ·exact .inr ⟨decide_eq_false h,two M h b2⟩
  have e4:(if M=1 then ([]:List T) else lm M)=bif decide (M=1) then [] else lm M:=by
   by_cases h:M=1
   ·rw[if_pos h,decide_eq_true h];rfl
   ·rw[if_neg h,decide_eq_false h];rfl
  rw[e4,d1,dm M b2]
  rcases e1 with h1 | h1 <;> rcases e2 with⟨h2,g2⟩ | ⟨h2,g2⟩ <;> rcases e3 with⟨h3,g3⟩ | ⟨h3,g3⟩
  all_goals simp only[h1,h2,h3,g2,g3,Bool.not_true,Bool.not_false,cond_true,cond_false,k1,k2,k3,k4,k5,k6,k7,k8,k9,k10,k11,k12,k13,k14,k15,k16,k17,k18,k19,k20,bC,l4,rH,List.length_set,List.set_cons_zero,List.set_cons_succ,List.getElem?_cons_zero,List.getElem?_cons_succ,Tp,Nat.add_zero,Nat.reduceAdd,aBZ,r1,r2,aN,Fq,List.drop_zero,List.drop_succ_cons,List.take_succ_cons,List.take_zero]
theorem VZ{a b:List Nat}(ha:a.length<LM):aR (eC a,eC b,())=some (decide (a=b),()):=by
 unfold aR
 simp only[aK,eP,aL]
 by_cases hl:a.length=b.length
 ·rw[decide_eq_true (by omega)]
  simp only[Bool.not_true,cond_false]
  have key:∀d i,i+d=a.length→a.take i=b.take i→aI cO (eC a,eC b,(a.length:Int),(i:Int),())=some (if a=b then .inr (.inl ()) else .inl (false,())):=by
   intro d
   induction d with
   | zero=>
    intro i hi ht
    have:i=a.length:=by omega
    subst this
    rw[List.take_length,hl,List.take_length] at ht
    rw[if_pos ht]
    exact aO (by unfold cO;simp only[aF];rw[decide_eq_false (by omega)];rfl)
   | succ d ih=>
    intro i hi ht
    have h1:i<a.length:=by omega
    have h2:i<b.length:=by omega
    have ga:=List.getElem?_eq_getElem h1
    have gb:=List.getElem?_eq_getElem h2
    have step:cO (eC a,eC b,(a.length:Int),(i:Int),())=if a[i]=b[i] then some (.inl (eC a,eC b,(a.length:Int),((i+1:Nat):Int),())) else some (.inr (.inl (false,()))):=by
     unfold cO
     simp only[aF,aJ,aL]
     rw[decide_eq_true (by omega),bY,bY,iG,iG,ga,gb,show (i:Int)+1=((i+1:Nat):Int) by omega,W3 (by simp only[LM] at ha;omega)]
     simp only[cond_true,Option.map_some,bC,eE,uM]
     by_cases h:a[i]=b[i]
     ·rw[if_pos h,decide_eq_true (by omega)];rfl
     ·rw[if_neg h,decide_eq_false (by omega)];rfl
    by_cases h:a[i]=b[i]
    ·rw[if_pos h] at step
     rw[dU step]
     refine ih (i+1) (by omega) ?_
     rw[List.take_succ_eq_append_getElem h1,List.take_succ_eq_append_getElem h2,ht,h]
    ·rw[if_neg h] at step
     rw[aO step,if_neg]
     intro hab
     subst hab
     exact h rfl
  have:=key a.length 0 (by omega) (by simp)
  rw[show ((0:Nat):Int)=0 from rfl] at this
  rw[this]
  by_cases hab:a=b
  ·rw[if_pos hab,decide_eq_true hab];rfl
  ·rw[if_neg hab,decide_eq_false hab];rfl
 ·rw[decide_eq_false (by omega),decide_eq_false (fun h=>hl (by rw[h]))]
  rfl
theorem A3{q:Rat}(h:Of q):cG (aM q,aU q,aY q,())=some (lK q,()):=by
 unfold cG
 obtain⟨k,h1,h2⟩:=Yl h.1
 have h1':jC (aU q,())=some ((k:Int),()):=h1
 simp only[h1',bC,aL]
 unfold lK
 by_cases h0:q=0
 ·rw[if_pos h0,decide_eq_true (by have:=h2.2 (PW.2 h0);omega)];rfl
 ·rw[if_neg h0,decide_eq_false (fun hh=>h0 (PW.1 (h2.1 (by omega))))]
  cases aM q <;> rfl
theorem lL(q:Rat):(lK q=0∧q=0)∨(lK q=-1∧q.num<0)∨(lK q=1∧0<q.num):=by
 unfold lK
 by_cases h:q=0
 ·exact .inl ⟨if_pos h,h⟩
 ·have h0:q.num≠0:=fun hh=>h (Rat.num_eq_zero.1 hh)
  rw[if_neg h]
  unfold aM
  by_cases hl:q.num<0
  ·rw[decide_eq_true hl];exact .inr (.inl ⟨rfl,hl⟩)
  ·rw[decide_eq_false hl];exact .inr (.inr ⟨rfl,by omega⟩)
def kO(p q:Rat):Int:=if p<q then -1 else if p=q then 0 else 1
theorem Fs{p q:Rat}:(p.num*q.den<q.num*p.den→kO p q=-1)∧(p.num*q.den=q.num*p.den→kO p q=0)∧(q.num*p.den<p.num*q.den→kO p q=1):=by
 refine⟨fun h=>?_,fun h=>?_,fun h=>?_⟩
 ·unfold kO;rw[if_pos (PX.2 h)]
 ·have e:p=q:=by
   rw[←Rat.mkRat_self p,←Rat.mkRat_self q]
   exact(Rat.mkRat_eq_iff p.den_nz q.den_nz).2 h
  unfold kO
  rw[if_neg (fun hh=>by have:=PX.1 hh;omega),if_pos e]
 ·unfold kO
  rw[if_neg (fun hh=>by have:=PX.1 hh;omega),if_neg (fun hh=>by subst hh;omega)]
theorem FR{p q:Rat}(hp:Sm p)(hq:Sm q):cI (aM p,aU p,aY p,aM q,aU q,aY q,())=some (kO p q,()):=by
 have p0:=p.den_nz
 have q0:=q.den_nz
 unfold cI
 simp only[A3 hp.fit,A3 hq.fit,bC,aL,aF,cB]
 have pd:(0:Int)<p.den:=by omega
 have qd:(0:Int)<q.den:=by omega
 have key:∀s:Int,(s<0→s*q.den<0)∧(0<s→0<s*q.den):=fun s=>⟨fun h=>Int.mul_neg_of_neg_of_pos h qd,fun h=>Int.mul_pos h qd⟩
 have key':∀s:Int,(s<0→s*p.den<0)∧(0<s→0<s*p.den):=fun s=>⟨fun h=>Int.mul_neg_of_neg_of_pos h pd,fun h=>Int.mul_pos h pd⟩
 obtain⟨c1,c2,c3⟩:=Fs (p:=p) (q:=q)
 have zp:p=0→p.num*q.den=0:=fun h=>by subst h;simp
 have zq:q=0→q.num*p.den=0:=fun h=>by subst h;simp
 by_cases hs:lK p=lK q
 ·rw[decide_eq_true hs]
  simp only[Bool.not_true,cond_false,EQ hp.s1,EQ hq.s1,bC]
  obtain⟨m1,f1,g1⟩:=ZA p.den
  obtain⟨m2,f2,g2⟩:=ZA q.den
  have eqd:aR (aY p,aY q,())=some (decide (p.den=q.den),()):=by
   have l1:(bF m1).length<LM:=by rcases g1 with rfl | rfl;exact hp.fit.2;rw[fT];decide
   unfold aY
   rw[f1,f2]
   have:=VZ (a:=bF m1) (b:=bF m2) l1
   unfold lm
   rw[this]
   congr 2
   rw[decide_eq_decide]
   constructor
   ·intro h;exact Ny p0 q0 (by rw[f1,f2,J3 h])
   ·intro h;rw[h] at f1;exact congrArg bF (PV (f1.symm.trans f2))
  have natc:mM (aU p,aU q,())=some (cmpN p.num.natAbs q.num.natAbs,()):=aBX hp.fit.1 hq.fit.1
  have sizes:∀(x y:Int) (a b:Nat),x=sg (aM p) a→y=sg (aM p) b→p.num*q.den=x→q.num*p.den=y→some ((bif aM p then 0-cmpN a b else cmpN a b),())=some (kO p q,()):=fun x y a b hx hy e1 e2=>by
   rw[e1,e2] at c1 c2 c3
   congr 2
   unfold cmpN
   cases hn:aM p with
   | true=>
    rw[hn] at hx hy
    simp only[sg,if_true] at hx hy
    simp only[cond_true]
    by_cases h1:a<b
    ·rw[if_pos h1,c3 (by omega)];rfl
    ·rw[if_neg h1]
     by_cases h2:a=b
     ·rw[if_pos h2,c2 (by omega)];rfl
     ·rw[if_neg h2,c1 (by omega)];rfl
   | false=>
    rw[hn] at hx hy
    simp only[sg,Bool.false_eq_true,if_false] at hx hy
    simp only[cond_false]
    by_cases h1:a<b
    ·rw[if_pos h1,c1 (by omega)]
    ·rw[if_neg h1]
     by_cases h2:a=b
     ·rw[if_pos h2,c2 (by omega)]
     ·rw[if_neg h2,c3 (by omega)]
  have hneg:aM p=aM q:=by
   unfold aM
   rcases lL p with⟨a1,a2⟩ | ⟨a1,a2⟩ | ⟨a1,a2⟩ <;> rcases lL q with⟨b1,b2⟩ | ⟨b1,b2⟩ | ⟨b1,b2⟩ <;> first
    | (rw[a1,b1] at hs;cases hs;done)
    | (subst a2;subst b2;rfl)
    | (rw[decide_eq_true a2,decide_eq_true b2])
    | (rw[decide_eq_false (by omega),decide_eq_false (by omega)])
  have wc:∀a b:Nat,wr .i64 (0-cmpN a b)=0-cmpN a b:=fun a b=>by
   have:cmpN a b=-1∨cmpN a b=0∨cmpN a b=1:=by
    unfold cmpN
    by_cases h1:a<b
    ·rw[if_pos h1];exact .inl rfl
    ·rw[if_neg h1]
     by_cases h2:a=b
     ·rw[if_pos h2];exact .inr (.inl rfl)
     ·rw[if_neg h2];exact .inr (.inr rfl)
   exact dK (by omega) (by omega)
  rw[eqd]
  simp only[bC]
  have hpn:=pC p
  have hqn:=pC q
  by_cases hd:p.den=q.den
  ·rw[decide_eq_true hd]
   simp only[cond_true,natc,bC,aN,wc]
   have pos:∀s:Bool,sg s p.num.natAbs*(q.den:Int)=sg s (p.num.natAbs*q.den):=fun s=>mB s _ _
   have hcm:cmpN p.num.natAbs q.num.natAbs=cmpN (p.num.natAbs*q.den) (q.num.natAbs*p.den):=by
    rw[hd]
    unfold cmpN
    have i1:p.num.natAbs*q.den<q.num.natAbs*q.den↔p.num.natAbs<q.num.natAbs:=Nat.mul_lt_mul_right (Nat.pos_of_ne_zero q0)
    have i2:p.num.natAbs*q.den=q.num.natAbs*q.den↔p.num.natAbs=q.num.natAbs:=Nat.mul_left_inj q0
    simp only[i1,i2]
   rw[hcm]
   have fin:=sizes _ _ (p.num.natAbs*q.den) (q.num.natAbs*p.den) rfl rfl (by rw[←mB,hpn]) (by rw[←mB,hneg,hqn])
   cases hn:aM p <;> rw[hn] at fin <;> exact fin
  ·rw[decide_eq_false hd]
   have bp:=hp.1;have bq:=hq.1;have bpd:=hp.2;have bqd:=hq.2
   have m1:p.num.natAbs*q.den<2147483648*2147483648:=Nat.mul_lt_mul'' bp bqd
   have m2:q.num.natAbs*p.den<2147483648*2147483648:=Nat.mul_lt_mul'' bq bpd
   simp only[cond_false,cond_true,bC,fG]
   rw[show ((p.num.natAbs:Nat):Int)*(q.den:Int)=((p.num.natAbs*q.den:Nat):Int) from(Int.natCast_mul _ _).symm,show ((q.num.natAbs:Nat):Int)*(p.den:Int)=((q.num.natAbs*p.den:Nat):Int) from(Int.natCast_mul _ _).symm,
    fF (by simp only[eW];omega),fF (by simp only[eW];omega)]
   have fin:=sizes _ _ (p.num.natAbs*q.den) (q.num.natAbs*p.den) rfl rfl (by rw[←mB,hpn]) (by rw[←mB,hneg,hqn])
   generalize p.num.natAbs*q.den=a at *
   generalize q.num.natAbs*p.den=b at *
   by_cases h1:a<b
   ·rw[decide_eq_true (by omega)]
    have hc:cmpN a b=-1:=by unfold cmpN;rw[if_pos h1]
    rw[hc] at fin
    simp only[cond_true,bC,aN]
    rw[dK (n:=0 - -1) (by omega) (by omega)]
    cases hn:aM p <;> rw[hn] at fin <;> exact fin
   ·rw[decide_eq_false (by omega)]
    by_cases h2:b<a
    ·rw[decide_eq_true (by omega)]
     have hc:cmpN a b=1:=by unfold cmpN;rw[if_neg h1,if_neg (by omega)]
     rw[hc] at fin
     simp only[cond_false,cond_true,bC,aN]
     rw[dK (n:=0-1) (by omega) (by omega)]
     cases hn:aM p <;> rw[hn] at fin <;> exact fin
    ·rw[decide_eq_false (by omega)]
     have hc:cmpN a b=0:=EO.2 (by omega)
     rw[hc] at fin
     simp only[cond_false,bC,aN]
     rw[dK (n:=0-0) (by omega) (by omega)]
     cases hn:aM p <;> rw[hn] at fin <;> exact fin
 ·rw[decide_eq_false hs]
  simp only[Bool.not_false,cond_true]
  rcases lL p with⟨a1,a2⟩ | ⟨a1,a2⟩ | ⟨a1,a2⟩ <;> rcases lL q with⟨b1,b2⟩ | ⟨b1,b2⟩ | ⟨b1,b2⟩ <;> rw[a1,b1]
  ·exact absurd (a1.trans b1.symm) hs
  ·have:=(key' _).1 b2
   rw[c3 (by rw[zp a2];exact this)];rfl
  ·have:=(key' _).2 b2
   rw[c1 (by rw[zp a2];exact this)];rfl
  ·have:=(key _).1 a2
   rw[c1 (by rw[zq b2];exact this)];rfl
  ·exact absurd (a1.trans b1.symm) hs
  ·have h1:=(key _).1 a2
   have h2:=(key' _).2 b2
   rw[c1 (by omega)];rfl
  ·have:=(key _).2 a2
   rw[c3 (by rw[zq b2];exact this)];rfl
  ·have h1:=(key _).2 a2
   have h2:=(key' _).1 b2
   rw[c3 (by omega)];rfl
  ·exact absurd (a1.trans b1.symm) hs
theorem Tq(a b:Nat):OR (a:Int) (b:Int) 0=some (((a+b)%eW:Nat):Int):=by
 unfold OR
 rw[if_pos ⟨by omega,by omega,by omega,by omega⟩]
 congr 1
theorem Tr{a b:Nat}(h:a+b<eW):OS (a:Int) (b:Int) 0=0:=by
 unfold OS
 simp only[eW] at h
 omega
theorem Wf{p q:Rat}(hp:Sm p)(hq:Sm q)(neg:Bool):kZ (aM p,aU p,aY p,aM q,aU q,aY q,neg,()) =
 (let r:=mkRat (sg (aM p) (p.num.natAbs*q.den)+sg neg (q.num.natAbs*p.den)) (p.den*q.den);some (aM r,aU r,aY r,())):=by
 have p0:=p.den_nz
 have q0:=q.den_nz
 have bp:=hp.1;have bq:=hq.1;have bpd:=hp.2;have bqd:=hq.2
 have m1:p.num.natAbs*q.den<2147483648*2147483648:=Nat.mul_lt_mul'' bp bqd
 have m2:q.num.natAbs*p.den<2147483648*2147483648:=Nat.mul_lt_mul'' bq bpd
 have m3:p.den*q.den<2147483648*2147483648:=Nat.mul_lt_mul'' bpd bqd
 have d0:p.den*q.den≠0:=Nat.mul_ne_zero p0 q0
 unfold kZ
 simp only[EQ hp.s1,EQ hq.s1,bC,cond_true,fG,cB,kH,aL,AP]
 rw[show ((p.num.natAbs:Nat):Int)*(q.den:Int)=((p.num.natAbs*q.den:Nat):Int) from(Int.natCast_mul _ _).symm,show ((q.num.natAbs:Nat):Int)*(p.den:Int)=((q.num.natAbs*p.den:Nat):Int) from(Int.natCast_mul _ _).symm,
  show ((p.den:Nat):Int)*(q.den:Int)=((p.den*q.den:Nat):Int) from(Int.natCast_mul _ _).symm,fF (n:=p.num.natAbs*q.den) (by simp only[eW];omega),fF (n:=q.num.natAbs*p.den) (by simp only[eW];omega),fF (n:=p.den*q.den) (by simp only[eW];omega)]
 generalize p.num.natAbs*q.den=a at *
 generalize q.num.natAbs*p.den=b at *
 generalize p.den*q.den=d at *
 rw[Tq,Tr (by simp only[eW];omega),Nat.mod_eq_of_lt (by simp only[eW];omega)]
 simp only[bC]
 by_cases hn:aM p=neg
 ·rw[hn]
  simp only[beq_self_eq_true,cond_true,decide_true]
  rw[M7 neg (by simp only[eW];omega) (by simp only[eW];omega) d0]
  simp only[bC,aN,Nz]
 ·have hb:(aM p==neg)=false:=by simpa using hn
  simp only[hb,cond_false,Bool.not_false,cond_true]
  by_cases hle:b≤a
  ·rw[decide_eq_true (by omega),show (a:Int)-(b:Int)=((a-b:Nat):Int) by omega,fF (n:=a-b) (by simp only[eW];omega),M7 (aM p) (by simp only[eW];omega) (by simp only[eW];omega) d0]
   simp only[cond_true,bC,aN,Ck hn hle]
  ·rw[decide_eq_false (by omega),show (b:Int)-(a:Int)=((b-a:Nat):Int) by omega,fF (n:=b-a) (by simp only[eW];omega),M7 neg (by simp only[eW];omega) (by simp only[eW];omega) d0]
   simp only[cond_false,bC,aN]
   rw[Int.add_comm,Ck (Ne.symm hn) (by omega)]
theorem ZD{p q:Rat}(hp:Sm p)(hq:Sm q):eG (aM p,aU p,aY p,aM q,aU q,aY q,())=some (aM (p+q),aU (p+q),aY (p+q),()):=by
 unfold eG
 simp only[Wf hp hq,bC]
 rw[←mB,←mB,pC,pC,←VT]
theorem Ft{l:List T}(h:l.length<1000000000):cJ (l,())=some (l,()):=by
 have hr:room [] l 4=some l:=by rw[pP (by simp only[List.length_nil];omega) (by decide)];rfl
 unfold cJ
 simp only[hr,bC]
 unfold Iq
 cases l with
 | nil=>exact Mg rfl rfl
 | cons a l=>rfl
theorem Ts{q:Rat}(h:Of q):(aU q).length<1000000000:=by
 have:=h.1
 unfold aU
 rw[DT]
 simp only[LM] at this;omega
theorem Tt{q:Rat}(h:Of q):(aY q).length<1000000000:=by
 obtain⟨m,e,c⟩:=ZA q.den
 unfold aY
 rw[e,DT]
 rcases c with rfl | rfl
 ·have:=h.2;simp only[LM] at this;omega
 ·rw[fT];decide
end Go.Eng.Rt
namespace Go.Eng.Rt
open Go.Eng
def dT(l:List Nat)(i:Nat):Nat:=l.getD i 0
theorem J4{l:List Nat}(h:Lim l)(i:Nat):dT l i<BB:=by
 unfold dT
 rw[List.getD_eq_getElem?_getD]
 cases hg:l[i]? with
 | none=>decide
 | some x=>exact h.get hg
theorem sB{l:List Nat}{i:Nat}(h:i<l.length):l[i]?=some (dT l i):=by
 unfold dT;rw[List.getD_eq_getElem?_getD,List.getElem?_eq_getElem h];rfl
theorem yK{l:List Nat}{i:Nat}(h:l.length≤i):dT l i=0:=by
 unfold dT;rw[List.getD_eq_getElem?_getD,List.getElem?_eq_none h];rfl
theorem ER(l:List Nat)(i:Nat):val (l.take (i+1))=val (l.take i)+BB ^ i*dT l i:=by
 by_cases h:i<l.length
 ·exact zD (sB h)
 ·rw[yK (by omega),List.take_of_length_le (by omega),List.take_of_length_le (by omega)];simp
theorem P5{a b:List Nat}(ha:Lim a)(hb:Lim b)(hla:a.length<LM)(hlb:b.length<LM){o:List Nat}{c i:Nat}(hc:c<BB)(hi:i<LM)(ho:o.length=i):
 nW (eC a,eC b,eC o,(c:Int),(i:Int),())=if i<a.length∨i<b.length∨c≠0 then
  some (.inl (eC a,eC b,eC (o++[(c+dT a i+dT b i)%BB]),(((c+dT a i+dT b i)/BB:Nat):Int),((i+1:Nat):Int),())) else some (.inr (.inl (eC o,()))):=by
 have xa:=J4 ha i
 have xb:=J4 hb i
 have hroom:∀n:Nat,room (eC o) [T.v (.int .u32 ((n%BB:Nat):Int))] 4=some (eC (o++[n%BB])):=fun n=>by
  rw[pP (by rw[eP,ho];simp only[List.length_cons,List.length_nil,LM] at *;omega) (by decide)]
  rw[←Cm];rfl
 have wi:wr .i64 ((i:Int)+1)=((i+1:Nat):Int):=by rw[show (i:Int)+1=((i+1:Nat):Int) by omega,W3 (by simp only[LM] at *;omega)]
 have w1:wr .u64 ((dT a i:Nat):Int)=((dT a i:Nat):Int):=fF (by simp only[BB,eW] at *;omega)
 have w2:wr .u64 ((dT b i:Nat):Int)=((dT b i:Nat):Int):=fF (by simp only[BB,eW] at *;omega)
 have w3:wr .u64 ((c:Int)+((dT a i:Nat):Int))=((c+dT a i:Nat):Int):=by rw[show (c:Int)+((dT a i:Nat):Int)=((c+dT a i:Nat):Int) by omega,fF (by simp only[BB,eW] at *;omega)]
 have w4:wr .u64 (((c+dT a i:Nat):Int)+((dT b i:Nat):Int))=((c+dT a i+dT b i:Nat):Int):=by rw[show ((c+dT a i:Nat):Int)+((dT b i:Nat):Int)=((c+dT a i+dT b i:Nat):Int) by omega,fF (by simp only[BB,eW] at *;omega)]
 have w5:wr .u64 ((c:Int)+((dT b i:Nat):Int))=((c+dT b i:Nat):Int):=by rw[show (c:Int)+((dT b i:Nat):Int)=((c+dT b i:Nat):Int) by omega,fF (by simp only[BB,eW] at *;omega)]
 unfold nW
 simp only[aF,aK,eP,aJ,aL]
 by_cases h1:i<a.length <;> by_cases h2:i<b.length
 ·rw[decide_eq_true (show (i:Int)<(a.length:Int) by omega),if_pos (.inl h1)]
  simp only[cond_true,bY,iG,sB h1,sB h2,Option.map_some,bC,eE,mK,aN,w1,w2,w3,w4,eP]
  rw[decide_eq_true (show (i:Int)<(b.length:Int) by omega)]
  simp only[cond_true,bY,iG,sB h1,sB h2,Option.map_some,bC,eE,mK,aN,w1,w2,w3,w4,VU,LL,hroom,PY,wi]
 ·rw[decide_eq_true (show (i:Int)<(a.length:Int) by omega),if_pos (.inl h1)]
  simp only[cond_true,bY,iG,sB h1,Option.map_some,bC,eE,mK,aN,w1,w3,eP]
  rw[decide_eq_false (show ¬(i:Int)<(b.length:Int) by omega)]
  simp only[cond_false,bC,aN,VU,LL,hroom,PY,wi,yK (show b.length≤i by omega),Nat.add_zero]
 ·rw[decide_eq_false (show ¬(i:Int)<(a.length:Int) by omega),decide_eq_true (show (i:Int)<(b.length:Int) by omega),if_pos (.inr (.inl h2))]
  simp only[cond_false,cond_true,bC,aN,eP]
  rw[decide_eq_true (show (i:Int)<(b.length:Int) by omega)]
  simp only[cond_true,bY,iG,sB h2,Option.map_some,bC,eE,mK,aN,w2,w5,VU,LL,hroom,PY,wi,yK (show a.length≤i by omega),Nat.add_zero]
 ·rw[decide_eq_false (show ¬(i:Int)<(a.length:Int) by omega),decide_eq_false (show ¬(i:Int)<(b.length:Int) by omega)]
  by_cases h3:c=0
  ·subst h3
   rw[decide_eq_true (by omega),if_neg (by omega)]
   rfl
  ·rw[decide_eq_false (by omega),if_pos (.inr (.inr h3))]
   simp only[cond_false,cond_true,Bool.not_false,bC,aN,eP]
   rw[decide_eq_false (show ¬(i:Int)<(b.length:Int) by omega)]
   simp only[cond_false,bC,aN,VU,LL,hroom,PY,wi,yK (show a.length≤i by omega),yK (show b.length≤i by omega),Nat.add_zero]
def Top(l:List Nat):Prop:=∀x,l.getLast?=some x→x≠0
theorem TF(n:Nat):Top (bF n):=fun x hx=>by
 by_cases h:n=0
 ·subst h;rw[fT] at hx;cases hx
 ·obtain⟨y,h1,h2,_⟩:=P4 h
  rw[List.getLast?_eq_getElem?] at hx
  rw[hx] at h1
  cases h1
  exact h2
theorem TG{l:List Nat}(h:Lim l)(ht:Top l):bF (val l)=l:=by
 rw[J2 h]
 by_cases hne:l=[]
 ·subst hne;rfl
 ·obtain⟨m,a,rfl⟩:∃m a,l=m++[a]:=⟨l.dropLast,l.getLast hne,(List.dropLast_concat_getLast hne).symm⟩
  exact GO (ht a (by simp))
theorem Wg{x y:Nat}(hx:(bF x).length<100000)(hy:(bF y).length<100000):uG (lm x,lm y,())=some (lm (x+y),()):=by
 have ha:=gM x
 have hb:=gM y
 have ta:=TF x
 have tb:=TF y
 have va:=fE x
 have vb:=fE y
 unfold lm
 generalize bF x=a at *
 generalize bF y=b at *
 let N:=max a.length b.length
 have key:∀i,i≤N→∃(o:List Nat) (c:Nat),aI nW (eC a,eC b,eC [],(0:Int),(0:Int),())=aI nW (eC a,eC b,eC o,(c:Int),(i:Int),()) ∧
  o.length=i∧Lim o∧c<2∧val o+BB ^ i*c=val (a.take i)+val (b.take i)∧(∀x,o.getLast?=some x→i=N→c=0→x≠0):=by
  intro i
  induction i with
  | zero=>intro _;exact⟨[],0,rfl,rfl,Lim.nil,by decide,by simp[val],fun x hx=>by cases hx⟩
  | succ i ih=>
   intro hi
   obtain⟨o,c,h1,h2,h3,h4,h5,_⟩:=ih (by omega)
   have hs:=P5 ha hb (by simp only[LM];omega) (by simp only[LM];omega) (o:=o) (c:=c) (i:=i) (by simp only[BB];omega) (by simp only[LM];omega) h2
   rw[if_pos (by omega)] at hs
   have xa:=J4 ha i
   have xb:=J4 hb i
   have hm:=Nat.mod_add_div (c+dT a i+dT b i) BB
   refine⟨_,_,h1.trans (dU hs),by rw[List.length_append,h2];rfl,h3.append (Lim.cons (Nat.mod_lt _ (by decide)) Lim.nil),?_,?_,?_⟩
   ·simp only[BB] at *;omega
   ·rw[xE,h2,ER,ER]
    simp only[val,Nat.mul_zero,Nat.add_zero]
    generalize (c+dT a i+dT b i)%BB=r at *
    generalize (c+dT a i+dT b i)/BB=q at *
    have e1:BB ^ (i+1)*q=BB ^ i*(BB*q):=by rw[Nat.pow_succ,Nat.mul_assoc]
    have e2:BB ^ i*(r+BB*q)=BB ^ i*(c+dT a i+dT b i):=by rw[hm]
    rw[e1]
    rw[Nat.mul_add,Nat.mul_add,Nat.mul_add] at e2
    omega
   ·intro z hz hN hq
    simp at hz
    have hsum:c+dT a i+dT b i<BB:=by
     rcases Nat.lt_or_ge (c+dT a i+dT b i) BB with h | h
     ·exact h
     ·have:=Nat.div_pos h (show 0<BB by decide);omega
    rw[Nat.mod_eq_of_lt hsum] at hz
    have hlast:dT a i≠0∨dT b i≠0:=by
     have:a.length=i+1∨b.length=i+1:=by omega
     rcases this with hl | hl
     ·left
      exact ta _ (by rw[List.getLast?_eq_getElem?,hl,Nat.add_sub_cancel,sB (by omega)])
     ·right
      exact tb _ (by rw[List.getLast?_eq_getElem?,hl,Nat.add_sub_cancel,sB (by omega)])
    omega
 obtain⟨o,c,h1,h2,h3,h4,h5,h6⟩:=key N (Nat.le_refl _)
 have hN1:a.length≤N:=Nat.le_max_left _ _
 have hN2:b.length≤N:=Nat.le_max_right _ _
 have hNl:N<100000:=by omega
 rw[List.take_of_length_le hN1,List.take_of_length_le hN2,va,vb] at h5
 have hs:=P5 ha hb (by simp only[LM];omega) (by simp only[LM];omega) (o:=o) (c:=c) (i:=N) (by simp only[BB];omega) (by simp only[LM];omega) h2
 unfold uG
 rw[show ([]:List T)=eC [] from rfl,h1]
 by_cases hc:c=0
 ·subst hc
  rw[if_neg (by omega)] at hs
  rw[aO hs]
  simp only[bC,aN]
  rw[←TG h3 (fun z hz=>h6 z hz rfl rfl)]
  rw[show val o=x+y by simpa using h5]
 ·rw[if_pos (by omega),yK hN1,yK hN2] at hs
  have c1:c=1:=by omega
  subst c1
  rw[dU hs]
  have hs2:=P5 ha hb (by simp only[LM];omega) (by simp only[LM];omega) (o:=o++[(1+0+0)%BB]) (c:=0) (i:=N+1) (by decide) (by simp only[LM];omega) (by rw[List.length_append,h2];rfl)
  rw[if_neg (by omega)] at hs2
  have e0:((1+0+0)/BB:Nat)=0:=by decide
  rw[e0,aO hs2]
  simp only[bC,aN]
  have e1:(1+0+0)%BB=1:=by decide
  rw[e1]
  have hl:Lim (o++[1]):=h3.append (Lim.cons (by decide) Lim.nil)
  rw[←TG hl (fun z hz=>by simp at hz;omega)]
  have hv:val (o++[1])=x+y:=by
   rw[xE,h2]
   simp only[val,Nat.mul_zero,Nat.add_zero]
   exact h5
  rw[hv]
theorem Cs{a b:List Nat}(ha:Lim a)(hb:Lim b)(hla:a.length<LM)(hlb:b.length<LM){o:List Nat}{c i:Nat}(hc:c≤1)(hi:i<a.length)(ho:o.length=a.length)(hz:o[i]?=some 0):
 ∃c' d,c'≤1∧d<BB∧d+(c+dT b i)=dT a i+BB*c' ∧
  gK (eC a,eC b,eC o,(c:Int),(i:Int),())=some (.inl (eC a,eC b,eC (o.set i d),(c':Int),((i+1:Nat):Int),())):=by
 have xa:=J4 ha i
 have xb:=J4 hb i
 have wi:wr .i64 ((i:Int)+1)=((i+1:Nat):Int):=by rw[show (i:Int)+1=((i+1:Nat):Int) by omega,W3 (by simp only[LM] at *;omega)]
 have w1:wr .u64 ((dT a i:Nat):Int)=((dT a i:Nat):Int):=fF (by simp only[BB,eW] at *;omega)
 have w2:wr .u64 ((dT b i:Nat):Int)=((dT b i:Nat):Int):=fF (by simp only[BB,eW] at *;omega)
 have w3:wr .u64 ((c:Int)+((dT b i:Nat):Int))=((c+dT b i:Nat):Int):=by rw[show (c:Int)+((dT b i:Nat):Int)=((c+dT b i:Nat):Int) by omega,fF (by simp only[BB,eW] at *;omega)]
 have w4:wr .u64 (((dT a i:Nat):Int)+4294967296)=((dT a i+BB:Nat):Int):=by rw[show ((dT a i:Nat):Int)+4294967296=((dT a i+BB:Nat):Int) by simp only[BB];omega,fF (by simp only[BB,eW] at *;omega)]
 have first:∀(R:Type) (k:(List T×List T×List T×Int×Int×Unit)→Option R),(ob (α:=((List T×List T×List T×Int×Int×Unit)⊕Empty)) (bif decide ((i:Int)<(b.length:Int)) then (ob ((b[i]?).map gA) fun x2=>(ob (T.anyInt? (T.cell x2 0)) fun x3=>(some (Sum.inl (eC a,eC b,eC o,(i:Int),(wr .u64 ((c:Int)+(wr .u64 x3))),()))))) else (some (Sum.inl (eC a,eC b,eC o,(i:Int),(c:Int),()))))
  fun q4=>dE q4 k fun q13=>eB q13)=k (eC a,eC b,eC o,(i:Int),((c+dT b i:Nat):Int),()):=fun R k=>by
  by_cases h2:i<b.length
  ·rw[decide_eq_true (by omega)]
   simp only[cond_true,sB h2,Option.map_some,bC,eE,mK,w2,w3,aN]
  ·rw[decide_eq_false (by omega),yK (show b.length≤i by omega)]
   rfl
 have e:gK (eC a,eC b,eC o,(c:Int),(i:Int),())=if dT a i<c+dT b i then some (.inl (eC a,eC b,eC (o.set i (dT a i+BB-(c+dT b i))),(1:Int),((i+1:Nat):Int),()))
  else some (.inl (eC a,eC b,eC (o.set i (dT a i-(c+dT b i))),(0:Int),((i+1:Nat):Int),())):=by
  unfold gK
  simp only[aF,aK,eP,aJ,cB]
  rw[decide_eq_true (show (i:Int)<(a.length:Int) by omega)]
  simp only[cond_true,bY,iG]
  rw[first]
  simp only[bY,iG,sB hi,Option.map_some,bC,eE,mK,w1]
  by_cases h3:dT a i<c+dT b i
  ·rw[if_pos h3,decide_eq_true (by omega)]
   simp only[cond_true,bC,aN,w4,eP]
   rw[mD (by omega),show ((dT a i+BB:Nat):Int)-((c+dT b i:Nat):Int)=((dT a i+BB-(c+dT b i):Nat):Int) by simp only[BB] at *;omega,fF (by simp only[BB,eW] at *;omega),Oa (by simp only[BB] at *;omega)]
   simp only[bC,rH,iG,hz,Option.map_some,wi]
   rw[IG _ _ ⟨0,rfl⟩,M6]
  ·rw[if_neg h3,decide_eq_false (by omega)]
   simp only[cond_false,bC,aN,eP]
   rw[mD (by omega),show ((dT a i:Nat):Int)-((c+dT b i:Nat):Int)=((dT a i-(c+dT b i):Nat):Int) by omega,fF (by simp only[BB,eW] at *;omega),Oa (by simp only[BB] at *;omega)]
   simp only[bC,rH,iG,hz,Option.map_some,wi]
   rw[IG _ _ ⟨0,rfl⟩,M6]
 by_cases h3:dT a i<c+dT b i
 ·rw[if_pos h3] at e
  exact⟨1,dT a i+BB-(c+dT b i),by omega,by simp only[BB] at *;omega,by simp only[BB] at *;omega,e⟩
 ·rw[if_neg h3] at e
  exact⟨0,dT a i-(c+dT b i),by omega,by simp only[BB] at *;omega,by omega,e⟩
theorem Tu{x y:Nat}(hx:(bF x).length<LM)(hxy:y≤x):mL (lm x,lm y,())=some (lm (x-y),()):=by
 have ha:=gM x
 have hb:=gM y
 have va:=fE x
 have vb:=fE y
 have hll:(bF y).length≤(bF x).length:=mR.2 (Nat.lt_of_le_of_lt hxy (mR.1 (Nat.le_refl _)))
 unfold lm
 have fin:∀d,eC (bF d)=lm d:=fun _=>rfl
 rw[fin (x-y)]
 generalize bF x=a at *
 generalize bF y=b at *
 have key:∀i,i≤a.length→∃(o:List Nat) (c:Nat),aI gK (eC a,eC b,eC (List.replicate a.length 0),(0:Int),(0:Int),())=aI gK (eC a,eC b,eC o,(c:Int),(i:Int),()) ∧
  o.length=a.length∧Lim o∧c≤1∧val o+val (b.take i)=val (a.take i)+BB ^ i*c∧∀m,i≤m→m<a.length→o[m]?=some 0:=by
  intro i
  induction i with
  | zero=>
   intro _
   refine⟨_,0,rfl,by simp,Lim.rep _,by decide,by simp[val,Fl],fun m _ hm=>?_⟩
   rw[List.getElem?_replicate,if_pos hm]
  | succ i ih=>
   intro hi
   obtain⟨o,c,h1,h2,h3,h4,h5,h6⟩:=ih (by omega)
   have hz:=h6 i (Nat.le_refl _) hi
   obtain⟨c',d,g1,g2,g3,g4⟩:=Cs ha hb hx (by omega) h4 hi h2 hz
   refine⟨_,c',h1.trans (dU g4),by rw[List.length_set,h2],h3.set g2 _,g1,?_,fun m hm hlt=>?_⟩
   ·have hv:=VV (x:=d) hz
    rw[ER,ER]
    have e1:BB ^ (i+1)*c'=BB ^ i*(BB*c'):=by rw[Nat.pow_succ,Nat.mul_assoc]
    have e2:BB ^ i*(d+(c+dT b i))=BB ^ i*(dT a i+BB*c'):=by rw[g3]
    rw[e1]
    rw[Nat.mul_add,Nat.mul_add,Nat.mul_add] at e2
    omega
   ·rw[List.getElem?_set_ne (by omega)]
    exact h6 m (by omega) hlt
 obtain⟨o,c,h1,h2,h3,h4,h5,_⟩:=key a.length (Nat.le_refl _)
 rw[List.take_length,List.take_of_length_le hll,va,vb] at h5
 have hvo:=Ch h3
 rw[h2] at hvo
 have hval:val o=x-y:=by
  have:c=0∨c=1:=by omega
  rcases this with rfl | rfl
  ·simp at h5;omega
  ·simp at h5;omega
 unfold mL
 simp only[aK,eP]
 rw[N9 (by omega) (by omega) (by simp only[LM] at hx;omega) (by decide)]
 simp only[bC,Int.toNat_natCast,M3,Fk]
 rw[h1,aO (e:=.inl (eC o,())) (by
  unfold gK
  simp only[aF,aK,eP]
  rw[decide_eq_false (by omega)];rfl)]
 simp only[bC,aN]
 rw[VW h3 (by omega),hval]
 rfl
theorem Fu{x y:Nat}(hx:(bF x).length<LM)(hxy:y≤x):qO (lm x,lm y,())=some (lm (x-y),0,()):=by
 have hll:(bF y).length≤(bF x).length:=mR.2 (Nat.lt_of_le_of_lt hxy (mR.1 (Nat.le_refl _)))
 unfold qO
 rw[P1 hx (by omega)]
 simp only[bC,aF]
 rw[decide_eq_false (by unfold cmpN;rw[if_neg (by omega)];split <;> omega)]
 simp only[cond_false,Tu hx hxy,bC]
theorem TH(q:Rat):cH (aM q,aU q,aY q,())=some (lm q.den,()):=by
 unfold cH aY dn
 simp only[aK,aL]
 by_cases h:q.den=1
 ·rw[if_pos h,h,tJ (by decide) (by decide)]
  rfl
 ·rw[if_neg h,decide_eq_false (fun hh=>q.den_nz (yJ.1 (by omega)))]
  rfl
theorem qV{n:Nat}(h:n<eW):(bF n).length≤2:=mR.2 h
theorem pY{x y:Nat}(hx:x<eW)(hy:y<eW):bK (lm x,lm y,())=some (lm (x*y),()):=
 aBS (by have h1:=qV hx;have h2:=qV hy;simp only[LM];omega)
theorem ZE{q:Rat}(h:Sm q):q.num.natAbs<eW∧q.den<eW:=by
 obtain⟨h1,h2⟩:=h;simp only[eW];omega
theorem fU{q:Rat}:((aU q).length:Int)=0↔q=0:=by
 rw[←IK];omega
theorem P6{p q:Rat}(hp:Sm p)(hq:Sm q):cM (aM p,aU p,aY p,aM q,aU q,aY q,())=some (aM (p+q),aU (p+q),aY (p+q),()):=by
 obtain⟨p1,p2⟩:=ZE hp
 obtain⟨q1,q2⟩:=ZE hq
 have bp:=hp.1;have bq:=hq.1;have bpd:=hp.2;have bqd:=hq.2
 have m1:p.num.natAbs*q.den<2147483648*2147483648:=Nat.mul_lt_mul'' bp bqd
 have m2:q.num.natAbs*p.den<2147483648*2147483648:=Nat.mul_lt_mul'' bq bpd
 have m3:p.den*q.den<2147483648*2147483648:=Nat.mul_lt_mul'' bpd bqd
 have d0:p.den*q.den≠0:=Nat.mul_ne_zero p.den_nz q.den_nz
 unfold cM
 simp only[aK,aL]
 by_cases hp0:p=0
 ·rw[decide_eq_true (fU.2 hp0)]
  rw[hp0,Rat.zero_add]
  rfl
 rw[decide_eq_false (fun h=>hp0 (fU.1 h))]
 by_cases hq0:q=0
 ·rw[decide_eq_true (fU.2 hq0)]
  rw[hq0,Rat.add_zero]
  rfl
 rw[decide_eq_false (fun h=>hq0 (fU.1 h))]
 have e1:bK (aU p,lm q.den,())=some (lm (p.num.natAbs*q.den),()):=pY p1 q2
 have e2:bK (aU q,lm p.den,())=some (lm (q.num.natAbs*p.den),()):=pY q1 p2
 simp only[cond_false,TH,bC,e1,e2,pY p2 q2,AP]
 have l1:=qV (n:=p.num.natAbs*q.den) (by simp only[eW];omega)
 have l2:=qV (n:=q.num.natAbs*p.den) (by simp only[eW];omega)
 by_cases hn:aM p=aM q
 ·rw[show (aM p==aM q)=true by simpa using hn]
  simp only[cond_true]
  rw[Wg (by omega) (by omega)]
  simp only[bC]
  rw[rZ _ (by simp only[eW];omega) (by simp only[eW];omega) d0]
  simp only[bC]
  rw[hn,←Y7 hn]
 ·rw[show (aM p==aM q)=false by simpa using hn]
  simp only[cond_false]
  rw[P1 (by simp only[LM];omega) (by simp only[LM];omega)]
  simp only[bC,aF]
  by_cases hlt:p.num.natAbs*q.den<q.num.natAbs*p.den
  ·rw[decide_eq_true (by unfold cmpN;rw[if_pos hlt];omega)]
   simp only[cond_true]
   rw[Fu (by simp only[LM];omega) (by omega)]
   simp only[bC]
   rw[rZ _ (by simp only[eW];omega) (by simp only[eW];omega) d0]
   simp only[bC]
   have:=IF (p:=q) (q:=p) (Ne.symm hn) (by omega)
   rw[Rat.add_comm,this,Nat.mul_comm p.den]
  ·rw[decide_eq_false (by unfold cmpN;rw[if_neg hlt];split <;> omega)]
   simp only[cond_false]
   rw[Fu (by simp only[LM];omega) (by omega)]
   simp only[bC]
   rw[rZ _ (by simp only[eW];omega) (by simp only[eW];omega) d0]
   simp only[bC]
   rw[←IF hn (by omega)]
theorem Sm.neg{q:Rat}(h:Sm q):Sm (-q):=by
 unfold Sm at *
 rw[Rat.neg_num,Int.natAbs_neg,Rat.neg_den]
 exact h
def DU(p q:Rat):Rat:=if 0<kO q p then q else p
theorem LO{n:Int}(h1:-4611686018427387904<n)(h2:n<4611686018427387904):aE (n,())=some (aM (n:Rat),aU (n:Rat),aY (n:Rat),()):=by
 unfold aE
 simp only[Cp h1 h2,bC]
 rfl
theorem P7{p q:Rat}(hp:Sm p)(hq:Sm q):dM (aM p,aU p,aY p,aM q,aU q,aY q,())=some (aM (p-q),aU (p-q),aY (p-q),()):=by
 unfold dM
 simp only[Wf hp hq,bC]
 have e:sg (!aM q) (q.num.natAbs*p.den)=(-q).num*((p.den:Nat):Int):=by
  have key:∀(b:Bool) (n:Nat),sg (!b) n=-(sg b n):=fun b n=>by cases b <;> simp[sg]
  rw[←mB,Rat.neg_num,key,pC]
 rw[e,←mB,pC,Rat.sub_eq_add_neg,VT,Rat.neg_den]
theorem FT{p q:Rat}(hp:Sm p)(hq:Sm q):bZ (aM p,aU p,aY p,aM q,aU q,aY q,())=some (aM (p*q),aU (p*q),aY (p*q),()):=by
 have bp:=hp.1;have bq:=hq.1;have bpd:=hp.2;have bqd:=hq.2
 have m1:p.num.natAbs*q.num.natAbs<2147483648*2147483648:=Nat.mul_lt_mul'' bp bq
 have m3:p.den*q.den<2147483648*2147483648:=Nat.mul_lt_mul'' bpd bqd
 unfold bZ
 simp only[aK,aL]
 by_cases hp0:p=0
 ·rw[decide_eq_true (fU.2 hp0)]
  rw[hp0,Rat.zero_mul,wA,wB,wC]
  rfl
 rw[decide_eq_false (fun h=>hp0 (fU.1 h))]
 by_cases hq0:q=0
 ·rw[decide_eq_true (fU.2 hq0)]
  rw[hq0,Rat.mul_zero,wA,wB,wC]
  rfl
 rw[decide_eq_false (fun h=>hq0 (fU.1 h))]
 simp only[cond_false,EQ hp.s1,EQ hq.s1,bC,cond_true,fG,AP,Tl]
 rw[show ((p.num.natAbs:Nat):Int)*((q.num.natAbs:Nat):Int)=((p.num.natAbs*q.num.natAbs:Nat):Int) from(Int.natCast_mul _ _).symm,show ((p.den:Nat):Int)*(q.den:Int)=((p.den*q.den:Nat):Int) from(Int.natCast_mul _ _).symm,
  fF (n:=p.num.natAbs*q.num.natAbs) (by simp only[eW];omega),fF (n:=p.den*q.den) (by simp only[eW];omega),M7 _ (by simp only[eW];omega) (by simp only[eW];omega) (Nat.mul_ne_zero p.den_nz q.den_nz),←Cl]
 rfl
theorem DV{q:Rat}(h:Of q):fR (aM q,aU q,aY q,())=some (aM q,aU q,aY q,()):=by
 unfold fR
 simp only[Ft (Ts h),Ft (Tt h),bC]
theorem aB0{p q:Rat}(hp:Sm p)(hq:Sm q):oA (aM p,aU p,aY p,aM q,aU q,aY q,())=some (aM (DU p q),aU (DU p q),aY (DU p q),()):=by
 unfold oA DU
 simp only[FR hq hp,bC,aF]
 by_cases h:0<kO q p
 ·rw[if_pos h,decide_eq_true h]
  simp only[cond_true,bC,aN,DV hq.fit]
 ·rw[if_neg h,decide_eq_false h]
  simp only[cond_false,bC,aN,DV hp.fit]
end Go.Eng.Rt
namespace Go.Eng.Tw
def qFr(D k:Nat)(q:Rat):Prop:=0<D∧∃m:Int,m.natAbs≤k∧q*(D:Rat)=(m:Rat)
theorem qFr.mono{D k l:Nat}{q:Rat}(h:qFr D k q)(hl:k≤l):qFr D l q:=by
 obtain⟨h0,m,h1,h2⟩:=h
 exact⟨h0,m,Nat.le_trans h1 hl,h2⟩
theorem qFr.int(n:Int):qFr 1 n.natAbs (n:Rat):=⟨by decide,n,Nat.le_refl _,by grind⟩
theorem qFr.zero{D:Nat}(h:0<D):qFr D 0 0:=⟨h,0,Nat.le_refl _,by grind⟩
theorem qFr.add{D k l:Nat}{p q:Rat}(h:qFr D k p)(h':qFr D l q):qFr D (k+l) (p+q):=by
 obtain⟨h0,m,h1,h2⟩:=h
 obtain⟨_,m',h1',h2'⟩:=h'
 exact⟨h0,m+m',by omega,by rw[Rat.add_mul,h2,h2',Rat.intCast_add]⟩
theorem qFr.neg{D k:Nat}{p:Rat}(h:qFr D k p):qFr D k (-p):=by
 obtain⟨h0,m,h1,h2⟩:=h
 exact⟨h0,-m,by omega,by rw[Rat.neg_mul,h2,Rat.intCast_neg]⟩
theorem qFr.sub{D k l:Nat}{p q:Rat}(h:qFr D k p)(h':qFr D l q):qFr D (k+l) (p-q):=by
 rw[Rat.sub_eq_add_neg];exact h.add h'.neg
theorem qFr.mul{D E k l:Nat}{p q:Rat}(h:qFr D k p)(h':qFr E l q):qFr (D*E) (k*l) (p*q):=by
 obtain⟨h0,m,h1,h2⟩:=h
 obtain⟨h0',m',h1',h2'⟩:=h'
 refine⟨Nat.mul_pos h0 h0',m*m',by rw[Int.natAbs_mul];exact Nat.mul_le_mul h1 h1',?_⟩
 rw[Rat.natCast_mul,Rat.intCast_mul,←h2,←h2']
 grind
theorem qFr.up{D k:Nat}{p:Rat}(E:Nat)(hE:0<E)(h:qFr D k p):qFr (D*E) (k*E) p:=by
 have:=h.mul (qFr.int (E:Int):qFr 1 _ _)
 obtain⟨h0,m,h1,h2⟩:=h
 refine⟨Nat.mul_pos h0 hE,m*E,by rw[Int.natAbs_mul,Int.natAbs_natCast];exact Nat.mul_le_mul_right _ h1,?_⟩
 rw[Rat.natCast_mul,Rat.intCast_mul,←h2,Rat.intCast_natCast]
 grind
theorem aB1{D:Nat}{q:Rat}{m:Int}(h0:0<D)(h:q*(D:Rat)=(m:Rat)):q=mkRat m D:=by
 have hD:(D:Rat)≠0:=by
  intro e
  have:((D:Int):Rat)=((0:Int):Rat):=by rw[Rat.intCast_natCast];exact e
  have:=Rat.intCast_inj.1 this
  omega
 have h2:mkRat m D*(D:Rat)=(m:Rat):=by
  rw[Rat.mkRat_eq_div,Rat.div_mul_cancel hD]
 grind
theorem Tv{n:Int}{d:Nat}(hd:d≠0):(mkRat n d).num.natAbs≤n.natAbs∧(mkRat n d).den≤d:=by
 rw[Rat.mkRat_def,dif_neg hd,Rat.normalize_eq]
 refine⟨?_,Nat.div_le_self _ _⟩
 show (n/((n.natAbs.gcd d:Nat):Int)).natAbs≤_
 have h1:((n.natAbs.gcd d:Nat):Int) ∣ n:=Int.dvd_trans (Int.natCast_dvd_natCast.2 (Nat.gcd_dvd_left n.natAbs d)) (Int.natAbs_dvd.2 (Int.dvd_refl n))
 obtain⟨c,hc⟩:=h1
 have hg:0<n.natAbs.gcd d:=Nat.gcd_pos_of_pos_right _ (Nat.pos_of_ne_zero hd)
 have h2:n/((n.natAbs.gcd d:Nat):Int)=c:=by
  have e:=Int.mul_ediv_cancel_left c (show ((n.natAbs.gcd d:Nat):Int)≠0 by omega)
  rw[←hc] at e
  exact e
 rw[h2]
 have h3:n.natAbs=n.natAbs.gcd d*c.natAbs:=by
  have:=congrArg Int.natAbs hc
  rw[Int.natAbs_mul,Int.natAbs_natCast] at this
  exact this
 have h4:=Nat.mul_le_mul_right c.natAbs hg
 omega
theorem qFr.bnd{D k:Nat}{q:Rat}(h:qFr D k q):q.num.natAbs≤k∧q.den≤D:=by
 obtain⟨h0,m,h1,h2⟩:=h
 rw[aB1 h0 h2]
 have:=Tv (n:=m) (d:=D) (by omega)
 omega
theorem qFr.of_mul{D N k:Nat}{q r:Rat}(hN:0<N)(h:qFr D k r)(e:(N:Rat)*q=r):qFr (D*N) k q:=by
 obtain⟨h0,m,h1,h2⟩:=h
 refine⟨Nat.mul_pos h0 hN,m,h1,?_⟩
 rw[Rat.natCast_mul,←h2,←e]
 grind
theorem qFr.imul{D k l:Nat}{n:Int}{q:Rat}(hn:n.natAbs≤l)(h:qFr D k q):qFr D (l*k) ((n:Rat)*q):=by
 have:=(qFr.int n).mul h
 rw[Nat.one_mul] at this
 exact this.mono (Nat.mul_le_mul_right _ hn)
theorem qFr.ofInt{D l:Nat}{n:Int}(hD:0<D)(hn:n.natAbs≤l):qFr D (l*D) (n:Rat):=by
 have:=(qFr.int n).up D hD
 rw[Nat.one_mul] at this
 exact this.mono (Nat.mul_le_mul_right _ hn)
end Go.Eng.Tw
namespace Go.Eng.Tw
theorem Ct{a:Rat}(h:a≤0):0≤-a:=by grind
theorem uN{n u:Rat}(hn:0<n)(h:0≤n*u):0≤u:=by
 rcases Rat.le_total (a:=0) (b:=u) with h1 | h1
 ·exact h1
 ·by_cases e:u=0
  ·grind
  ·have h2:0 < -u:=by grind
   have:=Rat.mul_pos hn h2
   grind
theorem TI(a:Rat):0≤a*a:=by
 rcases Rat.le_total (a:=0) (b:=a) with h | h
 ·exact Rat.mul_nonneg h h
 ·have:=Rat.mul_nonneg (Ct h) (Ct h)
  grind
theorem aB2{a:Rat}(h:a*a=0):a=0:=by
 rcases Rat.mul_eq_zero.1 h with h | h <;> exact h
theorem V0{a b:Rat}(h:a*a+b*b=0):a=0∧b=0:=by
 have h1:=TI a
 have h2:=TI b
 have e1:a*a=0:=by grind
 have e2:b*b=0:=by grind
 exact⟨aB2 e1,aB2 e2⟩
def Bt(d u:Rat):Prop:=(0≤u∧u≤d)∨(d≤u∧u≤0)
theorem V1{d u:Rat}(h:Bt d u):0≤u*d∧0≤(d-u)*d:=by
 rcases h with⟨h1,h2⟩ | ⟨h1,h2⟩
 ·exact⟨Rat.mul_nonneg h1 (by grind),Rat.mul_nonneg (by grind) (by grind)⟩
 ·have a1:=Rat.mul_nonneg (Ct h2) (show (0:Rat)≤-d by grind)
  have a2:=Rat.mul_nonneg (show (0:Rat)≤-(d-u) by grind) (show (0:Rat)≤-d by grind)
  exact⟨by grind,by grind⟩
theorem aB3{d u:Rat}(h:Bt d u)(h0:u*d=0):u=0:=by
 rcases Rat.mul_eq_zero.1 h0 with e | e
 ·exact e
 ·subst e
  rcases h with⟨h1,h2⟩ | ⟨h1,h2⟩ <;> grind
theorem aB4{d u:Rat}(h:Bt d u)(h0:(d-u)*d=0):u=d:=by
 rcases Rat.mul_eq_zero.1 h0 with e | e
 ·grind
 ·subst e
  rcases h with⟨h1,h2⟩ | ⟨h1,h2⟩ <;> grind
theorem Fv{d u x n:Rat}(hn:0<n)(hx:0≤x)(hxn:x≤n)(h:n*u=x*d):Bt d u:=by
 rcases Rat.le_total (a:=0) (b:=d) with hd | hd
 ·left
  have a1:=Rat.mul_nonneg hx hd
  have a2:=Rat.mul_nonneg (show (0:Rat)≤n-x by grind) hd
  have b1:0≤n*u:=by grind
  have b2:0≤n*(d-u):=by grind
  exact⟨uN hn b1,by have:=uN hn b2;grind⟩
 ·right
  have a1:=Rat.mul_nonneg hx (show (0:Rat)≤-d by grind)
  have a2:=Rat.mul_nonneg (show (0:Rat)≤n-x by grind) (show (0:Rat)≤-d by grind)
  have b1:0≤n*(-u):=by grind
  have b2:0≤n*(u-d):=by grind
  exact⟨by have:=uN hn b2;grind,by have:=uN hn b1;grind⟩
def Tx(dx dy ux uy:Rat):Rat:=
 if ux*dx+uy*dy≤0 then ux*ux+uy*uy
 else if dx*dx+dy*dy≤ux*dx+uy*dy then (ux-dx)*(ux-dx)+(uy-dy)*(uy-dy)
 else (ux-(ux*dx+uy*dy)/(dx*dx+dy*dy)*dx)*(ux-(ux*dx+uy*dy)/(dx*dx+dy*dy)*dx)+(uy-(ux*dx+uy*dy)/(dx*dx+dy*dy)*dy)*(uy-(ux*dx+uy*dy)/(dx*dx+dy*dy)*dy)
theorem Og(dx dy ux uy:Rat):Tx dx dy ux uy=0↔dx*uy-dy*ux=0∧Bt dx ux∧Bt dy uy:=by
 unfold Tx
 have n0:=TI dx
 have n1:=TI dy
 by_cases h1:ux*dx+uy*dy≤0
 ·rw[if_pos h1]
  constructor
  ·intro h
   obtain⟨e1,e2⟩:=V0 h
   subst e1;subst e2
   refine⟨by grind,?_,?_⟩
   ·rcases Rat.le_total (a:=0) (b:=dx) with h | h
    ·exact .inl ⟨Rat.le_refl,h⟩
    ·exact .inr ⟨h,Rat.le_refl⟩
   ·rcases Rat.le_total (a:=0) (b:=dy) with h | h
    ·exact .inl ⟨Rat.le_refl,h⟩
    ·exact .inr ⟨h,Rat.le_refl⟩
  ·rintro ⟨hc,b1,b2⟩
   have m1:=(V1 b1).1
   have m2:=(V1 b2).1
   have e1:=aB3 b1 (by grind)
   have e2:=aB3 b2 (by grind)
   subst e1;subst e2
   grind
 ·rw[if_neg h1]
  by_cases h2:dx*dx+dy*dy≤ux*dx+uy*dy
  ·rw[if_pos h2]
   constructor
   ·intro h
    obtain⟨e1,e2⟩:=V0 h
    have f1:ux=dx:=by grind
    have f2:uy=dy:=by grind
    subst f1;subst f2
    refine⟨by grind,?_,?_⟩
    ·rcases Rat.le_total (a:=0) (b:=ux) with h | h
     ·exact .inl ⟨h,Rat.le_refl⟩
     ·exact .inr ⟨Rat.le_refl,h⟩
    ·rcases Rat.le_total (a:=0) (b:=uy) with h | h
     ·exact .inl ⟨h,Rat.le_refl⟩
     ·exact .inr ⟨Rat.le_refl,h⟩
   ·rintro ⟨hc,b1,b2⟩
    have m1:=(V1 b1).2
    have m2:=(V1 b2).2
    have e1:=aB4 b1 (by grind)
    have e2:=aB4 b2 (by grind)
    subst e1;subst e2
    grind
  ·rw[if_neg h2]
   obtain⟨x,hx⟩:∃x,x=ux*dx+uy*dy:=⟨_,rfl⟩
   obtain⟨n,hn⟩:∃n,n=dx*dx+dy*dy:=⟨_,rfl⟩
   rw[←hx,←hn] at h2 ⊢
   rw[←hx] at h1
   have x0:0≤x:=by grind
   have n0:0<n:=by grind
   have nz:n≠0:=by grind
   obtain⟨t,ht⟩:∃t,t=x/n:=⟨_,rfl⟩
   have htn:t*n=x:=by rw[ht,Rat.div_mul_cancel nz]
   rw[←ht]
   have k1:n*(ux-t*dx)=-(dy*(dx*uy-dy*ux)):=by grind
   have k2:n*(uy-t*dy)=dx*(dx*uy-dy*ux):=by grind
   constructor
   ·intro h
    obtain⟨e1,e2⟩:=V0 h
    refine⟨?_,Fv n0 x0 (by grind) (by grind),Fv n0 x0 (by grind) (by grind)⟩
    grind
   ·rintro ⟨hc,_,_⟩
    rw[hc] at k1 k2
    have e1:ux-t*dx=0:=by
     rcases Rat.mul_eq_zero.1 (show n*(ux-t*dx)=0 by grind) with e | e
     ·exact absurd e nz
     ·exact e
    have e2:uy-t*dy=0:=by
     rcases Rat.mul_eq_zero.1 (show n*(uy-t*dy)=0 by grind) with e | e
     ·exact absurd e nz
     ·exact e
    rw[e1,e2]
    grind
end Go.Eng.Tw
namespace Go.Eng.Rt
open Go.Eng Go.Eng.Tw
theorem DW(q:Rat):dA (aM q,aU q,aY q,())=some (lK q,()):=by
 unfold dA lK
 simp only[aK,aL]
 by_cases h:q=0
 ·rw[if_pos h,decide_eq_true (by have:=IK.2 h;omega)];rfl
 ·rw[if_neg h,decide_eq_false (fun hh=>h (IK.1 (by omega)))]
  cases aM q <;> rfl
theorem sC{p q:Rat}(hp:Sm p)(hq:Sm q):cN (aM p,aU p,aY p,aM q,aU q,aY q,())=some (aM (p*q),aU (p*q),aY (p*q),()):=by
 obtain⟨p1,p2⟩:=ZE hp
 obtain⟨q1,q2⟩:=ZE hq
 have bp:=hp.1;have bq:=hq.1;have bpd:=hp.2;have bqd:=hq.2
 have m1:p.num.natAbs*q.num.natAbs<2147483648*2147483648:=Nat.mul_lt_mul'' bp bq
 have m3:p.den*q.den<2147483648*2147483648:=Nat.mul_lt_mul'' bpd bqd
 unfold cN
 have e1:bK (aU p,aU q,())=some (lm (p.num.natAbs*q.num.natAbs),()):=pY p1 q1
 simp only[e1,TH,bC,pY p2 q2,AP,Tl]
 rw[rZ _ (by simp only[eW];omega) (by simp only[eW];omega) (Nat.mul_ne_zero p.den_nz q.den_nz),←Cl]
 rfl
theorem GP{p q:Rat}(hp:Sm p)(hq:Sm q):fA (aM p,aU p,aY p,aM q,aU q,aY q,())=some (aM (p-q),aU (p-q),aY (p-q),()):=by
 unfold fA
 simp only[aBT,bC,P6 hp hq.neg]
 rw[Rat.sub_eq_add_neg]
theorem J5{p q:Rat}(hp:Sm p)(hq:Sm q):fB (aM p,aU p,aY p,aM q,aU q,aY q,())=some (kO p q,()):=by
 obtain⟨p1,p2⟩:=ZE hp
 obtain⟨q1,q2⟩:=ZE hq
 have bp:=hp.1;have bq:=hq.1;have bpd:=hp.2;have bqd:=hq.2
 have m1:p.num.natAbs*q.den<2147483648*2147483648:=Nat.mul_lt_mul'' bp bqd
 have m2:q.num.natAbs*p.den<2147483648*2147483648:=Nat.mul_lt_mul'' bq bpd
 have l1:=qV (n:=p.num.natAbs*q.den) (by simp only[eW];omega)
 have l2:=qV (n:=q.num.natAbs*p.den) (by simp only[eW];omega)
 have e1:bK (aU p,lm q.den,())=some (lm (p.num.natAbs*q.den),()):=pY p1 q2
 have e2:bK (aU q,lm p.den,())=some (lm (q.num.natAbs*p.den),()):=pY q1 p2
 have hprog:=FR hp hq
 unfold cI at hprog
 unfold fB
 simp only[DW,bC,aL,aF,cB]
 simp only[A3 hp.fit,A3 hq.fit,bC,aL,aF] at hprog
 by_cases hs:lK p=lK q
 ·rw[decide_eq_true hs]
  simp only[Bool.not_true,cond_false,TH,bC,e1,e2]
  rw[P1 (by simp only[LM];omega) (by simp only[LM];omega)]
  simp only[bC]
  obtain⟨c1,c2,c3⟩:=Fs (p:=p) (q:=q)
  have hneg:aM p=aM q:=by
   unfold aM
   rcases lL p with⟨a1,a2⟩ | ⟨a1,a2⟩ | ⟨a1,a2⟩ <;> rcases lL q with⟨b1,b2⟩ | ⟨b1,b2⟩ | ⟨b1,b2⟩ <;> first
    | (rw[a1,b1] at hs;cases hs;done)
    | (subst a2;subst b2;rfl)
    | (rw[decide_eq_true a2,decide_eq_true b2])
    | (rw[decide_eq_false (by omega),decide_eq_false (by omega)])
  have hx:p.num*(q.den:Int)=sg (aM p) (p.num.natAbs*q.den):=by rw[←mB,pC]
  have hy:q.num*(p.den:Int)=sg (aM p) (q.num.natAbs*p.den):=by rw[←mB,hneg,pC]
  rw[hx,hy] at c1 c2 c3
  generalize p.num.natAbs*q.den=a at *
  generalize q.num.natAbs*p.den=b at *
  unfold cmpN
  cases hn:aM p with
  | true=>
   rw[hn] at c1 c2 c3
   simp only[sg,if_true] at c1 c2 c3
   simp only[cond_true]
   by_cases h1:a<b
   ·rw[if_pos h1,c3 (by omega),dK (by omega) (by omega)];rfl
   ·rw[if_neg h1]
    by_cases h2:a=b
    ·rw[if_pos h2,c2 (by omega),dK (by omega) (by omega)];rfl
    ·rw[if_neg h2,c1 (by omega),dK (by omega) (by omega)];rfl
  | false=>
   rw[hn] at c1 c2 c3
   simp only[sg,Bool.false_eq_true,if_false] at c1 c2 c3
   simp only[cond_false]
   by_cases h1:a<b
   ·rw[if_pos h1,c1 (by omega)]
   ·rw[if_neg h1]
    by_cases h2:a=b
    ·rw[if_pos h2,c2 (by omega)]
    ·rw[if_neg h2,c3 (by omega)]
 ·rw[decide_eq_false hs] at hprog ⊢
  exact hprog
theorem Ty{p q:Rat}(m1:p.num.natAbs*q.den<4611686018427387904)(m2:q.num.natAbs*p.den<4611686018427387904)(m3:p.den*q.den<4611686018427387904):cM (aM p,aU p,aY p,aM q,aU q,aY q,())=some (aM (p+q),aU (p+q),aY (p+q),()):=by
 have pd:=p.den_pos
 have qd:=q.den_pos
 have p1:p.num.natAbs<eW:=by have:=Nat.le_mul_of_pos_right p.num.natAbs qd;simp only[eW];omega
 have q1:q.num.natAbs<eW:=by have:=Nat.le_mul_of_pos_right q.num.natAbs pd;simp only[eW];omega
 have p2:p.den<eW:=by have:=Nat.le_mul_of_pos_right p.den qd;simp only[eW];omega
 have q2:q.den<eW:=by have:=Nat.le_mul_of_pos_left q.den pd;simp only[eW];omega
 have d0:p.den*q.den≠0:=Nat.mul_ne_zero p.den_nz q.den_nz
 unfold cM
 simp only[aK,aL]
 by_cases hp0:p=0
 ·rw[decide_eq_true (fU.2 hp0)]
  rw[hp0,Rat.zero_add]
  rfl
 rw[decide_eq_false (fun h=>hp0 (fU.1 h))]
 by_cases hq0:q=0
 ·rw[decide_eq_true (fU.2 hq0)]
  rw[hq0,Rat.add_zero]
  rfl
 rw[decide_eq_false (fun h=>hq0 (fU.1 h))]
 have e1:bK (aU p,lm q.den,())=some (lm (p.num.natAbs*q.den),()):=pY p1 q2
 have e2:bK (aU q,lm p.den,())=some (lm (q.num.natAbs*p.den),()):=pY q1 p2
 simp only[cond_false,TH,bC,e1,e2,pY p2 q2,AP]
 have l1:=qV (n:=p.num.natAbs*q.den) (by simp only[eW];omega)
 have l2:=qV (n:=q.num.natAbs*p.den) (by simp only[eW];omega)
 by_cases hn:aM p=aM q
 ·rw[show (aM p==aM q)=true by simpa using hn]
  simp only[cond_true]
  rw[Wg (by omega) (by omega)]
  simp only[bC]
  rw[rZ _ (by simp only[eW];omega) (by simp only[eW];omega) d0]
  simp only[bC]
  rw[hn,←Y7 hn]
 ·rw[show (aM p==aM q)=false by simpa using hn]
  simp only[cond_false]
  rw[P1 (by simp only[LM];omega) (by simp only[LM];omega)]
  simp only[bC,aF]
  by_cases hlt:p.num.natAbs*q.den<q.num.natAbs*p.den
  ·rw[decide_eq_true (by unfold cmpN;rw[if_pos hlt];omega)]
   simp only[cond_true]
   rw[Fu (by simp only[LM];omega) (by omega)]
   simp only[bC]
   rw[rZ _ (by simp only[eW];omega) (by simp only[eW];omega) d0]
   simp only[bC]
   have:=IF (p:=q) (q:=p) (Ne.symm hn) (by omega)
   rw[Rat.add_comm,this,Nat.mul_comm p.den]
  ·rw[decide_eq_false (by unfold cmpN;rw[if_neg hlt];split <;> omega)]
   simp only[cond_false]
   rw[Fu (by simp only[LM];omega) (by omega)]
   simp only[bC]
   rw[rZ _ (by simp only[eW];omega) (by simp only[eW];omega) d0]
   simp only[bC]
   rw[←IF hn (by omega)]
theorem Yp{p q:Rat}(h:q≠0):p/q=mkRat (sg (aM p != aM q) (p.num.natAbs*q.den)) (p.den*q.num.natAbs):=by
 have hn:q.num≠0:=fun e=>h (Rat.num_eq_zero.1 e)
 have h1:(q⁻¹).num.natAbs=q.den:=by
  rw[Rat.num_inv,Int.natAbs_mul,Int.natAbs_natCast,Int.natAbs_sign_of_ne_zero hn,Nat.one_mul]
 have h2:(q⁻¹).den=q.num.natAbs:=by rw[Rat.den_inv,if_neg hn]
 have h3:aM q⁻¹=aM q:=by
  unfold aM
  rw[Rat.num_inv]
  have hd:(0:Int)<q.den:=by have:=q.den_pos;omega
  congr 1
  rcases Int.lt_trichotomy q.num 0 with e | e | e
  ·rw[Int.sign_eq_neg_one_of_neg e];simp only[eq_iff_iff];constructor <;> intro <;> omega
  ·exact absurd e hn
  ·rw[Int.sign_eq_one_of_pos e];simp only[eq_iff_iff];constructor <;> intro <;> omega
 rw[Rat.div_def,Cl,h1,h2,h3]
theorem Yq{p q:Rat}(hp:Sm p)(hq:Sm q)(h:q≠0):rP (aM p,aU p,aY p,aM q,aU q,aY q,())=some (aM (p/q),aU (p/q),aY (p/q),()):=by
 obtain⟨p1,p2⟩:=ZE hp
 obtain⟨q1,q2⟩:=ZE hq
 have bp:=hp.1;have bq:=hq.1;have bpd:=hp.2;have bqd:=hq.2
 have m1:p.num.natAbs*q.den<2147483648*2147483648:=Nat.mul_lt_mul'' bp bqd
 have m3:p.den*q.num.natAbs<2147483648*2147483648:=Nat.mul_lt_mul'' bpd bq
 have hn:q.num.natAbs≠0:=fun e=>h (Rat.num_eq_zero.1 (by omega))
 have e1:bK (aU p,lm q.den,())=some (lm (p.num.natAbs*q.den),()):=pY p1 q2
 have e2:bK (lm p.den,aU q,())=some (lm (p.den*q.num.natAbs),()):=pY p2 q1
 unfold rP xW
 simp only[aK,aL]
 rw[decide_eq_false (fun e=>h (fU.1 e))]
 simp only[cond_false,TH,bC,e1,e2,AP,Tl]
 rw[rZ _ (by simp only[eW];omega) (by simp only[eW];omega) (Nat.mul_ne_zero p.den_nz hn),Yp h]
 rfl
def DX(p q:Rat):Rat:=if kO q p<0 then q else p
theorem aB5{p q:Rat}(hp:Sm p)(hq:Sm q):nZ (aM p,aU p,aY p,aM q,aU q,aY q,())=some (aM (DX p q),aU (DX p q),aY (DX p q),()):=by
 unfold nZ DX
 simp only[FR hq hp,bC,aF]
 by_cases h:kO q p<0
 ·rw[if_pos h,decide_eq_true h]
  simp only[cond_true,bC,aN,DV hq.fit]
 ·rw[if_neg h,decide_eq_false h]
  simp only[cond_false,bC,aN,DV hp.fit]
theorem sD{p q:Rat}:kO p q≤0↔p≤q:=by
 unfold kO
 by_cases h:p<q
 ·rw[if_pos h];constructor
  ·intro;exact Rat.le_of_lt h
  ·intro;omega
 ·rw[if_neg h]
  by_cases e:p=q
  ·rw[if_pos e,e];constructor
   ·intro;exact Rat.le_refl
   ·intro;omega
  ·rw[if_neg e]
   constructor
   ·intro h2;omega
   ·intro h2;exact absurd (by grind) e
theorem V2{p q:Rat}:kO p q<0↔p<q:=by
 unfold kO
 by_cases h:p<q
 ·rw[if_pos h];constructor <;> intro <;> first | exact h | omega
 ·rw[if_neg h]
  by_cases e:p=q
  ·rw[if_pos e];constructor
   ·intro;omega
   ·intro h2;exact absurd h2 h
  ·rw[if_neg e]
   constructor
   ·intro h2;omega
   ·intro h2;exact absurd h2 h
theorem Tz{p q:Rat}:0<kO p q↔q<p:=by
 have:=sD (p:=p) (q:=q)
 constructor
 ·intro h
  have:¬p≤q:=fun e=>by have:=this.2 e;omega
  grind
 ·intro h
  have:¬kO p q≤0:=fun e=>by have:=this.1 e;grind
  omega
end Go.Eng.Rt
namespace Go.Eng.Rt
open Go.Eng Go.Eng.Tw
abbrev c3{β:Type}(q:Rat)(r:β):Bool×List T×List T×β:=(aM q,aU q,aY q,r)
theorem Fw:aM 0=false:=rfl
theorem DY:aU 0=[]:=by
 show eC (bF 0)=[]
 unfold bF
 rfl
theorem DZ:aY 0=[]:=by
 show dn 1=[]
 exact if_pos rfl
theorem z3{β:Type}(r:β):c3 0 r=(false,([]:List T),([]:List T),r):=by
 show (aM 0,aU 0,aY 0,r)=_
 rw[DY,DZ];rfl
theorem FU:Sm 0:=⟨by decide,by decide⟩
def Bd(k D:Nat)(q:Rat):Prop:=q.num.natAbs≤k∧q.den≤D
theorem Bd.sm{k D:Nat}{q:Rat}(h:Bd k D q)(hk:k<2147483648)(hD:D<2147483648):Sm q:=⟨Nat.lt_of_le_of_lt h.1 hk,Nat.lt_of_le_of_lt h.2 hD⟩
theorem mC{D k l E:Nat}{q:Rat}(h:qFr D k q)(hk:k≤l)(hD:D≤E):Bd l E q:=⟨Nat.le_trans h.bnd.1 hk,Nat.le_trans h.bnd.2 hD⟩
theorem gD{n:Int}{k:Nat}(h:n.natAbs≤k)(hk:k<2147483648):Sm (n:Rat):=⟨by rw[Rat.num_intCast];omega,by rw[Rat.den_intCast];decide⟩
theorem qFr.muli{D k l:Nat}{n:Int}{q:Rat}(hn:n.natAbs≤l)(h:qFr D k q):qFr D (l*k) (q*(n:Rat)):=by
 rw[Rat.mul_comm];exact h.imul hn
theorem Ua(q:Rat):cM (false,[],[],c3 q ())=some (c3 q ()):=by
 unfold cM
 simp only[aK,aL,List.length_nil]
 rfl
theorem Ub(q:Rat):cM (c3 q (c3 0 ()))=some (c3 q ()):=by
 unfold cM
 simp only[aK,aL]
 by_cases h:q=0
 ·rw[decide_eq_true (fU.2 h),h];rfl
 ·rw[decide_eq_false (fun e=>h (fU.1 e)),decide_eq_true (fU.2 rfl)];rfl
theorem Oh{a b c d e f:Rat}(ha:Sm a)(hb:Sm b)(hc:Sm c)(hd:Sm d)(he:Sm e)(hf:Sm f):eI (c3 a (c3 b (c3 c (c3 d (c3 e (c3 f ()))))))=some (c3 (a-d) (c3 (b-e) (c3 (c-f) ()))):=by
 unfold eI
 simp only[GP ha hd,GP hb he,GP hc hf,bC,aN]
theorem V3{a b d e:Rat}(ha:Sm a)(hb:Sm b)(hd:Sm d)(he:Sm e):eI (c3 a (c3 b (c3 0 (c3 d (c3 e (c3 0 ()))))))=some (c3 (a-d) (c3 (b-e) (c3 0 ()))):=by
 have:=Oh ha hb FU hd he FU
 rw[Rat.sub_self] at this
 exact this
theorem Yr{a b d e:Rat}(ha:Sm a)(hb:Sm b)(hd:Sm d)(he:Sm e):uJ (c3 a (c3 b (c3 0 (c3 d (c3 e (c3 0 ()))))))=some (c3 (a+d) (c3 (b+e) (c3 0 ()))):=by
 have h:=P6 FU FU
 rw[Rat.add_zero] at h
 unfold uJ
 simp only[P6 ha hd,P6 hb he,h,bC,aN]
theorem Oi{t a b:Rat}(ht:Sm t)(ha:Sm a)(hb:Sm b):pK (c3 t (c3 a (c3 b (c3 0 ()))))=some (c3 (t*a) (c3 (t*b) (c3 0 ()))):=by
 have h:=sC ht FU
 rw[Rat.mul_zero] at h
 unfold pK
 simp only[sC ht ha,sC ht hb,h,bC,aN]
theorem P8{a b d e:Rat}{k l D E:Nat}(ha:Sm a)(hb:Sm b)(hd:Sm d)(he:Sm e)(h1:Bd k D (a*d))(h2:Bd l E (b*e))(c1:k*E<4611686018427387904)(c2:l*D<4611686018427387904)(c4:D*E<4611686018427387904):
 iK (c3 a (c3 b (c3 0 (c3 d (c3 e (c3 0 ()))))))=some (c3 (a*d+b*e) ()):=by
 have h:=sC FU FU
 rw[Rat.mul_zero] at h
 have hs:=Ty (p:=a*d) (q:=b*e) (Nat.lt_of_le_of_lt (Nat.mul_le_mul h1.1 h2.2) c1) (Nat.lt_of_le_of_lt (Nat.mul_le_mul h2.1 h1.2) c2) (Nat.lt_of_le_of_lt (Nat.mul_le_mul h1.2 h2.2) c4)
 unfold iK
 simp only[sC ha hd,sC hb he,h,bC,aN,Ua,hs,Ub]
theorem ZF{q:Rat}:q.num<0↔q<0:=by
 rw[Rat.lt_iff]
 have:(0:Rat).num=0:=rfl
 have h2:(0:Rat).den=1:=rfl
 rw[this,h2]
 omega
theorem ZG{q:Rat}:0<q.num↔0<q:=by
 rw[Rat.lt_iff]
 have:(0:Rat).num=0:=rfl
 have h2:(0:Rat).den=1:=rfl
 rw[this,h2]
 omega
theorem Fx{q:Rat}:lK q≤0↔q≤0:=by
 rcases lL q with⟨h1,h2⟩ | ⟨h1,h2⟩ | ⟨h1,h2⟩
 ·rw[h1,h2];exact⟨fun _=>Rat.le_refl,fun _=>Int.le_refl _⟩
 ·rw[h1];exact⟨fun _=>Rat.le_of_lt (ZF.1 h2),fun _=>by decide⟩
 ·rw[h1];exact⟨fun h=>absurd h (by decide),fun h=>by have:=ZG.1 h2;grind⟩
theorem IL{q:Rat}:lK q=0↔q=0:=by
 rcases lL q with⟨h1,h2⟩ | ⟨h1,h2⟩ | ⟨h1,h2⟩
 ·rw[h1,h2];exact⟨fun _=>rfl,fun _=>rfl⟩
 ·rw[h1];exact⟨fun h=>absurd h (by decide),fun h=>by rw[h] at h2;exact absurd h2 (by decide)⟩
 ·rw[h1];exact⟨fun h=>absurd h (by decide),fun h=>by rw[h] at h2;exact absurd h2 (by decide)⟩
theorem Kg{ax ay dx dy:Int}{px py:Rat}{D:Nat}(hD:D≤8)(ha:ax.natAbs≤32)(hb:ay.natAbs≤32)(hdx:dx.natAbs≤20)(hdy:dy.natAbs≤20){kk:Nat}(hk:kk+32*D≤276)(hpx:qFr D kk px)(hpy:qFr D kk py):
 jP (c3 (ax:Rat) (c3 (ay:Rat) (c3 0 (c3 ((ax+dx:Int):Rat) (c3 ((ay+dy:Int):Rat) (c3 0 (c3 px (c3 py (c3 0 ())))))))))=some (c3 (Tx dx dy (px-ax) (py-ay)) ()):=by
 have D0:=hpx.1
 have sax:Sm (ax:Rat):=gD ha (by decide)
 have say:Sm (ay:Rat):=gD hb (by decide)
 have sbx:Sm ((ax+dx:Int):Rat):=gD (k:=52) (by omega) (by decide)
 have sby:Sm ((ay+dy:Int):Rat):=gD (k:=52) (by omega) (by decide)
 have sdx:Sm (dx:Rat):=gD hdx (by decide)
 have sdy:Sm (dy:Rat):=gD hdy (by decide)
 have spx:Sm px:=(mC hpx (Nat.le_refl _) hD).sm (by omega) (by decide)
 have spy:Sm py:=(mC hpy (Nat.le_refl _) hD).sm (by omega) (by decide)
 have ebx:((ax+dx:Int):Rat)-(ax:Rat)=(dx:Rat):=by rw[Rat.intCast_add];grind
 have eby:((ay+dy:Int):Rat)-(ay:Rat)=(dy:Rat):=by rw[Rat.intCast_add];grind
 obtain⟨ux,hux⟩:∃ux,ux=px-(ax:Rat):=⟨_,rfl⟩
 obtain⟨uy,huy⟩:∃uy,uy=py-(ay:Rat):=⟨_,rfl⟩
 have fux:qFr D 276 ux:=by rw[hux];exact(hpx.sub (qFr.ofInt D0 ha)).mono (by omega)
 have fuy:qFr D 276 uy:=by rw[huy];exact(hpy.sub (qFr.ofInt D0 hb)).mono (by omega)
 have sux:Sm ux:=(mC fux (Nat.le_refl _) hD).sm (by decide) (by decide)
 have suy:Sm uy:=(mC fuy (Nat.le_refl _) hD).sm (by decide) (by decide)
 have q1:=V3 sbx sby sax say
 rw[ebx,eby] at q1
 have q2:=V3 spx spy sax say
 rw[←hux,←huy] at q2
 have fx1:qFr D 5520 (ux*(dx:Rat)):=(qFr.muli hdx fux)
 have fx2:qFr D 5520 (uy*(dy:Rat)):=(qFr.muli hdy fuy)
 have q3:=P8 sux suy sdx sdy (mC fx1 (Nat.le_refl _) hD) (mC fx2 (Nat.le_refl _) hD) (by decide) (by decide) (by decide)
 have fn1:qFr 1 400 ((dx:Rat)*(dx:Rat)):=(qFr.muli hdx (qFr.mono (qFr.int dx) hdx))
 have fn2:qFr 1 400 ((dy:Rat)*(dy:Rat)):=(qFr.muli hdy (qFr.mono (qFr.int dy) hdy))
 have q4:=P8 sdx sdy sdx sdy (mC fn1 (Nat.le_refl _) (Nat.le_refl _)) (mC fn2 (Nat.le_refl _) (Nat.le_refl _)) (by decide) (by decide) (by decide)
 have fx:=(fx1.add fx2)
 have fn:=(fn1.add fn2)
 have sx:=(mC fx (Nat.le_refl _) hD).sm (by decide) (by decide)
 have sn:=(mC fn (Nat.le_refl _) (Nat.le_refl 1)).sm (by decide) (by decide)
 rw[←hux,←huy]
 unfold jP Tx
 simp only[q1,q2,q3,q4,bC,DW,kH]
 by_cases h1:ux*(dx:Rat)+uy*(dy:Rat)≤0
 ·rw[decide_eq_true (Fx.2 h1),if_pos h1]
  have gx:Bd 76176 64 (ux*ux):=mC (fux.mul fux) (by decide) (Nat.mul_le_mul hD hD)
  have gy:Bd 76176 64 (uy*uy):=mC (fuy.mul fuy) (by decide) (Nat.mul_le_mul hD hD)
  have q5:=P8 sux suy sux suy gx gy (by decide) (by decide) (by decide)
  simp only[cond_true,q5,bC]
 ·rw[decide_eq_false (fun e=>h1 (Fx.1 e)),if_neg h1]
  simp only[cond_false,J5 sx sn,bC]
  by_cases h2:(dx:Rat)*(dx:Rat)+(dy:Rat)*(dy:Rat)≤ux*(dx:Rat)+uy*(dy:Rat)
  ·have h2':0≤kO (ux*(dx:Rat)+uy*(dy:Rat)) ((dx:Rat)*(dx:Rat)+(dy:Rat)*(dy:Rat)):=by
    have:=V2 (p:=ux*(dx:Rat)+uy*(dy:Rat)) (q:=(dx:Rat)*(dx:Rat)+(dy:Rat)*(dy:Rat))
    have hn:¬(ux*(dx:Rat)+uy*(dy:Rat)<(dx:Rat)*(dx:Rat)+(dy:Rat)*(dy:Rat)):=by grind
    have:¬_:=fun e=>hn (this.1 e)
    omega
   rw[decide_eq_true h2',if_pos h2]
   have e1:px-((ax+dx:Int):Rat)=ux-dx:=by rw[hux,Rat.intCast_add];grind
   have e2:py-((ay+dy:Int):Rat)=uy-dy:=by rw[huy,Rat.intCast_add];grind
   have q5:=V3 spx spy sbx sby
   rw[e1,e2] at q5
   have gx0:qFr D 436 (ux-dx):=(fux.sub (qFr.ofInt D0 hdx)).mono (by omega)
   have gy0:qFr D 436 (uy-dy):=(fuy.sub (qFr.ofInt D0 hdy)).mono (by omega)
   have s1:=(mC gx0 (Nat.le_refl _) hD).sm (by decide) (by decide)
   have s2:=(mC gy0 (Nat.le_refl _) hD).sm (by decide) (by decide)
   have q6:=P8 s1 s2 s1 s2 (mC (gx0.mul gx0) (Nat.le_refl _) (Nat.mul_le_mul hD hD)) (mC (gy0.mul gy0) (Nat.le_refl _) (Nat.mul_le_mul hD hD)) (by decide) (by decide) (by decide)
   simp only[cond_true,q5,q6,bC]
  ·have h2':¬0≤kO (ux*(dx:Rat)+uy*(dy:Rat)) ((dx:Rat)*(dx:Rat)+(dy:Rat)*(dy:Rat)):=by
    have:=V2 (p:=ux*(dx:Rat)+uy*(dy:Rat)) (q:=(dx:Rat)*(dx:Rat)+(dy:Rat)*(dy:Rat))
    have:=this.2 (by grind)
    omega
   rw[decide_eq_false h2',if_neg h2]
   simp only[cond_false]
   obtain⟨N,hN⟩:∃N:Nat,((dx*dx+dy*dy:Int))=(N:Int):=⟨(dx*dx+dy*dy).toNat,by
    have a1:0≤dx*dx:=by rw[←Int.natAbs_mul_self];exact Int.natCast_nonneg _
    have a2:0≤dy*dy:=by rw[←Int.natAbs_mul_self];exact Int.natCast_nonneg _
    omega⟩
   have hNr:(dx:Rat)*(dx:Rat)+(dy:Rat)*(dy:Rat)=(N:Rat):=by
    rw[←Rat.intCast_mul,←Rat.intCast_mul,←Rat.intCast_add,hN,Rat.intCast_natCast]
   have hN1:N≤800:=by
    have a1:=Nat.mul_le_mul hdx hdx
    have a2:=Nat.mul_le_mul hdy hdy
    have b1:=Int.natAbs_mul_self (a:=dx)
    have b2:=Int.natAbs_mul_self (a:=dy)
    omega
   obtain⟨x,hx⟩:∃x,x=ux*(dx:Rat)+uy*(dy:Rat):=⟨_,rfl⟩
   rw[hNr] at h2 sn ⊢
   rw[←hx] at h1 h2 sx fx ⊢
   have hN0:N≠0:=by
    intro e
    subst e
    have:((0:Nat):Rat)=0:=rfl
    rw[this] at h2
    grind
   have nz:(N:Rat)≠0:=by
    intro e
    have:((N:Int):Rat)=((0:Int):Rat):=by rw[Rat.intCast_natCast];exact e
    have:=Rat.intCast_inj.1 this
    omega
   obtain⟨t,ht⟩:∃t,t=x/(N:Rat):=⟨_,rfl⟩
   have htn:(N:Rat)*t=x:=by rw[ht,Rat.mul_comm,Rat.div_mul_cancel nz]
   have hDN:D*N≤6400:=Nat.mul_le_mul hD hN1
   have DN0:0<D*N:=Nat.mul_pos D0 (Nat.pos_of_ne_zero hN0)
   have ft:qFr (D*N) 11040 t:=qFr.of_mul (Nat.pos_of_ne_zero hN0) fx htn
   have st:=(mC ft (Nat.le_refl _) hDN).sm (by decide) (by decide)
   have q5:=Yq sx sn nz
   rw[←ht] at q5 ⊢
   have q6:=Oi st sdx sdy
   have f1:qFr (D*N) 220800 (t*(dx:Rat)):=qFr.muli hdx ft
   have f2:qFr (D*N) 220800 (t*(dy:Rat)):=qFr.muli hdy ft
   have s1:=(mC f1 (Nat.le_refl _) hDN).sm (by decide) (by decide)
   have s2:=(mC f2 (Nat.le_refl _) hDN).sm (by decide) (by decide)
   have q7:=Yr sax say s1 s2
   have f3:qFr (D*N) 425600 ((ax:Rat)+t*(dx:Rat)):=((qFr.ofInt DN0 ha).add f1).mono (by omega)
   have f4:qFr (D*N) 425600 ((ay:Rat)+t*(dy:Rat)):=((qFr.ofInt DN0 hb).add f2).mono (by omega)
   have s3:=(mC f3 (Nat.le_refl _) hDN).sm (by decide) (by decide)
   have s4:=(mC f4 (Nat.le_refl _) hDN).sm (by decide) (by decide)
   have q8:=V3 spx spy s3 s4
   have e1:px-((ax:Rat)+t*(dx:Rat))=ux-t*dx:=by rw[hux];grind
   have e2:py-((ay:Rat)+t*(dy:Rat))=uy-t*dy:=by rw[huy];grind
   rw[e1,e2] at q8
   have fc:qFr D 11040 ((dx:Rat)*uy-(dy:Rat)*ux):=((fuy.imul hdx).sub (fux.imul hdy))
   have k1:(N:Rat)*(ux-t*dx)=-((dy:Rat)*((dx:Rat)*uy-(dy:Rat)*ux)):=by grind
   have k2:(N:Rat)*(uy-t*dy)=(dx:Rat)*((dx:Rat)*uy-(dy:Rat)*ux):=by grind
   have g1:qFr (D*N) 220800 (ux-t*dx):=qFr.of_mul (Nat.pos_of_ne_zero hN0) (fc.imul hdy).neg k1
   have g2:qFr (D*N) 220800 (uy-t*dy):=qFr.of_mul (Nat.pos_of_ne_zero hN0) (fc.imul hdx) k2
   have s5:=(mC g1 (Nat.le_refl _) hDN).sm (by decide) (by decide)
   have s6:=(mC g2 (Nat.le_refl _) hDN).sm (by decide) (by decide)
   have q9:=P8 s5 s6 s5 s6 (mC (g1.mul g1) (Nat.le_refl _) (Nat.mul_le_mul hDN hDN)) (mC (g2.mul g2) (Nat.le_refl _) (Nat.mul_le_mul hDN hDN)) (by decide) (by decide) (by decide)
   simp only[q5,q6,q7,q8,q9,bC]
end Go.Eng.Rt
namespace Go.Eng.Tm
def QT(p q:Int×Int):Int:=p.1*q.2-q.1*p.2
def GQ:List (Int×Int)→Int
 | a::b::l=>QT a b+GQ (b::l)
 | _=>0
def gQ:List (Int×Int)→Int
 | []=>0
 | p::l=>GQ (p::l++[p])
theorem ZH:∀(u:List (Int×Int)) (a:Int×Int) (v:List (Int×Int)),GQ (u++a::v)=GQ (u++[a])+GQ (a::v)
 | [],a,v=>by simp[GQ]
 | [x],a,v=>by simp[GQ]
 | x::y::u,a,v=>by
  have h:=ZH (y::u) a v
  simp only[List.cons_append,GQ] at h ⊢
  omega
theorem TJ(l:List (Int×Int))(a b:Int×Int):GQ (l++[a,b])=GQ (l++[a])+QT a b:=by
 rw[ZH l a [b]]
 simp[GQ]
def pF(l:List (Int×Int))(i:Nat):Int×Int:=l.getD i (0,0)
def pM(l:List (Int×Int)):Nat→Int
 | 0=>0
 | i+1=>pM l i+QT (pF l i) (pF l ((i+1)%l.length))
theorem TK{l:List (Int×Int)}:∀{i:Nat},i<l.length→pM l i=GQ (l.take (i+1))
 | 0,h=>by
  cases l with
  | nil=>simp at h
  | cons a l=>simp[pM,GQ]
 | i+1,h=>by
  have ih:=TK (l:=l) (i:=i) (by omega)
  simp only[pM]
  rw[ih,Nat.mod_eq_of_lt h]
  have ha:l[i]?=some (pF l i):=by unfold pF;rw[List.getD_eq_getElem?_getD,List.getElem?_eq_getElem (by omega)];rfl
  have hb:l[i+1]?=some (pF l (i+1)):=by unfold pF;rw[List.getD_eq_getElem?_getD,List.getElem?_eq_getElem h];rfl
  rw[List.take_add_one (i:=i+1),hb,List.take_add_one (i:=i),ha]
  simp only[Option.toList_some,List.append_assoc,List.cons_append,List.nil_append]
  rw[TJ]
theorem ES(l:List (Int×Int)):pM l l.length=gQ l:=by
 cases l with
 | nil=>rfl
 | cons p l=>
  have h:=TK (l:=p::l) (i:=l.length) (by simp)
  have e:pM (p::l) (p::l).length=pM (p::l) l.length+QT (pF (p::l) l.length) (pF (p::l) ((l.length+1)%(l.length+1))):=rfl
  rw[e,h,Nat.mod_self]
  have ht:(p::l).take (l.length+1)=p::l:=List.take_of_length_le (by simp)
  rw[ht]
  show GQ (p::l)+QT (pF (p::l) l.length) p=GQ (p::l++[p])
  have hlast:p::l=(p::l).dropLast++[pF (p::l) l.length]:=by
   have h1:=List.dropLast_concat_getLast (l:=p::l) (by simp)
   have h2:(p::l).getLast (by simp)=pF (p::l) l.length:=by
    unfold pF
    rw[List.getD_eq_getElem?_getD,List.getLast_eq_getElem]
    simp
   rw[h2] at h1
   exact h1.symm
  generalize pF (p::l) l.length=z at *
  have e2:p::l++[p]=(p::l).dropLast++[z,p]:=by
   conv=>lhs;rw[hlast]
   simp
  rw[e2,TJ,←hlast]
end Go.Eng.Tm
namespace Go.Eng.Rt
open Go.Eng Go.Eng.Tm
def wT(p:Int×Int):T:=.agg [.v (.bool (aM (p.1:Rat))),.sl 1 (aU (p.1:Rat)),.sl 1 (aY (p.1:Rat)),.v (.bool (aM (p.2:Rat))),.sl 1 (aU (p.2:Rat)),.sl 1 (aY (p.2:Rat)),.v (.bool false),.sl 1 [],.sl 1 []]
def Uc(p:Int×Int):Prop:=p.1.natAbs<100∧p.2.natAbs<100
theorem kP{n:Int}(h:n.natAbs<2147483648):Sm (n:Rat):=⟨by rw[Rat.num_intCast];exact h,by rw[Rat.den_intCast];decide⟩
theorem Cu{l:List (Int×Int)}(hl:l.length<1000000){i:Nat}(hi:i<l.length){p q:Int×Int}(hp:l[i]?=some p)(hq:l[(i+1)%l.length]?=some q):
 eH (l.map wT,(i:Int),())=some (aM (p.1:Rat),aU (p.1:Rat),aY (p.1:Rat),aM (p.2:Rat),aU (p.2:Rat),aY (p.2:Rat),false,[],[],aM (q.1:Rat),aU (q.1:Rat),aY (q.1:Rat),aM (q.2:Rat),aU (q.2:Rat),aY (q.2:Rat),false,[],[],()):=by
 have wi:wr .i64 ((i:Int)+1)=((i+1:Nat):Int):=by rw[dK (by omega) (by omega)];push_cast;rfl
 have hgp:(l.map wT)[i]?=some (wT p):=by simp[hp]
 have hgq:(l.map wT)[(i+1)%l.length]?=some (wT q):=by simp[hq]
 have hpl:((l.map wT).length:Int)=(l.length:Int):=by rw[List.length_map]
 have hnz:nz (l.length:Int)=some (l.length:Int):=by unfold nz;rw[if_neg (by omega)]
 have hmod:((i+1:Nat):Int).tmod (l.length:Int)=(((i+1)%l.length:Nat):Int):=rfl
 have cs:∀p,T.bool? (T.cell (wT p) 0)=some (aM (p.1:Rat))∧T.sl? 1 (T.cell (wT p) 1)=some (aU (p.1:Rat))∧T.sl? 1 (T.cell (wT p) 2)=some (aY (p.1:Rat)) ∧
  T.bool? (T.cell (wT p) 3)=some (aM (p.2:Rat))∧T.sl? 1 (T.cell (wT p) 4)=some (aU (p.2:Rat))∧T.sl? 1 (T.cell (wT p) 5)=some (aY (p.2:Rat)) ∧
  T.bool? (T.cell (wT p) 6)=some false∧T.sl? 1 (T.cell (wT p) 7)=some []∧T.sl? 1 (T.cell (wT p) 8)=some []:=fun p=>⟨rfl,tA _ _,tA _ _,rfl,tA _ _,tA _ _,rfl,tA _ _,tA _ _⟩
 obtain⟨a0,a1,a2,a3,a4,a5,a6,a7,a8⟩:=cs p
 obtain⟨b0,b1,b2,b3,b4,b5,b6,b7,b8⟩:=cs q
 unfold eH
 simp only[aK,hpl,hnz,aJ,wi,pO,hmod,bY,hgp,hgq,bC,a0,a1,a2,a3,a4,a5,a6,a7,a8,b0,b1,b2,b3,b4,b5,b6,b7,b8]
theorem J6{p q:Int×Int}(hp:Uc p)(hq:Uc q):(QT p q).natAbs≤20000:=by
 have h1:(p.1*q.2).natAbs≤10000:=by
  rw[Int.natAbs_mul]
  exact Nat.mul_le_mul (show _≤100 from Nat.le_of_lt hp.1) (show _≤100 from Nat.le_of_lt hq.2)
 have h2:(q.1*p.2).natAbs≤10000:=by
  rw[Int.natAbs_mul]
  exact Nat.mul_le_mul (show _≤100 from Nat.le_of_lt hq.1) (show _≤100 from Nat.le_of_lt hp.2)
 unfold QT
 omega
theorem xF{l:List (Int×Int)}{i:Nat}(h:i<l.length):l[i]?=some (pF l i)∧pF l i∈l:=by
 have e:l[i]?=some (pF l i):=by unfold pF;rw[List.getD_eq_getElem?_getD,List.getElem?_eq_getElem h];rfl
 exact⟨e,List.mem_of_getElem? e⟩
theorem A4{l:List (Int×Int)}(hl:∀p∈l,Uc p):∀{i:Nat},i≤l.length→(pM l i).natAbs≤20000*i
 | 0,_=>by simp[pM]
 | i+1,h=>by
  have ih:=A4 hl (i:=i) (by omega)
  have hc:=J6 (hl _ (xF (l:=l) (i:=i) (by omega)).2) (hl _ (xF (l:=l) (i:=(i+1)%l.length) (Nat.mod_lt _ (by omega))).2)
  simp only[pM]
  omega
def AS(l:List (Int×Int))(i:Nat):(List T×Unit×Unit×Int×Int×Bool×T×T×Bool×List T×List T×Unit):=
 (l.map wT,(),(),(l.length:Int),(i:Int),false,.v (.slice none 0 0),.v (.slice none 0 0),aM (pM l i:Rat),aU (pM l i:Rat),aY (pM l i:Rat),())
theorem Kh{l:List (Int×Int)}(hl:∀p∈l,Uc p)(hn:l.length≤1000){i:Nat}(hi:i<l.length):lD (AS l i)=some (.inl (AS l (i+1))):=by
 obtain⟨e1,m1⟩:=xF hi
 obtain⟨e2,m2⟩:=xF (l:=l) (i:=(i+1)%l.length) (Nat.mod_lt _ (by omega))
 have hb:=A4 hl (i:=i) (by omega)
 have hc:=J6 (hl _ m1) (hl _ m2)
 have wi:wr .i64 ((i:Int)+1)=((i+1:Nat):Int):=by rw[dK (by omega) (by omega)];push_cast;rfl
 have hlt:decide ((i:Int)<(l.length:Int))=true:=decide_eq_true (by omega)
 have hed:=Cu (l:=l) (by omega) hi e1 e2
 have hs:pM l (i+1)=pM l i+QT (pF l i) (pF l ((i+1)%l.length)):=rfl
 generalize pF l i=p at *
 generalize pF l ((i+1)%l.length)=q at *
 have sp:=hl _ m1
 have sq:=hl _ m2
 have sm:∀{n:Int},n.natAbs<100→Sm (n:Rat):=fun h=>kP (by omega)
 have k1:(p.1*q.2).natAbs≤10000:=by
  rw[Int.natAbs_mul]
  exact Nat.mul_le_mul (show _≤100 from Nat.le_of_lt sp.1) (show _≤100 from Nat.le_of_lt sq.2)
 have k2:(q.1*p.2).natAbs≤10000:=by
  rw[Int.natAbs_mul]
  exact Nat.mul_le_mul (show _≤100 from Nat.le_of_lt sq.1) (show _≤100 from Nat.le_of_lt sp.2)
 have f1:=FT (sm sp.1) (sm sq.2)
 have f2:=FT (sm sq.1) (sm sp.2)
 rw[←Rat.intCast_mul] at f1 f2
 have f3:=P7 (kP (n:=p.1*q.2) (by omega)) (kP (n:=q.1*p.2) (by omega))
 rw[←Rat.intCast_sub] at f3
 have f4:=ZD (kP (n:=pM l i) (by omega)) (kP (n:=QT p q) (by omega))
 rw[←Rat.intCast_add,←hs] at f4
 unfold QT at f4
 unfold lD
 conv=>lhs;unfold AS
 simp only[aF,hlt,cond_true,hed,bC,f1,f2,f3,f4,aJ,wi]
 rfl
theorem Cw{l:List (Int×Int)}(hl:∀p∈l,Uc p)(hn:l.length≤1000):fC (l.map wT,())=some (aM (gQ l:Rat),aU (gQ l:Rat),aY (gQ l:Rat),()):=by
 have h:=eQ (F:=lD) l.length (AS l) fun i hi=>Kh hl hn hi
 have hpl:((l.map wT).length:Int)=(l.length:Int):=by rw[List.length_map]
 have fold:(l.map wT,(),(),(l.length:Int),(0:Int),false,T.v (Value.slice none 0 0),T.v (Value.slice none 0 0),false,([]:List T),([]:List T),())=AS l 0:=by
  have e:((pM l 0:Int):Rat)=0:=rfl
  unfold AS
  rw[e,wA,wB,wC];rfl
 have hout:aI lD (AS l l.length)=some (.inl ((),(),false,T.v (Value.slice none 0 0),T.v (Value.slice none 0 0),aM (pM l l.length:Rat),aU (pM l l.length:Rat),aY (pM l l.length:Rat),())):=by
  refine aO ?_
  have hlt:decide ((l.length:Int)<(l.length:Int))=false:=decide_eq_false (by omega)
  unfold lD AS
  simp only[aF,hlt,cond_false]
 rw[←ES]
 unfold fC
 simp only[aK,hpl,fold,h,hout,bC,aN]
end Go.Eng.Rt
namespace Go.Eng.Rt
open Go.Eng Go.Eng.Tw Go.Eng.Tm
theorem V4{a b c d e f:Rat}(ha:Sm a)(hb:Sm b)(hc:Sm c)(hd:Sm d)(he:Sm e)(hf:Sm f):iF (c3 a (c3 b (c3 c (c3 d (c3 e (c3 f ()))))))=some (c3 (a-d) (c3 (b-e) (c3 (c-f) ()))):=by
 unfold iF nD
 simp only[P7 ha hd,P7 hb he,P7 hc hf,bC,aN]
theorem Ud(q:Rat):q-0=q:=by grind
theorem aB6(q:Rat):0*q=0:=Rat.zero_mul q
section
variable {ax ay dx dy:Int} {px py pz:Rat} {D:Nat} (hD:D≤8) (ha:ax.natAbs≤32) (hb:ay.natAbs≤32) (hdx:dx.natAbs≤20) (hdy:dy.natAbs≤20) (hpx:qFr D 32 px) (hpy:qFr D 32 py) (hpz:qFr 2 32 pz)
include hD ha hb hdx hdy hpx hpy hpz
theorem LP:bU (c3 (ax:Rat) (c3 (ay:Rat) (c3 0 (c3 ((ax+dx:Int):Rat) (c3 ((ay+dy:Int):Rat) (c3 0 (c3 px (c3 py (c3 pz ())))))))))=some (lK ((dx:Rat)*(py-ay)-(dy:Rat)*(px-ax)),()) ∧
 cV (c3 (ax:Rat) (c3 (ay:Rat) (c3 0 (c3 ((ax+dx:Int):Rat) (c3 ((ay+dy:Int):Rat) (c3 0 (c3 px (c3 py (c3 pz ())))))))))=some (lK ((dx:Rat)*(py-ay)-(dy:Rat)*(px-ax)),()):=by
 have D0:=hpx.1
 have sax:Sm (ax:Rat):=gD ha (by decide)
 have say:Sm (ay:Rat):=gD hb (by decide)
 have sbx:Sm ((ax+dx:Int):Rat):=gD (k:=52) (by omega) (by decide)
 have sby:Sm ((ay+dy:Int):Rat):=gD (k:=52) (by omega) (by decide)
 have sdx:Sm (dx:Rat):=gD hdx (by decide)
 have sdy:Sm (dy:Rat):=gD hdy (by decide)
 have spx:Sm px:=(mC hpx (Nat.le_refl _) hD).sm (by decide) (by decide)
 have spy:Sm py:=(mC hpy (Nat.le_refl _) hD).sm (by decide) (by decide)
 have spz:Sm pz:=(mC hpz (Nat.le_refl _) (Nat.le_refl 2)).sm (by decide) (by decide)
 have ebx:((ax+dx:Int):Rat)-(ax:Rat)=(dx:Rat):=by rw[Rat.intCast_add];grind
 have eby:((ay+dy:Int):Rat)-(ay:Rat)=(dy:Rat):=by rw[Rat.intCast_add];grind
 obtain⟨ux,hux⟩:∃ux,ux=px-(ax:Rat):=⟨_,rfl⟩
 obtain⟨uy,huy⟩:∃uy,uy=py-(ay:Rat):=⟨_,rfl⟩
 have fux:qFr D 288 ux:=by rw[hux];exact(hpx.sub (qFr.ofInt D0 ha)).mono (by omega)
 have fuy:qFr D 288 uy:=by rw[huy];exact(hpy.sub (qFr.ofInt D0 hb)).mono (by omega)
 have sux:Sm ux:=(mC fux (Nat.le_refl _) hD).sm (by decide) (by decide)
 have suy:Sm uy:=(mC fuy (Nat.le_refl _) hD).sm (by decide) (by decide)
 have f1:qFr D 5760 ((dx:Rat)*uy):=fuy.imul hdx
 have f2:qFr D 5760 ((dy:Rat)*ux):=fux.imul hdy
 have s1:=(mC f1 (Nat.le_refl _) hD).sm (by decide) (by decide)
 have s2:=(mC f2 (Nat.le_refl _) hD).sm (by decide) (by decide)
 have sc:=(mC (f1.sub f2) (Nat.le_refl _) hD).sm (by decide) (by decide)
 have f3:qFr 2 640 ((dx:Rat)*pz):=hpz.imul hdx
 have f4:qFr 2 640 ((dy:Rat)*pz):=hpz.imul hdy
 have s3:=(mC f3 (Nat.le_refl _) (Nat.le_refl 2)).sm (by decide) (by decide)
 have s4:=(mC f4 (Nat.le_refl _) (Nat.le_refl 2)).sm (by decide) (by decide)
 rw[←hux,←huy]
 constructor
 ·have q1:=V4 sbx sby FU sax say FU
  have q2:=V4 spx spy spz sax say FU
  rw[ebx,eby,Ud] at q1
  rw[←hux,←huy,Ud] at q2
  have m1:=FT FU suy
  have m2:=FT FU sux
  rw[aB6] at m1 m2
  unfold bU oB
  simp only[q1,q2,bC,FT sdx suy,FT sdy sux,FT sdx spz,FT sdy spz,m1,m2,P7 s1 s2,P7 s4 FU,P7 FU s3,aN,A3 sc.fit]
 ·have q1:=Oh sbx sby FU sax say FU
  have q2:=Oh spx spy spz sax say FU
  rw[ebx,eby,Ud] at q1
  rw[←hux,←huy,Ud] at q2
  have m1:=sC FU suy
  have m2:=sC FU sux
  rw[aB6] at m1 m2
  unfold cV pL
  simp only[q1,q2,bC,sC sdx suy,sC sdy sux,sC sdx spz,sC sdy spz,m1,m2,GP s1 s2,GP s4 FU,GP FU s3,aN,DW]
end
theorem Ue{a b:Rat}(ha:Sm a)(hb:Sm b):Sm (DX a b):=by unfold DX;split <;> assumption
theorem Uf{a b:Rat}(ha:Sm a)(hb:Sm b):Sm (DU a b):=by unfold DU;split <;> assumption
theorem TL{a b x:Rat}(ha:Sm a)(hb:Sm b)(hx:Sm x):lB (c3 a (c3 b (c3 x ())))=some (decide (DX a b≤x∧x≤DU a b),()):=by
 unfold lB
 simp only[aB5 ha hb,aB0 ha hb,FR (Ue ha hb) hx,FR hx (Uf ha hb),bC,kH]
 by_cases h1:DX a b≤x
 ·rw[decide_eq_true (sD.2 h1)]
  by_cases h2:x≤DU a b
  ·rw[decide_eq_true (sD.2 h2),decide_eq_true ⟨h1,h2⟩];rfl
  ·rw[decide_eq_false (show ¬kO x (DU a b)≤0 from fun e=>h2 (sD.1 e)),decide_eq_false (show ¬(DX a b≤x∧x≤DU a b) from fun e=>h2 e.2)];rfl
 ·rw[decide_eq_false (show ¬kO (DX a b) x≤0 from fun e=>h1 (sD.1 e)),decide_eq_false (show ¬(DX a b≤x∧x≤DU a b) from fun e=>h1 e.1)];rfl
theorem Fy{a x:Rat}{d b:Rat}(hb:b=a+d):(DX a b≤x∧x≤DU a b)↔Bt d (x-a):=by
 unfold DX DU Bt
 simp only[V2,Tz]
 by_cases h1:b<a
 ·rw[if_pos h1,if_neg (show ¬a<b by grind)]
  constructor
  ·intro h;right;grind
  ·rintro (h | h) <;> grind
 ·rw[if_neg h1]
  by_cases h2:a<b
  ·rw[if_pos h2]
   constructor
   ·intro h;left;grind
   ·rintro (h | h) <;> grind
  ·rw[if_neg h2]
   constructor
   ·intro h;left;grind
   ·rintro (h | h) <;> grind
def Ys(dx dy ux uy:Rat):Prop:=dx*uy-dy*ux=0∧Bt dx ux∧Bt dy uy
open Classical in
noncomputable def Fz(dx dy ux uy:Rat):Bool:=decide (Ys dx dy ux uy)
open Classical in
theorem Oj{dx dy ux uy:Rat}(h:Ys dx dy ux uy):Fz dx dy ux uy=true:=by unfold Fz;exact decide_eq_true h
open Classical in
theorem ZI{dx dy ux uy:Rat}(h:¬Ys dx dy ux uy):Fz dx dy ux uy=false:=by unfold Fz;exact decide_eq_false h
section
variable {ax ay dx dy:Int} {px py pz:Rat} {D:Nat} (hD:D≤8) (ha:ax.natAbs≤32) (hb:ay.natAbs≤32) (hdx:dx.natAbs≤20) (hdy:dy.natAbs≤20) (hpx:qFr D 32 px) (hpy:qFr D 32 py) (hpz:qFr 2 32 pz)
include hD ha hb hdx hdy hpx hpy hpz
theorem aDJ:lC (c3 (ax:Rat) (c3 (ay:Rat) (c3 0 (c3 ((ax+dx:Int):Rat) (c3 ((ay+dy:Int):Rat) (c3 0 (c3 px (c3 py (c3 pz ())))))))))=some (Fz dx dy (px-ax) (py-ay),()):=by
 have sax:Sm (ax:Rat):=gD ha (by decide)
 have say:Sm (ay:Rat):=gD hb (by decide)
 have sbx:Sm ((ax+dx:Int):Rat):=gD (k:=52) (by omega) (by decide)
 have sby:Sm ((ay+dy:Int):Rat):=gD (k:=52) (by omega) (by decide)
 have spx:Sm px:=(mC hpx (Nat.le_refl _) hD).sm (by decide) (by decide)
 have spy:Sm py:=(mC hpy (Nat.le_refl _) hD).sm (by decide) (by decide)
 unfold lC
 simp only[(LP hD ha hb hdx hdy hpx hpy hpz).1,bC,aL,TL sax sbx spx,TL say sby spy]
 have b1:=Fy (a:=(ax:Rat)) (x:=px) (d:=(dx:Rat)) (b:=((ax+dx:Int):Rat)) (Rat.intCast_add ..)
 have b2:=Fy (a:=(ay:Rat)) (x:=py) (d:=(dy:Rat)) (b:=((ay+dy:Int):Rat)) (Rat.intCast_add ..)
 have d1:∀{a b x:Rat} {d:Rat},((DX a b≤x∧x≤DU a b)↔Bt d (x-a))→Bt d (x-a)→decide (DX a b≤x∧x≤DU a b)=true:=fun h h'=>decide_eq_true (h.2 h')
 have d2:∀{a b x:Rat} {d:Rat},((DX a b≤x∧x≤DU a b)↔Bt d (x-a))→¬Bt d (x-a)→decide (DX a b≤x∧x≤DU a b)=false:=fun h h'=>decide_eq_false fun e=>h' (h.1 e)
 by_cases h0:(dx:Rat)*(py-ay)-(dy:Rat)*(px-ax)=0
 ·rw[decide_eq_true (IL.2 h0)]
  by_cases h1:Bt (dx:Rat) (px-ax)
  ·rw[d1 b1 h1]
   by_cases h2:Bt (dy:Rat) (py-ay)
   ·rw[d1 b2 h2,Oj ⟨h0,h1,h2⟩];rfl
   ·rw[d2 b2 h2,ZI fun e=>h2 e.2.2];rfl
  ·rw[d2 b1 h1,ZI fun e=>h1 e.2.1];rfl
 ·rw[decide_eq_false (fun e=>h0 (IL.1 e)),ZI fun e=>h0 e.1];rfl
end
theorem aDK{ax ay dx dy:Int}{px py pz:Rat}{D:Nat}(hD:D≤8)(ha:ax.natAbs≤32)(hb:ay.natAbs≤32)(hdx:dx.natAbs≤20)(hdy:dy.natAbs≤20){kk:Nat}(hk:kk+32*D≤276)(hpx:qFr D kk px)(hpy:qFr D kk py):
 eM (c3 (ax:Rat) (c3 (ay:Rat) (c3 0 (c3 ((ax+dx:Int):Rat) (c3 ((ay+dy:Int):Rat) (c3 0 (c3 px (c3 py (c3 pz ())))))))))=some (Fz dx dy (px-ax) (py-ay),()):=by
 have hs:=Kg hD ha hb hdx hdy hk hpx hpy
 have hf:∀a b c:Rat,lZ (c3 a (c3 b (c3 c ())))=some (c3 a (c3 b (c3 0 ()))):=fun a b c=>by
  unfold lZ
  show some (aM a,aU a,aY a,aM b,aU b,aY b,false,[],[],())=some (aM a,aU a,aY a,aM b,aU b,aY b,aM 0,aU 0,aY 0,())
  rw[DY,DZ];rfl
 unfold eM
 simp only[hf,hs,bC,DW,aL]
 by_cases h:Ys (dx:Rat) dy (px-ax) (py-ay)
 ·rw[Oj h,decide_eq_true (IL.2 ((Og ..).2 h))]
 ·rw[ZI h,decide_eq_false fun e=>h ((Og ..).1 (IL.1 e))]
end Go.Eng.Rt
namespace Go.Eng.Rt
open Go.Eng Go.Eng.Tw Go.Eng.Tm
def Bx(l:List (Int×Int)):Prop:=l.length≤1000∧(∀p∈l,p.1.natAbs≤32∧p.2.natAbs≤32)∧∀p∈l,∀q∈l,(q.1-p.1).natAbs≤20∧(q.2-p.2).natAbs≤20
def Pp(D k:Nat)(px py pz:Rat):Prop:=D≤8∧qFr D k px∧qFr D k py∧qFr 2 k pz
def Pr(D:Nat)(px py pz:Rat):Prop:=Pp D 32 px py pz∧∃k,k+32*D≤276∧qFr D k px∧qFr D k py
abbrev lit{β:Type}(p q:Int×Int)(r:β):Bool×List T×List T×Bool×List T×List T×Bool×List T×List T×Bool×List T×List T×Bool×List T×List T×Bool×List T×List T×β:=(aM (p.1:Rat),aU (p.1:Rat),aY (p.1:Rat),aM (p.2:Rat),aU (p.2:Rat),aY (p.2:Rat),false,[],[],aM (q.1:Rat),aU (q.1:Rat),aY (q.1:Rat),aM (q.2:Rat),aU (q.2:Rat),aY (q.2:Rat),false,[],[],r)
theorem Ok{β:Type}(p q:Int×Int)(r:β):c3 (p.1:Rat) (c3 (p.2:Rat) (c3 0 (c3 ((p.1+(q.1-p.1):Int):Rat) (c3 ((p.2+(q.2-p.2):Int):Rat) (c3 0 r)))))=lit p q r:=by
 have e1:p.1+(q.1-p.1)=q.1:=by omega
 have e2:p.2+(q.2-p.2)=q.2:=by omega
 rw[z3,e1,e2,z3]
theorem cells(p:Int×Int):T.bool? (T.cell (wT p) 0)=some (aM (p.1:Rat))∧T.sl? 1 (T.cell (wT p) 1)=some (aU (p.1:Rat))∧T.sl? 1 (T.cell (wT p) 2)=some (aY (p.1:Rat)) ∧
 T.bool? (T.cell (wT p) 3)=some (aM (p.2:Rat))∧T.sl? 1 (T.cell (wT p) 4)=some (aU (p.2:Rat))∧T.sl? 1 (T.cell (wT p) 5)=some (aY (p.2:Rat)) ∧
 T.bool? (T.cell (wT p) 6)=some false∧T.sl? 1 (T.cell (wT p) 7)=some []∧T.sl? 1 (T.cell (wT p) 8)=some []:=⟨rfl,tA _ _,tA _ _,rfl,tA _ _,tA _ _,rfl,tA _ _,tA _ _⟩
def sE(p q:Int×Int)(px py:Rat):Int:=lK (((q.1-p.1:Int):Rat)*(py-p.2)-((q.2-p.2:Int):Rat)*(px-p.1))
theorem P9{p q:Int×Int}(h1:p.1.natAbs≤32)(h2:p.2.natAbs≤32)(h3:(q.1-p.1).natAbs≤20)(h4:(q.2-p.2).natAbs≤20){D:Nat}{px py pz:Rat}(hp:Pp D 32 px py pz):
 lC (lit p q (c3 px (c3 py (c3 pz ()))))=some (Fz ((q.1-p.1:Int):Rat) ((q.2-p.2:Int):Rat) (px-p.1) (py-p.2),())∧bU (lit p q (c3 px (c3 py (c3 pz ()))))=some (sE p q px py,())∧cV (lit p q (c3 px (c3 py (c3 pz ()))))=some (sE p q px py,()):=by
 obtain⟨hD,f1,f2,f3⟩:=hp
 have a1:=aDJ hD h1 h2 h3 h4 f1 f2 f3
 have a2:=LP hD h1 h2 h3 h4 f1 f2 f3
 rw[Ok] at a1 a2
 exact⟨a1,a2.1,a2.2⟩
theorem Ol{p q:Int×Int}(h1:p.1.natAbs≤32)(h2:p.2.natAbs≤32)(h3:(q.1-p.1).natAbs≤20)(h4:(q.2-p.2).natAbs≤20){D:Nat}{px py pz:Rat}(hp:Pr D px py pz):
 eM (lit p q (c3 px (c3 py (c3 pz ()))))=some (Fz ((q.1-p.1:Int):Rat) ((q.2-p.2:Int):Rat) (px-p.1) (py-p.2),()):=by
 obtain⟨⟨hD,_⟩,k,hk,f1,f2⟩:=hp
 have a1:=aDK (pz:=pz) hD h1 h2 h3 h4 hk f1 f2
 rw[Ok] at a1
 exact a1
theorem Pr.up{D:Nat}{px py pz:Rat}(h:Pr D px py pz):Pp D 32 px py pz:=h.1
def PS(l:List (Int×Int))(px py pz:Rat)(i:Nat)(n:Int):List T×Unit×Int×Int×Int×Bool×List T×List T×Bool×List T×List T×Bool×List T×List T×Unit:=(l.map wT,(),n,(l.length:Int),(i:Int),c3 px (c3 py (c3 pz ())))
def RS(l:List (Int×Int))(px py pz:Rat)(i:Nat)(n:Int):List T×Unit×Int×Int×Bool×List T×List T×Bool×List T×List T×Bool×List T×List T×Unit:=(l.map wT,(),n,(i:Int),c3 px (c3 py (c3 pz ())))
def Rg(f g:Bool)(s n:Int):Int:=bif f then (bif g then n else bif decide (0<s) then wr .i64 (n+1) else n) else (bif g then (bif decide (s<0) then wr .i64 (n-1) else n) else n)
section
variable {l:List (Int×Int)} (hB:Bx l) {D:Nat} {px py pz:Rat} {i:Nat} (hi:i<l.length) (n:Int)
include hB hi
theorem Wh(hp:Pp D 32 px py pz):gW (PS l px py pz i n)=(bif Fz (((pF l ((i+1)%l.length)).1-(pF l i).1:Int):Rat) (((pF l ((i+1)%l.length)).2-(pF l i).2:Int):Rat) (px-(pF l i).1) (py-(pF l i).2) then some (.inr (.inl (0,false,()))) else some (.inl (PS l px py pz (i+1) (Rg (decide (kO ((pF l i).2:Rat) py≤0)) (decide (kO ((pF l ((i+1)%l.length)).2:Rat) py≤0)) (sE (pF l i) (pF l ((i+1)%l.length)) px py) n)))):=by
 obtain⟨b1,b2,b3⟩:=hB
 have hj:(i+1)%l.length<l.length:=Nat.mod_lt _ (by omega)
 obtain⟨g1,m1⟩:=xF hi
 obtain⟨g2,m2⟩:=xF hj
 obtain⟨p,hpe⟩:∃p,p=pF l i:=⟨_,rfl⟩
 obtain⟨q,hqe⟩:∃q,q=pF l ((i+1)%l.length):=⟨_,rfl⟩
 rw[←hpe] at g1 m1
 rw[←hqe] at g2 m2
 rw[←hpe,←hqe]
 have c1:=b2 p m1
 have c2:=b2 q m2
 have c5:=b3 p m1 q m2
 have sy:Sm py:=(mC hp.2.2.1 (Nat.le_refl _) hp.1).sm (by decide) (by decide)
 have wi:wr .i64 ((i:Int)+1)=((i+1:Nat):Int):=by rw[dK (by omega) (by omega)];push_cast;rfl
 have hlt:decide ((i:Int)<(l.length:Int))=true:=decide_eq_true (by omega)
 obtain⟨e1,e2,_⟩:=P9 (q:=q) c1.1 c1.2 c5.1 c5.2 hp
 have he:=Cu (by omega) hi g1 g2
 have k1:=FR (gD c1.2 (by decide)) sy
 have k2:=FR (gD c2.2 (by decide)) sy
 unfold gW PS Rg
 simp -implicitDefEqProofs only[aF,kH,aJ,cB,hlt,cond_true,he,bC,e1,k1,k2,e2]
 generalize Fz ((q.1-p.1:Int):Rat) ((q.2-p.2:Int):Rat) (px-p.1) (py-p.2)=b
 generalize sE p q px py=s
 generalize decide (kO (p.2:Rat) py≤0)=f
 generalize decide (kO (q.2:Rat) py≤0)=g
 generalize decide (0<s)=h1
 generalize decide (s<0)=h2
 cases b with
 | true=>simp -implicitDefEqProofs only[cond_true,bC,aN]
 | false=>cases f <;> cases g <;> cases h1 <;> cases h2 <;> simp -implicitDefEqProofs only[cond_true,cond_false,Bool.not_true,Bool.not_false,bC,aN,kQ,wi]
theorem Wi(hp:Pr D px py pz):gL (RS l px py pz i n)=(bif Fz (((pF l ((i+1)%l.length)).1-(pF l i).1:Int):Rat) (((pF l ((i+1)%l.length)).2-(pF l i).2:Int):Rat) (px-(pF l i).1) (py-(pF l i).2) then some (.inr (.inl (0,false,()))) else some (.inl (RS l px py pz (i+1) (Rg (decide (kO ((pF l i).2:Rat) py≤0)) (decide (kO ((pF l ((i+1)%l.length)).2:Rat) py≤0)) (sE (pF l i) (pF l ((i+1)%l.length)) px py) n)))):=by
 obtain⟨b1,b2,b3⟩:=hB
 have hj:(i+1)%l.length<l.length:=Nat.mod_lt _ (by omega)
 obtain⟨g1,m1⟩:=xF hi
 obtain⟨g2,m2⟩:=xF hj
 obtain⟨p,hpe⟩:∃p,p=pF l i:=⟨_,rfl⟩
 obtain⟨q,hqe⟩:∃q,q=pF l ((i+1)%l.length):=⟨_,rfl⟩
 rw[←hpe] at g1 m1
 rw[←hqe] at g2 m2
 rw[←hpe,←hqe]
 have c1:=b2 p m1
 have c2:=b2 q m2
 have c5:=b3 p m1 q m2
 have sy:Sm py:=(mC hp.up.2.2.1 (Nat.le_refl _) hp.up.1).sm (by decide) (by decide)
 have wi:wr .i64 ((i:Int)+1)=((i+1:Nat):Int):=by rw[dK (by omega) (by omega)];push_cast;rfl
 have hlt:decide ((i:Int)<(l.length:Int))=true:=decide_eq_true (by omega)
 obtain⟨_,_,e4⟩:=P9 (q:=q) c1.1 c1.2 c5.1 c5.2 hp.up
 have e3:=Ol (q:=q) c1.1 c1.2 c5.1 c5.2 hp
 have k3:=J5 (gD c1.2 (by decide)) sy
 have k4:=J5 (gD c2.2 (by decide)) sy
 have hgp:(l.map wT)[i]?=some (wT p):=by simp[g1]
 have hgq:(l.map wT)[(i+1)%l.length]?=some (wT q):=by simp[g2]
 have hpl:((l.map wT).length:Int)=(l.length:Int):=by rw[List.length_map]
 have hnz:nz (l.length:Int)=some (l.length:Int):=by unfold nz;rw[if_neg (by omega)]
 have hmod:((i+1:Nat):Int).tmod (l.length:Int)=(((i+1)%l.length:Nat):Int):=rfl
 obtain⟨a0,a1,a2,a3,a4,a5,a6,a7,a8⟩:=cells p
 obtain⟨d0,d1,d2,d3,d4,d5,d6,d7,d8⟩:=cells q
 unfold gL RS Rg
 simp -implicitDefEqProofs only[aF,kH,aJ,cB,aK,hpl,hlt,cond_true,hnz,wi,pO,hmod,bY,hgp,hgq,bC,a0,a1,a2,a3,a4,a5,a6,a7,a8,d0,d1,d2,d3,d4,d5,d6,d7,d8,e3,k3,k4,e4]
 generalize Fz ((q.1-p.1:Int):Rat) ((q.2-p.2:Int):Rat) (px-p.1) (py-p.2)=b
 generalize sE p q px py=s
 generalize decide (kO (p.2:Rat) py≤0)=f
 generalize decide (kO (q.2:Rat) py≤0)=g
 cases b with
 | true=>simp -implicitDefEqProofs only[cond_true,bC,aN]
 | false=>cases f <;> cases g <;> cases h1:decide (0<s) <;> cases h2:decide (s<0) <;> simp -implicitDefEqProofs only[cond_true,cond_false,Bool.not_true,Bool.not_false,bC,aN,kQ,wi,h1,h2]
end
end Go.Eng.Rt
namespace Go.Eng.Tg
open Go.Eng.Tw
abbrev Q:=Rat×Rat
def cr(a b p:Q):Rat:=(b.1-a.1)*(p.2-a.2)-(b.2-a.2)*(p.1-a.1)
def On(a b p:Q):Prop:=cr a b p=0∧Bt (b.1-a.1) (p.1-a.1)∧Bt (b.2-a.2) (p.2-a.2)
def pB(a b c d:Q):Prop:=On a b c∨On a b d∨On c d a∨On c d b∨(cr a b c*cr a b d<0∧cr c d a*cr c d b<0)
def wD(a b:Q)(t:Rat):Q:=(a.1+t*(b.1-a.1),a.2+t*(b.2-a.2))
theorem Om(a b x y:Q)(t:Rat):cr a b (wD x y t)=(1-t)*cr a b x+t*cr a b y:=by
 unfold cr wD;grind
theorem Ga(a b p:Q):cr b a p=-cr a b p:=by unfold cr;grind
theorem Wj{d t:Rat}(h0:0≤t)(h1:t≤1):Bt d (t*d):=by
 rcases Rat.le_total (a:=0) (b:=d) with hd | hd
 ·left
  have a1:=Rat.mul_nonneg h0 hd
  have a2:=Rat.mul_nonneg (show (0:Rat)≤1-t by grind) hd
  exact⟨a1,by grind⟩
 ·right
  have a1:=Rat.mul_nonneg h0 (show (0:Rat)≤-d by grind)
  have a2:=Rat.mul_nonneg (show (0:Rat)≤1-t by grind) (show (0:Rat)≤-d by grind)
  exact⟨by grind,by grind⟩
theorem A5{a b:Q}{t:Rat}(h0:0≤t)(h1:t≤1):On a b (wD a b t):=by
 refine⟨by unfold cr wD;grind,?_,?_⟩
 ·have:=Wj (d:=b.1-a.1) h0 h1
  have e:(wD a b t).1-a.1=t*(b.1-a.1):=by unfold wD;grind
  rw[e];exact this
 ·have:=Wj (d:=b.2-a.2) h0 h1
  have e:(wD a b t).2-a.2=t*(b.2-a.2):=by unfold wD;grind
  rw[e];exact this
theorem zY{a b:Q}(h1:a.1=b.1)(h2:a.2=b.2):a=b:=Prod.ext h1 h2
theorem IM{n d:Rat}(hd:d≠0):∃t,t*d=n:=⟨n/d,Rat.div_mul_cancel hd⟩
theorem B1{a b:Rat}(h:a*b=0)(ha:a≠0):b=0:=by
 rcases Rat.mul_eq_zero.1 h with h | h
 ·exact absurd h ha
 ·exact h
theorem Yt{c d p:Q}(hne:c≠d)(h:cr c d p=0):∃t,p=wD c d t:=by
 unfold cr at h
 by_cases h1:d.1-c.1=0
 ·have h2:d.2-c.2≠0:=fun e=>hne (zY (by grind) (by grind))
  obtain⟨t,ht⟩:=IM (n:=p.2-c.2) h2
  refine⟨t,zY ?_ ?_⟩
  ·show p.1=c.1+t*(d.1-c.1)
   rw[h1] at h ⊢
   have:(d.2-c.2)*(p.1-c.1)=0:=by grind
   have:=B1 this h2
   grind
  ·show p.2=c.2+t*(d.2-c.2)
   grind
 ·obtain⟨t,ht⟩:=IM (n:=p.1-c.1) h1
  refine⟨t,zY ?_ ?_⟩
  ·show p.1=c.1+t*(d.1-c.1)
   grind
  ·show p.2=c.2+t*(d.2-c.2)
   have:(d.1-c.1)*(p.2-c.2-t*(d.2-c.2))=0:=by grind
   have:=B1 this h1
   grind
theorem Oo{d t:Rat}(hd:d≠0)(h:Bt d (t*d)):0≤t∧t≤1:=by
 rcases h with⟨h1,h2⟩ | ⟨h1,h2⟩
 ·have hd0:0<d:=by grind
  refine⟨uN hd0 (by grind),?_⟩
  have:=uN (n:=d) (u:=1-t) hd0 (by grind)
  grind
 ·have hd0:0 < -d:=by grind
  refine⟨uN hd0 (by grind),?_⟩
  have:=uN (n:=-d) (u:=1-t) hd0 (by grind)
  grind
theorem Wk{a b z:Q}(hne:a≠b)(h:On a b z):∃t,0≤t∧t≤1∧z=wD a b t:=by
 obtain⟨h0,h1,h2⟩:=h
 obtain⟨t,rfl⟩:=Yt hne h0
 have e1:(wD a b t).1-a.1=t*(b.1-a.1):=by unfold wD;grind
 have e2:(wD a b t).2-a.2=t*(b.2-a.2):=by unfold wD;grind
 rw[e1] at h1
 rw[e2] at h2
 by_cases hx:b.1-a.1=0
 ·have hy:b.2-a.2≠0:=fun e=>hne (zY (by grind) (by grind))
  obtain⟨g1,g2⟩:=Oo hy h2
  exact⟨t,g1,g2,rfl⟩
 ·obtain⟨g1,g2⟩:=Oo hx h1
  exact⟨t,g1,g2,rfl⟩
theorem Gb{a b p:Q}(h:On a b p):On b a p:=by
 obtain⟨h0,h1,h2⟩:=h
 refine⟨by rw[Ga,h0];grind,?_,?_⟩
 ·unfold Bt at *;grind
 ·unfold Bt at *;grind
theorem QA{a b c d:Q}(h:pB a b c d):pB c d a b:=by
 rcases h with h | h | h | h | h
 ·exact .inr (.inr (.inl h))
 ·exact .inr (.inr (.inr (.inl h)))
 ·exact .inl h
 ·exact .inr (.inl h)
 ·exact .inr (.inr (.inr (.inr ⟨h.2,h.1⟩)))
theorem neg_mul{a b:Rat}(ha:0<a)(hb:b<0):a*b<0:=by
 have:=Rat.mul_pos ha (show (0:Rat) < -b by grind)
 grind
theorem Oq(a b:Q):wD a b 0=a:=by unfold wD;exact zY (by show a.1+0*_=a.1;grind) (by show a.2+0*_=a.2;grind)
theorem Yu(a b:Q):wD a b 1=b:=by unfold wD;exact zY (by show a.1+1*(b.1-a.1)=b.1;grind) (by show a.2+1*(b.2-a.2)=b.2;grind)
end Go.Eng.Tg
namespace Go.Eng.Tg
open Go.Eng.Tw
abbrev Ed:=Q×Q
structure Gd (E:List Ed):Prop where
 cvx:∀e∈E,∀f∈E,0≤cr e.1 e.2 f.1
 clo:∀e∈E,∃f∈E,f.1=e.2
 nz:∀e∈E,e.1≠e.2
 up1:∀e∈E,∀f∈E,∀y,e.1.2≤y→y<e.2.2→f.1.2≤y→y<f.2.2→e=f
 dn1:∀e∈E,∀f∈E,∀y,e.2.2≤y→y<e.1.2→f.2.2≤y→y<f.1.2→e=f
 nd:E.Nodup
 top:∃e∈E,∃f∈E,e.1.2<e.2.2∧f.2.2<f.1.2∧(∀g∈E,g.1.2≤e.2.2)∧f.1.2=e.2.2∧((e.2=f.1∧0<cr e.1 e.2 f.2)∨((e.2,f.1)∈E∧f.1.1<e.2.1))
 bot:∃e∈E,∃f∈E,e.2.2<e.1.2∧f.1.2<f.2.2∧(∀g∈E,e.2.2≤g.1.2)∧f.1.2=e.2.2∧((e.2=f.1∧0<cr e.1 e.2 f.2)∨((e.2,f.1)∈E∧e.2.1<f.1.1))
 str:∀y,(∃g∈E,g.1.2≤y)→(∃g∈E,y<g.1.2)→(∃e∈E,e.1.2≤y∧y<e.2.2)∧∃e∈E,e.2.2≤y∧y<e.1.2
def W(E:List Ed)(z:Q):Prop:=∀e∈E,0≤cr e.1 e.2 z
def H(E:List Ed)(z:Q):Prop:=∀e∈E,0<cr e.1 e.2 z
def EY(E:List Ed)(z:Q):Prop:=∃e∈E,On e.1 e.2 z
theorem H.w{E:List Ed}{z:Q}(h:H E z):W E z:=fun e he=>Rat.le_of_lt (h e he)
theorem H.off{E:List Ed}{z:Q}(h:H E z):¬EY E z:=fun⟨e,he,ho⟩=>by
 have:=h e he
 rw[ho.1] at this
 exact absurd this (by decide)
variable {E:List Ed}
theorem Gd.cvx2(h:Gd E){e f:Ed}(he:e∈E)(hf:f∈E):0≤cr e.1 e.2 f.2:=by
 obtain⟨g,hg,e2⟩:=h.clo f hf
 rw[←e2];exact h.cvx e he g hg
theorem Ot{e:Ed}{y:Rat}(h1:e.1.2≤y)(h2:y<e.2.2):∃t,0≤t∧t<1∧(wD e.1 e.2 t).2=y:=by
 obtain⟨t,ht⟩:=IM (n:=y-e.1.2) (d:=e.2.2-e.1.2) (by grind)
 refine⟨t,uN (n:=e.2.2-e.1.2) (by grind) (by grind),?_,by unfold wD;grind⟩
 rcases Rat.le_total (a:=1) (b:=t) with h | h
 ·exfalso
  have:=Rat.mul_nonneg (show 0≤t-1 by grind) (show 0≤e.2.2-e.1.2 by grind)
  grind
 ·by_cases e1:t=1
  ·subst e1;grind
  ·grind
theorem Yv{e:Ed}{y:Rat}(h1:e.2.2≤y)(h2:y<e.1.2):∃t,0<t∧t≤1∧(wD e.1 e.2 t).2=y:=by
 obtain⟨t,t0,t1,ht⟩:=Ot (e:=(e.2,e.1)) h1 h2
 refine⟨1-t,by grind,by grind,?_⟩
 unfold wD at *
 dsimp only at *
 grind
theorem Cx(a b:Q){z u:Q}(h:u.2=z.2)(hu:cr a b u=0):cr a b z=(b.2-a.2)*(u.1-z.1):=by unfold cr at *;grind
theorem QB(a b:Q)(t:Rat):cr a b (wD a b t)=0:=by unfold cr wD;grind
theorem Ou{a b x y:Q}{t:Rat}(h0:0≤t)(h1:t≤1)(hx:0≤cr a b x)(hy:0≤cr a b y):0≤cr a b (wD x y t):=by
 rw[Om]
 have m1:=Rat.mul_nonneg (show 0≤1-t by grind) hx
 have m2:=Rat.mul_nonneg h0 hy
 grind
structure Lv (E:List Ed) (z:Q) (e f:Ed) (u d:Q):Prop where
 he:e∈E
 hf:f∈E
 u1:e.1.2≤z.2
 u2:z.2<e.2.2
 d1:f.2.2≤z.2
 d2:z.2<f.1.2
 hu:∃t,0≤t∧t<1∧u=wD e.1 e.2 t
 hd:∃t,0<t∧t≤1∧d=wD f.1 f.2 t
 yu:u.2=z.2
 yd:d.2=z.2
theorem Wm{e f:Ed}{z:Q}(he:e∈E)(hf:f∈E)(u1:e.1.2≤z.2)(u2:z.2<e.2.2)(d1:f.2.2≤z.2)(d2:z.2<f.1.2):∃u d,Lv E z e f u d:=by
 obtain⟨t,t0,t1,ht⟩:=Ot u1 u2
 obtain⟨s,s0,s1,hs⟩:=Yv d1 d2
 exact⟨_,_,he,hf,u1,u2,d1,d2,⟨t,t0,t1,rfl⟩,⟨s,s0,s1,rfl⟩,ht,hs⟩
section
variable {z u d:Q} {e f:Ed}
theorem Lv.cu(h:Lv E z e f u d):cr e.1 e.2 z=(e.2.2-e.1.2)*(u.1-z.1):=by
 obtain⟨t,_,_,rfl⟩:=h.hu
 exact Cx _ _ h.yu (QB _ _ _)
theorem Lv.cd(h:Lv E z e f u d):cr f.1 f.2 z=(f.1.2-f.2.2)*(z.1-d.1):=by
 obtain⟨t,_,_,rfl⟩:=h.hd
 have:=Cx f.1 f.2 h.yd (QB _ _ _)
 grind
theorem Lv.onu(h:Lv E z e f u d):On e.1 e.2 u:=by
 obtain⟨t,t0,t1,rfl⟩:=h.hu
 exact A5 t0 (Rat.le_of_lt t1)
theorem Lv.ond(h:Lv E z e f u d):On f.1 f.2 d:=by
 obtain⟨t,t0,t1,rfl⟩:=h.hd
 exact A5 (Rat.le_of_lt t0) t1
theorem Lv.wu(h:Lv E z e f u d)(hG:Gd E):W E u:=fun g hg=>by
 obtain⟨t,t0,t1,rfl⟩:=h.hu
 exact Ou t0 (Rat.le_of_lt t1) (hG.cvx g hg e h.he) (hG.cvx2 hg h.he)
theorem Lv.wd(h:Lv E z e f u d)(hG:Gd E):W E d:=fun g hg=>by
 obtain⟨t,t0,t1,rfl⟩:=h.hd
 exact Ou (Rat.le_of_lt t0) t1 (hG.cvx g hg f h.hf) (hG.cvx2 hg h.hf)
theorem Lv.pu(h:Lv E z e f u d):(0<cr e.1 e.2 z↔z.1<u.1)∧(cr e.1 e.2 z<0↔u.1<z.1):=by
 have a:=h.cu
 have b:0<e.2.2-e.1.2:=by have:=h.u1;have:=h.u2;grind
 rw[a]
 constructor
 ·constructor
  ·intro hp
   rcases Rat.le_total (a:=u.1) (b:=z.1) with g | g
   ·exfalso
    have:=Rat.mul_nonneg (Rat.le_of_lt b) (show 0≤z.1-u.1 by grind)
    grind
   ·by_cases e1:z.1=u.1
    ·rw[e1] at hp;exfalso;grind
    ·grind
  ·intro hp;exact Rat.mul_pos b (by grind)
 ·constructor
  ·intro hp
   rcases Rat.le_total (a:=u.1) (b:=z.1) with g | g
   ·by_cases e1:z.1=u.1
    ·rw[e1] at hp;exfalso;grind
    ·grind
   ·exfalso
    have:=Rat.mul_nonneg (Rat.le_of_lt b) (show 0≤u.1-z.1 by grind)
    grind
  ·intro hp;exact neg_mul b (by grind)
theorem Lv.pd(h:Lv E z e f u d):(0<cr f.1 f.2 z↔d.1<z.1)∧(cr f.1 f.2 z<0↔z.1<d.1):=by
 have a:=h.cd
 have b:0<f.1.2-f.2.2:=by have:=h.d1;have:=h.d2;grind
 rw[a]
 constructor
 ·constructor
  ·intro hp
   rcases Rat.le_total (a:=z.1) (b:=d.1) with g | g
   ·exfalso
    have:=Rat.mul_nonneg (Rat.le_of_lt b) (show 0≤d.1-z.1 by grind)
    grind
   ·by_cases e1:z.1=d.1
    ·rw[e1] at hp;exfalso;grind
    ·grind
  ·intro hp;exact Rat.mul_pos b (by grind)
 ·constructor
  ·intro hp
   rcases Rat.le_total (a:=z.1) (b:=d.1) with g | g
   ·by_cases e1:z.1=d.1
    ·rw[e1] at hp;exfalso;grind
    ·grind
   ·exfalso
    have:=Rat.mul_nonneg (Rat.le_of_lt b) (show 0≤z.1-d.1 by grind)
    grind
  ·intro hp;exact neg_mul b (by grind)
theorem Lv.zu(h:Lv E z e f u d)(h0:cr e.1 e.2 z=0):z=u:=by
 have a:=h.cu
 have b:e.2.2-e.1.2≠0:=by have:=h.u1;have:=h.u2;grind
 rw[h0] at a
 have:=B1 a.symm b
 exact zY (by grind) h.yu.symm
theorem Lv.zd(h:Lv E z e f u d)(h0:cr f.1 f.2 z=0):z=d:=by
 have a:=h.cd
 have b:f.1.2-f.2.2≠0:=by have:=h.d1;have:=h.d2;grind
 rw[h0] at a
 have:=B1 a.symm b
 exact zY (by grind) h.yd.symm
theorem Lv.ord(h:Lv E z e f u d)(hG:Gd E):d.1≤u.1:=by
 have h1:=h.wd hG e h.he
 obtain⟨t,t0,t1,ht⟩:=h.hu
 have h2:=Cx e.1 e.2 (z:=d) (u:=u) (by rw[h.yu,h.yd]) (by rw[ht];exact QB _ _ _)
 have b:0<e.2.2-e.1.2:=by have:=h.u1;have:=h.u2;grind
 rw[h2] at h1
 have:=uN b h1
 grind
theorem Lv.inH(h:Lv E z e f u d)(hG:Gd E)(h1:d.1<z.1)(h2:z.1<u.1)(hoff:¬EY E z):H E z:=by
 intro g hg
 have wu:=h.wu hG g hg
 have wd:=h.wd hG g hg
 obtain⟨t,ht⟩:=IM (n:=z.1-d.1) (d:=u.1-d.1) (by grind)
 have hz:z=wD d u t:=by
  unfold wD
  refine zY (by dsimp only;grind) ?_
  dsimp only
  rw[h.yd,h.yu];grind
 have pos:0<u.1-d.1:=by grind
 have t0:0<t:=by
  rcases Rat.le_total (a:=t) (b:=0) with g | g
  ·have:=Rat.mul_nonneg (show 0≤-t by grind) (Rat.le_of_lt pos);grind
  ·by_cases e1:t=0
   ·subst e1;grind
   ·grind
 have t1:0<1-t:=by
  rcases Rat.le_total (a:=1) (b:=t) with g | g
  ·have:=Rat.mul_nonneg (show 0≤t-1 by grind) (Rat.le_of_lt pos);grind
  ·by_cases e1:t=1
   ·subst e1;grind
   ·grind
 have hc:=Om g.1 g.2 d u t
 rw[←hz] at hc
 have m1:=Rat.mul_nonneg (Rat.le_of_lt t1) wd
 have m2:=Rat.mul_nonneg (Rat.le_of_lt t0) wu
 by_cases h0:cr g.1 g.2 z=0
 ·exfalso
  have z1:(1-t)*cr g.1 g.2 d=0:=by grind
  have z2:t*cr g.1 g.2 u=0:=by grind
  have y1:=B1 z1 (by grind)
  have y2:=B1 z2 (by grind)
  have lv:g.2.2-g.1.2=0:=by
   have:(u.1-d.1)*(g.2.2-g.1.2)=0:=by
    have a1:=h.yu
    have a2:=h.yd
    unfold cr at y1 y2
    grind
   exact B1 this (by grind)
  have nx:g.2.1-g.1.1≠0:=fun e0=>hG.nz g hg (zY (by grind) (by grind))
  have zy:z.2=g.1.2:=by
   have:(g.2.1-g.1.1)*(z.2-g.1.2)=0:=by unfold cr at h0;rw[lv] at h0;grind
   have:=B1 this nx
   grind
  have all:∀w∈E,0≤(g.2.1-g.1.1)*(w.1.2-z.2):=fun w hw=>by
   have:=hG.cvx g hg w hw
   unfold cr at this
   rw[lv,Rat.zero_mul] at this
   rw[zy]
   grind
  rcases Rat.le_total (a:=0) (b:=g.2.1-g.1.1) with s | s
  ·have s':0<g.2.1-g.1.1:=by grind
   have low:∀w∈E,z.2≤w.1.2:=fun w hw=>by have:=uN s' (all w hw);grind
   obtain⟨e',he',f',hf',b1,b2,b3,b4,b5⟩:=hG.bot
   have q1:=b3 g hg
   have q2:z.2≤e'.2.2:=by rw[←b4];exact low f' hf'
   have ze:e'.2.2=z.2:=by grind
   have ef:=hG.dn1 e' he' f h.hf z.2 (by grind) (by grind) h.d1 h.d2
   have fe:=hG.up1 f' hf' e h.he z.2 (by grind) (by grind) h.u1 h.u2
   subst ef;subst fe
   have dd:d=e'.2:=by
    obtain⟨s1,s2,s3,s4⟩:=h.hd
    have a:(wD e'.1 e'.2 s1).2=e'.2.2:=by rw[←s4,h.yd,ze]
    have:(e'.1.2-e'.2.2)*(1-s1)=0:=by unfold wD at a;dsimp only at a;grind
    have:=B1 this (by grind)
    have:s1=1:=by grind
    rw[s4,this,Yu]
   have uu:u=f'.1:=by
    obtain⟨s1,s2,s3,s4⟩:=h.hu
    have a:(wD f'.1 f'.2 s1).2=f'.1.2:=by rw[←s4,h.yu,b4,ze]
    have:(f'.2.2-f'.1.2)*s1=0:=by unfold wD at a;dsimp only at a;grind
    have:=B1 this (by grind)
    rw[s4,this,Oq]
   rcases b5 with⟨b5,_⟩ | ⟨b5,_⟩
   ·rw[dd,uu,b5] at pos;grind
   ·refine hoff ⟨_,b5,?_⟩
    dsimp only
    rw[←dd,←uu,hz]
    exact A5 (by grind) (by grind)
  ·have s':0<g.1.1-g.2.1:=by grind
   obtain⟨w,hw,e2⟩:=hG.clo e h.he
   have:=all w hw
   rw[e2] at this
   have q:=uN (n:=g.1.1-g.2.1) (u:=z.2-e.2.2) s' (by grind)
   have:=h.u2
   grind
 ·grind
end
theorem Gd.core(hG:Gd E){z:Q}(hw:W E z)(hoff:¬EY E z):∃e f u d,Lv E z e f u d∧d.1<z.1∧z.1<u.1:=by
 by_cases h1:∃g∈E,g.1.2≤z.2
 ·by_cases h2:∃g∈E,z.2<g.1.2
  ·obtain⟨⟨e,he,u1,u2⟩,f,hf,d1,d2⟩:=hG.str z.2 h1 h2
   obtain⟨u,d,hl⟩:=Wm he hf u1 u2 d1 d2
   refine⟨e,f,u,d,hl,hl.pd.1.1 ?_,hl.pu.1.1 ?_⟩
   ·have:=hw f hf
    by_cases h0:cr f.1 f.2 z=0
    ·exfalso
     have:=hl.zd h0
     exact hoff ⟨f,hf,by rw[this];exact hl.ond⟩
    ·grind
   ·have:=hw e he
    by_cases h0:cr e.1 e.2 z=0
    ·exfalso
     have:=hl.zu h0
     exact hoff ⟨e,he,by rw[this];exact hl.onu⟩
    ·grind
  ·-- above all
   exfalso
   have hall:∀g∈E,g.1.2≤z.2:=fun g hg=>by
    rcases Rat.le_total (a:=g.1.2) (b:=z.2) with q | q
    ·exact q
    ·by_cases e1:g.1.2=z.2
     ·grind
     ·exact absurd ⟨g,hg,by grind⟩ h2
   obtain⟨e,he,f,hf,a1,a2,a3,a4,a5⟩:=hG.top
   have we:=hw e he
   have wf:=hw f hf
   have zt:e.2.2≤z.2:=by rw[←a4];exact hall f hf
   rcases a5 with⟨a5,a6⟩ | ⟨a5,a6⟩
   ·-- one top
    rw[←a5] at wf a2
    obtain⟨f1,f2⟩:=f
    dsimp only at *
    subst a5
    have id:(e.2.2-e.1.2)*cr e.2 f2 z+(e.2.2-f2.2)*cr e.1 e.2 z=-((z.2-e.2.2)*cr e.1 e.2 f2):=by unfold cr;grind
    have m1:=Rat.mul_nonneg (show 0≤e.2.2-e.1.2 by grind) wf
    have m2:=Rat.mul_nonneg (show 0≤e.2.2-f2.2 by grind) we
    have m3:=Rat.mul_nonneg (show 0≤z.2-e.2.2 by grind) (Rat.le_of_lt a6)
    have z1:(e.2.2-e.1.2)*cr e.2 f2 z=0:=by grind
    have z2:(e.2.2-f2.2)*cr e.1 e.2 z=0:=by grind
    have z3:(z.2-e.2.2)*cr e.1 e.2 f2=0:=by grind
    have y2:=B1 z2 (by grind)
    have zy:z.2=e.2.2:=by
     rcases Rat.mul_eq_zero.1 z3 with q | q
     ·grind
     ·rw[q] at a6;exact absurd a6 (by decide)
    have zx:z.1=e.2.1:=by
     have:(e.2.2-e.1.2)*(e.2.1-z.1)=0:=by unfold cr at y2;grind
     have:=B1 this (by grind)
     grind
    refine hoff ⟨e,he,?_⟩
    rw[zY zx zy]
    have:=A5 (a:=e.1) (b:=e.2) (t:=1) (by decide) (by decide)
    rw[Yu] at this
    exact this
   ·-- a level top
    have wg:=hw _ a5
    dsimp only at wg
    have zy:z.2=e.2.2:=by
     have:0≤(e.2.1-f.1.1)*(e.2.2-z.2):=by unfold cr at wg;rw[a4] at wg;grind
     have:=uN (n:=e.2.1-f.1.1) (by grind) this
     grind
    have x1:z.1≤e.2.1:=by
     have:0≤(e.2.2-e.1.2)*(e.2.1-z.1):=by have w:=we;unfold cr at w;rw[zy] at w;grind
     have:=uN (n:=e.2.2-e.1.2) (by grind) this
     grind
    have x2:f.1.1≤z.1:=by
     have:0≤(f.1.2-f.2.2)*(z.1-f.1.1):=by have w:=wf;unfold cr at w;rw[zy,←a4,Rat.sub_self,Rat.mul_zero] at w;grind
     have:=uN (n:=f.1.2-f.2.2) (by grind) this
     grind
    refine hoff ⟨_,a5,?_⟩
    dsimp only
    refine⟨by unfold cr;grind,.inr ⟨by grind,by grind⟩,?_⟩
    have e1:f.1.2-e.2.2=0:=by grind
    have e2:z.2-e.2.2=0:=by grind
    rw[e1,e2]
    exact .inl ⟨Rat.le_refl,Rat.le_refl⟩
 ·-- below all
  exfalso
  have hall:∀g∈E,z.2<g.1.2:=fun g hg=>by
   rcases Rat.le_total (a:=g.1.2) (b:=z.2) with q | q
   ·exact absurd ⟨g,hg,q⟩ h1
   ·by_cases e1:g.1.2=z.2
    ·exact absurd ⟨g,hg,by grind⟩ h1
    ·grind
  obtain⟨e,he,f,hf,a1,a2,a3,a4,a5⟩:=hG.bot
  have we:=hw e he
  have wf:=hw f hf
  have zt:z.2<e.2.2:=by rw[←a4];exact hall f hf
  rcases a5 with⟨a5,a6⟩ | ⟨a5,a6⟩
  ·rw[←a5] at wf a2
   obtain⟨f1,f2⟩:=f
   dsimp only at *
   subst a5
   have id:(e.1.2-e.2.2)*cr e.2 f2 z+(f2.2-e.2.2)*cr e.1 e.2 z=-((e.2.2-z.2)*cr e.1 e.2 f2):=by unfold cr;grind
   have m1:=Rat.mul_nonneg (show 0≤e.1.2-e.2.2 by grind) wf
   have m2:=Rat.mul_nonneg (show 0≤f2.2-e.2.2 by grind) we
   have m3:=Rat.mul_pos (show 0<e.2.2-z.2 by grind) a6
   grind
  ·have wg:=hw _ a5
   dsimp only at wg
   have:(f.1.1-e.2.1)*(z.2-e.2.2)<0:=neg_mul (by grind) (by grind)
   unfold cr at wg
   rw[a4] at wg
   grind
end Go.Eng.Tg
namespace Go.Eng.Tg
open Go.Eng.Tw
variable {E F:List Ed}
open Classical in
noncomputable def we(p:Q)(e:Ed):Int:=
 if e.1.2≤p.2∧p.2<e.2.2∧0<cr e.1 e.2 p then 1 else if e.2.2≤p.2∧p.2<e.1.2∧cr e.1 e.2 p<0 then -1 else 0
noncomputable def wd(E:List Ed)(p:Q):Int:=(E.map (we p)).sum
theorem IN(p:Q):∀{l:List Ed},(∀e∈l,we p e=0)→(l.map (we p)).sum=0
 | [],_=>rfl
 | a::l,h=>by
  rw[List.map_cons,List.sum_cons,h a (List.mem_cons_self ..),IN p fun e he=>h e (List.mem_cons_of_mem _ he)];rfl
theorem V5(p:Q):∀{l:List Ed} {a:Ed},l.Nodup→a∈l→(∀e∈l,e≠a→we p e=0)→(l.map (we p)).sum=we p a
 | [],a,_,ha,_=>by cases ha
 | b::l,a,hn,ha,h=>by
  rw[List.nodup_cons] at hn
  rw[List.map_cons,List.sum_cons]
  by_cases hb:b=a
  ·subst hb
   rw[IN p fun e he=>h e (List.mem_cons_of_mem _ he) fun e0=>hn.1 (e0▸he)];omega
  ·rcases List.mem_cons.1 ha with ha | ha
   ·exact absurd ha.symm hb
   ·rw[h b (List.mem_cons_self ..) hb,V5 p hn.2 ha fun e he=>h e (List.mem_cons_of_mem _ he)];omega
theorem Gc(p:Q):∀{l:List Ed} {a b:Ed},l.Nodup→a∈l→b∈l→a≠b→(∀e∈l,e≠a→e≠b→we p e=0)→(l.map (we p)).sum=we p a+we p b
 | [],a,_,_,ha,_,_,_=>by cases ha
 | c::l,a,b,hn,ha,hb,hab,h=>by
  rw[List.nodup_cons] at hn
  rw[List.map_cons,List.sum_cons]
  by_cases hc:c=a
  ·subst hc
   rcases List.mem_cons.1 hb with hb | hb
   ·exact absurd hb.symm hab
   ·rw[V5 p hn.2 hb fun e he e1=>h e (List.mem_cons_of_mem _ he) (fun e0=>hn.1 (e0▸he)) e1]
  ·by_cases hc2:c=b
   ·subst hc2
    rcases List.mem_cons.1 ha with ha | ha
    ·exact absurd ha hab
    ·rw[V5 p hn.2 ha fun e he e1=>h e (List.mem_cons_of_mem _ he) e1 (fun e0=>hn.1 (e0▸he))];omega
   ·rcases List.mem_cons.1 ha with ha | ha
    ·exact absurd ha.symm hc
    ·rcases List.mem_cons.1 hb with hb | hb
     ·exact absurd hb.symm hc2
     ·rw[h c (List.mem_cons_self ..) hc hc2,Gc p hn.2 ha hb hab fun e he=>h e (List.mem_cons_of_mem _ he)];omega
theorem TM{a b:Rat}(h:¬a≤b):b<a:=by grind
theorem TN{a b:Rat}(h:¬a<b):b≤a:=by grind
theorem Gd.wind(hG:Gd E){p:Q}(ho:¬EY E p):(H E p→wd E p=1)∧(¬H E p→wd E p=0):=by
 by_cases h1:∃g∈E,g.1.2≤p.2
 ·by_cases h2:∃g∈E,p.2<g.1.2
  ·obtain⟨⟨e,he,u1,u2⟩,f,hf,d1,d2⟩:=hG.str p.2 h1 h2
   obtain⟨u,d,hl⟩:=Wm he hf u1 u2 d1 d2
   have hne:e≠f:=fun e0=>by subst e0;grind
   have hsum:wd E p=we p e+we p f:=Gc p hG.nd he hf hne fun g hg g1 g2=>by
    unfold we
    rw[if_neg fun⟨a,b,_⟩=>g1 (hG.up1 g hg e he p.2 a b u1 u2),if_neg fun⟨a,b,_⟩=>g2 (hG.dn1 g hg f hf p.2 a b d1 d2)]
   have n1:¬p.2<f.2.2:=by grind
   have n2:¬p.2<e.1.2:=by grind
   have hwe:we p e=if 0<cr e.1 e.2 p then 1 else 0:=by
    unfold we
    by_cases c:0<cr e.1 e.2 p
    ·rw[if_pos ⟨u1,u2,c⟩,if_pos c]
    ·rw[if_neg fun h=>c h.2.2,if_neg fun h=>n2 h.2.1,if_neg c]
   have hwf:we p f=if cr f.1 f.2 p<0 then -1 else 0:=by
    unfold we
    rw[if_neg fun h=>n1 h.2.1]
    by_cases c:cr f.1 f.2 p<0
    ·rw[if_pos ⟨d1,d2,c⟩,if_pos c]
    ·rw[if_neg fun h=>c h.2.2,if_neg c]
   rw[hsum,hwe,hwf]
   constructor
   ·intro hH
    rw[if_pos (hH e he),if_neg (by have:=hH f hf;grind)];rfl
   ·intro hH
    have c1:cr e.1 e.2 p≠0:=fun h0=>ho ⟨e,he,by rw[hl.zu h0];exact hl.onu⟩
    have c2:cr f.1 f.2 p≠0:=fun h0=>ho ⟨f,hf,by rw[hl.zd h0];exact hl.ond⟩
    by_cases c:0<cr e.1 e.2 p
    ·rw[if_pos c]
     by_cases c':cr f.1 f.2 p<0
     ·rw[if_pos c'];rfl
     ·exfalso
      exact hH (hl.inH hG (hl.pd.1.1 (by grind)) (hl.pu.1.1 c) ho)
    ·rw[if_neg c]
     by_cases c':cr f.1 f.2 p<0
     ·exfalso
      have a1:=hl.pu.2.1 (by grind)
      have a2:=hl.pd.2.1 c'
      have a3:=hl.ord hG
      grind
     ·rw[if_neg c'];rfl
  ·have hall:∀g∈E,g.1.2≤p.2:=fun g hg=>TN fun c=>h2 ⟨g,hg,c⟩
   have h0:wd E p=0:=IN p fun e he=>by
    obtain⟨f,hf,e2⟩:=hG.clo e he
    have a1:=hall e he
    have a2:=hall f hf
    rw[e2] at a2
    unfold we
    rw[if_neg (by grind),if_neg (by grind)]
   refine⟨fun hH=>?_,fun _=>h0⟩
   obtain⟨e,f,u,d,hl,_,_⟩:=hG.core hH.w ho
   have:=hall f hl.hf
   have:=hl.d2
   grind
 ·have hall:∀g∈E,p.2<g.1.2:=fun g hg=>TM fun c=>h1 ⟨g,hg,c⟩
  have h0:wd E p=0:=IN p fun e he=>by
   obtain⟨f,hf,e2⟩:=hG.clo e he
   have a1:=hall e he
   have a2:=hall f hf
   rw[e2] at a2
   unfold we
   rw[if_neg (by grind),if_neg (by grind)]
  refine⟨fun hH=>?_,fun _=>h0⟩
  obtain⟨e,f,u,d,hl,_,_⟩:=hG.core hH.w ho
  have:=hall e hl.he
  have:=hl.u1
  grind
def Apart(E F:List Ed):Prop:=∀e∈E,∀f∈F,¬pB e.1 e.2 f.1 f.2
theorem Apart.symm(h:Apart E F):Apart F E:=fun f hf e he hm=>h e he f hf (QA hm)
def Con(E:List Ed):Prop:=∀P:Q→Prop,(∀e∈E,P e.1→P e.2)→∀e∈E,∀f∈E,P e.1→P f.1
end Go.Eng.Tg
namespace Go.Eng.Tg
open Go.Eng.Tw
def jK{α:Type}[Inhabited α](l:List α):List (α×α):=(List.range l.length).map fun i=>(l.getD i default,l.getD ((i+1)%l.length) default)
def sw{α:Type}(E:List (α×α)):List (α×α):=E.map fun e=>(e.2,e.1)
theorem GR{α:Type}{E:List (α×α)}{e:α×α}:e∈sw E↔(e.2,e.1)∈E:=by
 unfold sw
 constructor
 ·intro h
  obtain⟨f,hf,rfl⟩:=List.mem_map.1 h
  exact hf
 ·intro h
  exact List.mem_map.2 ⟨_,h,rfl⟩
theorem sF{α:Type}[Inhabited α]{l:List α}{e:α×α}:e∈jK l↔∃i,i<l.length∧e=(l.getD i default,l.getD ((i+1)%l.length) default):=by
 unfold jK
 constructor
 ·intro h
  obtain⟨i,hi,rfl⟩:=List.mem_map.1 h
  exact⟨i,List.mem_range.1 hi,rfl⟩
 ·rintro ⟨i,hi,rfl⟩
  exact List.mem_map.2 ⟨i,List.mem_range.2 hi,rfl⟩
theorem QC{l:List Q}(P:Q→Prop)(h:∀e∈jK l,P e.1→P e.2){i:Nat}(hi:i<l.length)(hp:P (l.getD i default)):∀k,P (l.getD ((i+k)%l.length) default)
 | 0=>by rw[Nat.add_zero,Nat.mod_eq_of_lt hi];exact hp
 | k+1=>by
  have ih:=QC P h hi hp k
  have hlt:(i+k)%l.length<l.length:=Nat.mod_lt _ (by omega)
  have:=h _ (sF.2 ⟨_,hlt,rfl⟩) ih
  dsimp only at this
  rw[Nat.mod_add_mod] at this
  exact this
theorem Ge(l:List Q):Con (jK l):=fun P h e he f hf hp=>by
 obtain⟨i,hi,rfl⟩:=sF.1 he
 obtain⟨j,hj,rfl⟩:=sF.1 hf
 have:=QC P h hi hp (j+(l.length-i))
 have e1:(i+(j+(l.length-i)))%l.length=j:=by
  rw[show i+(j+(l.length-i))=j+l.length by omega,Nat.add_mod_right,Nat.mod_eq_of_lt hj]
 rw[e1] at this
 exact this
theorem Ov(l:List Q):Con (sw (jK l)):=fun P h e he f hf hp=>by
 apply Classical.byContradiction
 intro hc
 obtain⟨i,hi,ei⟩:=sF.1 (GR.1 he)
 obtain⟨j,hj,ej⟩:=sF.1 (GR.1 hf)
 have hfw:∀g∈jK l,¬P g.1→¬P g.2:=fun g hg hn hp2=>hn (h (g.2,g.1) (GR.2 hg) hp2)
 have e1:e.1=l.getD ((i+1)%l.length) default:=congrArg Prod.snd ei
 have e2:f.1=l.getD ((j+1)%l.length) default:=congrArg Prod.snd ej
 have hjl:(j+1)%l.length<l.length:=Nat.mod_lt _ (by omega)
 have hil:(i+1)%l.length<l.length:=Nat.mod_lt _ (by omega)
 have:=QC (fun q=>¬P q) hfw hjl (by rw[←e2];exact hc) ((i+1)%l.length+(l.length-(j+1)%l.length))
 rw[show (j+1)%l.length+((i+1)%l.length+(l.length-(j+1)%l.length))=(i+1)%l.length+l.length by omega,Nat.add_mod_right,Nat.mod_eq_of_lt hil,←e1] at this
 exact this hp
theorem Ug{l:List Q}{e:Ed}(he:e∈jK l):∃f∈jK l,f.1=e.2:=by
 obtain⟨i,hi,rfl⟩:=sF.1 he
 exact⟨_,sF.2 ⟨(i+1)%l.length,Nat.mod_lt _ (by omega),rfl⟩,rfl⟩
theorem Yw{l:List Q}{e:Ed}(he:e∈sw (jK l)):∃f∈sw (jK l),f.1=e.2:=by
 obtain⟨i,hi,ei⟩:=sF.1 (GR.1 he)
 have e2:e.2=l.getD i default:=congrArg Prod.fst ei
 refine⟨(l.getD i default,l.getD ((i+(l.length-1))%l.length) default),GR.2 (sF.2 ⟨(i+(l.length-1))%l.length,Nat.mod_lt _ (by omega),?_⟩),e2.symm⟩
 rw[Nat.mod_add_mod,show i+(l.length-1)+1=i+l.length by omega,Nat.add_mod_right,Nat.mod_eq_of_lt hi]
theorem Yx{E:List Ed}(hC:Con E)(y:Rat)(h1:∃g∈E,g.1.2≤y)(h2:∃g∈E,y<g.1.2):(∃e∈E,e.1.2≤y∧y<e.2.2)∧∃e∈E,e.2.2≤y∧y<e.1.2:=by
 obtain⟨g,hg,hy⟩:=h1
 obtain⟨k,hk,hz⟩:=h2
 constructor
 ·apply Classical.byContradiction
  intro hc
  have:=hC (fun q=>q.2≤y) (fun e he h=>TN fun c=>hc ⟨e,he,h,c⟩) g hg k hk hy
  grind
 ·apply Classical.byContradiction
  intro hc
  have:=hC (fun q=>y<q.2) (fun e he h=>TM fun c=>hc ⟨e,he,c,h⟩) k hk g hg hz
  grind
abbrev Z:=Int×Int
abbrev Uh:=Z×Z
def Gf(a b p:Z):Int:=(b.1-a.1)*(p.2-a.2)-(b.2-a.2)*(p.1-a.1)
def le(a b:Int):Bool:=decide (a≤b)
def lt(a b:Int):Bool:=decide (a<b)
def Ki(a b:Z):Bool:=decide (a.1=b.1)&&decide (a.2=b.2)
def Ox(E:List Uh)(e:Uh):Bool:=E.any fun f=>Ki e.1 f.1&&Ki e.2 f.2
def dsj(a b c d:Int):Bool:=le b c||le d a||le b a||le d c
def V6:List Uh→Bool
 | []=>true
 | e::l=>!(Ox l e)&&V6 l
def Gg(E:List Uh):Bool:=
 (E.all fun e=>E.all fun f=>le 0 (Gf e.1 e.2 f.1))&&(E.all fun e=>!(Ki e.1 e.2)) &&
 (E.all fun e=>E.all fun f=>(Ki e.1 f.1&&Ki e.2 f.2)||dsj e.1.2 e.2.2 f.1.2 f.2.2)&&(E.all fun e=>E.all fun f=>(Ki e.1 f.1&&Ki e.2 f.2)||dsj e.2.2 e.1.2 f.2.2 f.1.2)&&V6 E &&
 (E.any fun e=>lt e.1.2 e.2.2&&E.all (fun g=>le g.1.2 e.2.2)&&E.any fun f=>lt f.2.2 f.1.2&&decide (f.1.2=e.2.2)&&((Ki e.2 f.1&&lt 0 (Gf e.1 e.2 f.2))||(Ox E (e.2,f.1)&&lt f.1.1 e.2.1))) &&
 (E.any fun e=>lt e.2.2 e.1.2&&E.all (fun g=>le e.2.2 g.1.2)&&E.any fun f=>lt f.1.2 f.2.2&&decide (f.1.2=e.2.2)&&((Ki e.2 f.1&&lt 0 (Gf e.1 e.2 f.2))||(Ox E (e.2,f.1)&&lt e.2.1 f.1.1)))
theorem ZJ{a b:Int}:le a b=true↔a≤b:=by unfold le;exact decide_eq_true_iff
theorem Oy{a b:Int}:lt a b=true↔a<b:=by unfold lt;exact decide_eq_true_iff
theorem B2{a b:Z}:Ki a b=true↔a=b:=by
 unfold Ki
 rw[Bool.and_eq_true,decide_eq_true_iff,decide_eq_true_iff]
 exact⟨fun h=>Prod.ext h.1 h.2,fun h=>by rw[h];exact⟨rfl,rfl⟩⟩
theorem Cy{E:List Uh}{e:Uh}:Ox E e=true↔e∈E:=by
 unfold Ox
 rw[List.any_eq_true]
 constructor
 ·rintro ⟨f,hf,h⟩
  rw[Bool.and_eq_true,B2,B2] at h
  rwa[Prod.ext h.1 h.2]
 ·intro h
  exact⟨e,h,by rw[Bool.and_eq_true,B2,B2];exact⟨rfl,rfl⟩⟩
theorem ZK:∀{E:List Uh},V6 E=true→E.Nodup
 | [],_=>List.nodup_nil
 | e::l,h=>by
  unfold V6 at h
  rw[Bool.and_eq_true,Bool.not_eq_true'] at h
  rw[List.nodup_cons]
  exact⟨fun hm=>by rw[Cy.2 hm] at h;exact absurd h.1 (by decide),ZK h.2⟩
def pl(x y r:Int)(p:Z):Q:=(((x+r*p.1:Int):Rat),((y+r*p.2:Int):Rat))
def plE(x y r:Int)(e:Uh):Ed:=(pl x y r e.1,pl x y r e.2)
theorem LQ(x y r:Int)(a b p:Z):cr (pl x y r a) (pl x y r b) (pl x y r p)=((r*r*Gf a b p:Int):Rat):=by
 unfold cr pl Gf
 dsimp only
 simp only[←Rat.intCast_sub,←Rat.intCast_mul]
 exact congrArg _ (by grind)
theorem zZ{a b:Int}:(a:Rat)≤(b:Rat)↔a≤b:=Rat.intCast_le_intCast
theorem D6{a b:Int}:(a:Rat)<(b:Rat)↔a<b:=Rat.intCast_lt_intCast
theorem Ui{r a b c:Int}(hr:0<r):c+r*a≤c+r*b↔a≤b:=by
 constructor
 ·intro h
  have:r*a≤r*b:=by omega
  exact Int.le_of_mul_le_mul_left this hr
 ·intro h
  have:=Int.mul_le_mul_of_nonneg_left h (Int.le_of_lt hr)
  omega
theorem Gh{r a b c:Int}(hr:0<r):c+r*a<c+r*b↔a<b:=by
 constructor
 ·intro h
  have:r*a<r*b:=by omega
  exact Int.lt_of_mul_lt_mul_left this (Int.le_of_lt hr)
 ·intro h
  have:=Int.mul_lt_mul_of_pos_left h hr
  omega
section
variable {x y r:Int} (hr:0<r)
include hr
theorem R7{p q:Z}:(pl x y r p).2≤(pl x y r q).2↔p.2≤q.2:=by unfold pl;rw[zZ];exact Ui hr
theorem Uj{p q:Z}:(pl x y r p).2<(pl x y r q).2↔p.2<q.2:=by unfold pl;rw[D6];exact Gh hr
theorem aB7{p q:Z}:(pl x y r p).1<(pl x y r q).1↔p.1<q.1:=by unfold pl;rw[D6];exact Gh hr
theorem Wn{a b p:Z}:0<cr (pl x y r a) (pl x y r b) (pl x y r p)↔0<Gf a b p:=by
 rw[LQ,show (0:Rat)=((0:Int):Rat) from rfl,D6]
 have h2:0<r*r:=Int.mul_pos hr hr
 constructor
 ·intro h
  have:(r*r)*0<(r*r)*Gf a b p:=by rw[Int.mul_zero];exact h
  exact Int.lt_of_mul_lt_mul_left this (Int.le_of_lt h2)
 ·intro h;exact Int.mul_pos h2 h
theorem aDL{a b p:Z}(h:0≤Gf a b p):0≤cr (pl x y r a) (pl x y r b) (pl x y r p):=by
 rw[LQ,show (0:Rat)=((0:Int):Rat) from rfl,zZ]
 exact Int.mul_nonneg (Int.le_of_lt (Int.mul_pos hr hr)) h
theorem Cz{p q:Z}(h:pl x y r p=pl x y r q):p=q:=by
 have h1:x+r*p.1=x+r*q.1:=Rat.intCast_inj.1 (congrArg Prod.fst h)
 have h2:y+r*p.2=y+r*q.2:=Rat.intCast_inj.1 (congrArg Prod.snd h)
 exact Prod.ext (Int.eq_of_mul_eq_mul_left (Int.ne_of_gt hr) (by omega)) (Int.eq_of_mul_eq_mul_left (Int.ne_of_gt hr) (by omega))
theorem Wo{E:List Uh}(h:Gg E=true)(hC:Con (E.map (plE x y r)))(hc:∀e∈E.map (plE x y r),∃f∈E.map (plE x y r),f.1=e.2):Gd (E.map (plE x y r)):=by
 unfold Gg at h
 simp only[Bool.and_eq_true] at h
 obtain⟨⟨⟨⟨⟨⟨g1,g2⟩,g3⟩,g4⟩,g5⟩,g6⟩,g7⟩:=h
 rw[List.all_eq_true] at g1 g2 g3 g4
 rw[List.any_eq_true] at g6 g7
 have dj:∀{a b c d:Int} {A B C D y:Rat},dsj a b c d=true→(B≤C↔b≤c)→(D≤A↔d≤a)→(B≤A↔b≤a)→(D≤C↔d≤c)→A≤y→y<B→C≤y→y<D→False:=fun hd h1 h2 h3 h4 a1 a2 a3 a4=>by
  unfold dsj at hd
  simp only[Bool.or_eq_true,ZJ] at hd
  rcases hd with((q | q) | q) | q
  ·have:=h1.2 q;grind
  ·have:=h2.2 q;grind
  ·have:=h3.2 q;grind
  ·have:=h4.2 q;grind
 refine⟨?_,hc,?_,?_,?_,?_,?_,?_,Yx hC⟩
 ·rintro e0 he0 f0 hf0
  obtain⟨e,he,rfl⟩:=List.mem_map.1 he0
  obtain⟨f,hf,rfl⟩:=List.mem_map.1 hf0
  have:=g1 e he
  rw[List.all_eq_true] at this
  exact aDL hr (ZJ.1 (this f hf))
 ·rintro e0 he0 h0
  obtain⟨e,he,rfl⟩:=List.mem_map.1 he0
  have:=g2 e he
  rw[Bool.not_eq_true'] at this
  rw[B2.2 (Cz hr h0)] at this
  exact absurd this (by decide)
 ·rintro e0 he0 f0 hf0 z h1 h2 h3 h4
  obtain⟨e,he,rfl⟩:=List.mem_map.1 he0
  obtain⟨f,hf,rfl⟩:=List.mem_map.1 hf0
  have:=g3 e he
  rw[List.all_eq_true] at this
  have:=this f hf
  rw[Bool.or_eq_true,Bool.and_eq_true,B2,B2] at this
  rcases this with⟨q1,q2⟩ | q
  ·rw[Prod.ext q1 q2]
  ·exact(dj q (R7 hr) (R7 hr) (R7 hr) (R7 hr) h1 h2 h3 h4).elim
 ·rintro e0 he0 f0 hf0 z h1 h2 h3 h4
  obtain⟨e,he,rfl⟩:=List.mem_map.1 he0
  obtain⟨f,hf,rfl⟩:=List.mem_map.1 hf0
  have:=g4 e he
  rw[List.all_eq_true] at this
  have:=this f hf
  rw[Bool.or_eq_true,Bool.and_eq_true,B2,B2] at this
  rcases this with⟨q1,q2⟩ | q
  ·rw[Prod.ext q1 q2]
  ·exact(dj q (R7 hr) (R7 hr) (R7 hr) (R7 hr) h1 h2 h3 h4).elim
 ·have:=ZK g5
  rw[List.Nodup,List.pairwise_map]
  exact List.Pairwise.imp (fun hne h0=>hne (Prod.ext (Cz hr (congrArg Prod.fst h0)) (Cz hr (congrArg Prod.snd h0)))) this
 ·obtain⟨e,he,q⟩:=g6
  simp only[Bool.and_eq_true,List.all_eq_true,List.any_eq_true,Oy,ZJ,Bool.or_eq_true,B2,Cy,decide_eq_true_iff] at q
  obtain⟨⟨q1,q2⟩,f,hf,⟨q3,q4⟩,q5⟩:=q
  refine⟨_,List.mem_map.2 ⟨e,he,rfl⟩,_,List.mem_map.2 ⟨f,hf,rfl⟩,(Uj hr).2 q1,(Uj hr).2 q3,fun g0 hg0=>?_,?_,?_⟩
  ·obtain⟨g,hg,rfl⟩:=List.mem_map.1 hg0
   exact(R7 hr).2 (q2 g hg)
  ·show (((y+r*f.1.2:Int)):Rat)=((y+r*e.2.2:Int):Rat)
   rw[q4]
  ·rcases q5 with⟨p1,p2⟩ | ⟨p1,p2⟩
   ·exact .inl ⟨congrArg (pl x y r) p1,(Wn hr).2 p2⟩
   ·exact .inr ⟨List.mem_map.2 ⟨_,p1,rfl⟩,(aB7 hr).2 p2⟩
 ·obtain⟨e,he,q⟩:=g7
  simp only[Bool.and_eq_true,List.all_eq_true,List.any_eq_true,Oy,ZJ,Bool.or_eq_true,B2,Cy,decide_eq_true_iff] at q
  obtain⟨⟨q1,q2⟩,f,hf,⟨q3,q4⟩,q5⟩:=q
  refine⟨_,List.mem_map.2 ⟨e,he,rfl⟩,_,List.mem_map.2 ⟨f,hf,rfl⟩,(Uj hr).2 q1,(Uj hr).2 q3,fun g0 hg0=>?_,?_,?_⟩
  ·obtain⟨g,hg,rfl⟩:=List.mem_map.1 hg0
   exact(R7 hr).2 (q2 g hg)
  ·show (((y+r*f.1.2:Int)):Rat)=((y+r*e.2.2:Int):Rat)
   rw[q4]
  ·rcases q5 with⟨p1,p2⟩ | ⟨p1,p2⟩
   ·exact .inl ⟨congrArg (pl x y r) p1,(Wn hr).2 p2⟩
   ·exact .inr ⟨List.mem_map.2 ⟨_,p1,rfl⟩,(aB7 hr).2 p2⟩
end
end Go.Eng.Tg
namespace Go.Eng.Tg
open Go.Eng.Tw
def MW(a b c:Q):Prop:=cr a b c=0∧0<(a.1-b.1)*(c.1-b.1)+(a.2-b.2)*(c.2-b.2)
def aV{α:Type}[Inhabited α](l:List α)(i:Nat):α:=l.getD (i%l.length) default
def Yy(L:List Q):Prop:=3≤L.length∧∀i<L.length,aV L i≠aV L (i+1)∧¬MW (aV L i) (aV L (i+1)) (aV L (i+2)) ∧
 ∀j,i+2≤j→j<L.length→(0<i∨j<L.length-1)→¬pB (aV L i) (aV L (i+1)) (aV L j) (aV L (j+1))
def btB(d u:Int):Bool:=(le 0 u&&le u d)||(le d u&&le u 0)
def onZ(a b p:Z):Bool:=decide (Gf a b p=0)&&btB (b.1-a.1) (p.1-a.1)&&btB (b.2-a.2) (p.2-a.2)
def Gi(a b c d:Z):Bool:=onZ a b c||onZ a b d||onZ c d a||onZ c d b||(lt (Gf a b c*Gf a b d) 0&&lt (Gf c d a*Gf c d b) 0)
def Gj(a b c:Z):Bool:=decide (Gf a b c=0)&&lt 0 ((a.1-b.1)*(c.1-b.1)+(a.2-b.2)*(c.2-b.2))
def Yz(s:List Z):Bool:=Nat.ble 3 s.length&&(List.range s.length).all fun i=>!(Ki (aV s i) (aV s (i+1)))&&!(Gj (aV s i) (aV s (i+1)) (aV s (i+2))) &&
 (List.range s.length).all fun j=>Nat.blt j (i+2)||!(Nat.blt 0 i||Nat.blt j (s.length-1))||!(Gi (aV s i) (aV s (i+1)) (aV s j) (aV s (j+1)))
theorem zE{α β:Type}[Inhabited α][Inhabited β](f:α→β){l:List α}(h:0<l.length)(i:Nat):aV (l.map f) i=f (aV l i):=by
 unfold aV
 rw[List.length_map]
 have hi:i%l.length<l.length:=Nat.mod_lt _ h
 rw[List.getD_eq_getElem?_getD,List.getD_eq_getElem?_getD,List.getElem?_map,List.getElem?_eq_getElem hi]
 rfl
section
variable {x y r:Int} (hr:0<r)
include hr
omit hr in
theorem Kj{a:Int}:(a:Rat)<0↔a<0:=by rw[show (0:Rat)=((0:Int):Rat) from rfl,D6]
omit hr in
theorem Wp{c a p b:Int}(hr:0<r)(h:btB (b-a) (p-a)=true):Bt (((c+r*b:Int):Rat)-((c+r*a:Int):Rat)) (((c+r*p:Int):Rat)-((c+r*a:Int):Rat)):=by
 have e1:((c+r*b:Int):Rat)-((c+r*a:Int):Rat)=((r*(b-a):Int):Rat):=by rw[←Rat.intCast_sub];exact congrArg _ (by grind)
 have e2:((c+r*p:Int):Rat)-((c+r*a:Int):Rat)=((r*(p-a):Int):Rat):=by rw[←Rat.intCast_sub];exact congrArg _ (by grind)
 rw[e1,e2]
 unfold btB at h
 rw[Bool.or_eq_true,Bool.and_eq_true,Bool.and_eq_true,ZJ,ZJ,ZJ,ZJ] at h
 have r0:=Int.le_of_lt hr
 rcases h with⟨h1,h2⟩ | ⟨h1,h2⟩
 ·left
  exact⟨by rw[show (0:Rat)=((0:Int):Rat) from rfl,zZ];exact Int.mul_nonneg r0 h1,zZ.2 (Int.mul_le_mul_of_nonneg_left h2 r0)⟩
 ·right
  exact⟨zZ.2 (Int.mul_le_mul_of_nonneg_left h1 r0),by rw[show (0:Rat)=((0:Int):Rat) from rfl,zZ];have:=Int.mul_le_mul_of_nonneg_left h2 r0;rw[Int.mul_zero] at this;exact this⟩
theorem Gk{a b p:Z}(h:onZ a b p=true):On (pl x y r a) (pl x y r b) (pl x y r p):=by
 unfold onZ at h
 rw[Bool.and_eq_true,Bool.and_eq_true,decide_eq_true_iff] at h
 obtain⟨⟨h1,h2⟩,h3⟩:=h
 refine⟨by rw[LQ,h1,Int.mul_zero];rfl,Wp hr h2,Wp hr h3⟩
theorem aB8{a b:Int}(h:a*b<0):((r*r*a:Int):Rat)*((r*r*b:Int):Rat)<0:=by
 rw[←Rat.intCast_mul,Kj]
 have h2:0<r*r:=Int.mul_pos hr hr
 have:r*r*a*(r*r*b)=(r*r)*((r*r)*(a*b)):=by grind
 rw[this]
 exact Int.mul_neg_of_pos_of_neg h2 (Int.mul_neg_of_pos_of_neg h2 h)
theorem Uk{a b c d:Z}(h:Gi a b c d=true):pB (pl x y r a) (pl x y r b) (pl x y r c) (pl x y r d):=by
 unfold Gi at h
 simp only[Bool.or_eq_true,Bool.and_eq_true,Oy] at h
 rcases h with(((h | h) | h) | h) | ⟨h1,h2⟩
 ·exact .inl (Gk hr h)
 ·exact .inr (.inl (Gk hr h))
 ·exact .inr (.inr (.inl (Gk hr h)))
 ·exact .inr (.inr (.inr (.inl (Gk hr h))))
 ·refine .inr (.inr (.inr (.inr ⟨?_,?_⟩)))
  ·rw[LQ,LQ];exact aB8 hr h1
  ·rw[LQ,LQ];exact aB8 hr h2
theorem Ul{a b c:Z}(h:Gj a b c=true):MW (pl x y r a) (pl x y r b) (pl x y r c):=by
 unfold Gj at h
 rw[Bool.and_eq_true,decide_eq_true_iff,Oy] at h
 refine⟨by rw[LQ,h.1,Int.mul_zero];rfl,?_⟩
 have e:((pl x y r a).1-(pl x y r b).1)*((pl x y r c).1-(pl x y r b).1)+((pl x y r a).2-(pl x y r b).2)*((pl x y r c).2-(pl x y r b).2)=((r*r*((a.1-b.1)*(c.1-b.1)+(a.2-b.2)*(c.2-b.2)):Int):Rat):=by
  unfold pl
  dsimp only
  simp only[←Rat.intCast_sub,←Rat.intCast_mul,←Rat.intCast_add]
  exact congrArg _ (by grind)
 rw[e,show (0:Rat)=((0:Int):Rat) from rfl,D6]
 exact Int.mul_pos (Int.mul_pos hr hr) h.2
theorem Za{s:List Z}(h:Yy (s.map (pl x y r))):Yz s=true:=by
 obtain⟨h3,h⟩:=h
 rw[List.length_map] at h3 h
 have h0:0<s.length:=by omega
 unfold Yz
 rw[Bool.and_eq_true]
 refine⟨Nat.ble_eq_true_of_le h3,?_⟩
 rw[List.all_eq_true]
 intro i hi
 obtain⟨g1,g2,g3⟩:=h i (List.mem_range.1 hi)
 rw[zE _ h0,zE _ h0] at g1 g2
 rw[zE _ h0] at g2
 rw[Bool.and_eq_true,Bool.and_eq_true,Bool.not_eq_true',Bool.not_eq_true']
 refine⟨⟨?_,?_⟩,?_⟩
 ·cases hc:Ki (aV s i) (aV s (i+1)) with
  | false=>rfl
  | true=>rw[B2.1 hc] at g1;exact absurd rfl g1
 ·cases hc:Gj (aV s i) (aV s (i+1)) (aV s (i+2)) with
  | false=>rfl
  | true=>exact absurd (Ul hr hc) g2
 ·rw[List.all_eq_true]
  intro j hj
  have hjl:=List.mem_range.1 hj
  cases c1:Nat.blt j (i+2) with
  | true=>rfl
  | false=>
   cases c2:(Nat.blt 0 i||Nat.blt j (s.length-1)) with
   | false=>rfl
   | true=>
    cases c3:Gi (aV s i) (aV s (i+1)) (aV s j) (aV s (j+1)) with
    | false=>rfl
    | true=>
     exfalso
     have a1:i+2≤j:=by
      by_cases c:i+2≤j
      ·exact c
      ·have:Nat.blt j (i+2)=true:=by simp only[Nat.blt_eq];omega
       rw[this] at c1;cases c1
     have a2:0<i∨j<s.length-1:=by
      rw[Bool.or_eq_true,Nat.blt_eq,Nat.blt_eq] at c2
      exact c2
     have:=g3 j a1 hjl a2
     rw[zE _ h0,zE _ h0,zE _ h0,zE _ h0] at this
     exact this (Uk hr c3)
end
def arZ(s:List Z):Int:=((jK s).map fun e=>e.1.1*e.2.2-e.2.1*e.1.2).sum
def ZL(s:List Z):Bool:=(Gg (jK s)&&lt 0 (arZ s))||(Gg (sw (jK s))&&lt (arZ s) 0)||!(Yz s)
def Kk:List Z→List (List Z)
 | []=>[[]]
 | a::l=>Kk l++(Kk l).map (a::·)
def swp:List Z→List Z
 | a::b::l=>b::a::l
 | l=>l
def Kl:List Z:=[(2,0),(2,1),(1,2),(-1,2),(-2,0),(-2,-1),(0,-2),(1,-1)]
def Pa:List Z:=[(-1,-1),(1,-1),(1,1),(-1,1)]
def ZM:List Z:=[(-1,-1),(-1,1),(1,1),(1,-1)]
def tri:List Z:=[(0,0),(3,1),(1,4)]
theorem QD:∀{s l:List Z},s.Sublist l→s∈Kk l
 | _,_,.slnil=>List.mem_cons_self ..
 | _,_,.cons _ h=>List.mem_append.2 (.inl (QD h))
 | _,_,.cons_cons _ h=>List.mem_append.2 (.inr (List.mem_map.2 ⟨_,QD h,rfl⟩))
theorem Zb:((Kk Kl).all fun s=>ZL s&&ZL (swp s))=true:=by decide +kernel
theorem Zc:((Kk Kl.reverse).all fun s=>ZL s&&ZL (swp s))=true:=by decide +kernel
theorem Zd:((List.range 4).all fun k=>ZL (Pa.drop k++Pa.take k)&&ZL (ZM.drop k++ZM.take k))=true:=by decide +kernel
theorem aCA:ZL tri=true:=by decide +kernel
end Go.Eng.Tg
namespace Go.Eng.Tg
open Go.Eng.Tw
variable {E F:List Ed}
theorem aCB{p:Q}:EY (sw E) p↔EY E p:=by
 constructor
 ·rintro ⟨e,he,h⟩
  exact⟨_,GR.1 he,Gb h⟩
 ·rintro ⟨e,he,h⟩
  exact⟨(e.2,e.1),GR.2 he,Gb h⟩
theorem aCC(p:Q)(e:Ed):we p (e.2,e.1)=-we p e:=by
 unfold we
 dsimp only
 rw[Ga e.1 e.2 p]
 by_cases h1:e.1.2≤p.2∧p.2<e.2.2
 ·rw[if_neg (by rintro ⟨a,b,_⟩;grind),if_neg (c:=e.2.2≤p.2∧_) (by rintro ⟨a,b,_⟩;grind)]
  by_cases h2:0<cr e.1 e.2 p
  ·rw[if_pos ⟨h1.1,h1.2,by grind⟩,if_pos ⟨h1.1,h1.2,h2⟩]
  ·rw[if_neg (by rintro ⟨_,_,h⟩;grind),if_neg fun h=>h2 h.2.2];rfl
 ·rw[if_neg (c:=e.1.2≤p.2∧p.2<e.2.2∧-cr e.1 e.2 p<0) fun h=>h1 ⟨h.1,h.2.1⟩,if_neg (c:=e.1.2≤p.2∧p.2<e.2.2∧0<cr e.1 e.2 p) fun h=>h1 ⟨h.1,h.2.1⟩]
  by_cases h2:e.2.2≤p.2∧p.2<e.1.2
  ·by_cases h3:cr e.1 e.2 p<0
   ·rw[if_pos ⟨h2.1,h2.2,by grind⟩,if_pos ⟨h2.1,h2.2,h3⟩];rfl
   ·rw[if_neg (by rintro ⟨_,_,h⟩;grind),if_neg fun h=>h3 h.2.2];rfl
  ·rw[if_neg fun h=>h2 ⟨h.1,h.2.1⟩,if_neg fun h=>h2 ⟨h.1,h.2.1⟩];rfl
theorem Wq(p:Q):∀E:List Ed,wd (sw E) p=-wd E p
 | []=>rfl
 | e::l=>by
  have ih:=Wq p l
  unfold wd sw at *
  rw[List.map_cons,List.map_cons,List.map_cons,List.sum_cons,List.sum_cons,ih,aCC];omega
structure Lp (L:List Q) (s:Int) (G:List Ed):Prop where
 gd:Gd G
 con:Con G
 dir:(s=1∧G=jK L)∨(s=-1∧G=sw (jK L))
section
variable {L:List Q} {s:Int} {G:List Ed}
theorem Lp.on(h:Lp L s G){p:Q}:EY (jK L) p↔EY G p:=by
 rcases h.dir with⟨_,e⟩ | ⟨_,e⟩
 ·rw[e]
 ·rw[e,aCB]
open Classical in
theorem Lp.wind(h:Lp L s G){p:Q}(ho:¬EY (jK L) p):wd (jK L) p=if H G p then s else 0:=by
 have hw:=h.gd.wind (p:=p) fun c=>ho (h.on.2 c)
 rcases h.dir with⟨es,e⟩ | ⟨es,e⟩
 ·rw[es]
  by_cases hH:H G p
  ·rw[if_pos hH,←e];exact hw.1 hH
  ·rw[if_neg hH,←e];exact hw.2 hH
 ·rw[es]
  have h2:wd G p=-wd (jK L) p:=by rw[e];exact Wq p _
  by_cases hH:H G p
  ·rw[if_pos hH];have:=hw.1 hH;omega
  ·rw[if_neg hH];have:=hw.2 hH;omega
theorem V7{i:Nat}(h0:0<L.length):(aV L i,aV L (i+1))∈jK L:=by
 refine sF.2 ⟨i%L.length,Nat.mod_lt _ h0,?_⟩
 unfold aV
 rw[Nat.mod_add_mod]
theorem Lp.sg(h:Lp L s G):s=1∨s=-1:=h.dir.imp And.left And.left
end
def uO(m:Nat)(f:Nat→Int):Int:=((List.range m).map f).sum
theorem mS(m:Nat)(f:Nat→Int):uO (m+1) f=uO m f+f m:=by
 unfold uO
 rw[List.range_succ,List.map_append,List.sum_append];simp
theorem Da{m:Nat}{f g:Nat→Int}(h:∀j,j<m→f j=g j):uO m f=uO m g:=by
 unfold uO
 exact congrArg List.sum (List.map_congr_left fun j hj=>h j (List.mem_range.1 hj))
structure Ns (m:Nat) (G:Nat→List Ed) (v:Nat→Q):Prop where
 gd:∀i,i<m→Gd (G i)
 con:∀i,i<m→Con (G i)
 ap:∀i,i<m→∀j,j<m→i≠j→Apart (G i) (G j)
 on:∀i,i<m→∃e∈G i,e.1=v i
open Classical in
noncomputable def ad(G:Nat→List Ed)(s:Nat→Int)(p:Q)(j:Nat):Int:=if H (G j) p then s j else 0
section
variable {m:Nat} {G:Nat→List Ed} {v:Nat→Q} (hN:Ns m G v)
include hN
end
end Go.Eng.Tg
namespace Go.Eng.Rt
open Go.Eng Go.Eng.Tw Go.Eng.Tm Go.Eng.Tg
def cq(p:Z):Q:=((p.1:Rat),(p.2:Rat))
open Classical in
noncomputable def bP(P:Prop):Bool:=decide P
open Classical in
theorem gN{P:Prop}(h:P):bP P=true:=by unfold bP;exact decide_eq_true h
open Classical in
theorem gF{P:Prop}(h:¬P):bP P=false:=by unfold bP;exact decide_eq_false h
open Classical in
theorem Ze{P:Prop}:bP P=true↔P:=by unfold bP;exact decide_eq_true_iff
theorem jF{P R:Prop}(h:P↔R):bP P=bP R:=by rw[propext h]
theorem D7{P:Prop}[Decidable P]:decide P=bP P:=by
 by_cases h:P
 ·rw[decide_eq_true h,gN h]
 ·rw[decide_eq_false h,gF h]
theorem yL{P R:Prop}:bP (P∨R)=(bP P||bP R):=by
 by_cases h:P
 ·rw[gN h,gN (.inl h)];rfl
 ·rw[gF h]
  by_cases h':R
  ·rw[gN h',gN (.inr h')];rfl
  ·rw[gF h',gF (fun c=>c.elim h h')];rfl
theorem D8{P R:Prop}:bP (P∧R)=(bP P&&bP R):=by
 by_cases h:P
 ·rw[gN h]
  by_cases h':R
  ·rw[gN h',gN ⟨h,h'⟩];rfl
  ·rw[gF h',gF fun c=>h' c.2];rfl
 ·rw[gF h,gF fun c=>h c.1];rfl
theorem J7{P:Prop}:bP (¬P)=!(bP P):=by
 by_cases h:P
 ·rw[gN h,gF fun c=>c h];rfl
 ·rw[gF h,gN h];rfl
abbrev pt(p:Z):Bool×List T×List T×Bool×List T×List T×Bool×List T×List T×Unit:=(aM (p.1:Rat),aU (p.1:Rat),aY (p.1:Rat),aM (p.2:Rat),aU (p.2:Rat),aY (p.2:Rat),false,[],[],())
theorem TO(p:Z):c3 (p.1:Rat) (c3 (p.2:Rat) (c3 0 ()))=pt p:=by rw[z3]
def Sp(p:Z):Prop:=p.1.natAbs≤32∧p.2.natAbs≤32
def Se(p q:Z):Prop:=Sp p∧(q.1-p.1).natAbs≤20∧(q.2-p.2).natAbs≤20
theorem TP{p:Z}(h:Sp p):Pr 1 (p.1:Rat) (p.2:Rat) 0:=
 ⟨⟨by decide,(qFr.int _).mono h.1,(qFr.int _).mono h.2,(qFr.zero (by decide)).mono (by decide)⟩,32,by decide,(qFr.int _).mono h.1,(qFr.int _).mono h.2⟩
theorem Um(a b:Z)(px py:Rat):((b.1-a.1:Int):Rat)*(py-a.2)-((b.2-a.2:Int):Rat)*(px-a.1)=cr (cq a) (cq b) (px,py):=by
 unfold cr cq;dsimp only;rw[Rat.intCast_sub,Rat.intCast_sub]
theorem Zf(a b:Z)(px py:Rat):Fz ((b.1-a.1:Int):Rat) ((b.2-a.2:Int):Rat) (px-a.1) (py-a.2)=bP (On (cq a) (cq b) (px,py)):=by
 have h:Ys ((b.1-a.1:Int):Rat) ((b.2-a.2:Int):Rat) (px-a.1) (py-a.2)↔On (cq a) (cq b) (px,py):=by
  unfold Ys On
  rw[Um]
  unfold cq
  dsimp only
  rw[Rat.intCast_sub,Rat.intCast_sub]
 by_cases hc:Ys ((b.1-a.1:Int):Rat) ((b.2-a.2:Int):Rat) (px-a.1) (py-a.2)
 ·rw[Oj hc,gN (h.1 hc)]
 ·rw[ZI hc,gF fun c=>hc (h.2 c)]
theorem aCD{a b:Z}(h:Se a b){D:Nat}{px py pz:Rat}(hp:Pp D 32 px py pz):lC (lit a b (c3 px (c3 py (c3 pz ()))))=some (bP (On (cq a) (cq b) (px,py)),()):=by
 rw[(P9 h.1.1 h.1.2 h.2.1 h.2.2 hp).1,Zf]
theorem aCE{a b:Z}(h:Se a b){D:Nat}{px py pz:Rat}(hp:Pp D 32 px py pz):bU (lit a b (c3 px (c3 py (c3 pz ()))))=some (lK (cr (cq a) (cq b) (px,py)),()):=by
 rw[(P9 h.1.1 h.1.2 h.2.1 h.2.2 hp).2.1];unfold sE;rw[Um]
theorem aCF{a b:Z}(h:Se a b){D:Nat}{px py pz:Rat}(hp:Pr D px py pz):eM (lit a b (c3 px (c3 py (c3 pz ()))))=some (bP (On (cq a) (cq b) (px,py)),()):=by
 rw[Ol h.1.1 h.1.2 h.2.1 h.2.2 hp,Zf]
theorem aCG{a b:Z}(h:Se a b){D:Nat}{px py pz:Rat}(hp:Pp D 32 px py pz):cV (lit a b (c3 px (c3 py (c3 pz ()))))=some (lK (cr (cq a) (cq b) (px,py)),()):=by
 rw[(P9 h.1.1 h.1.2 h.2.1 h.2.2 hp).2.2];unfold sE;rw[Um]
theorem Gl{a b c:Z}(h:Se a b)(hc:Sp c):lC (lit a b (pt c))=some (bP (On (cq a) (cq b) (cq c)),()):=by
 have:=aCD h (TP hc).up;rw[TO] at this;exact this
theorem ZN{a b c:Z}(h:Se a b)(hc:Sp c):bU (lit a b (pt c))=some (lK (cr (cq a) (cq b) (cq c)),()):=by
 have:=aCE h (TP hc).up;rw[TO] at this;exact this
theorem TQ{a b c:Z}(h:Se a b)(hc:Sp c):eM (lit a b (pt c))=some (bP (On (cq a) (cq b) (cq c)),()):=by
 have:=aCF h (TP hc);rw[TO] at this;exact this
theorem Gm{a b c:Z}(h:Se a b)(hc:Sp c):cV (lit a b (pt c))=some (lK (cr (cq a) (cq b) (cq c)),()):=by
 have:=aCG h (TP hc).up;rw[TO] at this;exact this
theorem ZO(x y:Rat):wr .i64 (lK x*lK y)=lK x*lK y:=by
 rcases lL x with⟨h,_⟩ | ⟨h,_⟩ | ⟨h,_⟩ <;> rcases lL y with⟨k,_⟩ | ⟨k,_⟩ | ⟨k,_⟩ <;> rw[h,k] <;> exact dK (by decide) (by decide)
theorem tK(x:Rat):(lK x=0∧x=0)∨(lK x=-1∧x<0)∨(lK x=1∧0<x):=by
 rcases lL x with⟨h,k⟩ | ⟨h,k⟩ | ⟨h,k⟩
 ·exact .inl ⟨h,k⟩
 ·exact .inr (.inl ⟨h,ZF.1 k⟩)
 ·exact .inr (.inr ⟨h,ZG.1 k⟩)
theorem Un(x y:Rat):lK x*lK y<0↔x*y<0:=by
 rcases tK x with⟨h,hx⟩ | ⟨h,hx⟩ | ⟨h,hx⟩ <;> rcases tK y with⟨k,hy⟩ | ⟨k,hy⟩ | ⟨k,hy⟩ <;> rw[h,k]
 ·rw[hx];exact⟨fun c=>absurd c (by decide),fun c=>absurd c (by grind)⟩
 ·rw[hx];exact⟨fun c=>absurd c (by decide),fun c=>absurd c (by grind)⟩
 ·rw[hx];exact⟨fun c=>absurd c (by decide),fun c=>absurd c (by grind)⟩
 ·rw[hy];exact⟨fun c=>absurd c (by decide),fun c=>absurd c (by grind)⟩
 ·exact⟨fun c=>absurd c (by decide),fun c=>absurd c (by have:=Rat.mul_pos (show 0 < -x by grind) (show 0 < -y by grind);grind)⟩
 ·exact⟨fun _=>by have:=neg_mul hy hx;grind,fun _=>by decide⟩
 ·rw[hy];exact⟨fun c=>absurd c (by decide),fun c=>absurd c (by grind)⟩
 ·exact⟨fun _=>neg_mul hx hy,fun _=>by decide⟩
 ·exact⟨fun c=>absurd c (by decide),fun c=>absurd c (by have:=Rat.mul_pos hx hy;grind)⟩
theorem Wr(x y:Rat):decide (lK x*lK y<0)=bP (x*y<0):=by rw[D7];exact jF (Un x y)
section
variable {a b c d:Z} (h1:Se a b) (h2:Se c d) (hb:Sp b) (hd:Sp d)
include h1 h2 hb hd
theorem Pb:qP (lit a b (lit c d ()))=some (bP (pB (cq a) (cq b) (cq c) (cq d)),()):=by
 have e1:=Gl h1 h2.1
 have e2:=Gl h1 hd
 have e3:=Gl h2 h1.1
 have e4:=Gl h2 hb
 have f1:=ZN h1 h2.1
 have f2:=ZN h1 hd
 have f3:=ZN h2 h1.1
 have f4:=ZN h2 hb
 unfold qP
 simp -implicitDefEqProofs only[e1,e2,e3,e4,f1,f2,f3,f4,bC,aF,fG,ZO,Wr]
 unfold pB
 rw[yL,yL,yL,yL,D8]
 generalize bP (On (cq a) (cq b) (cq c))=b1
 generalize bP (On (cq a) (cq b) (cq d))=b2
 generalize bP (On (cq c) (cq d) (cq a))=b3
 generalize bP (On (cq c) (cq d) (cq b))=b4
 generalize bP (cr (cq a) (cq b) (cq c)*cr (cq a) (cq b) (cq d)<0)=b5
 generalize bP (cr (cq c) (cq d) (cq a)*cr (cq c) (cq d) (cq b)<0)=b6
 cases b1 <;> cases b2 <;> cases b3 <;> cases b4 <;> cases b5 <;> rfl
theorem Pc:oX (lit a b (lit c d ()))=some (bP (pB (cq a) (cq b) (cq c) (cq d)),()):=by
 have e1:=TQ h1 h2.1
 have e2:=TQ h1 hd
 have e3:=TQ h2 h1.1
 have e4:=TQ h2 hb
 have f1:=Gm h1 h2.1
 have f2:=Gm h1 hd
 have f3:=Gm h2 h1.1
 have f4:=Gm h2 hb
 unfold oX
 simp -implicitDefEqProofs only[e1,e2,e3,e4,f1,f2,f3,f4,bC,aF,fG,ZO,Wr]
 unfold pB
 rw[yL,yL,yL,yL,D8]
 generalize bP (On (cq a) (cq b) (cq c))=b1
 generalize bP (On (cq a) (cq b) (cq d))=b2
 generalize bP (On (cq c) (cq d) (cq a))=b3
 generalize bP (On (cq c) (cq d) (cq b))=b4
 generalize bP (cr (cq a) (cq b) (cq c)*cr (cq a) (cq b) (cq d)<0)=b5
 generalize bP (cr (cq c) (cq d) (cq a)*cr (cq c) (cq d) (cq b)<0)=b6
 cases b1 <;> cases b2 <;> cases b3 <;> cases b4 <;> cases b5 <;> rfl
end
end Go.Eng.Rt
namespace Go.Eng.Rt
open Go.Eng Go.Eng.Tw Go.Eng.Tm Go.Eng.Tg
theorem ET{S E:Type}{F:S→Option (S⊕E)}(st:Nat→S)(n:Nat)(bad:Nat→Prop)(hit out:E)(h1:∀k,k<n→bad k→F (st k)=some (.inr hit))(h2:∀k,k<n→¬bad k→F (st k)=some (.inl (st (k+1))))
 (h3:∀k,n≤k→F (st k)=some (.inr out)):∀(d k:Nat),n≤k+d→aI F (st k)=some (bif bP (∃j,k≤j∧j<n∧bad j) then hit else out)
 | 0,k,h=>by
  rw[aO (h3 k (by omega)),gF (by rintro ⟨j,a,b,_⟩;omega)];rfl
 | d+1,k,h=>by
  by_cases hk:k<n
  ·by_cases hb:bad k
   ·rw[aO (h1 k hk hb),gN ⟨k,Nat.le_refl _,hk,hb⟩];rfl
   ·rw[dU (h2 k hk hb),ET st n bad hit out h1 h2 h3 d (k+1) (by omega)]
    have:(∃j,k+1≤j∧j<n∧bad j)↔∃j,k≤j∧j<n∧bad j:=by
     constructor
     ·rintro ⟨j,a,b,c⟩;exact⟨j,by omega,b,c⟩
     ·rintro ⟨j,a,b,c⟩
      refine⟨j,?_,b,c⟩
      by_cases e:j=k
      ·subst e;exact absurd c hb
      ·omega
    rw[jF this]
  ·rw[aO (h3 k (by omega)),gF (by rintro ⟨j,a,b,_⟩;omega)];rfl
theorem QE{p q:Z}(h:cq p=cq q):p=q:=Prod.ext (Rat.intCast_inj.1 (congrArg Prod.fst h)) (Rat.intCast_inj.1 (congrArg Prod.snd h))
theorem Db{l:List Z}{i:Nat}(h:i<l.length):aV l i=pF l i:=by unfold aV pF;rw[Nat.mod_eq_of_lt h];rfl
theorem V8{l:List Z}{i:Nat}(h:i<l.length):aV l (i+1)=pF l ((i+1)%l.length):=by unfold aV pF;rfl
theorem yM{l:List Z}(h:0<l.length)(i:Nat):aV l i∈l∧l[i%l.length]?=some (aV l i):=by
 have hl:=Nat.mod_lt i h
 have:=xF hl
 have e:pF l (i%l.length)=aV l i:=rfl
 rw[e] at this
 exact⟨this.2,this.1⟩
theorem lR{l:List Z}(hB:Bx l)(h:0<l.length)(i:Nat):Sp (aV l i):=hB.2.1 _ (yM h i).1
theorem B3{l:List Z}(hB:Bx l)(h:0<l.length)(i j:Nat):Se (aV l i) (aV l j):=⟨lR hB h i,hB.2.2 _ (yM h i).1 _ (yM h j).1⟩
theorem IP{l:List Z}(hB:Bx l){i:Nat}(hi:i<l.length):eH (l.map wT,(i:Int),())=some (lit (aV l i) (aV l (i+1)) ()):=by
 have h0:0<l.length:=by omega
 refine Cu (by have:=hB.1;omega) hi ?_ (yM h0 (i+1)).2
 have:=(yM h0 i).2
 rwa[Nat.mod_eq_of_lt hi] at this
theorem QF{n m:Int}:(aM (n:Rat)=aM (m:Rat)∧aU (n:Rat)=aU (m:Rat))↔n=m:=by
 constructor
 ·rintro ⟨h1,h2⟩
  have h3:(n:Rat).num.natAbs=(m:Rat).num.natAbs:=J3 (VS h2)
  exact Rat.intCast_inj.1 (Fj h1 h3 (by rw[Rat.den_intCast,Rat.den_intCast]))
 ·rintro rfl;exact⟨rfl,rfl⟩
theorem D9(n:Int):aY (n:Rat)=[]:=by unfold aY;rw[Rat.den_intCast];exact if_pos rfl
theorem Gn{n m:Int}(hn:n.natAbs<1000000):mG (aM (n:Rat),aU (n:Rat),aY (n:Rat),aM (m:Rat),aU (m:Rat),aY (m:Rat),())=some (decide (n=m),()):=by
 have hl:(bF n.natAbs).length<LM:=(kP (n:=n) (by omega)).fit.1 |> fun h=>by rw[Rat.num_intCast] at h;exact h
 have e1:aR (aU (n:Rat),aU (m:Rat),())=some (decide (bF n.natAbs=bF m.natAbs),()):=by
  have:=VZ (a:=bF n.natAbs) (b:=bF m.natAbs) hl
  show aR (eC (bF (n:Rat).num.natAbs),eC (bF (m:Rat).num.natAbs),())=_
  rw[Rat.num_intCast,Rat.num_intCast];exact this
 have e2:aR (([]:List T),([]:List T),())=some (true,()):=by
  have:=VZ (a:=[]) (b:=[]) (by decide)
  exact this
 unfold mG
 rw[D9,D9]
 simp only[e1,e2,bC,AP]
 have hnum:aU (n:Rat)=aU (m:Rat)↔bF n.natAbs=bF m.natAbs:=by
  constructor
  ·intro h
   have:=VS h
   rw[Rat.num_intCast,Rat.num_intCast] at this
   exact this
  ·intro h
   show eC (bF (n:Rat).num.natAbs)=eC (bF (m:Rat).num.natAbs)
   rw[Rat.num_intCast,Rat.num_intCast,h]
 by_cases h1:aM (n:Rat)=aM (m:Rat)
 ·rw[h1]
  simp only[beq_self_eq_true,cond_true]
  by_cases h2:bF n.natAbs=bF m.natAbs
  ·rw[decide_eq_true h2,decide_eq_true (QF.1 ⟨h1,hnum.2 h2⟩)];rfl
  ·rw[decide_eq_false h2,decide_eq_false (fun e=>h2 (hnum.1 (QF.2 e).2))];rfl
 ·have:(aM (n:Rat)==aM (m:Rat))=false:=by simpa using h1
  rw[this,decide_eq_false (fun e=>h1 (QF.2 e).1)];rfl
section
variable {a b c:Z} (h1:Se a b) (h2:Se b c) (hc:Sp c)
include h1 h2 hc
theorem Pd:mN (lit a b (pt c))=some (bP (MW (cq a) (cq b) (cq c)),()):=by
 have ha:=h1.1
 have hb:=h2.1
 have sa1:=gD ha.1 (by decide)
 have sa2:=gD ha.2 (by decide)
 have sb1:=gD hb.1 (by decide)
 have sb2:=gD hb.2 (by decide)
 have sc1:=gD hc.1 (by decide)
 have sc2:=gD hc.2 (by decide)
 have q1:=V4 sa1 sa2 FU sb1 sb2 FU
 have q2:=V4 sc1 sc2 FU sb1 sb2 FU
 obtain⟨_,b1,b2⟩:=h1
 obtain⟨_,b3,b4⟩:=h2
 have n1:(a.1:Rat)-b.1=((a.1-b.1:Int):Rat):=(Rat.intCast_sub ..).symm
 have n2:(a.2:Rat)-b.2=((a.2-b.2:Int):Rat):=(Rat.intCast_sub ..).symm
 have n3:(c.1:Rat)-b.1=((c.1-b.1:Int):Rat):=(Rat.intCast_sub ..).symm
 have n4:(c.2:Rat)-b.2=((c.2-b.2:Int):Rat):=(Rat.intCast_sub ..).symm
 have d1:Sm ((a.1-b.1:Int):Rat):=gD (k:=20) (by omega) (by decide)
 have d2:Sm ((a.2-b.2:Int):Rat):=gD (k:=20) (by omega) (by decide)
 have d3:Sm ((c.1-b.1:Int):Rat):=gD (k:=20) (by omega) (by decide)
 have d4:Sm ((c.2-b.2:Int):Rat):=gD (k:=20) (by omega) (by decide)
 rw[n1,n2,Rat.sub_self,z3,z3] at q1
 rw[n3,n4,Rat.sub_self,z3,z3] at q2
 have m1:=FT d1 d3
 have m2:=FT d2 d4
 rw[←Rat.intCast_mul] at m1 m2
 have k1:((a.1-b.1)*(c.1-b.1)).natAbs≤400:=by rw[Int.natAbs_mul];exact Nat.mul_le_mul (show (a.1-b.1).natAbs≤20 by omega) (show (c.1-b.1).natAbs≤20 by omega)
 have k2:((a.2-b.2)*(c.2-b.2)).natAbs≤400:=by rw[Int.natAbs_mul];exact Nat.mul_le_mul (show (a.2-b.2).natAbs≤20 by omega) (show (c.2-b.2).natAbs≤20 by omega)
 have s1:Sm (((a.1-b.1)*(c.1-b.1):Int):Rat):=gD k1 (by decide)
 have s2:Sm (((a.2-b.2)*(c.2-b.2):Int):Rat):=gD k2 (by decide)
 have a1:=ZD s1 s2
 rw[←Rat.intCast_add] at a1
 have s3:Sm (((a.1-b.1)*(c.1-b.1)+(a.2-b.2)*(c.2-b.2):Int):Rat):=gD (k:=800) (by omega) (by decide)
 have g1:=A3 s3.fit
 have o1:=ZN (a:=a) (b:=b) ⟨ha,b1,b2⟩ hc
 unfold mN
 simp -implicitDefEqProofs only[q1,q2,m1,m2,a1,g1,o1,bC,aL,aF]
 have hf:MW (cq a) (cq b) (cq c)↔lK (cr (cq a) (cq b) (cq c))=0∧0<lK (((a.1-b.1)*(c.1-b.1)+(a.2-b.2)*(c.2-b.2):Int):Rat):=by
  unfold MW
  have e:((cq a).1-(cq b).1)*((cq c).1-(cq b).1)+((cq a).2-(cq b).2)*((cq c).2-(cq b).2)=(((a.1-b.1)*(c.1-b.1)+(a.2-b.2)*(c.2-b.2):Int):Rat):=by
   unfold cq;dsimp only;rw[Rat.intCast_add,Rat.intCast_mul,Rat.intCast_mul,n1.symm,n2.symm,n3.symm,n4.symm]
  rw[e,IL]
  refine and_congr Iff.rfl ?_
  rcases tK (((a.1-b.1)*(c.1-b.1)+(a.2-b.2)*(c.2-b.2):Int):Rat) with⟨h,k⟩ | ⟨h,k⟩ | ⟨h,k⟩
  ·rw[h,k];exact⟨fun c=>absurd c (by decide),fun c=>absurd c (by decide)⟩
  ·rw[h];exact⟨fun c=>absurd c (by grind),fun c=>absurd c (by decide)⟩
  ·rw[h];exact⟨fun _=>by decide,fun _=>k⟩
 rw[jF hf,D8,D7,D7]
 generalize bP (lK (cr (cq a) (cq b) (cq c))=0)=x
 generalize bP (0<lK (((a.1-b.1)*(c.1-b.1)+(a.2-b.2)*(c.2-b.2):Int):Rat))=y
 cases x <;> cases y <;> rfl
end
def gR(l:List Z)(i j:Nat):Prop:=pB (cq (aV l i)) (cq (aV l (i+1))) (cq (aV l j)) (cq (aV l (j+1)))
def V9(l:List Z)(i:Nat):Prop:=∃j,i+2≤j∧j<(if 0<i then l.length else l.length-1)∧gR l i j
def J8(l:List Z)(i:Nat):Prop:=aV l i=aV l (i+1)∨MW (cq (aV l i)) (cq (aV l (i+1))) (cq (aV l (i+2)))∨V9 l i
def SI(l:List Z)(i j:Nat):List T×Int×Unit×Unit×Int×Int×Int×Bool×List T×List T×Bool×List T×List T×Bool×List T×List T×Bool×List T×List T×Bool×List T×List T×Bool×List T×List T×Unit:=(l.map wT,(i:Int),(),(),(j:Int),(l.length:Int),(i:Int),lit (aV l i) (aV l (i+1)) ())
section
variable {l:List Z} (hB:Bx l)
include hB
theorem Km{i:Nat}(hi:i<l.length)(k:Nat):aI iO (SI l i k)=some (bif bP (∃j,k≤j∧j<(if 0<i then l.length else l.length-1)∧gR l i j) then .inl (false,()) else .inr (.inl (l.map wT,(l.length:Int),(i:Int),()))):=by
 have h0:0<l.length:=by omega
 have hle:=hB.1
 have hn:(if 0<i then l.length else l.length-1)≤l.length:=by split <;> omega
 have hlen:lenL (l.map wT)=(l.length:Int):=by rw[aK,List.length_map]
 have key:∀j,j<(if 0<i then l.length else l.length-1)→iO (SI l i j)=some (bif bP (gR l i j) then .inr (.inl (false,())) else .inl (SI l i (j+1))):=fun j hj=>by
  have hjl:j<l.length:=by omega
  have e1:=IP hB hjl
  have m:=Pb (B3 hB h0 i (i+1)) (B3 hB h0 j (j+1)) (lR hB h0 (i+1)) (lR hB h0 (j+1))
  have wj:wr .i64 ((j:Int)+1)=((j+1:Nat):Int):=by rw[dK (by omega) (by omega)];push_cast;rfl
  have wn:wr .i64 ((l.length:Int)-1)=((l.length-1:Nat):Int):=by rw[dK (by omega) (by omega)];omega
  have d1:decide ((j:Int)<(l.length:Int))=true:=decide_eq_true (by omega)
  have hm:bP (gR l i j)=bP (pB (cq (aV l i)) (cq (aV l (i+1))) (cq (aV l j)) (cq (aV l (j+1)))):=rfl
  unfold iO SI
  by_cases hi0:0<i
  ·have d2:decide ((0:Int)<(i:Int))=true:=decide_eq_true (by omega)
   simp -implicitDefEqProofs only[aF,hlen,d1,d2,cond_true,e1,bC,m,wj,aJ,hm]
   cases bP (pB (cq (aV l i)) (cq (aV l (i+1))) (cq (aV l j)) (cq (aV l (j+1)))) <;> rfl
  ·have d2:decide ((0:Int)<(i:Int))=false:=decide_eq_false (by omega)
   rw[if_neg hi0] at hj
   have d3:decide ((j:Int)<((l.length-1:Nat):Int))=true:=decide_eq_true (by omega)
   simp -implicitDefEqProofs only[aF,hlen,d1,d2,d3,cond_true,cond_false,e1,bC,m,wj,wn,aJ,cB,hm]
   cases bP (pB (cq (aV l i)) (cq (aV l (i+1))) (cq (aV l j)) (cq (aV l (j+1)))) <;> rfl
 refine ET (SI l i) (if 0<i then l.length else l.length-1) (gR l i) _ _ (fun j hj hb=>by rw[key j hj,gN hb];rfl) (fun j hj hb=>by rw[key j hj,gF hb];rfl) (fun j hj=>?_) l.length k (by omega)
 have wn:wr .i64 ((l.length:Int)-1)=((l.length-1:Nat):Int):=by rw[dK (by omega) (by omega)];omega
 unfold iO SI
 by_cases hjl:j<l.length
 ·have d1:decide ((j:Int)<(l.length:Int))=true:=decide_eq_true (by omega)
  by_cases hi0:0<i
  ·rw[if_pos hi0] at hj;omega
  ·rw[if_neg hi0] at hj
   have d2:decide ((0:Int)<(i:Int))=false:=decide_eq_false (by omega)
   have d3:decide ((j:Int)<((l.length-1:Nat):Int))=false:=decide_eq_false (by omega)
   simp -implicitDefEqProofs only[aF,hlen,d1,d2,d3,cond_true,cond_false,wn,cB]
 ·have d1:decide ((j:Int)<(l.length:Int))=false:=decide_eq_false (by omega)
  simp -implicitDefEqProofs only[aF,hlen,d1,cond_false]
theorem Pe:tS (l.map wT,())=some (bP (3≤l.length∧¬∃i,i<l.length∧J8 l i),()):=by
 have hle:=hB.1
 have hlen:lenL (l.map wT)=(l.length:Int):=by rw[aK,List.length_map]
 unfold tS
 simp only[hlen,aF]
 by_cases h3:l.length<3
 ·rw[decide_eq_true (by omega:(l.length:Int)<3),gF (by omega)];rfl
 ·rw[decide_eq_false (by omega:¬(l.length:Int)<3),cond_false]
  have h0:0<l.length:=by omega
  have key:∀i,i<l.length→iP (l.map wT,(l.length:Int),(i:Int),())=some (bif bP (J8 l i) then .inr (.inl (false,())) else .inl (l.map wT,(l.length:Int),((i+1:Nat):Int),())):=fun i hi=>by
   have e1:=IP hB hi
   have hi1:(i+1)%l.length<l.length:=Nat.mod_lt _ h0
   have e2:=IP hB hi1
   have a1:aV l ((i+1)%l.length)=aV l (i+1):=by unfold aV;rw[Nat.mod_mod]
   have a2:aV l ((i+1)%l.length+1)=aV l (i+2):=by unfold aV;rw[Nat.mod_add_mod]
   rw[a1,a2] at e2
   have wi:wr .i64 ((i:Int)+1)=((i+1:Nat):Int):=by rw[dK (by omega) (by omega)];push_cast;rfl
   have wi2:wr .i64 ((i:Int)+2)=((i+2:Nat):Int):=by rw[dK (by omega) (by omega)];push_cast;rfl
   have hnz:nz (l.length:Int)=some (l.length:Int):=by unfold nz;rw[if_neg (by omega)]
   have hmod:((i+1:Nat):Int).tmod (l.length:Int)=(((i+1)%l.length:Nat):Int):=rfl
   have d1:decide ((i:Int)<(l.length:Int))=true:=decide_eq_true (by omega)
   have sp:=lR hB h0
   have s1:=Gn (n:=(aV l i).1) (m:=(aV l (i+1)).1) (by have:=(sp i).1;omega)
   have s2:=Gn (n:=(aV l i).2) (m:=(aV l (i+1)).2) (by have:=(sp i).2;omega)
   have f:=Pd (B3 hB h0 i (i+1)) (B3 hB h0 (i+1) (i+2)) (sp (i+2))
   have lp:=Km hB hi (i+2)
   unfold SI at lp
   have hbj:bP (V9 l i)=bP (∃j,i+2≤j∧j<(if 0<i then l.length else l.length-1)∧gR l i j):=rfl
   rw[←hbj] at lp
   unfold iP
   simp -implicitDefEqProofs only[aF,d1,cond_true,e1,bC,s1,s2,hlen,hnz,wi,wi2,aJ,pO,hmod,e2,f,lp]
   have hB':bP (J8 l i)=(bP (aV l i=aV l (i+1))||(bP (MW (cq (aV l i)) (cq (aV l (i+1))) (cq (aV l (i+2))))||bP (V9 l i))):=by unfold J8;rw[yL,yL]
   have hE:bP (aV l i=aV l (i+1))=(decide ((aV l i).1=(aV l (i+1)).1)&&decide ((aV l i).2=(aV l (i+1)).2)):=by
    rw[D7,D7,←D8]
    exact jF ⟨fun h=>by rw[h];exact⟨rfl,rfl⟩,fun h=>Prod.ext h.1 h.2⟩
   rw[hB',hE]
   generalize decide ((aV l i).1=(aV l (i+1)).1)=x1
   generalize decide ((aV l i).2=(aV l (i+1)).2)=x2
   generalize bP (MW (cq (aV l i)) (cq (aV l (i+1))) (cq (aV l (i+2))))=x3
   generalize bP (V9 l i)=x4
   cases x1 <;> cases x2 <;> cases x3 <;> cases x4 <;> simp -implicitDefEqProofs only[cond_true,cond_false,bC,aN,kQ,Bool.or_true,Bool.or_false,Bool.true_or,Bool.false_or,Bool.and_true,Bool.and_false,Bool.true_and,Bool.false_and,wi]
  have:=ET (F:=iP) (fun i=>(l.map wT,(l.length:Int),(i:Int),())) l.length (J8 l) (.inl (false,())) (.inr (.inl ())) (fun i hi hb=>by rw[key i hi,gN hb];rfl) (fun i hi hb=>by rw[key i hi,gF hb];rfl) (fun i hi=>by
   unfold iP
   simp only[aF,decide_eq_false (by omega:¬(i:Int)<(l.length:Int)),cond_false]) l.length 0 (by omega)
  have:aI iP (l.map wT,(l.length:Int),(0:Int),())=_:=this
  rw[this]
  have hb:bP (3≤l.length∧¬∃i,i<l.length∧J8 l i)=!(bP (∃j,0≤j∧j<l.length∧J8 l j)):=by
   rw[←J7]
   refine jF ⟨fun h c=>h.2 (c.imp fun j hj=>hj.2),fun h=>⟨by omega,fun c=>h (c.imp fun j hj=>⟨Nat.zero_le _,hj⟩)⟩⟩
  rw[hb]
  generalize bP (∃j,0≤j∧j<l.length∧J8 l j)=x
  cases x <;> rfl
end
end Go.Eng.Rt
namespace Go.Eng.Rt
open Go.Eng Go.Eng.Tw Go.Eng.Tm Go.Eng.Tg
theorem eN{S E:Type}{F:S→Option (S⊕E)}(st:Nat→S)(n:Nat)(bad:Nat→Prop)(hit out:E)(h1:∀k,k<n→bad k→F (st k)=some (.inr hit))(h2:∀k,k<n→¬bad k→F (st k)=some (.inl (st (k+1))))
 (h3:F (st n)=some (.inr out)):∀(d k:Nat),k+d=n→aI F (st k)=some (bif bP (∃j,k≤j∧j<n∧bad j) then hit else out)
 | 0,k,h=>by
  have:k=n:=by omega
  subst this
  rw[aO h3,gF (by rintro ⟨j,a,b,_⟩;omega)];rfl
 | d+1,k,h=>by
  by_cases hb:bad k
  ·rw[aO (h1 k (by omega) hb),gN ⟨k,Nat.le_refl _,by omega,hb⟩];rfl
  ·rw[dU (h2 k (by omega) hb),eN st n bad hit out h1 h2 h3 d (k+1) (by omega)]
   have:(∃j,k+1≤j∧j<n∧bad j)↔∃j,k≤j∧j<n∧bad j:=by
    constructor
    ·rintro ⟨j,a,b,c⟩;exact⟨j,by omega,b,c⟩
    ·rintro ⟨j,a,b,c⟩
     refine⟨j,?_,b,c⟩
     by_cases e:j=k
     ·subst e;exact absurd c hb
     ·omega
   rw[jF this]
def qs(l:List Z):List Q:=l.map cq
theorem tL(l:List Z):(qs l).length=l.length:=List.length_map ..
theorem sR{l:List Z}(h:0<l.length)(i:Nat):aV (qs l) i=cq (aV l i):=zE cq h i
theorem J9{l:List Z}{e:Ed}:e∈jK (qs l)↔∃i,i<l.length∧e=(cq (aV l i),cq (aV l (i+1))):=by
 rw[sF,tL]
 refine exists_congr fun i=>and_congr_right fun hi=>?_
 have h0:0<l.length:=by omega
 have e1:(qs l).getD i default=cq (aV l i):=by rw[←sR h0];unfold aV;rw[tL,Nat.mod_eq_of_lt hi]
 have e2:(qs l).getD ((i+1)%l.length) default=cq (aV l (i+1)):=by rw[←sR h0];unfold aV;rw[tL]
 rw[e1,e2]
theorem Uo{l:List Z}:jK (qs l)=(List.range l.length).map fun i=>(cq (aV l i),cq (aV l (i+1))):=by
 unfold jK
 rw[tL]
 refine List.map_congr_left fun i hi=>?_
 have hi:=List.mem_range.1 hi
 have h0:0<l.length:=by omega
 have e1:(qs l).getD i default=cq (aV l i):=by rw[←sR h0];unfold aV;rw[tL,Nat.mod_eq_of_lt hi]
 have e2:(qs l).getD ((i+1)%l.length) default=cq (aV l (i+1)):=by rw[←sR h0];unfold aV;rw[tL]
 rw[e1,e2]
noncomputable def wE(l:List Z)(p:Q)(i:Nat):Int:=we p (cq (aV l i),cq (aV l (i+1)))
theorem WA(l:List Z)(p:Q):wd (jK (qs l)) p=uO l.length (wE l p):=by
 unfold wd uO
 rw[Uo,List.map_map]
 rfl
theorem Pf(p:Q)(e:Ed):-1≤we p e∧we p e≤1:=by
 unfold we
 split
 ·exact⟨by decide,by decide⟩
 ·split <;> exact⟨by decide,by decide⟩
theorem WB(f:Nat→Int)(h:∀i,-1≤f i∧f i≤1):∀n:Nat,-(n:Int)≤uO n f∧uO n f≤n
 | 0=>by
  have:uO 0 f=0:=rfl
  rw[this];omega
 | n+1=>by
  have:=WB f h n
  have:=h n
  rw[mS];omega
theorem Dd(l:List Z)(p:Q):(wd (jK (qs l)) p).natAbs≤l.length:=by
 rw[WA]
 have:=WB (wE l p) (fun i=>Pf _ _) l.length
 omega
def OnB(l:List Z)(p:Q)(i:Nat):Prop:=On (cq (aV l i)) (cq (aV l (i+1))) p
theorem Pg{l:List Z}{p:Q}:EY (jK (qs l)) p↔∃j,0≤j∧j<l.length∧OnB l p j:=by
 constructor
 ·rintro ⟨e,he,h⟩
  obtain⟨i,hi,rfl⟩:=J9.1 he
  exact⟨i,Nat.zero_le _,hi,h⟩
 ·rintro ⟨i,_,hi,h⟩
  exact⟨_,J9.2 ⟨i,hi,rfl⟩,h⟩
theorem Zg{a b p:Q}{n:Int}(hn:n.natAbs≤1000000):Rg (decide (kO a.2 p.2≤0)) (decide (kO b.2 p.2≤0)) (lK (cr a b p)) n=n+we p (a,b):=by
 have w1:wr .i64 (n+1)=n+1:=dK (by omega) (by omega)
 have w2:wr .i64 (n-1)=n-1:=dK (by omega) (by omega)
 unfold Rg we
 dsimp only
 by_cases ha:a.2≤p.2
 ·rw[decide_eq_true (sD.2 ha)]
  by_cases hb:b.2≤p.2
  ·rw[decide_eq_true (sD.2 hb),if_neg (by rintro ⟨_,h,_⟩;grind),if_neg (by rintro ⟨_,h,_⟩;grind)]
   show n=_;omega
  ·rw[decide_eq_false (fun c=>hb (sD.1 c))]
   rcases tK (cr a b p) with⟨h,k⟩ | ⟨h,k⟩ | ⟨h,k⟩
   ·rw[h,if_neg (by rintro ⟨_,_,h⟩;grind),if_neg (by rintro ⟨_,h,_⟩;grind)];show n=_;omega
   ·rw[h,if_neg (by rintro ⟨_,_,h⟩;grind),if_neg (by rintro ⟨_,h,_⟩;grind)];show n=_;omega
   ·rw[h,if_pos ⟨ha,by grind,k⟩];show wr .i64 (n+1)=_;rw[w1]
 ·rw[decide_eq_false (fun c=>ha (sD.1 c))]
  by_cases hb:b.2≤p.2
  ·rw[decide_eq_true (sD.2 hb),if_neg (fun h=>ha h.1)]
   rcases tK (cr a b p) with⟨h,k⟩ | ⟨h,k⟩ | ⟨h,k⟩
   ·rw[h,if_neg (by rintro ⟨_,_,h⟩;grind)];show n=_;omega
   ·rw[h,if_pos ⟨hb,by grind,k⟩];show wr .i64 (n-1)=_;rw[w2];omega
   ·rw[h,if_neg (by rintro ⟨_,_,h⟩;grind)];show n=_;omega
  ·rw[decide_eq_false (fun c=>hb (sD.1 c)),if_neg (fun h=>ha h.1),if_neg (fun h=>hb h.1)]
   show n=_;omega
section
variable {l:List Z} (hB:Bx l) {D:Nat} {px py pz:Rat}
include hB
theorem Ph{i:Nat}(hi:i<l.length):Rg (decide (kO ((pF l i).2:Rat) py≤0)) (decide (kO ((pF l ((i+1)%l.length)).2:Rat) py≤0)) (sE (pF l i) (pF l ((i+1)%l.length)) px py) (uO i (wE l (px,py)))=uO (i+1) (wE l (px,py)):=by
 have h1:=WB (wE l (px,py)) (fun i=>Pf _ _) i
 have hle:=hB.1
 rw[←Db hi,←V8 hi,mS]
 unfold sE
 rw[Um]
 exact Zg (a:=cq (aV l i)) (b:=cq (aV l (i+1))) (p:=(px,py)) (by omega)
omit hB in
theorem Gp{i:Nat}(hi:i<l.length):Fz (((pF l ((i+1)%l.length)).1-(pF l i).1:Int):Rat) (((pF l ((i+1)%l.length)).2-(pF l i).2:Int):Rat) (px-(pF l i).1) (py-(pF l i).2)=bP (OnB l (px,py) i):=by
 rw[←Db hi,←V8 hi,Zf];rfl
theorem Pi(hp:Pp D 32 px py pz):lE (l.map wT,c3 px (c3 py (c3 pz ())))=some (bif bP (EY (jK (qs l)) (px,py)) then (0,false,()) else (wd (jK (qs l)) (px,py),true,())):=by
 have hpl:((l.map wT).length:Int)=(l.length:Int):=by rw[List.length_map]
 have h:=eN (F:=gW) (fun i=>PS l px py pz i (uO i (wE l (px,py)))) l.length (OnB l (px,py)) (.inl (0,false,())) (.inr (.inl (wd (jK (qs l)) (px,py),())))
  (fun i hi hb=>by rw[Wh hB hi _ hp,Gp hi,gN hb];rfl)
  (fun i hi hb=>by rw[Wh hB hi _ hp,Gp hi,gF hb,Ph hB hi];rfl)
  (by
   unfold gW PS
   rw[WA]
   simp only[aF,decide_eq_false (by omega:¬(l.length:Int)<(l.length:Int)),cond_false]) l.length 0 (by omega)
 have h:aI gW (l.map wT,(),(0:Int),(l.length:Int),(0:Int),c3 px (c3 py (c3 pz ())))=_:=h
 rw[←jF Pg] at h
 unfold lE
 simp only[aK,hpl]
 rw[h]
 generalize bP (EY (jK (qs l)) (px,py))=b
 cases b <;> rfl
theorem Zh(hp:Pr D px py pz):fX (l.map wT,c3 px (c3 py (c3 pz ())))=some (bif bP (EY (jK (qs l)) (px,py)) then (0,false,()) else (wd (jK (qs l)) (px,py),true,())):=by
 have hpl:((l.map wT).length:Int)=(l.length:Int):=by rw[List.length_map]
 have h:=eN (F:=gL) (fun i=>RS l px py pz i (uO i (wE l (px,py)))) l.length (OnB l (px,py)) (.inl (0,false,())) (.inr (.inl (wd (jK (qs l)) (px,py),())))
  (fun i hi hb=>by rw[Wi hB hi _ hp,Gp hi,gN hb];rfl)
  (fun i hi hb=>by rw[Wi hB hi _ hp,Gp hi,gF hb,Ph hB hi];rfl)
  (by
   unfold gL RS
   rw[WA]
   simp only[aF,aK,hpl,decide_eq_false (by omega:¬(l.length:Int)<(l.length:Int)),cond_false]) l.length 0 (by omega)
 have h:aI gL (l.map wT,(),(0:Int),(0:Int),c3 px (c3 py (c3 pz ())))=_:=h
 rw[←jF Pg] at h
 unfold fX
 rw[h]
 generalize bP (EY (jK (qs l)) (px,py))=b
 cases b <;> rfl
end
theorem Up{l:List Z}(hB:Bx l){p:Z}(hp:Sp p):lE (l.map wT,pt p)=some (bif bP (EY (jK (qs l)) (cq p)) then (0,false,()) else (wd (jK (qs l)) (cq p),true,())):=by
 have:=Pi hB (TP hp).up;rw[TO] at this;exact this
theorem Gq{l:List Z}(hB:Bx l){p:Z}(hp:Sp p):fX (l.map wT,pt p)=some (bif bP (EY (jK (qs l)) (cq p)) then (0,false,()) else (wd (jK (qs l)) (cq p),true,())):=by
 have:=Zh hB (TP hp);rw[TO] at this;exact this
def Mt(l m:List Z)(i j:Nat):Prop:=pB (cq (aV l i)) (cq (aV l (i+1))) (cq (aV m j)) (cq (aV m (j+1)))
def Zi(l m:List Z)(i:Nat):Prop:=∃j,0≤j∧j<m.length∧Mt l m i j
def TR(l m:List Z):Prop:=∃i,0≤i∧i<l.length∧Zi l m i
theorem KA{l m:List Z}:¬TR l m↔Apart (jK (qs l)) (jK (qs m)):=by
 constructor
 ·intro h e he f hf hm
  obtain⟨i,hi,rfl⟩:=J9.1 he
  obtain⟨j,hj,rfl⟩:=J9.1 hf
  exact h ⟨i,Nat.zero_le _,hi,j,Nat.zero_le _,hj,hm⟩
 ·rintro h ⟨i,_,hi,j,_,hj,hm⟩
  exact h _ (J9.2 ⟨i,hi,rfl⟩) _ (J9.2 ⟨j,hj,rfl⟩) hm
section
variable {l m:List Z} (hl:Bx l) (hm:Bx m)
include hl hm
theorem Uq:vQ (l.map wT,m.map wT,())=some (!(bP (TR l m)),()):=by
 have b1:=hl.1
 have b2:=hm.1
 have h1:lenL (l.map wT)=(l.length:Int):=by rw[aK,List.length_map]
 have h2:lenL (m.map wT)=(m.length:Int):=by rw[aK,List.length_map]
 have inn:∀i,i<l.length→aI jR (l.map wT,m.map wT,(i:Int),(l.length:Int),(i:Int),(m.length:Int),(0:Int),())=some (bif bP (Zi l m i) then .inl (false,()) else .inr (.inl (l.map wT,m.map wT,(l.length:Int),(i:Int),()))):=fun i hi=>by
  have key:∀j,j<m.length→jR (l.map wT,m.map wT,(i:Int),(l.length:Int),(i:Int),(m.length:Int),(j:Int),())=some (bif bP (Mt l m i j) then .inr (.inl (false,())) else .inl (l.map wT,m.map wT,(i:Int),(l.length:Int),(i:Int),(m.length:Int),((j+1:Nat):Int),())):=fun j hj=>by
   have e1:=IP hl hi
   have e2:=IP hm hj
   have mt:=Pb (B3 hl (by omega) i (i+1)) (B3 hm (by omega) j (j+1)) (lR hl (by omega) (i+1)) (lR hm (by omega) (j+1))
   have wj:wr .i64 ((j:Int)+1)=((j+1:Nat):Int):=by rw[dK (by omega) (by omega)];push_cast;rfl
   have hb:bP (Mt l m i j)=bP (pB (cq (aV l i)) (cq (aV l (i+1))) (cq (aV m j)) (cq (aV m (j+1)))):=rfl
   unfold jR
   simp -implicitDefEqProofs only[aF,decide_eq_true (by omega:(j:Int)<(m.length:Int)),cond_true,e1,e2,bC,mt,wj,aJ,hb]
   generalize bP (pB (cq (aV l i)) (cq (aV l (i+1))) (cq (aV m j)) (cq (aV m (j+1))))=b
   cases b <;> rfl
  exact eN (F:=jR) (fun j=>(l.map wT,m.map wT,(i:Int),(l.length:Int),(i:Int),(m.length:Int),(j:Int),())) m.length (Mt l m i) _ _ (fun j hj hb=>by rw[key j hj,gN hb];rfl) (fun j hj hb=>by rw[key j hj,gF hb];rfl) (by
   unfold jR
   simp only[aF,decide_eq_false (by omega:¬(m.length:Int)<(m.length:Int)),cond_false]) m.length 0 (by omega)
 have out:=eN (F:=jS) (fun i=>(l.map wT,m.map wT,(l.length:Int),(i:Int),())) l.length (Zi l m) (.inl (false,())) (.inr (.inl ()))
  (fun i hi hb=>by
   unfold jS
   simp only[aF,decide_eq_true (by omega:(i:Int)<(l.length:Int)),cond_true,h2,inn i hi,gN hb,bC,aN])
  (fun i hi hb=>by
   have wi:wr .i64 ((i:Int)+1)=((i+1:Nat):Int):=by rw[dK (by omega) (by omega)];push_cast;rfl
   unfold jS
   simp only[aF,decide_eq_true (by omega:(i:Int)<(l.length:Int)),cond_true,h2,inn i hi,gF hb,cond_false,bC,aN,kQ,aJ,wi])
  (by
   unfold jS
   simp only[aF,decide_eq_false (by omega:¬(l.length:Int)<(l.length:Int)),cond_false]) l.length 0 (by omega)
 have out:aI jS (l.map wT,m.map wT,(l.length:Int),(0:Int),())=_:=out
 unfold vQ
 simp only[h1]
 rw[out]
 have hb:bP (∃j,0≤j∧j<l.length∧Zi l m j)=bP (TR l m):=rfl
 rw[hb]
 generalize bP (TR l m)=b
 cases b <;> rfl
end
end Go.Eng.Rt
namespace Go.Eng
theorem Gr(a:Int){b:Int}(h:0<b):-b<a.tmod b:=by
 rcases Int.lt_or_le a 0 with ha | ha
 ·have h1:(-(-a)).tmod b=-((-a).tmod b):=Int.neg_tmod (-a) b
  rw[Int.neg_neg] at h1
  have h2:(-a).tmod b<b:=by rw[Int.tmod_eq_emod_of_nonneg (by omega)];exact Int.emod_lt_of_pos _ h
  omega
 ·have:0≤a.tmod b:=by rw[Int.tmod_eq_emod_of_nonneg ha];exact Int.emod_nonneg _ (by omega)
  omega
theorem Gs(a:Int){b:Int}(h:0<b):a.tmod b<b:=by
 rcases Int.lt_or_le a 0 with ha | ha
 ·have h1:(-(-a)).tmod b=-((-a).tmod b):=Int.neg_tmod (-a) b
  rw[Int.neg_neg] at h1
  have h2:0≤(-a).tmod b:=by rw[Int.tmod_eq_emod_of_nonneg (by omega)];exact Int.emod_nonneg _ (by omega)
  omega
 ·rw[Int.tmod_eq_emod_of_nonneg ha];exact Int.emod_lt_of_pos _ h
def WC(a n:Int):Int:=if a.tmod n<0 then a.tmod n+n else a.tmod n
theorem Gt(a:Int){n:Int}(h:0<n):0≤WC a n:=by
 unfold WC
 have:=Gr a h
 split <;> omega
theorem Gu(a:Int){n:Int}(h:0<n):WC a n<n:=by
 unfold WC
 have:=Gs a h
 split <;> omega
theorem Pj(a:Int){n:Int}(h1:0<n)(h2:n≤4611686018427387904):eZ (a,n,())=some (WC a n,()):=by
 unfold eZ WC
 have:=Gr a h1
 have:=Gs a h1
 rw[N7 (show n≠0 by omega)]
 simp only[bC,pO,aF,aJ]
 by_cases h:a.tmod n<0
 ·rw[decide_eq_true h,if_pos h,sK (by omega) (by omega)];rfl
 ·rw[decide_eq_false h,if_neg h];rfl
def De(z:Int):T:=.v (.int .i64 z)
def uZ(L:List T)(a:Int):Prop:=∃zs:List Int,L=zs.map De∧zs.length≤1000000∧0≤a∧a≤zs.length
theorem GS{L:List T}{a:Int}(h:uZ L a){n:Int}(h1:0<n)(h2:n≤4611686018427387904):
 ∃v a',aS ((),n,L,a,())=some (v,L,a',())∧0≤v∧v<n∧uZ L a':=by
 obtain⟨zs,rfl,hz,ha0,ha1⟩:=h
 unfold aS
 simp only[kH,aK,List.length_map,aJ,cB]
 by_cases hc:(zs.length:Int)≤a
 ·rw[decide_eq_true hc]
  exact⟨0,a,rfl,Int.le_refl _,h1,zs,rfl,hz,ha0,ha1⟩
 ·rw[decide_eq_false hc]
  obtain⟨i,rfl⟩:=Int.eq_ofNat_of_zero_le ha0
  have hi:i<zs.length:=by omega
  rw[sK (n:=(i:Int)+1) (by omega) (by omega),sK (n:=(i:Int)+1-1) (by omega) (by omega),Int.add_sub_cancel,bY,List.getElem?_map,List.getElem?_eq_getElem hi]
  simp only[cond_false,Option.map_some,bC,De,Mn,aBM,Pj _ h1 h2]
  exact⟨_,_,rfl,Gt _ h1,Gu _ h1,zs,rfl,hz,by omega,by omega⟩
theorem Ur(L:List T):fO (L,())=some (decide (L.length≤500),()):=by
 unfold fO
 simp only[kH,aK]
 congr 2
 rw[Bool.eq_iff_iff];simp;omega
end Go.Eng
namespace Go.Eng.Rt
open Go.Eng Go.Eng.Tm
def DS(L:List T)(a x y r:Int)(turn:Bool)(i:Int)(l:List T):(Unit×Int×Int×Int×Unit×List T×Bool×Int×List T×Int×Int×Int×Int×Int×Int×Int×Int×Int×Int×Int×Int×Int×Int×Int×Int×Int×Unit):=
 ((),x,y,r,(),l,turn,i,L,a,2,0,2,1,1,2,-1,2,-2,0,-2,-1,0,-2,1,-1,())
def SmS(x y:Int)(ps:List (Int×Int)):Prop:=∀p∈ps,(p.1-x).natAbs≤10∧(p.2-y).natAbs≤10
end Go.Eng.Rt
namespace Go.Eng.Rt
open Go.Eng Go.Eng.Tw Go.Eng.Tm
def Ws(l:List (Int×Int))(i:Nat):(List T×Unit×Unit×Int×Bool×T×T×Bool×List T×List T×Unit):=
 (l.map wT,(),(),(i:Int),false,.v (.slice none 0 0),.v (.slice none 0 0),aM (pM l i:Rat),aU (pM l i:Rat),aY (pM l i:Rat),())
theorem Dg{l:List (Int×Int)}(hl:∀p∈l,Uc p)(hn:l.length≤1000){i:Nat}(hi:i<l.length):jQ (Ws l i)=some (.inl (Ws l (i+1))):=by
 have hj:(i+1)%l.length<l.length:=Nat.mod_lt _ (by omega)
 obtain⟨e1,m1⟩:=xF hi
 obtain⟨e2,m2⟩:=xF hj
 have hb:=A4 hl (i:=i) (by omega)
 have hc:=J6 (hl _ m1) (hl _ m2)
 have wi:wr .i64 ((i:Int)+1)=((i+1:Nat):Int):=by rw[dK (by omega) (by omega)];push_cast;rfl
 have hlt:decide ((i:Int)<(l.length:Int))=true:=decide_eq_true (by omega)
 have hpl:((l.map wT).length:Int)=(l.length:Int):=by rw[List.length_map]
 have hnz:nz (l.length:Int)=some (l.length:Int):=by unfold nz;rw[if_neg (by omega)]
 have hmod:((i+1:Nat):Int).tmod (l.length:Int)=(((i+1)%l.length:Nat):Int):=rfl
 have hs:pM l (i+1)=pM l i+QT (pF l i) (pF l ((i+1)%l.length)):=rfl
 generalize pF l i=p at *
 generalize pF l ((i+1)%l.length)=q at *
 have hgp:(l.map wT)[i]?=some (wT p):=by simp[e1]
 have hgq:(l.map wT)[(i+1)%l.length]?=some (wT q):=by simp[e2]
 obtain⟨a0,a1,a2,a3,a4,a5,a6,a7,a8⟩:=cells p
 obtain⟨d0,d1,d2,d3,d4,d5,d6,d7,d8⟩:=cells q
 have sp:=hl _ m1
 have sq:=hl _ m2
 have sm:∀{n:Int},n.natAbs<100→Sm (n:Rat):=fun h=>kP (by omega)
 have k1:(p.1*q.2).natAbs≤10000:=by
  rw[Int.natAbs_mul]
  exact Nat.mul_le_mul (show _≤100 from Nat.le_of_lt sp.1) (show _≤100 from Nat.le_of_lt sq.2)
 have k2:(q.1*p.2).natAbs≤10000:=by
  rw[Int.natAbs_mul]
  exact Nat.mul_le_mul (show _≤100 from Nat.le_of_lt sq.1) (show _≤100 from Nat.le_of_lt sp.2)
 have f1:=sC (sm sp.1) (sm sq.2)
 have f2:=sC (sm sq.1) (sm sp.2)
 rw[←Rat.intCast_mul] at f1 f2
 have f3:=GP (kP (n:=p.1*q.2) (by omega)) (kP (n:=q.1*p.2) (by omega))
 rw[←Rat.intCast_sub] at f3
 have f4:=P6 (kP (n:=pM l i) (by omega)) (kP (n:=QT p q) (by omega))
 rw[←Rat.intCast_add,←hs] at f4
 unfold QT at f4
 unfold jQ
 conv=>lhs;unfold Ws
 simp only[aF,aK,hpl,hlt,cond_true,hnz,pO,aJ,wi,hmod,bY,hgp,hgq,bC,a0,a1,a2,a3,a4,a5,d0,d1,d2,d3,d4,d5,f1,f2,f3,f4]
 rfl
theorem Pk{l:List (Int×Int)}(hl:∀p∈l,Uc p)(hn:l.length≤1000):gO (l.map wT,())=some (aM (gQ l:Rat),aU (gQ l:Rat),aY (gQ l:Rat),()):=by
 have h:=eQ (F:=jQ) l.length (Ws l) fun i hi=>Dg hl hn hi
 have hpl:((l.map wT).length:Int)=(l.length:Int):=by rw[List.length_map]
 have fold:(l.map wT,(),(),(0:Int),false,T.v (Value.slice none 0 0),T.v (Value.slice none 0 0),false,([]:List T),([]:List T),())=Ws l 0:=by
  have e:((pM l 0:Int):Rat)=0:=rfl
  unfold Ws
  rw[e,wA,wB,wC];rfl
 have hout:aI jQ (Ws l l.length)=some (.inl ((),(),false,T.v (Value.slice none 0 0),T.v (Value.slice none 0 0),aM (pM l l.length:Rat),aU (pM l l.length:Rat),aY (pM l l.length:Rat),())):=by
  refine aO ?_
  have hlt:decide ((l.length:Int)<(l.length:Int))=false:=decide_eq_false (by omega)
  unfold jQ Ws
  simp only[aF,aK,hpl,hlt,cond_false]
 rw[←ES]
 unfold gO
 simp only[fold,h,hout,bC,aN]
theorem ZP{l:List (Int×Int)}(hl:∀p∈l,Uc p):(gQ l).natAbs≤20000*l.length:=by
 rw[←ES];exact A4 hl (Nat.le_refl _)
end Go.Eng.Rt
namespace Go.Eng.Rt
open Go.Eng Go.Eng.Tm
theorem aCH(a0 a1 a2 a3 a4 a5 a6 a7 a8 b0 b1 b2 b3 b4 b5 b6 b7 b8:T):T.upd 9 (.agg [a0,a1,a2,a3,a4,a5,a6,a7,a8]) 0 [b0,b1,b2,b3,b4,b5,b6,b7,b8]=.agg [b0,b1,b2,b3,b4,b5,b6,b7,b8]:=by
 unfold T.upd;rfl
def lT(l:List (Int×Int)):T:=.sl 9 (l.map wT)
def A6(ls:List (List (Int×Int))):Prop:=∀l∈ls,Bx l
end Go.Eng.Rt
namespace Go.Eng.Rt
open Go.Eng Go.Eng.Tw Go.Eng.Tm
theorem Gv{x y:Int}(hx:x.natAbs≤100)(hy:y.natAbs≤100):bD (x,y,())=some (aM (x:Rat),aU (x:Rat),aY (x:Rat),aM (y:Rat),aU (y:Rat),aY (y:Rat),false,[],[],()):=by
 unfold bD
 simp only[LO (n:=x) (by omega) (by omega),LO (n:=y) (by omega) (by omega),bC]
theorem Pl(x y:Int):T.agg [T.v (.bool (aM (x:Rat))),.sl 1 (aU (x:Rat)),.sl 1 (aY (x:Rat)),.v (.bool (aM (y:Rat))),.sl 1 (aU (y:Rat)),.sl 1 (aY (y:Rat)),.v (.bool false),.sl 1 [],.sl 1 []]=wT (x,y):=rfl
theorem QG(a b c d x:T):[a,b,c,d].set 1 x=[a,x,c,d]:=rfl
theorem st3(a b c d x:T):[a,b,c,d].set 3 x=[a,b,c,x]:=rfl
theorem w0(p:Int×Int):T.bool? (T.cell (wT p) 0)=some (aM (p.1:Rat)):=(cells p).1
theorem w1(p:Int×Int):T.sl? 1 (T.cell (wT p) 1)=some (aU (p.1:Rat)):=(cells p).2.1
theorem w2(p:Int×Int):T.sl? 1 (T.cell (wT p) 2)=some (aY (p.1:Rat)):=(cells p).2.2.1
theorem w3(p:Int×Int):T.bool? (T.cell (wT p) 3)=some (aM (p.2:Rat)):=(cells p).2.2.2.1
theorem w4(p:Int×Int):T.sl? 1 (T.cell (wT p) 4)=some (aU (p.2:Rat)):=(cells p).2.2.2.2.1
theorem w5(p:Int×Int):T.sl? 1 (T.cell (wT p) 5)=some (aY (p.2:Rat)):=(cells p).2.2.2.2.2.1
theorem w6(p:Int×Int):T.bool? (T.cell (wT p) 6)=some false:=(cells p).2.2.2.2.2.2.1
theorem w7(p:Int×Int):T.sl? 1 (T.cell (wT p) 7)=some []:=(cells p).2.2.2.2.2.2.2.1
theorem w8(p:Int×Int):T.sl? 1 (T.cell (wT p) 8)=some []:=(cells p).2.2.2.2.2.2.2.2
end Go.Eng.Rt
namespace Go.Eng.Rt
open Go.Eng Go.Eng.Tw Go.Eng.Tm Go.Eng.Tg
theorem WD{n:Nat}(hn:n<1000000)(h:n≠0):lm n=[gA n]:=tJ h (by unfold BB;omega)
theorem ZQ{n:Nat}(hn:n<1000000):jO (lm n,())=some (true,()):=by
 unfold jO
 by_cases h:n=0
 ·subst h;rw[mA];simp only[aK,List.length_nil,aL];rfl
 ·rw[WD hn h]
  have e:lenL [gA n]=1:=by rw[aK];rfl
  have w:wr .i64 ((1:Int)-1)=((0:Nat):Int):=by rw[dK (by decide) (by decide)];rfl
  have g:T.int? .u32 (T.cell (gA n) 0)=some (n:Int):=rfl
  simp only[e,aL,cB,w,bY]
  have hx:[gA n][0]?=some (gA n):=rfl
  simp only[hx,bC,g,decide_eq_false (show ¬(n:Int)=0 by omega)]
  rfl
theorem ZR{n:Nat}(hn:n<1000000):kK (lm n,())=some (true,()):=by
 unfold kK
 by_cases h:n=0
 ·subst h;rw[mA];simp only[aK,List.length_nil,aL];rfl
 ·rw[WD hn h]
  have e:lenL [gA n]=1:=by rw[aK];rfl
  have w:wr .i64 ((1:Int)-1)=((0:Nat):Int):=by rw[dK (by decide) (by decide)];rfl
  have g:T.int? .u32 (T.cell (gA n) 0)=some (n:Int):=rfl
  simp only[e,aL,cB,w,bY]
  have hx:[gA n][0]?=some (gA n):=rfl
  simp only[hx,bC,g,decide_eq_false (show ¬(n:Int)=0 by omega)]
  rfl
theorem WE(n:Int):aU (n:Rat)=lm n.natAbs:=by unfold aU;rw[Rat.num_intCast]
theorem Pm{n:Int}(hn:n.natAbs<1000000):oS (aM (n:Rat),aU (n:Rat),aY (n:Rat),())=some (true,()):=by
 have e0:jO (([]:List T),())=some (true,()):=by have:=ZQ (n:=0) (by decide);rwa[mA] at this
 have l0:lenL ([]:List T)=0:=by rw[aK];rfl
 unfold oS
 rw[D9,WE]
 simp only[ZQ hn,e0,bC,Bool.not_true,cond_false,l0,aL]
 by_cases h:n=0
 ·subst h
  have:lenL (lm (0:Int).natAbs)=0:=by rw[show (0:Int).natAbs=0 from rfl,mA,l0]
  rw[this,show aM ((0:Int):Rat)=false from rfl];simp
 ·have:lenL (lm n.natAbs)≠0:=by rw[aK];intro c;exact h (by have:=yJ.1 (by omega:(lm n.natAbs).length=0);omega)
  rw[decide_eq_false this];rfl
theorem AA{n:Int}(hn:n.natAbs<1000000):kL (aM (n:Rat),aU (n:Rat),aY (n:Rat),())=some (true,()):=by
 have e0:kK (([]:List T),())=some (true,()):=by have:=ZR (n:=0) (by decide);rwa[mA] at this
 have l0:lenL ([]:List T)=0:=by rw[aK];rfl
 have hD:=TH (n:Rat)
 rw[D9,WE,Rat.den_intCast] at hD
 have hG:iJ (lm n.natAbs,lm 1,())=some (lm 1,()):=by
  have:=We (a:=n.natAbs) (b:=1) (by unfold eW;omega) (by decide)
  rwa[Nat.gcd_one_right] at this
 have h1:lm 1=[gA 1]:=WD (by decide) (by decide)
 unfold kL
 rw[D9,WE]
 simp only[ZR hn,e0,bC,Bool.not_true,cond_false,l0,aL,hD,hG]
 have e1:lenL (lm 1)=1:=by rw[h1,aK];rfl
 have i1:bG (lm 1) 0=some (gA 1):=by rw[h1,show (0:Int)=((0:Nat):Int) from rfl,bY];rfl
 have g:T.int? .u32 (T.cell (gA 1) 0)=some 1:=rfl
 simp only[e1,i1,bC,g]
 by_cases h:n=0
 ·subst h
  have:lenL (lm (0:Int).natAbs)=0:=by rw[show (0:Int).natAbs=0 from rfl,mA,l0]
  have hng:aM ((0:Int):Rat)=false:=rfl
  rw[this,hng];simp[aF]
 ·have:lenL (lm n.natAbs)≠0:=by rw[aK];intro c;exact h (by have:=yJ.1 (by omega:(lm n.natAbs).length=0);omega)
  rw[decide_eq_false this];simp[aF]
theorem EU:aM ((0:Int):Rat)=false∧aU ((0:Int):Rat)=[]∧aY ((0:Int):Rat)=[]:=⟨rfl,DY,DZ⟩
abbrev pN(n:Int):T:=.agg [.v (.bool (aM (n:Rat))),.sl 1 (aU (n:Rat)),.sl 1 (aY (n:Rat))]
theorem Gw{p:Z}{z:Int}(hp:p.1.natAbs<1000000∧p.2.natAbs<1000000)(hz:z.natAbs<1000000):bQ ([pN p.1,pN p.2,pN z],(),())=some (false,()):=by
 have key:∀(L:List T) (k:Nat) (n:Int),n.natAbs<1000000→L[k]?=some (pN n)→(k:Int)<(L.length:Int)→L.length<1000 →
  bE (L,(),(L.length:Int),(k:Int),())=some (.inl (L,(),(L.length:Int),((k+1:Nat):Int),())):=fun L k n hn hk hlt hL=>by
  have wk:wr .i64 ((k:Int)+1)=((k+1:Nat):Int):=by rw[dK (by omega) (by omega)];push_cast;rfl
  have v:=Pm hn
  have c0:T.bool? (T.cell (pN n) 0)=some (aM (n:Rat)):=rfl
  have c1:T.sl? 1 (T.cell (pN n) 1)=some (aU (n:Rat)):=tA _ _
  have c2:T.sl? 1 (T.cell (pN n) 2)=some (aY (n:Rat)):=tA _ _
  unfold bE wZ
  simp -implicitDefEqProofs only[aF,decide_eq_true hlt,cond_true,bY,hk,bC,c0,c1,c2,v,Bool.not_true,cond_false,aJ,wk]
 have h:=eQ (F:=bE) 3 (fun k=>([pN p.1,pN p.2,pN z],(),(3:Int),(k:Int),())) fun k hk=>by
  have h1:=hp.1
  have h2:=hp.2
  match k,hk with
  | 0,_=>exact key [pN p.1,pN p.2,pN z] 0 p.1 (by omega) rfl (by simp only[List.length_cons,List.length_nil];omega) (by simp only[List.length_cons,List.length_nil];omega)
  | 1,_=>exact key [pN p.1,pN p.2,pN z] 1 p.2 (by omega) rfl (by simp only[List.length_cons,List.length_nil];omega) (by simp only[List.length_cons,List.length_nil];omega)
  | 2,_=>exact key [pN p.1,pN p.2,pN z] 2 z hz rfl (by simp only[List.length_cons,List.length_nil];omega) (by simp only[List.length_cons,List.length_nil];omega)
 have hout:aI bE ([pN p.1,pN p.2,pN z],(),(3:Int),((3:Nat):Int),())=some (.inr (.inl ())):=aO (by
  unfold bE
  simp only[aF,decide_eq_false (by omega:¬((3:Nat):Int)<3),cond_false])
 rw[hout] at h
 have h:aI bE ([pN p.1,pN p.2,pN z],(),(3:Int),(0:Int),())=some (.inr (.inl ())):=h
 have l3:lenL [pN p.1,pN p.2,pN z]=3:=by rw[aK];rfl
 unfold bQ eL
 simp only[l3]
 rw[h]
 simp only[bC,aN,kQ,kH]
 rfl
theorem Zj{p:Z}(hp:p.1.natAbs<1000000∧p.2.natAbs<1000000):bQ ([pN p.1,pN p.2,T.agg [(T.v (.bool false)),(T.sl 1 []),(T.sl 1 [])]],(),())=some (false,()):=by
 have hz:T.agg [(T.v (.bool false)),(T.sl 1 []),(T.sl 1 [])]=pN 0:=by unfold pN;rw[EU.1,EU.2.1,EU.2.2]
 rw[hz]
 exact Gw hp (by decide)
theorem B4(l:List (Int×Int)):T.sl? 9 (T.cell (lT l) 0)=some (l.map wT):=tA 9 _
theorem TS(l:List (Int×Int)):T.rw? 9 (T.cell (lT l) 0)=some (l.map wT):=Xv (by decide) (B4 l)
theorem A7(l:List (Int×Int)):T.sl? 9 (lT l)=some (l.map wT):=by unfold lT T.sl?;exact if_pos rfl
theorem GT(l:List (Int×Int)):T.rw? 9 (lT l)=some (l.map wT):=Xv (by decide) (A7 l)
theorem iB(l:List Z):T.cell (lT l) 0=lT l:=by unfold T.cell lT;rfl
theorem eO(ls:List (List Z)):lenL (ls.map lT)=(ls.length:Int):=by rw[aK,List.length_map]
def bH(ls:List (List Z))(i:Nat):List Z:=ls.getD i []
theorem eA{ls:List (List Z)}{i:Nat}(h:i<ls.length):bG (ls.map lT) (i:Int)=some (lT (bH ls i))∧bH ls i∈ls:=by
 have e:ls[i]?=some (bH ls i):=by unfold bH;rw[List.getD_eq_getElem?_getD,List.getElem?_eq_getElem h];rfl
 exact⟨by rw[bY,List.getElem?_map,e];rfl,List.mem_of_getElem? e⟩
def Wl(l:List Z):Prop:=l.length≤1000∧∀p∈l,p.1.natAbs<1000000∧p.2.natAbs<1000000
theorem Pn{l:List Z}(h:Bx l):Wl l:=⟨h.1,fun p hp=>by have:=h.2.1 p hp;omega⟩
theorem Wt{l:List Z}(hB:Wl l)(A B:List T)(n i:Int):aI fY (A,B,n,i,lT l,(l.length:Int),(0:Int),())=some (.inr (.inl (A,B,n,i,()))):=by
 have hle:=hB.1
 have h:=eQ (F:=fY) l.length (fun k=>(A,B,n,i,lT l,(l.length:Int),(k:Int),())) fun k hk=>by
  have g:=(yM (l:=l) (by omega) k).2
  rw[Nat.mod_eq_of_lt hk] at g
  have gi:bG (l.map wT) (k:Int)=some (wT (aV l k)):=by rw[bY,List.getElem?_map,g];rfl
  have wk:wr .i64 ((k:Int)+1)=((k+1:Nat):Int):=by rw[dK (by omega) (by omega)];push_cast;rfl
  obtain⟨c0,c1,c2,c3,c4,c5,c6,c7,c8⟩:=cells (aV l k)
  have cf:=Zj (hB.2 _ (yM (by omega) k).1)
  have sg:cG (false,([]:List T),([]:List T),())=some (0,()):=by
   have:=A3 FU.fit
   rw[Fw,DY,DZ] at this
   exact this
  unfold fY
  simp -implicitDefEqProofs only[aF,decide_eq_true (by omega:(k:Int)<(l.length:Int)),cond_true,GT,gi,bC,c0,c1,c2,c3,c4,c5,c6,c7,c8,cf,cond_false,sg,aL,decide_true,Bool.not_true,aJ,wk]
 have hout:fY (A,B,n,i,lT l,(l.length:Int),(l.length:Int),())=some (.inr (.inr (.inl (A,B,n,i,())))):=by
  unfold fY
  simp only[aF,decide_eq_false (by omega:¬(l.length:Int)<(l.length:Int)),cond_false]
 rw[aO hout] at h
 exact h
end Go.Eng.Rt
namespace Go.Eng.Rt
open Go.Eng Go.Eng.Tw Go.Eng.Tm Go.Eng.Tg
theorem bO{ls:List (List Z)}{i:Nat}(h:i<ls.length):bH ls i∈ls:=(eA h).2
theorem aCI{ls:List (List Z)}(hm:ls.length≤1000)(h:∀l∈ls,l.length≤64):aZ (ls.map lT,(),())=some (false,()):=by
 have lp:=eQ (F:=aH) ls.length (fun k=>(ls.map lT,(),(ls.length:Int),(k:Int),())) fun k hk=>by
  have wk:wr .i64 ((k:Int)+1)=((k+1:Nat):Int):=by rw[dK (by omega) (by omega)];push_cast;rfl
  have hl:=h _ (bO hk)
  have ll:lenL ((bH ls k).map wT)=((bH ls k).length:Int):=by rw[aK,List.length_map]
  unfold aH oD
  simp only[aF,decide_eq_true (by omega:(k:Int)<(ls.length:Int)),cond_true,(eA hk).1,bC,B4,ll,decide_eq_false (by omega:¬(64:Int)<((bH ls k).length:Int)),cond_false,aJ,wk]
 have hout:aI aH (ls.map lT,(),(ls.length:Int),(ls.length:Int),())=some (.inr (.inl ())):=aO (by
  unfold aH
  simp only[aF,decide_eq_false (by omega:¬(ls.length:Int)<(ls.length:Int)),cond_false])
 rw[hout] at lp
 have lp:aI aH (ls.map lT,(),(ls.length:Int),(0:Int),())=some (.inr (.inl ())):=lp
 unfold aZ cA
 simp only[eO]
 rw[lp]
 simp only[bC,aN,kQ,kH]
 rfl
theorem aDM(a b:Int):Re false a b=min a b:=by unfold Re;rfl
theorem aDN(a b:Int):Re true a b=max a b:=by unfold Re;rfl
noncomputable def wn(l:List Z)(p:Q):Int:=bif bP (EY (jK (qs l)) p) then 0 else wd (jK (qs l)) p
def mY(ls:List (List Z))(i:Nat):Z:=aV (bH ls i) 0
def Kn(ls:List (List Z))(i j:Nat):Prop:=j≠i∧wn (bH ls j) (cq (mY ls i))≠0
noncomputable def B5(ls:List (List Z))(i k:Nat):List Nat:=(List.range k).filter fun j=>bP (Kn ls i j)
theorem QH(ls:List (List Z))(i k:Nat):B5 ls i (k+1)=B5 ls i k++(bif bP (Kn ls i k) then [k] else []):=by
 unfold B5
 rw[List.range_succ,List.filter_append,List.filter_cons]
 cases bP (Kn ls i k) <;> rfl
theorem M8(ls:List (List Z))(i k:Nat):(B5 ls i k).length≤k:=by
 unfold B5
 have:=List.length_filter_le (fun j=>bP (Kn ls i j)) (List.range k)
 rw[List.length_range] at this
 exact this
theorem WF{ls:List (List Z)}{i k j:Nat}(h:j∈B5 ls i k):j<k∧Kn ls i j:=by
 unfold B5 at h
 rw[List.mem_filter,List.mem_range] at h
 exact⟨h.1,Ze.1 h.2⟩
def tM(n:Nat):T:=.v (.int .i64 (n:Int))
def sA(l:List Z):Int:=lK (gQ l:Rat)
theorem QI(l:List Z):-1≤sA l∧sA l≤1:=by
 unfold sA
 rcases tK (gQ l:Rat) with⟨h,_⟩ | ⟨h,_⟩ | ⟨h,_⟩ <;> rw[h] <;> decide
section
variable {ls:List (List Z)} (hB:A6 ls) (hm:ls.length≤1000)
include hB hm
theorem ZS{i:Nat}(hi:i<ls.length)(h0:0<(bH ls i).length):mO (ls.map lT,(i:Int),())=some ((B5 ls i ls.length).map tM,()):=by
 have hbi:=hB _ (bO hi)
 have sp:=lR hbi h0 0
 have g0:bG ((bH ls i).map wT) 0=some (wT (mY ls i)):=by
  have:=(yM h0 0).2
  rw[Nat.zero_mod] at this
  rw[show (0:Int)=((0:Nat):Int) from rfl,bY,List.getElem?_map,this];rfl
 obtain⟨c0,c1,c2,c3,c4,c5,c6,c7,c8⟩:=cells (mY ls i)
 have lp:=eQ (F:=iQ) ls.length (fun k=>(ls.map lT,(i:Int),(B5 ls i k).map tM,ls.map lT,(ls.length:Int),(k:Int),())) fun k hk=>by
  have wk:wr .i64 ((k:Int)+1)=((k+1:Nat):Int):=by rw[dK (by omega) (by omega)];push_cast;rfl
  have hw:=Up (hB _ (bO hk)) (p:=mY ls i) sp
  have hfst:(bif bP (EY (jK (qs (bH ls k))) (cq (mY ls i))) then ((0:Int),false,()) else (wd (jK (qs (bH ls k))) (cq (mY ls i)),true,())).1=wn (bH ls k) (cq (mY ls i)):=by
   unfold wn;cases bP (EY (jK (qs (bH ls k))) (cq (mY ls i))) <;> rfl
  have hr:=pP (l:=(B5 ls i k).map tM) (m:=[tM k]) (b:=8) (by have:=M8 ls i k;simp only[List.length_map,List.length_cons,List.length_nil];omega) (by decide)
  have hr':room ((B5 ls i k).map tM) [T.v (.int .i64 (k:Int))] 8=some ((B5 ls i k).map tM++[tM k]):=hr
  unfold iQ
  simp -implicitDefEqProofs only[aF,decide_eq_true (by omega:(k:Int)<(ls.length:Int)),cond_true,(eA hk).1,(eA hi).1,bC,TS,g0,B4,c0,c1,c2,c3,c4,c5,c6,c7,c8,hw,hfst,aL,hr']
  have e2:B5 ls i (k+1)=B5 ls i k++(bif bP (Kn ls i k) then [k] else []):=QH ls i k
  by_cases h1:k=i
  ·have hrel:bP (Kn ls i k)=false:=gF fun c=>c.1 h1
   rw[decide_eq_true (by omega:(k:Int)=(i:Int)),e2,hrel]
   simp only[Bool.not_true,cond_false,bC,aN,aJ,wk,List.append_nil]
  ·rw[decide_eq_false (by omega:¬(k:Int)=(i:Int))]
   by_cases h2:wn (bH ls k) (cq (mY ls i))=0
   ·have hrel:bP (Kn ls i k)=false:=gF fun c=>c.2 h2
    rw[decide_eq_true h2,e2,hrel]
    simp only[Bool.not_true,Bool.not_false,cond_true,cond_false,bC,aN,aJ,wk,List.append_nil]
   ·have hrel:bP (Kn ls i k)=true:=gN ⟨h1,h2⟩
    rw[decide_eq_false h2,e2,hrel,cond_true]
    simp only[Bool.not_false,cond_true,bC,aN,aJ,wk,List.map_append,List.map_cons,List.map_nil]
 have hout:iQ (ls.map lT,(i:Int),(B5 ls i ls.length).map tM,ls.map lT,(ls.length:Int),(ls.length:Int),())=some (.inr (.inl ((B5 ls i ls.length).map tM,()))):=by
  unfold iQ
  simp only[aF,decide_eq_false (by omega:¬(ls.length:Int)<(ls.length:Int)),cond_false]
 rw[aO hout] at lp
 have lp:aI iQ (ls.map lT,(i:Int),([]:List T),ls.map lT,(ls.length:Int),(0:Int),())=some (.inl ((B5 ls i ls.length).map tM,())):=lp
 unfold mO
 simp only[eO]
 rw[lp]
 simp only[bC,aN]
noncomputable def outs(ls:List (List Z))(i:Nat):Int:=((B5 ls i ls.length).map fun j=>sA (bH ls j)).sum
omit hB hm in
theorem Dh(f:Nat→Int)(hf:∀i,-1≤f i∧f i≤1):∀L:List Nat,-(L.length:Int)≤(L.map f).sum∧(L.map f).sum≤L.length
 | []=>by simp
 | a::L=>by
  have:=Dh f hf L
  have:=hf a
  rw[List.map_cons,List.sum_cons,List.length_cons];omega
omit hB hm in
theorem Po(i:Nat):(outs ls i).natAbs≤ls.length:=by
 unfold outs
 have h1:=Dh (fun j=>sA (bH ls j)) (fun j=>QI _) (B5 ls i ls.length)
 have h2:=M8 ls i ls.length
 omega
omit hB hm in
theorem Pq{l:List Z}(h:Bx l):∃x y z,fC (l.map wT,())=some (x,y,z,())∧cG (x,y,z,())=some (sA l,()):=by
 have e:=Cw (l:=l) (fun p hp=>by have:=h.2.1 p hp;exact⟨by omega,by omega⟩) h.1
 have hb:=ZP (l:=l) (fun p hp=>by have:=h.2.1 p hp;exact⟨by omega,by omega⟩)
 have h2:=h.1
 exact⟨_,_,_,e,A3 (kP (n:=gQ l) (by omega)).fit⟩
omit hm in
theorem Ps(x:T)(m i:Int)(A:List T)(L:List Nat)(hL:∀j∈L,j<ls.length)(hl:L.length≤1000):
 aI jV (ls.map lT,x,(0:Int),A,m,i,L.map tM,(L.length:Int),(0:Int),())=some (.inl (ls.map lT,x,(L.map fun j=>sA (bH ls j)).sum,A,m,i,())):=by
 have lp:=eQ (F:=jV) L.length (fun k=>(ls.map lT,x,((L.take k).map fun j=>sA (bH ls j)).sum,A,m,i,L.map tM,(L.length:Int),(k:Int),()) ) fun k hk=>by
  have wk:wr .i64 ((k:Int)+1)=((k+1:Nat):Int):=by rw[dK (by omega) (by omega)];push_cast;rfl
  have hlk:lenL (L.map tM)=(L.length:Int):=by rw[aK,List.length_map]
  have hj:=hL _ (List.getElem_mem hk)
  have g:bG (L.map tM) (k:Int)=some (tM L[k]):=by rw[bY,List.getElem?_map,List.getElem?_eq_getElem hk];rfl
  have a:T.anyInt? (T.cell (tM L[k]) 0)=some (L[k]:Int):=rfl
  obtain⟨p,q,r,e1,e2⟩:=Pq (hB _ (bO hj))
  have hs:=Dh (fun j=>sA (bH ls j)) (fun j=>QI _) (L.take k)
  have ht:(L.take k).length≤k:=List.length_take_le ..
  have hs1:=QI (bH ls L[k])
  have ws:wr .i64 (((L.take k).map fun j=>sA (bH ls j)).sum+sA (bH ls L[k]))=((L.take (k+1)).map fun j=>sA (bH ls j)).sum:=by
   rw[dK (by omega) (by omega),List.take_add_one,List.getElem?_eq_getElem hk,List.map_append,List.sum_append]
   simp
  unfold jV
  simp -implicitDefEqProofs only[aF,decide_eq_true (by omega:(k:Int)<(L.length:Int)),cond_true,g,bC,a,(eA hj).1,B4,e1,e2,aJ,ws,wk]
 have hout:jV (ls.map lT,x,((L.take L.length).map fun j=>sA (bH ls j)).sum,A,m,i,L.map tM,(L.length:Int),(L.length:Int),())=some (.inr (.inl (ls.map lT,x,(L.map fun j=>sA (bH ls j)).sum,A,m,i,()))):=by
  unfold jV
  simp only[aF,decide_eq_false (by omega:¬(L.length:Int)<(L.length:Int)),cond_false,List.take_length]
 rw[aO hout] at lp
 exact lp
def R8(ls:List (List Z))(i:Nat):Prop:=¬((outs ls i+sA (bH ls i)=0∧outs ls i=1)∨(outs ls i+sA (bH ls i)=1∧outs ls i=0))
def A8(l:List Z):Prop:=3≤l.length∧¬∃i,i<l.length∧J8 l i
def AB(ls:List (List Z))(i:Nat):Prop:=¬A8 (bH ls i)∨∃k,0≤k∧k<i∧TR (bH ls i) (bH ls k)
theorem Pt{i:Nat}(hi:i<ls.length)(h0:0<(bH ls i).length):jW (ls.map lT,ls.map lT,(ls.length:Int),(i:Int),())=some (bif bP (R8 ls i) then .inr (.inl (8,())) else .inl (ls.map lT,ls.map lT,(ls.length:Int),((i+1:Nat):Int),())):=by
 have wk:wr .i64 ((i:Int)+1)=((i+1:Nat):Int):=by rw[dK (by omega) (by omega)];push_cast;rfl
 have ar:=ZS hB hm hi h0
 have hla:lenL ((B5 ls i ls.length).map tM)=((B5 ls i ls.length).length:Int):=by rw[aK,List.length_map]
 have sl:=Ps hB (lT (bH ls i)) (ls.length:Int) (i:Int) (ls.map lT) (B5 ls i ls.length) (fun j hj=>(WF hj).1) (by have:=M8 ls i ls.length;omega)
 have sl:_=some (Sum.inl (ls.map lT,lT (bH ls i),outs ls i,ls.map lT,(ls.length:Int),(i:Int),())):=sl
 obtain⟨p,q,r,e1,e2⟩:=Pq (hB _ (bO hi))
 have hs1:=QI (bH ls i)
 have hs2:=Po (ls:=ls) i
 have ws:wr .i64 (outs ls i+sA (bH ls i))=outs ls i+sA (bH ls i):=dK (by omega) (by omega)
 have hc:T.cell (lT (bH ls i)) 0=lT (bH ls i):=iB _
 unfold jW
 simp -implicitDefEqProofs only[aF,decide_eq_true (by omega:(i:Int)<(ls.length:Int)),cond_true,(eA hi).1,bC,ar,hla,hc,sl,aN,A7,e1,e2,aJ,ws,aL,aDM,aDN,wk]
 unfold R8
 generalize outs ls i=o at *
 generalize sA (bH ls i)=s at *
 by_cases h:(o+s=0∧o=1)∨(o+s=1∧o=0)
 ·rw[gF (fun c=>c h)]
  have e1:min (o+s) o=0:=by omega
  have e2:max (o+s) o=1:=by omega
  rw[decide_eq_true e1,decide_eq_true e2];rfl
 ·rw[gN h]
  by_cases e1:min (o+s) o=0
  ·have e2:¬max (o+s) o=1:=by omega
   rw[decide_eq_true e1,decide_eq_false e2];rfl
  ·rw[decide_eq_false e1];rfl
end
end Go.Eng.Rt
namespace Go.Eng.Rt
open Go.Eng Go.Eng.Tw Go.Eng.Tm Go.Eng.Tg
section
variable {ls:List (List Z)} (hB:A6 ls)
theorem Gx(hW:∀l∈ls,Wl l)(hm:ls.length≤1000):aI dX (ls.map lT,ls.map lT,(ls.length:Int),(0:Int),())=some (.inr (.inl (ls.map lT,()))):=by
 have lp:=eQ (F:=dX) ls.length (fun k=>(ls.map lT,ls.map lT,(ls.length:Int),(k:Int),())) fun k hk=>by
  have wk:wr .i64 ((k:Int)+1)=((k+1:Nat):Int):=by rw[dK (by omega) (by omega)];push_cast;rfl
  have hp:=Wt (hW _ (bO hk)) (ls.map lT) (ls.map lT) (ls.length:Int) (k:Int)
  have hl:T.len? (lT (bH ls k))=some ((bH ls k).length:Int):=by
   show (if (9:Nat)<1000000000 then some (lenL ((bH ls k).map wT)) else none)=_
   rw[if_pos (by decide),aK,List.length_map]
  unfold dX
  simp only[aF,decide_eq_true (by omega:(k:Int)<(ls.length:Int)),cond_true,(eA hk).1,bC,iB,hl,hp,aN,kQ,aJ,wk]
 have hout:dX (ls.map lT,ls.map lT,(ls.length:Int),(ls.length:Int),())=some (.inr (.inr (.inl (ls.map lT,())))):=by
  unfold dX
  simp only[aF,decide_eq_false (by omega:¬(ls.length:Int)<(ls.length:Int)),cond_false]
 rw[aO hout] at lp
 exact lp
include hB in
theorem Zk(hm:ls.length≤1000){i:Nat}(hi:i<ls.length):aI jT (ls.map lT,lT (bH ls i),ls.map lT,(ls.length:Int),(i:Int),(ls.map lT).take i,(i:Int),(0:Int),()) =
 some (bif bP (∃k,0≤k∧k<i∧TR (bH ls i) (bH ls k)) then .inl (8,()) else .inr (.inl (ls.map lT,ls.map lT,(ls.length:Int),(i:Int),()))):=by
 have key:∀k,k<i→jT (ls.map lT,lT (bH ls i),ls.map lT,(ls.length:Int),(i:Int),(ls.map lT).take i,(i:Int),(k:Int),())=some (bif bP (TR (bH ls i) (bH ls k)) then .inr (.inl (8,())) else .inl (ls.map lT,lT (bH ls i),ls.map lT,(ls.length:Int),(i:Int),(ls.map lT).take i,(i:Int),((k+1:Nat):Int),())):=fun k hk=>by
  have wk:wr .i64 ((k:Int)+1)=((k+1:Nat):Int):=by rw[dK (by omega) (by omega)];push_cast;rfl
  have g:bG ((ls.map lT).take i) (k:Int)=some (lT (bH ls k)):=by
   have:=(eA (ls:=ls) (i:=k) (by omega)).1
   rw[bY] at this ⊢
   rw[List.getElem?_take,if_pos hk];exact this
  have ha:=Uq (hB _ (bO hi)) (hB _ (bO (i:=k) (by omega)))
  unfold jT
  simp only[aF,decide_eq_true (by omega:(k:Int)<(i:Int)),cond_true,g,bC,iB,A7,ha,Bool.not_not,aJ,wk]
  generalize bP (TR (bH ls i) (bH ls k))=b
  cases b <;> rfl
 exact eN (F:=jT) (fun k=>(ls.map lT,lT (bH ls i),ls.map lT,(ls.length:Int),(i:Int),(ls.map lT).take i,(i:Int),(k:Int),())) i (fun k=>TR (bH ls i) (bH ls k)) _ _
  (fun k hk hb=>by rw[key k hk,gN hb];rfl) (fun k hk hb=>by rw[key k hk,gF hb];rfl) (by
   unfold jT
   simp only[aF,decide_eq_false (by omega:¬(i:Int)<(i:Int)),cond_false]) i 0 (by omega)
include hB in
theorem aCJ(hm:ls.length≤1000):aI jU (ls.map lT,ls.map lT,(ls.length:Int),(0:Int),())=some (bif bP (∃i,0≤i∧i<ls.length∧AB ls i) then .inl (8,()) else .inr (.inl (ls.map lT,()))):=by
 have key:∀i,i<ls.length→jU (ls.map lT,ls.map lT,(ls.length:Int),(i:Int),())=some (bif bP (AB ls i) then .inr (.inl (8,())) else .inl (ls.map lT,ls.map lT,(ls.length:Int),((i+1:Nat):Int),())):=fun i hi=>by
  have wi:wr .i64 ((i:Int)+1)=((i+1:Nat):Int):=by rw[dK (by omega) (by omega)];push_cast;rfl
  have hs:=Pe (hB _ (bO hi))
  have hc:cutL (ls.map lT) (0:Int) (i:Int)=some ((ls.map lT).take i):=by
   have:=N8 (l:=ls.map lT) (lo:=0) (hi:=i) (Nat.zero_le _) (by rw[List.length_map];omega)
   rw[List.drop_zero] at this;exact this
  have hlt:lenL ((ls.map lT).take i)=(i:Int):=by rw[aK,List.length_take,List.length_map,Nat.min_eq_left (by omega)]
  have pp:=Zk hB hm hi
  have hb:bP (AB ls i)=(!(bP (3≤(bH ls i).length∧¬∃j,j<(bH ls i).length∧J8 (bH ls i) j))||bP (∃k,0≤k∧k<i∧TR (bH ls i) (bH ls k))):=by
   unfold AB A8
   rw[yL,J7]
  unfold jU
  simp only[aF,decide_eq_true (by omega:(i:Int)<(ls.length:Int)),cond_true,(eA hi).1,bC,iB,A7,hs,hc,hlt,pp,aJ]
  rw[hb]
  generalize bP (3≤(bH ls i).length∧¬∃j,j<(bH ls i).length∧J8 (bH ls i) j)=x
  generalize bP (∃k,0≤k∧k<i∧TR (bH ls i) (bH ls k))=y
  cases x <;> cases y <;> simp only[Bool.not_true,Bool.not_false,cond_true,cond_false,bC,aN,kQ,wi,Bool.true_or,Bool.false_or]
 exact eN (F:=jU) (fun i=>(ls.map lT,ls.map lT,(ls.length:Int),(i:Int),())) ls.length (AB ls) _ _
  (fun k hk hb=>by rw[key k hk,gN hb];rfl) (fun k hk hb=>by rw[key k hk,gF hb];rfl) (by
   unfold jU
   simp only[aF,decide_eq_false (by omega:¬(ls.length:Int)<(ls.length:Int)),cond_false]) ls.length 0 (by omega)
noncomputable def A9(ls:List (List Z)):Int:=bif bP (∃i,0≤i∧i<ls.length∧AB ls i) then 8 else bif bP (∃i,0≤i∧i<ls.length∧R8 ls i) then 8 else 0
include hB in
theorem IQ(hm:ls.length≤16)(h0:0<ls.length)(hl:∀l∈ls,l.length≤64):dC (ls.map lT,())=some (A9 ls,()):=by
 have v:=Gx (fun l hl=>Pn (hB l hl)) (by omega)
 have a:=aCJ hB (by omega)
 have b:=aCI (ls:=ls) (by omega) hl
 unfold dC A9
 simp only[eO,aL,decide_eq_false (by omega:¬(ls.length:Int)=0),cond_false,v,bC,aN,kQ,aF,decide_eq_false (by omega:¬(16:Int)<(ls.length:Int)),b,a]
 by_cases hA:∃i,0≤i∧i<ls.length∧AB ls i
 ·rw[gN hA];simp only[cond_true,bC,aN]
 ·rw[gF hA]
  have hs:∀i,i<ls.length→0<(bH ls i).length:=fun i hi=>by
   have hsim:A8 (bH ls i):=Classical.byContradiction fun c=>hA ⟨i,Nat.zero_le _,hi,.inl c⟩
   have:=hsim.1;omega
  have c:=eN (F:=jW) (fun i=>(ls.map lT,ls.map lT,(ls.length:Int),(i:Int),())) ls.length (R8 ls) (.inl (8,())) (.inr (.inl ()))
   (fun k hk hb=>by rw[Pt hB (by omega) hk (hs k hk),gN hb];rfl) (fun k hk hb=>by rw[Pt hB (by omega) hk (hs k hk),gF hb];rfl) (by
    unfold jW
    simp only[aF,decide_eq_false (by omega:¬(ls.length:Int)<(ls.length:Int)),cond_false]) ls.length 0 (by omega)
  have c:aI jW (ls.map lT,ls.map lT,(ls.length:Int),(0:Int),())=_:=c
  simp only[cond_false,bC,aN,kQ,eO,c]
  generalize bP (∃j,0≤j∧j<ls.length∧R8 ls j)=x
  cases x <;> rfl
end
end Go.Eng.Rt
namespace Go.Eng.Tg
open Go.Eng.Tw
theorem Pu{a b:Q}(h:a≠b):0<(b.1-a.1)*(b.1-a.1)+(b.2-a.2)*(b.2-a.2):=by
 have h1:=TI (b.1-a.1)
 have h2:=TI (b.2-a.2)
 by_cases h0:(b.1-a.1)*(b.1-a.1)+(b.2-a.2)*(b.2-a.2)=0
 ·obtain⟨e1,e2⟩:=V0 h0
  exact absurd (zY (by grind) (by grind)) h
 ·grind
theorem Gy{a b c:Q}(hab:a≠b)(hbc:b≠c):MW a b c↔On a b c∨On b c a:=by
 have n:=Pu hab
 constructor
 ·rintro ⟨h0,h1⟩
  obtain⟨t,rfl⟩:=Yt hab h0
  have e:(a.1-b.1)*((wD a b t).1-b.1)+(a.2-b.2)*((wD a b t).2-b.2)=(1-t)*((b.1-a.1)*(b.1-a.1)+(b.2-a.2)*(b.2-a.2)):=by unfold wD;dsimp only;grind
  rw[e] at h1
  have t1:t<1:=by
   rcases Rat.le_total (a:=t) (b:=1) with q | q
   ·by_cases e1:t=1
    ·subst e1;grind
    ·grind
   ·have:=Rat.mul_nonneg (show 0≤t-1 by grind) (Rat.le_of_lt n)
    grind
  rcases Rat.le_total (a:=0) (b:=t) with q | q
  ·exact .inl (A5 q (Rat.le_of_lt t1))
  ·right
   obtain⟨s,hs⟩:=IM (n:=1) (d:=1-t) (by grind)
   have s0:0≤s:=uN (n:=1-t) (by grind) (by grind)
   have s1:s≤1:=by
    have:=uN (n:=1-t) (u:=1-s) (by grind) (by grind)
    grind
   have ea:a=wD b (wD a b t) s:=by
    unfold wD
    refine zY ?_ ?_
    ·dsimp only
     have:s*(a.1+t*(b.1-a.1)-b.1)=-(s*(1-t))*(b.1-a.1):=by grind
     rw[this,hs];grind
    ·dsimp only
     have:s*(a.2+t*(b.2-a.2)-b.2)=-(s*(1-t))*(b.2-a.2):=by grind
     rw[this,hs];grind
   have:=A5 (a:=b) (b:=wD a b t) s0 s1
   rw[←ea] at this
   exact this
 ·rintro (h | h)
  ·obtain⟨t,t0,t1,rfl⟩:=Wk hab h
   refine⟨h.1,?_⟩
   have e:(a.1-b.1)*((wD a b t).1-b.1)+(a.2-b.2)*((wD a b t).2-b.2)=(1-t)*((b.1-a.1)*(b.1-a.1)+(b.2-a.2)*(b.2-a.2)):=by unfold wD;dsimp only;grind
   rw[e]
   refine Rat.mul_pos ?_ n
   by_cases e1:t=1
   ·subst e1;exact absurd (Yu a b).symm hbc
   ·grind
  ·obtain⟨s,s0,s1,hs⟩:=Wk hbc h
   have e1:a.1-b.1=s*(c.1-b.1):=by rw[hs];unfold wD;dsimp only;grind
   have e2:a.2-b.2=s*(c.2-b.2):=by rw[hs];unfold wD;dsimp only;grind
   have n2:=Pu hbc
   refine⟨?_,?_⟩
   ·unfold cr
    have x1:b.1-a.1=-(s*(c.1-b.1)):=by grind
    have x2:b.2-a.2=-(s*(c.2-b.2)):=by grind
    have y1:c.1-a.1=(1-s)*(c.1-b.1):=by grind
    have y2:c.2-a.2=(1-s)*(c.2-b.2):=by grind
    rw[x1,x2,y1,y2];grind
   ·rw[e1,e2]
    have:s*(c.1-b.1)*(c.1-b.1)+s*(c.2-b.2)*(c.2-b.2)=s*((c.1-b.1)*(c.1-b.1)+(c.2-b.2)*(c.2-b.2)):=by grind
    rw[this]
    refine Rat.mul_pos ?_ n2
    by_cases e0:s=0
    ·subst e0;rw[Oq] at hs;exact absurd hs hab
    ·grind
end Go.Eng.Tg
namespace Go.Eng.Rt
open Go.Eng Go.Eng.Tw Go.Eng.Tm Go.Eng.Tg
theorem sS{l:List Z}{i:Nat}(h:i<l.length):bG (l.map wT) (i:Int)=some (wT (aV l i)):=by
 have:=(yM (l:=l) (by omega) i).2
 rw[Nat.mod_eq_of_lt h] at this
 rw[bY,List.getElem?_map,this];rfl
theorem GU{l:List Z}(h:0<l.length)(i:Nat):bG (l.map wT) ((i%l.length:Nat):Int)=some (wT (aV l i)):=by
 rw[bY,List.getElem?_map,(yM h i).2];rfl
theorem Gz{a b:Z}(ha:Sp a)(hb:Sp b):oW (lit a b ())=some (bP (a=b),()):=by
 have f1:Of (a.1:Rat):=(gD ha.1 (by decide)).fit
 have f2:Of (a.2:Rat):=(gD ha.2 (by decide)).fit
 have g1:Of (b.1:Rat):=(gD hb.1 (by decide)).fit
 have g2:Of (b.2:Rat):=(gD hb.2 (by decide)).fit
 have s1:=Cq f1 g1
 have s2:=Cq f2 g2
 have s3:=Cq FU.fit FU.fit
 rw[Fw,DY,DZ] at s3
 unfold oW
 simp -implicitDefEqProofs only[s1,s2,s3,bC]
 have e:bP (a=b)=(decide ((a.1:Rat)=b.1)&&decide ((a.2:Rat)=b.2)):=by
  rw[D7,D7,←D8]
  exact jF ⟨fun h=>by rw[h];exact⟨rfl,rfl⟩,fun h=>Prod.ext (Rat.intCast_inj.1 h.1) (Rat.intCast_inj.1 h.2)⟩
 rw[e]
 generalize decide ((a.1:Rat)=b.1)=x
 generalize decide ((a.2:Rat)=b.2)=y
 cases x <;> cases y <;> rfl
def WG(l:List Z)(i:Nat):Prop:=On (cq (aV l i)) (cq (aV l (i+1))) (cq (aV l (i+2)))∨On (cq (aV l (i+1))) (cq (aV l (i+2))) (cq (aV l i))∨V9 l i
abbrev tc(p:Z)(k:Nat):T:=T.cell (wT p) k
def RI(l:List Z)(i k:Nat):List T×Int×Int×Unit×Unit×Int×T×T×T×T×T×T×T×T×T×T×T×T×T×T×T×T×T×T×Unit:=
 (l.map wT,(l.length:Int),(i:Int),(),(),(k:Int),tc (aV l i) 0,tc (aV l i) 1,tc (aV l i) 2,tc (aV l i) 3,tc (aV l i) 4,tc (aV l i) 5,tc (aV l i) 6,tc (aV l i) 7,tc (aV l i) 8,
  (tc (aV l (i+1)) 0,tc (aV l (i+1)) 1,tc (aV l (i+1)) 2,tc (aV l (i+1)) 3,tc (aV l (i+1)) 4,tc (aV l (i+1)) 5,tc (aV l (i+1)) 6,tc (aV l (i+1)) 7,tc (aV l (i+1)) 8,()))
section
variable {l:List Z} (hB:Bx l)
include hB
theorem aDO{i:Nat}(hi:i<l.length)(k:Nat)(hk2:i+2≤k):aI gZ (RI l i k)=some (bif bP (∃j,k≤j∧j<l.length∧(0<i∨j<l.length-1)∧gR l i j) then .inl (false,()) else .inr (.inl (l.map wT,(l.length:Int),(i:Int),()))):=by
 have h0:0<l.length:=by omega
 have hle:=hB.1
 have hnz:nz (l.length:Int)=some (l.length:Int):=by unfold nz;rw[if_neg (by omega)]
 have key:∀j,i+2≤j→j<l.length→gZ (RI l i j)=some (bif bP ((0<i∨j<l.length-1)∧gR l i j) then .inr (.inl (false,())) else .inl (RI l i (j+1))):=fun j hj2 hj=>by
  have m:=Pc (B3 hB h0 i (i+1)) (B3 hB h0 j (j+1)) (lR hB h0 (i+1)) (lR hB h0 (j+1))
  have wj:wr .i64 ((j:Int)+1)=((j+1:Nat):Int):=by rw[dK (by omega) (by omega)];push_cast;rfl
  have hmod:((j+1:Nat):Int).tmod (l.length:Int)=(((j+1)%l.length:Nat):Int):=rfl
  have x1:=sS hj
  have x2:=GU h0 (j+1)
  obtain⟨a0,a1,a2,a3,a4,a5,a6,a7,a8⟩:=cells (aV l i)
  obtain⟨b0,b1,b2,b3,b4,b5,b6,b7,b8⟩:=cells (aV l (i+1))
  obtain⟨c0,c1,c2,c3,c4,c5,c6,c7,c8⟩:=cells (aV l j)
  obtain⟨d0,d1,d2,d3,d4,d5,d6,d7,d8⟩:=cells (aV l (j+1))
  have hm:bP (gR l i j)=bP (pB (cq (aV l i)) (cq (aV l (i+1))) (cq (aV l j)) (cq (aV l (j+1)))):=rfl
  have hc:bP ((0<i∨j<l.length-1)∧gR l i j)=(!(decide ((((j+1)%l.length:Nat):Int)=(i:Int)))&&bP (gR l i j)):=by
   rw[D8,D7,←J7]
   congr 1
   refine jF ?_
   by_cases hj1:j+1=l.length
   ·rw[hj1,Nat.mod_self];omega
   ·rw[Nat.mod_eq_of_lt (by omega)];omega
  rw[hc,hm]
  unfold gZ RI
  simp -implicitDefEqProofs only[aF,decide_eq_true (by omega:(j:Int)<(l.length:Int)),cond_true,hnz,bC,aJ,wj,pO,hmod,aL,x1,x2,a0,a1,a2,a3,a4,a5,a6,a7,a8,b0,b1,b2,b3,b4,b5,b6,b7,b8,c0,c1,c2,c3,c4,c5,c6,c7,c8,d0,d1,d2,d3,d4,d5,d6,d7,d8,m]
  generalize bP (pB (cq (aV l i)) (cq (aV l (i+1))) (cq (aV l j)) (cq (aV l (j+1))))=b
  generalize decide ((((j+1)%l.length:Nat):Int)=(i:Int))=c
  cases b <;> cases c <;> rfl
 have sc:=ET (F:=gZ) (fun d=>RI l i (k+d)) (l.length-k) (fun d=>(0<i∨k+d<l.length-1)∧gR l i (k+d)) (.inl (false,())) (.inr (.inl (l.map wT,(l.length:Int),(i:Int),())))
  (fun d hd hb=>by rw[key (k+d) (by omega) (by omega),gN hb];rfl) (fun d hd hb=>by rw[key (k+d) (by omega) (by omega),gF hb];rfl) (fun d hd=>by
   unfold gZ RI
   simp only[aF,decide_eq_false (by omega:¬((k+d:Nat):Int)<(l.length:Int)),cond_false]) (l.length-k) 0 (by omega)
 rw[Nat.add_zero] at sc
 rw[sc]
 have:(∃d,0≤d∧d<l.length-k∧(0<i∨k+d<l.length-1)∧gR l i (k+d))↔∃j,k≤j∧j<l.length∧(0<i∨j<l.length-1)∧gR l i j:=by
  constructor
  ·rintro ⟨d,_,h1,h2,h3⟩;exact⟨k+d,by omega,by omega,h2,h3⟩
  ·rintro ⟨j,h1,h2,h3,h4⟩;exact⟨j-k,Nat.zero_le _,by omega,by rw[show k+(j-k)=j by omega];exact⟨h3,h4⟩⟩
 rw[jF this]
omit hB in
theorem Pv{i:Nat}(hi:i<l.length):(∃j,i+2≤j∧j<l.length∧(0<i∨j<l.length-1)∧gR l i j)↔V9 l i:=by
 unfold V9
 refine exists_congr fun j=>?_
 by_cases h:0<i
 ·rw[if_pos h]
  exact⟨fun⟨a,b,_,d⟩=>⟨a,b,d⟩,fun⟨a,b,d⟩=>⟨a,b,.inl h,d⟩⟩
 ·rw[if_neg h]
  exact⟨fun⟨a,b,c,d⟩=>⟨a,by omega,d⟩,fun⟨a,b,d⟩=>⟨a,by omega,.inr (by omega),d⟩⟩
theorem Pw:oE (l.map wT,())=some (bP (3≤l.length∧(¬∃i,0≤i∧i<l.length∧aV l i=aV l (i+1))∧¬∃i,0≤i∧i<l.length∧WG l i),()):=by
 have hle:=hB.1
 have hlen:lenL (l.map wT)=(l.length:Int):=by rw[aK,List.length_map]
 unfold oE
 simp only[hlen,aF]
 by_cases h3:l.length<3
 ·rw[decide_eq_true (by omega:(l.length:Int)<3),gF (by omega)];rfl
 ·rw[decide_eq_false (by omega:¬(l.length:Int)<3),cond_false]
  have h0:0<l.length:=by omega
  have hnz:nz (l.length:Int)=some (l.length:Int):=by unfold nz;rw[if_neg (by omega)]
  have key0:∀i,i<l.length→gY (l.map wT,(l.length:Int),(i:Int),())=some (bif bP (aV l i=aV l (i+1)) then .inr (.inl (false,())) else .inl (l.map wT,(l.length:Int),((i+1:Nat):Int),())):=fun i hi=>by
   have wi:wr .i64 ((i:Int)+1)=((i+1:Nat):Int):=by rw[dK (by omega) (by omega)];push_cast;rfl
   have hmod:((i+1:Nat):Int).tmod (l.length:Int)=(((i+1)%l.length:Nat):Int):=rfl
   have x1:=sS hi
   have x2:=GU h0 (i+1)
   obtain⟨a0,a1,a2,a3,a4,a5,a6,a7,a8⟩:=cells (aV l i)
   obtain⟨b0,b1,b2,b3,b4,b5,b6,b7,b8⟩:=cells (aV l (i+1))
   have s:=Gz (lR hB h0 i) (lR hB h0 (i+1))
   unfold gY
   simp -implicitDefEqProofs only[aF,decide_eq_true (by omega:(i:Int)<(l.length:Int)),cond_true,x1,hnz,bC,aJ,wi,pO,hmod,x2,a0,a1,a2,a3,a4,a5,a6,a7,a8,b0,b1,b2,b3,b4,b5,b6,b7,b8,s]
   generalize bP (aV l i=aV l (i+1))=b
   cases b <;> rfl
  have sc0:=eN (F:=gY) (fun i=>(l.map wT,(l.length:Int),(i:Int),())) l.length (fun i=>aV l i=aV l (i+1)) (.inl (false,())) (.inr (.inl (l.map wT,(l.length:Int),())))
   (fun i hi hb=>by rw[key0 i hi,gN hb];rfl) (fun i hi hb=>by rw[key0 i hi,gF hb];rfl) (by
    unfold gY
    simp only[aF,decide_eq_false (by omega:¬(l.length:Int)<(l.length:Int)),cond_false]) l.length 0 (by omega)
  have sc0:aI gY (l.map wT,(l.length:Int),(0:Int),())=_:=sc0
  have key1:∀i,i<l.length→hJ (l.map wT,(l.length:Int),(i:Int),())=some (bif bP (WG l i) then .inr (.inl (false,())) else .inl (l.map wT,(l.length:Int),((i+1:Nat):Int),())):=fun i hi=>by
   have wi:wr .i64 ((i:Int)+1)=((i+1:Nat):Int):=by rw[dK (by omega) (by omega)];push_cast;rfl
   have wi2:wr .i64 ((i:Int)+2)=((i+2:Nat):Int):=by rw[dK (by omega) (by omega)];push_cast;rfl
   have hmod:((i+1:Nat):Int).tmod (l.length:Int)=(((i+1)%l.length:Nat):Int):=rfl
   have hmod2:((i+2:Nat):Int).tmod (l.length:Int)=(((i+2)%l.length:Nat):Int):=rfl
   have x1:=sS hi
   have x2:=GU h0 (i+1)
   have x3:=GU h0 (i+2)
   obtain⟨a0,a1,a2,a3,a4,a5,a6,a7,a8⟩:=cells (aV l i)
   obtain⟨b0,b1,b2,b3,b4,b5,b6,b7,b8⟩:=cells (aV l (i+1))
   obtain⟨c0,c1,c2,c3,c4,c5,c6,c7,c8⟩:=cells (aV l (i+2))
   have sp:=lR hB h0
   have o1:=TQ (B3 hB h0 i (i+1)) (sp (i+2))
   have o2:=TQ (B3 hB h0 (i+1) (i+2)) (sp i)
   have lp:=aDO hB hi (i+2) (Nat.le_refl _)
   rw[jF (Pv hi)] at lp
   unfold RI tc at lp
   have hR:bP (WG l i)=(bP (On (cq (aV l i)) (cq (aV l (i+1))) (cq (aV l (i+2))))||(bP (On (cq (aV l (i+1))) (cq (aV l (i+2))) (cq (aV l i)))||bP (V9 l i))):=by unfold WG;rw[yL,yL]
   rw[hR]
   unfold hJ
   simp -implicitDefEqProofs only[aF,decide_eq_true (by omega:(i:Int)<(l.length:Int)),cond_true,x1,hnz,bC,aJ,wi,wi2,pO,hmod,hmod2,x2,x3,a0,a1,a2,a3,a4,a5,a6,a7,a8,b0,b1,b2,b3,b4,b5,b6,b7,b8,c0,c1,c2,c3,c4,c5,c6,c7,c8,o1,o2,lp]
   generalize bP (On (cq (aV l i)) (cq (aV l (i+1))) (cq (aV l (i+2))))=x
   generalize bP (On (cq (aV l (i+1))) (cq (aV l (i+2))) (cq (aV l i)))=y
   generalize bP (V9 l i)=z
   cases x <;> cases y <;> cases z <;> simp -implicitDefEqProofs only[cond_true,cond_false,bC,aN,kQ,Bool.or_true,Bool.or_false,Bool.true_or,Bool.false_or,wi]
  have sc1:=eN (F:=hJ) (fun i=>(l.map wT,(l.length:Int),(i:Int),())) l.length (WG l) (.inl (false,())) (.inr (.inl ()))
   (fun i hi hb=>by rw[key1 i hi,gN hb];rfl) (fun i hi hb=>by rw[key1 i hi,gF hb];rfl) (by
    unfold hJ
    simp only[aF,decide_eq_false (by omega:¬(l.length:Int)<(l.length:Int)),cond_false]) l.length 0 (by omega)
  have sc1:aI hJ (l.map wT,(l.length:Int),(0:Int),())=_:=sc1
  rw[sc0]
  have hb:bP (3≤l.length∧(¬∃i,0≤i∧i<l.length∧aV l i=aV l (i+1))∧¬∃i,0≤i∧i<l.length∧WG l i)=(!(bP (∃i,0≤i∧i<l.length∧aV l i=aV l (i+1)))&&!(bP (∃i,0≤i∧i<l.length∧WG l i))):=by
   rw[D8,D8,J7,J7,gN (by omega:3≤l.length)];rfl
  rw[hb]
  generalize bP (∃i,0≤i∧i<l.length∧aV l i=aV l (i+1))=x at *
  generalize bP (∃i,0≤i∧i<l.length∧WG l i)=y at *
  cases x with
  | true=>simp only[cond_true,bC,aN,Bool.not_true,Bool.false_and]
  | false=>
   simp only[cond_false,bC,aN,kQ,sc1]
   cases y <;> rfl
omit hB in
theorem Us:(3≤l.length∧(¬∃i,0≤i∧i<l.length∧aV l i=aV l (i+1))∧¬∃i,0≤i∧i<l.length∧WG l i)↔A8 l:=by
 unfold A8
 constructor
 ·rintro ⟨h3,h1,h2⟩
  refine⟨h3,?_⟩
  rintro ⟨i,hi,hb⟩
  have h0:0<l.length:=by omega
  have e1:aV l i≠aV l (i+1):=fun e=>h1 ⟨i,Nat.zero_le _,hi,e⟩
  have e2:aV l (i+1)≠aV l (i+2):=fun e=>h1 ⟨(i+1)%l.length,Nat.zero_le _,Nat.mod_lt _ h0,by
   have a1:aV l ((i+1)%l.length)=aV l (i+1):=by unfold aV;rw[Nat.mod_mod]
   have a2:aV l ((i+1)%l.length+1)=aV l (i+2):=by unfold aV;rw[Nat.mod_add_mod]
   rw[a1,a2];exact e⟩
  rcases hb with hb | hb | hb
  ·exact e1 hb
  ·rcases(Gy (fun e=>e1 (QE e)) (fun e=>e2 (QE e))).1 hb with h | h
   ·exact h2 ⟨i,Nat.zero_le _,hi,.inl h⟩
   ·exact h2 ⟨i,Nat.zero_le _,hi,.inr (.inl h)⟩
  ·exact h2 ⟨i,Nat.zero_le _,hi,.inr (.inr hb)⟩
 ·rintro ⟨h3,h1⟩
  have h0:0<l.length:=by omega
  have n1:∀i,i<l.length→aV l i≠aV l (i+1):=fun i hi e=>h1 ⟨i,hi,.inl e⟩
  refine⟨h3,fun⟨i,_,hi,e⟩=>n1 i hi e,?_⟩
  rintro ⟨i,_,hi,hb⟩
  have e1:=n1 i hi
  have e2:aV l (i+1)≠aV l (i+2):=fun e=>n1 ((i+1)%l.length) (Nat.mod_lt _ h0) (by
   have a1:aV l ((i+1)%l.length)=aV l (i+1):=by unfold aV;rw[Nat.mod_mod]
   have a2:aV l ((i+1)%l.length+1)=aV l (i+2):=by unfold aV;rw[Nat.mod_add_mod]
   rw[a1,a2];exact e)
  have fo:=Gy (fun e=>e1 (QE e)) (fun e=>e2 (QE e))
  rcases hb with hb | hb | hb
  ·exact h1 ⟨i,hi,.inr (.inl (fo.2 (.inl hb)))⟩
  ·exact h1 ⟨i,hi,.inr (.inl (fo.2 (.inr hb)))⟩
  ·exact h1 ⟨i,hi,.inr (.inr hb)⟩
end
section
variable {l m:List Z} (hl:Bx l) (hm:Bx m)
include hl hm
theorem Ut:tU (l.map wT,m.map wT,())=some (!(bP (TR l m)),()):=by
 have b1:=hl.1
 have b2:=hm.1
 have h1:lenL (l.map wT)=(l.length:Int):=by rw[aK,List.length_map]
 have h2:lenL (m.map wT)=(m.length:Int):=by rw[aK,List.length_map]
 have inn:∀i,i<l.length→aI iR (l.map wT,m.map wT,(i:Int),(0:Int),())=some (bif bP (Zi l m i) then .inl (false,()) else .inr (.inl (l.map wT,m.map wT,(i:Int),()))):=fun i hi=>by
  have n1:nz (l.length:Int)=some (l.length:Int):=by unfold nz;rw[if_neg (by omega)]
  have key:∀j,j<m.length→iR (l.map wT,m.map wT,(i:Int),(j:Int),())=some (bif bP (Mt l m i j) then .inr (.inl (false,())) else .inl (l.map wT,m.map wT,(i:Int),((j+1:Nat):Int),())):=fun j hj=>by
   have n2:nz (m.length:Int)=some (m.length:Int):=by unfold nz;rw[if_neg (by omega)]
   have wi:wr .i64 ((i:Int)+1)=((i+1:Nat):Int):=by rw[dK (by omega) (by omega)];push_cast;rfl
   have wj:wr .i64 ((j:Int)+1)=((j+1:Nat):Int):=by rw[dK (by omega) (by omega)];push_cast;rfl
   have hm1:((i+1:Nat):Int).tmod (l.length:Int)=(((i+1)%l.length:Nat):Int):=rfl
   have hm2:((j+1:Nat):Int).tmod (m.length:Int)=(((j+1)%m.length:Nat):Int):=rfl
   have x1:=sS hi
   have x2:=GU (l:=l) (by omega) (i+1)
   have x3:=sS hj
   have x4:=GU (l:=m) (by omega) (j+1)
   obtain⟨a0,a1,a2,a3,a4,a5,a6,a7,a8⟩:=cells (aV l i)
   obtain⟨b0,b1,b2,b3,b4,b5,b6,b7,b8⟩:=cells (aV l (i+1))
   obtain⟨c0,c1,c2,c3,c4,c5,c6,c7,c8⟩:=cells (aV m j)
   obtain⟨d0,d1,d2,d3,d4,d5,d6,d7,d8⟩:=cells (aV m (j+1))
   have mt:=Pc (B3 hl (by omega) i (i+1)) (B3 hm (by omega) j (j+1)) (lR hl (by omega) (i+1)) (lR hm (by omega) (j+1))
   have hb:bP (Mt l m i j)=bP (pB (cq (aV l i)) (cq (aV l (i+1))) (cq (aV m j)) (cq (aV m (j+1)))):=rfl
   unfold iR
   simp -implicitDefEqProofs only[aF,h1,h2,decide_eq_true (by omega:(j:Int)<(m.length:Int)),cond_true,n1,n2,x1,x2,x3,x4,bC,wi,wj,aJ,pO,hm1,hm2,a0,a1,a2,a3,a4,a5,a6,a7,a8,b0,b1,b2,b3,b4,b5,b6,b7,b8,c0,c1,c2,c3,c4,c5,c6,c7,c8,d0,d1,d2,d3,d4,d5,d6,d7,d8,mt,hb]
   generalize bP (pB (cq (aV l i)) (cq (aV l (i+1))) (cq (aV m j)) (cq (aV m (j+1))))=b
   cases b <;> rfl
  exact eN (F:=iR) (fun j=>(l.map wT,m.map wT,(i:Int),(j:Int),())) m.length (Mt l m i) _ _ (fun j hj hb=>by rw[key j hj,gN hb];rfl) (fun j hj hb=>by rw[key j hj,gF hb];rfl) (by
   unfold iR
   simp only[aF,h2,decide_eq_false (by omega:¬(m.length:Int)<(m.length:Int)),cond_false]) m.length 0 (by omega)
 have out:=eN (F:=iS) (fun i=>(l.map wT,m.map wT,(i:Int),())) l.length (Zi l m) (.inl (false,())) (.inr (.inl ()))
  (fun i hi hb=>by
   unfold iS
   simp only[aF,h1,decide_eq_true (by omega:(i:Int)<(l.length:Int)),cond_true,inn i hi,gN hb,bC,aN])
  (fun i hi hb=>by
   have wi:wr .i64 ((i:Int)+1)=((i+1:Nat):Int):=by rw[dK (by omega) (by omega)];push_cast;rfl
   unfold iS
   simp only[aF,h1,decide_eq_true (by omega:(i:Int)<(l.length:Int)),cond_true,inn i hi,gF hb,cond_false,bC,aN,kQ,aJ,wi])
  (by
   unfold iS
   simp only[aF,h1,decide_eq_false (by omega:¬(l.length:Int)<(l.length:Int)),cond_false]) l.length 0 (by omega)
 have out:aI iS (l.map wT,m.map wT,(0:Int),())=_:=out
 unfold tU
 rw[out]
 have hb:bP (∃j,0≤j∧j<l.length∧Zi l m j)=bP (TR l m):=rfl
 rw[hb]
 generalize bP (TR l m)=b
 cases b <;> rfl
end
end Go.Eng.Rt
namespace Go.Eng.Rt
open Go.Eng Go.Eng.Tw Go.Eng.Tm Go.Eng.Tg
theorem TT{p:Z}(hp:p.1.natAbs<1000000∧p.2.natAbs<1000000):mP (pt p)=some (true,()):=by
 have v1:=AA (n:=p.1) (by have:=hp.1;omega)
 have v2:=AA (n:=p.2) (by have:=hp.2;omega)
 have v3:=AA (n:=0) (by decide)
 rw[EU.1,EU.2.1,EU.2.2] at v3
 unfold mP
 simp only[v1,v2,v3,bC,cond_true]
noncomputable def zF(ls:List (List Z))(i k:Nat):Int:=uO k fun j=>if j=i then 0 else wn (bH ls j) (cq (mY ls i))
theorem Px(l:List Z)(p:Q)(h:l.length≤1000):(wn l p).natAbs≤1000:=by
 unfold wn
 cases bP (EY (jK (qs l)) p) with
 | true=>exact Nat.zero_le _
 | false=>have:=Dd l p;show (wd (jK (qs l)) p).natAbs≤1000;omega
def R9(ls:List (List Z))(i:Nat):Prop:=¬(0≤zF ls i ls.length∧zF ls i ls.length≤1∧0≤zF ls i ls.length+sA (bH ls i)∧zF ls i ls.length+sA (bH ls i)≤1)
noncomputable def Ha(ls:List (List Z)):Int:=bif bP (∃i,0≤i∧i<ls.length∧AB ls i) then 8 else bif bP (∃i,0≤i∧i<ls.length∧R9 ls i) then 8 else 0
theorem Zl{l:List Z}(h:Bx l):∃x y z,gO (l.map wT,())=some (x,y,z,())∧dA (x,y,z,())=some (sA l,()):=
 ⟨_,_,_,Pk (l:=l) (fun p hp=>by have:=h.2.1 p hp;exact⟨by omega,by omega⟩) h.1,DW _⟩
theorem Py{ls:List (List Z)}(hW:∀l∈ls,Wl l){i:Nat}(hi:i<ls.length)(b:Bool):aI cD (ls.map lT,b,(i:Int),(0:Int),())=some (.inr (.inl (ls.map lT,b,(i:Int),()))):=by
 have hb:=hW _ (bO hi)
 have hle:=hb.1
 have hl:T.len? (lT (bH ls i))=some ((bH ls i).length:Int):=by
  show (if (9:Nat)<1000000000 then some (lenL ((bH ls i).map wT)) else none)=_
  rw[if_pos (by decide),aK,List.length_map]
 have lp:=eQ (F:=cD) (bH ls i).length (fun k=>(ls.map lT,b,(i:Int),(k:Int),())) fun k hk=>by
  have wk:wr .i64 ((k:Int)+1)=((k+1:Nat):Int):=by rw[dK (by omega) (by omega)];push_cast;rfl
  obtain⟨c0,c1,c2,c3,c4,c5,c6,c7,c8⟩:=cells (aV (bH ls i) k)
  have v:=TT (hb.2 _ (yM (by omega) k).1)
  have sg:dA (false,([]:List T),([]:List T),())=some (0,()):=by
   have:=DW 0
   rw[Fw,DY,DZ] at this
   exact this
  unfold cD
  simp -implicitDefEqProofs only[(eA hi).1,bC,iB,hl,aF,decide_eq_true (by omega:(k:Int)<((bH ls i).length:Int)),cond_true,GT,sS hk,c0,c1,c2,c3,c4,c5,c6,c7,c8,v,Bool.not_true,cond_false,sg,aL,decide_true,aJ,wk]
 have hout:cD (ls.map lT,b,(i:Int),((bH ls i).length:Int),())=some (.inr (.inr (.inl (ls.map lT,b,(i:Int),())))):=by
  unfold cD
  simp only[(eA hi).1,bC,iB,hl,aF,decide_eq_false (by omega:¬((bH ls i).length:Int)<((bH ls i).length:Int)),cond_false]
 rw[aO hout] at lp
 exact lp
section
variable {ls:List (List Z)} (hB:A6 ls) (hm:ls.length≤1000)
include hB hm
theorem Uu(hl:∀l∈ls,l.length≤64):aI bL (ls.map lT,false,(0:Int),())=some (.inr (.inl (ls.map lT,false,()))):=by
 have lp:=eQ (F:=bL) ls.length (fun k=>(ls.map lT,false,(k:Int),())) fun k hk=>by
  have wk:wr .i64 ((k:Int)+1)=((k+1:Nat):Int):=by rw[dK (by omega) (by omega)];push_cast;rfl
  have hp:=Py (fun l hl=>Pn (hB l hl)) hk false
  have hlen:=hl _ (bO hk)
  have hl:T.len? (lT (bH ls k))=some ((bH ls k).length:Int):=by
   show (if (9:Nat)<1000000000 then some (lenL ((bH ls k).map wT)) else none)=_
   rw[if_pos (by decide),aK,List.length_map]
  unfold bL
  simp only[aF,eO,decide_eq_true (by omega:(k:Int)<(ls.length:Int)),cond_true,cond_false,(eA hk).1,bC,iB,hl,decide_eq_false (by omega:¬(64:Int)<((bH ls k).length:Int)),hp,aN,kQ,aJ,wk]
 have hout:bL (ls.map lT,false,(ls.length:Int),())=some (.inr (.inr (.inl (ls.map lT,false,())))):=by
  unfold bL
  simp only[aF,eO,decide_eq_false (by omega:¬(ls.length:Int)<(ls.length:Int)),cond_false]
 rw[aO hout] at lp
 exact lp
theorem Zm{i:Nat}(hi:i<ls.length):aI iT (ls.map lT,(i:Int),(0:Int),()) =
 some (bif bP (∃k,0≤k∧k<i∧TR (bH ls i) (bH ls k)) then .inl (8,()) else .inr (.inl (ls.map lT,(i:Int),()))):=by
 have key:∀k,k<i→iT (ls.map lT,(i:Int),(k:Int),())=some (bif bP (TR (bH ls i) (bH ls k)) then .inr (.inl (8,())) else .inl (ls.map lT,(i:Int),((k+1:Nat):Int),())):=fun k hk=>by
  have wk:wr .i64 ((k:Int)+1)=((k+1:Nat):Int):=by rw[dK (by omega) (by omega)];push_cast;rfl
  have ha:=Ut (hB _ (bO hi)) (hB _ (bO (i:=k) (by omega)))
  unfold iT
  simp only[aF,decide_eq_true (by omega:(k:Int)<(i:Int)),cond_true,(eA hi).1,(eA (ls:=ls) (i:=k) (by omega)).1,bC,iB,A7,ha,Bool.not_not,aJ,wk]
  generalize bP (TR (bH ls i) (bH ls k))=b
  cases b <;> rfl
 exact eN (F:=iT) (fun k=>(ls.map lT,(i:Int),(k:Int),())) i (fun k=>TR (bH ls i) (bH ls k)) _ _
  (fun k hk hb=>by rw[key k hk,gN hb];rfl) (fun k hk hb=>by rw[key k hk,gF hb];rfl) (by
   unfold iT
   simp only[aF,decide_eq_false (by omega:¬(i:Int)<(i:Int)),cond_false]) i 0 (by omega)
theorem aCK:aI iU (ls.map lT,(0:Int),())=some (bif bP (∃i,0≤i∧i<ls.length∧AB ls i) then .inl (8,()) else .inr (.inl (ls.map lT,()))):=by
 have key:∀i,i<ls.length→iU (ls.map lT,(i:Int),())=some (bif bP (AB ls i) then .inr (.inl (8,())) else .inl (ls.map lT,((i+1:Nat):Int),())):=fun i hi=>by
  have wi:wr .i64 ((i:Int)+1)=((i+1:Nat):Int):=by rw[dK (by omega) (by omega)];push_cast;rfl
  have hs:=Pw (hB _ (bO hi))
  rw[jF Us] at hs
  have pp:=Zm hB hm hi
  have hb:bP (AB ls i)=(!(bP (A8 (bH ls i)))||bP (∃k,0≤k∧k<i∧TR (bH ls i) (bH ls k))):=by
   unfold AB
   rw[yL,J7]
  unfold iU
  simp only[aF,eO,decide_eq_true (by omega:(i:Int)<(ls.length:Int)),cond_true,(eA hi).1,bC,iB,A7,hs,pp,aJ]
  rw[hb]
  generalize bP (A8 (bH ls i))=x
  generalize bP (∃k,0≤k∧k<i∧TR (bH ls i) (bH ls k))=y
  cases x <;> cases y <;> simp only[Bool.not_true,Bool.not_false,cond_true,cond_false,bC,aN,kQ,wi,Bool.true_or,Bool.false_or]
 exact eN (F:=iU) (fun i=>(ls.map lT,(i:Int),())) ls.length (AB ls) _ _
  (fun k hk hb=>by rw[key k hk,gN hb];rfl) (fun k hk hb=>by rw[key k hk,gF hb];rfl) (by
   unfold iU
   simp only[aF,eO,decide_eq_false (by omega:¬(ls.length:Int)<(ls.length:Int)),cond_false]) ls.length 0 (by omega)
theorem Pz{i:Nat}(hi:i<ls.length)(h0:0<(bH ls i).length):aI iV (ls.map lT,(i:Int),(0:Int),(0:Int),())=some (.inl (ls.map lT,(i:Int),zF ls i ls.length,())):=by
 have hbi:=hB _ (bO hi)
 have sp:=lR hbi h0 0
 have g0:bG ((bH ls i).map wT) 0=some (wT (mY ls i)):=sS h0
 obtain⟨c0,c1,c2,c3,c4,c5,c6,c7,c8⟩:=cells (mY ls i)
 have hw0:∀j,j<ls.length→((fun j=>if j=i then 0 else wn (bH ls j) (cq (mY ls i))) j:Int).natAbs≤1000:=fun j hj=>by
  show (if j=i then (0:Int) else _).natAbs≤1000
  split
  ·exact Nat.zero_le _
  ·exact Px _ _ (hB _ (bO hj)).1
 have hs:∀k,k≤ls.length→(zF ls i k).natAbs≤1000*k:=fun k hk=>by
  induction k with
  | zero=>show (0:Int).natAbs≤_;omega
  | succ k ih=>
   have h1:=ih (by omega)
   have h2:(if k=i then (0:Int) else wn (bH ls k) (cq (mY ls i))).natAbs≤1000:=hw0 k (by omega)
   unfold zF at *
   rw[mS,Nat.mul_succ];omega
 have lp:=eQ (F:=iV) ls.length (fun k=>(ls.map lT,(i:Int),zF ls i k,(k:Int),())) fun k hk=>by
  have wk:wr .i64 ((k:Int)+1)=((k+1:Nat):Int):=by rw[dK (by omega) (by omega)];push_cast;rfl
  have hw:=Gq (hB _ (bO hk)) (p:=mY ls i) sp
  have hfst:(bif bP (EY (jK (qs (bH ls k))) (cq (mY ls i))) then ((0:Int),false,()) else (wd (jK (qs (bH ls k))) (cq (mY ls i)),true,())).1=wn (bH ls k) (cq (mY ls i)):=by
   unfold wn;cases bP (EY (jK (qs (bH ls k))) (cq (mY ls i))) <;> rfl
  have h1:=hs k (by omega)
  have h2:=Px (bH ls k) (cq (mY ls i)) (hB _ (bO hk)).1
  have ws:wr .i64 (zF ls i k+wn (bH ls k) (cq (mY ls i)))=zF ls i k+wn (bH ls k) (cq (mY ls i)):=dK (by omega) (by omega)
  have e2:zF ls i (k+1)=zF ls i k+if k=i then 0 else wn (bH ls k) (cq (mY ls i)):=mS _ _
  unfold iV
  simp -implicitDefEqProofs only[aF,eO,decide_eq_true (by omega:(k:Int)<(ls.length:Int)),cond_true,aL,(eA hk).1,(eA hi).1,bC,iB,GT,g0,A7,c0,c1,c2,c3,c4,c5,c6,c7,c8,hw,hfst,aJ,ws,wk]
  rw[e2]
  by_cases h1:k=i
  ·rw[decide_eq_true (by omega:(k:Int)=(i:Int)),if_pos h1,Int.add_zero]
   simp only[Bool.not_true,cond_false,bC,aN,wk]
  ·rw[decide_eq_false (by omega:¬(k:Int)=(i:Int)),if_neg h1]
   simp only[Bool.not_false,cond_true,bC,aN,wk]
 have hout:iV (ls.map lT,(i:Int),zF ls i ls.length,(ls.length:Int),())=some (.inr (.inl (ls.map lT,(i:Int),zF ls i ls.length,()))):=by
  unfold iV
  simp only[aF,eO,decide_eq_false (by omega:¬(ls.length:Int)<(ls.length:Int)),cond_false]
 rw[aO hout] at lp
 exact lp
theorem Qa{i:Nat}(hi:i<ls.length)(h0:0<(bH ls i).length):iW (ls.map lT,(i:Int),())=some (bif bP (R9 ls i) then .inr (.inl (8,())) else .inl (ls.map lT,((i+1:Nat):Int),())):=by
 have wk:wr .i64 ((i:Int)+1)=((i+1:Nat):Int):=by rw[dK (by omega) (by omega)];push_cast;rfl
 have ar:=Pz hB hm hi h0
 obtain⟨p,q,r,e1,e2⟩:=Zl (hB _ (bO hi))
 have hs1:=QI (bH ls i)
 unfold iW
 simp -implicitDefEqProofs only[aF,eO,decide_eq_true (by omega:(i:Int)<(ls.length:Int)),cond_true,ar,bC,aN,(eA hi).1,iB,A7,e1,e2,aJ,wk]
 unfold R9
 generalize zF ls i ls.length=o at *
 generalize sA (bH ls i)=s at *
 by_cases h1:o<0
 ·rw[decide_eq_true h1,gN (by omega)];rfl
 ·rw[decide_eq_false h1]
  by_cases h2:1<o
  ·rw[decide_eq_true h2,gN (by omega)];rfl
  ·rw[decide_eq_false h2]
   have ws:wr .i64 (o+s)=o+s:=dK (by omega) (by omega)
   rw[ws]
   by_cases h3:o+s<0
   ·rw[decide_eq_true h3,gN (by omega)];rfl
   ·rw[decide_eq_false h3]
    by_cases h4:1<o+s
    ·rw[decide_eq_true h4,gN (by omega)];rfl
    ·rw[decide_eq_false h4,gF (by omega)];rfl
end
section
variable {ls:List (List Z)} (hB:A6 ls)
include hB
theorem WH(hm:ls.length≤16)(h0:0<ls.length)(hl:∀l∈ls,l.length≤64):dF (ls.map lT,())=some (Ha ls,()):=by
 have v:=Uu hB (by omega) hl
 have a:=aCK hB (by omega)
 unfold dF Ha
 simp only[eO,aL,decide_eq_false (by omega:¬(ls.length:Int)=0),cond_false,aF,decide_eq_false (by omega:¬(16:Int)<(ls.length:Int)),v,bC,aN,kQ,a]
 by_cases hA:∃i,0≤i∧i<ls.length∧AB ls i
 ·rw[gN hA];simp only[cond_true,bC,aN]
 ·rw[gF hA]
  have hs:∀i,i<ls.length→0<(bH ls i).length:=fun i hi=>by
   have hsim:A8 (bH ls i):=Classical.byContradiction fun c=>hA ⟨i,Nat.zero_le _,hi,.inl c⟩
   have:=hsim.1;omega
  have c:=eN (F:=iW) (fun i=>(ls.map lT,(i:Int),())) ls.length (R9 ls) (.inl (8,())) (.inr (.inl ()))
   (fun k hk hb=>by rw[Qa hB (by omega) hk (hs k hk),gN hb];rfl) (fun k hk hb=>by rw[Qa hB (by omega) hk (hs k hk),gF hb];rfl) (by
    unfold iW
    simp only[aF,eO,decide_eq_false (by omega:¬(ls.length:Int)<(ls.length:Int)),cond_false]) ls.length 0 (by omega)
  have c:aI iW (ls.map lT,(0:Int),())=_:=c
  simp only[cond_false,bC,aN,kQ,c]
  generalize bP (∃j,0≤j∧j<ls.length∧R9 ls j)=x
  cases x <;> rfl
def QJ(ls:List (List Z))(p:Q):Prop:=∃j,0≤j∧j<ls.length∧EY (jK (qs (bH ls j))) p
noncomputable def IR(ls:List (List Z))(p:Q)(k:Nat):Int:=uO k fun j=>wd (jK (qs (bH ls j))) p
theorem ZT(p:Q):∀k,k≤ls.length→(IR ls p k).natAbs≤1000*k
 | 0,_=>by show (0:Int).natAbs≤_;omega
 | k+1,hk=>by
  have h1:=ZT p k (by omega)
  have h2:=Dd (bH ls k) p
  have h3:=(hB _ (bO (i:=k) (by omega))).1
  unfold IR at *
  rw[mS,Nat.mul_succ];omega
section
variable (hm:ls.length≤1000) {D:Nat} {px py pz:Rat}
include hm
theorem Hb(hp:Pp D 32 px py pz):oV (ls.map lT,c3 px (c3 py (c3 pz ())))=some (bif bP (QJ ls (px,py)) then 0 else bif decide (IR ls (px,py) ls.length=1) then 1 else -1,()):=by
 have key:∀k,k<ls.length→jX ((),IR ls (px,py) k,ls.map lT,(ls.length:Int),(k:Int),c3 px (c3 py (c3 pz ())))=some (bif bP (EY (jK (qs (bH ls k))) (px,py)) then .inr (.inl (0,())) else .inl ((),IR ls (px,py) (k+1),ls.map lT,(ls.length:Int),((k+1:Nat):Int),c3 px (c3 py (c3 pz ())))):=fun k hk=>by
  have wk:wr .i64 ((k:Int)+1)=((k+1:Nat):Int):=by rw[dK (by omega) (by omega)];push_cast;rfl
  have hw:=Pi (hB _ (bO hk)) hp
  have h1:=ZT hB (px,py) k (by omega)
  have h2:=Dd (bH ls k) (px,py)
  have h3:=(hB _ (bO hk)).1
  have e2:IR ls (px,py) (k+1)=IR ls (px,py) k+wd (jK (qs (bH ls k))) (px,py):=mS _ _
  have ws:wr .i64 (IR ls (px,py) k+wd (jK (qs (bH ls k))) (px,py))=IR ls (px,py) k+wd (jK (qs (bH ls k))) (px,py):=dK (by omega) (by omega)
  rw[e2]
  unfold jX
  simp -implicitDefEqProofs only[aF,decide_eq_true (by omega:(k:Int)<(ls.length:Int)),cond_true,(eA hk).1,bC,iB,A7,hw,aJ,wk]
  generalize bP (EY (jK (qs (bH ls k))) (px,py))=b
  cases b with
  | true=>rfl
  | false=>simp only[cond_false,Bool.not_true,ws]
 have sc:=eN (F:=jX) (fun k=>((),IR ls (px,py) k,ls.map lT,(ls.length:Int),(k:Int),c3 px (c3 py (c3 pz ())))) ls.length (fun k=>EY (jK (qs (bH ls k))) (px,py)) (.inl (0,())) (.inr (.inl (IR ls (px,py) ls.length,())))
  (fun k hk hb=>by rw[key k hk,gN hb];rfl) (fun k hk hb=>by rw[key k hk,gF hb];rfl) (by
   unfold jX
   simp only[aF,decide_eq_false (by omega:¬(ls.length:Int)<(ls.length:Int)),cond_false]) ls.length 0 (by omega)
 have sc:aI jX ((),(0:Int),ls.map lT,(ls.length:Int),(0:Int),c3 px (c3 py (c3 pz ())))=_:=sc
 have hb:bP (∃j,0≤j∧j<ls.length∧EY (jK (qs (bH ls j))) (px,py))=bP (QJ ls (px,py)):=rfl
 rw[hb] at sc
 unfold oV
 simp only[eO]
 rw[sc]
 cases bP (QJ ls (px,py)) with
 | true=>rfl
 | false=>
  simp only[cond_false,bC,aN,kQ,aL]
  cases decide (IR ls (px,py) ls.length=1) <;> rfl
end
end
end Go.Eng.Rt
namespace Go.Eng.Rt
open Go.Eng Go.Eng.Tw Go.Eng.Tm Go.Eng.Tg
def pz(x y r:Int)(p:Z):Z:=(x+r*p.1,y+r*p.2)
def Shp(l:List Z):Prop:=∃x y r s,0<r∧ZL s=true∧l=s.map (pz x y r)
theorem Zn{s:List Z}(f:Z→Q):jK (s.map f)=(jK s).map fun e=>(f e.1,f e.2):=by
 unfold jK
 rw[List.map_map,List.length_map]
 refine List.map_congr_left fun i hi=>?_
 have hi:=List.mem_range.1 hi
 have hj:(i+1)%s.length<s.length:=Nat.mod_lt _ (by omega)
 have h:∀{j},j<s.length→(s.map f).getD j default=f (s.getD j default):=fun {j} hj=>by
  rw[List.getD_eq_getElem?_getD,List.getD_eq_getElem?_getD,List.getElem?_map,List.getElem?_eq_getElem hj];rfl
 rw[h hi,h hj]
 rfl
theorem Zo{α β:Type}(f:α→β)(E:List (α×α)):sw (E.map fun e=>(f e.1,f e.2))=(sw E).map fun e=>(f e.1,f e.2):=by
 unfold sw
 rw[List.map_map,List.map_map];rfl
theorem ZU(s:List Z):∀k,k≤s.length→pM s k=uO k fun i=>QT (aV s i) (aV s (i+1))
 | 0,_=>rfl
 | k+1,h=>by
  rw[mS,←ZU s k (by omega)]
  show pM s k+QT (pF s k) (pF s ((k+1)%s.length))=_
  rw[←Db (by omega),←V8 (by omega)]
theorem QK(s:List Z):gQ s=uO s.length fun i=>QT (aV s i) (aV s (i+1)):=by rw[←ES,ZU s _ (Nat.le_refl _)]
theorem Uv(s:List Z):arZ s=gQ s:=by
 rw[QK]
 unfold arZ uO jK
 rw[List.map_map]
 refine congrArg List.sum (List.map_congr_left fun i hi=>?_)
 have hi:=List.mem_range.1 hi
 show _=QT (aV s i) (aV s (i+1))
 unfold aV
 rw[Nat.mod_eq_of_lt hi]
 rfl
theorem Zp(x y r:Int)(p q:Z):QT (pz x y r p) (pz x y r q)=r*r*QT p q+r*(x*(q.2-p.2)-y*(q.1-p.1)):=by unfold QT pz;grind
theorem Hc(x y r:Int)(s:List Z):gQ (s.map (pz x y r))=r*r*gQ s:=by
 by_cases h0:s.length=0
 ·rw[List.length_eq_zero_iff.1 h0];show (0:Int)=r*r*0;omega
 have h0:0<s.length:=by omega
 rw[QK,QK,List.length_map]
 have key:∀k,uO k (fun i=>QT (aV (s.map (pz x y r)) i) (aV (s.map (pz x y r)) (i+1)))=r*r*uO k (fun i=>QT (aV s i) (aV s (i+1)))+r*(x*((aV s k).2-(aV s 0).2)-y*((aV s k).1-(aV s 0).1)):=fun k=>by
  induction k with
  | zero=>show (0:Int)=r*r*0+r*(x*((aV s 0).2-(aV s 0).2)-y*((aV s 0).1-(aV s 0).1));grind
  | succ k ih=>rw[mS,mS,ih,zE _ h0,zE _ h0,Zp];grind
 rw[key]
 have e:aV s s.length=aV s 0:=by unfold aV;rw[Nat.mod_self,Nat.zero_mod]
 rw[e];grind
theorem Hd{n:Int}:(0<n→lK (n:Rat)=1)∧(n<0→lK (n:Rat)=-1):=by
 rcases tK (n:Rat) with⟨h,k⟩ | ⟨h,k⟩ | ⟨h,k⟩
 ·have:n=0:=Rat.intCast_inj.1 k
  exact⟨fun c=>by omega,fun c=>by omega⟩
 ·have:n<0:=Rat.intCast_lt_intCast.1 k
  exact⟨fun c=>by omega,fun _=>h⟩
 ·have:0<n:=Rat.intCast_lt_intCast.1 k
  exact⟨fun _=>h,fun c=>by omega⟩
theorem Uw{l:List Z}(h:A8 l):Yy (qs l):=by
 obtain⟨h3,hb⟩:=h
 have h0:0<l.length:=by omega
 unfold Yy
 rw[tL]
 refine⟨h3,fun i hi=>?_⟩
 have nb:¬J8 l i:=fun c=>hb ⟨i,hi,c⟩
 rw[sR h0,sR h0,sR h0]
 refine⟨fun e=>nb (.inl (QE e)),fun e=>nb (.inr (.inl e)),fun j h1 h2 h3 hm=>nb (.inr (.inr ⟨j,h1,?_,?_⟩))⟩
 ·split
  ·exact h2
  ·omega
 ·rw[sR h0,sR h0] at hm;exact hm
theorem Zq{l:List Z}(hs:Shp l)(h:A8 l):∃G,Lp (qs l) (sA l) G:=by
 obtain⟨x,y,r,s,hr,hc,rfl⟩:=hs
 have hq:qs (s.map (pz x y r))=s.map (pl x y r):=by unfold qs;rw[List.map_map];rfl
 have hp:=Uw h
 rw[hq] at hp
 have hb:=Za hr hp
 have hE:jK (qs (s.map (pz x y r)))=(jK s).map (plE x y r):=by rw[hq];exact Zn _
 have hS:sw (jK (qs (s.map (pz x y r))))=(sw (jK s)).map (plE x y r):=by rw[hE];exact Zo _ _
 have r2:0<r*r:=Int.mul_pos hr hr
 unfold ZL at hc
 rw[hb] at hc
 simp only[Bool.not_true,Bool.or_false,Bool.or_eq_true,Bool.and_eq_true,Oy,Uv] at hc
 rcases hc with⟨h1,h2⟩ | ⟨h1,h2⟩
 ·refine⟨jK (qs (s.map (pz x y r))),?_,Ge _,.inl ⟨?_,rfl⟩⟩
  ·rw[hE]
   exact Wo hr h1 (by rw[←hE];exact Ge _) (by rw[←hE];exact fun e he=>Ug he)
  ·unfold sA;rw[Hc];exact Hd.1 (Int.mul_pos r2 h2)
 ·refine⟨sw (jK (qs (s.map (pz x y r)))),?_,Ov _,.inr ⟨?_,rfl⟩⟩
  ·rw[hS]
   exact Wo hr h1 (by rw[←hS];exact Ov _) (by rw[←hS];exact fun e he=>Yw he)
  ·unfold sA;rw[Hc];exact Hd.2 (Int.mul_neg_of_pos_of_neg r2 h2)
structure Reg (ls:List (List Z)) (G:Nat→List Ed):Prop where
 lp:∀i,i<ls.length→Lp (qs (bH ls i)) (sA (bH ls i)) (G i)
 pos:∀i,i<ls.length→0<(bH ls i).length
 ap:∀i,i<ls.length→∀j,j<ls.length→i≠j→Apart (jK (qs (bH ls i))) (jK (qs (bH ls j)))
theorem Zr{ls:List (List Z)}(hS:∀l∈ls,Shp l)(hA:¬∃i,0≤i∧i<ls.length∧AB ls i):∃G,Reg ls G:=by
 have h1:∀i,i<ls.length→A8 (bH ls i):=fun i hi=>Classical.byContradiction fun c=>hA ⟨i,Nat.zero_le _,hi,.inl c⟩
 have h2:∀i,i<ls.length→∀k,k<i→Apart (jK (qs (bH ls i))) (jK (qs (bH ls k))):=fun i hi k hk=>
  KA.1 fun c=>hA ⟨i,Nat.zero_le _,hi,.inr ⟨k,Nat.zero_le _,hk,c⟩⟩
 have hG:∀i,i<ls.length→∃G,Lp (qs (bH ls i)) (sA (bH ls i)) G:=fun i hi=>Zq (hS _ (bO hi)) (h1 i hi)
 refine⟨fun i=>if hi:i<ls.length then Classical.choose (hG i hi) else [],fun i hi=>?_,fun i hi=>by have:=(h1 i hi).1;omega,fun i hi j hj hne=>?_⟩
 ·rw[dif_pos hi];exact Classical.choose_spec (hG i hi)
 ·rcases Nat.lt_or_ge i j with h | h
  ·exact(h2 j hj i h).symm
  ·exact h2 i hi j (by omega)
section
variable {ls:List (List Z)} {G:Nat→List Ed} (hR:Reg ls G)
include hR
theorem Reg.off{i j:Nat}(hi:i<ls.length)(hj:j<ls.length)(hne:j≠i):¬EY (jK (qs (bH ls j))) (cq (mY ls i)):=by
 rintro ⟨e,he,ho⟩
 have h0:=hR.pos i hi
 have:=V7 (L:=qs (bH ls i)) (i:=0) (by rw[tL];exact h0)
 rw[sR h0,sR h0] at this
 exact hR.ap i hi j hj (Ne.symm hne) _ this e he (.inr (.inr (.inl ho)))
theorem Reg.wn{p:Q}{j:Nat}(hj:j<ls.length)(ho:¬EY (jK (qs (bH ls j))) p):wd (jK (qs (bH ls j))) p=ad G (fun j=>sA (bH ls j)) p j:=by
 rw[(hR.lp j hj).wind ho];rfl
theorem Reg.outs{i:Nat}(hi:i<ls.length):outs ls i=zF ls i ls.length:=by
 have key:∀k,k≤ls.length→((B5 ls i k).map fun j=>sA (bH ls j)).sum=zF ls i k:=fun k hk=>by
  induction k with
  | zero=>rfl
  | succ k ih=>
   have e2:zF ls i (k+1)=zF ls i k+if k=i then 0 else Rt.wn (bH ls k) (cq (mY ls i)):=mS _ _
   rw[e2,QH,List.map_append,List.sum_append,ih (by omega)]
   by_cases h:k=i
   ·rw[if_pos h,gF (fun c=>c.1 h)];rfl
   ·rw[if_neg h]
    have ho:=hR.off hi (by omega) h
    have hw:Rt.wn (bH ls k) (cq (mY ls i))=ad G (fun j=>sA (bH ls j)) (cq (mY ls i)) k:=by
     unfold Rt.wn
     rw[gF ho,cond_false]
     exact hR.wn (by omega) ho
    by_cases h2:Rt.wn (bH ls k) (cq (mY ls i))=0
    ·rw[gF (fun c=>c.2 h2),h2];rfl
    ·rw[gN ⟨h,h2⟩]
     have:Rt.wn (bH ls k) (cq (mY ls i))=sA (bH ls k):=by
      rw[hw] at h2 ⊢
      unfold ad at h2 ⊢
      split
      ·rfl
      ·rename_i hh;rw[if_neg hh] at h2;exact absurd rfl h2
     rw[this]
     simp
 exact key _ (Nat.le_refl _)
theorem Reg.bad{i:Nat}(hi:i<ls.length):R8 ls i↔R9 ls i:=by
 unfold R8 R9
 rw[hR.outs hi]
 have hs:=(hR.lp i hi).sg
 generalize zF ls i ls.length=o at *
 generalize sA (bH ls i)=s at *
 omega
end
end Go.Eng.Rt
namespace Go.Eng.Nst
open Go.Eng Go.Eng.Tw Go.Eng.Tm Go.Eng.Tg Go.Eng.Rt
def sl(e:Ed):Rat:=(e.2.1-e.1.1)/(e.2.2-e.1.2)
def hl(k:Int):Rat:=(k:Rat)+1/2
end Go.Eng.Nst
namespace Go.Eng.Nst
open Go.Eng Go.Eng.Tw Go.Eng.Tm Go.Eng.Tg Go.Eng.Rt
section
variable {E G K:List Ed} {z u d:Q} {e f:Ed}
end
end Go.Eng.Nst
namespace Go.Eng.Ord
open Go.Eng Go.Eng.Tw Go.Eng.Tm Go.Eng.Tg Go.Eng.Rt
abbrev L:=List Z
def hx(a:L):Int:=(aV a 0).1
def hy(a:L):Int:=(aV a 0).2
def sameK(a b:L):Prop:=hx a=hx b∧hy a=hy b
instance (a b:L):Decidable (sameK a b):=inferInstanceAs (Decidable (hx a=hx b∧hy a=hy b))
theorem sameK.symm{a b:L}(h:sameK a b):sameK b a:=⟨h.1.symm,h.2.symm⟩
def KD(m:List L):Prop:=m.Pairwise fun a b=>¬sameK a b
def IS(a b:L):Prop:=hx a<hx b∨(hx a=hx b∧hy a<hy b)
instance (a b:L):Decidable (IS a b):=inferInstanceAs (Decidable (hx a<hx b∨(hx a=hx b∧hy a<hy b)))
theorem KB{a b c:L}(h:IS a b)(h':IS b c):IS a c:=by unfold IS at *;omega
theorem Ko{a b:L}(h:IS a b):¬IS b a:=by unfold IS at *;omega
theorem Qb{a b:L}(h:¬sameK a b):IS a b∨IS b a:=by unfold IS sameK at *;omega
theorem Zs{a b:L}(h:IS a b):¬sameK a b:=by unfold IS sameK at *;omega
abbrev SL(m:List L):Prop:=m.Pairwise IS
theorem SL.kd{m:List L}(h:SL m):KD m:=h.imp Zs
theorem QL:∀{l m:List L},l.Perm m→SL l→SL m→l=m
 | [],m,hp,_,_=>(List.nil_perm.1 hp).symm
 | a::l,[],hp,_,_=>(List.perm_nil.1 hp)
 | a::l,b::m,hp,hl,hm=>by
  obtain⟨a1,a2⟩:=List.pairwise_cons.1 hl
  obtain⟨b1,b2⟩:=List.pairwise_cons.1 hm
  have hab:a=b:=by
   rcases List.mem_cons.1 (hp.mem_iff.1 (List.mem_cons_self (a:=a) (l:=l))) with h | h
   ·exact h
   ·rcases List.mem_cons.1 (hp.mem_iff.2 (List.mem_cons_self (a:=b) (l:=m))) with h' | h'
    ·exact h'.symm
    ·exact absurd (b1 a h) (Ko (a1 b h'))
  subst hab
  rw[QL ((List.perm_cons a).1 hp) a2 b2]
def Kp(e:L):List L→List L
 | []=>[e]
 | x::m=>if IS e x then e::x::m else x::Kp e m
def ZV(l:List L):List L:=l.foldr Kp []
theorem KC(e:L):∀m:List L,(Kp e m).Perm (e::m)
 | []=>.refl _
 | x::m=>by
  simp only[Kp]
  split
  ·exact .refl _
  ·exact((KC e m).cons x).trans (.swap e x m)
theorem EV(l:List L):(ZV l).Perm l:=by
 induction l with
 | nil=>exact .refl _
 | cons e l ih=>exact(KC e _).trans (ih.cons e)
theorem He(e:L):∀{m:List L},SL m→(∀x∈m,¬sameK e x)→SL (Kp e m)
 | [],_,_=>List.pairwise_singleton _ _
 | x::m,h,hn=>by
  obtain⟨h1,h2⟩:=List.pairwise_cons.1 h
  simp only[Kp]
  split
  ·rename_i hlt
   exact List.pairwise_cons.2 ⟨fun y hy=>by
    rcases List.mem_cons.1 hy with rfl | hy
    ·exact hlt
    ·exact KB hlt (h1 y hy),h⟩
  ·rename_i hlt
   refine List.pairwise_cons.2 ⟨fun y hy=>?_,He e h2 fun y hy=>hn y (by simp[hy])⟩
   rcases List.mem_cons.1 ((KC e m).mem_iff.1 hy) with rfl | hy
   ·exact(Qb (hn x (by simp))).resolve_left hlt
   ·exact h1 y hy
theorem Hf:∀{l:List L},KD l→SL (ZV l)
 | [],_=>List.Pairwise.nil
 | e::l,h=>by
  obtain⟨h1,h2⟩:=List.pairwise_cons.1 h
  exact He e (Hf h2) fun x hx=>h1 x ((EV l).mem_iff.1 hx)
theorem KD.perm{l m:List L}(h:KD l)(hp:l.Perm m):KD m:=(hp.pairwise_iff (fun hab hba=>hab hba.symm)).1 h
theorem Hg{l m:List L}(hp:m.Perm l)(h:KD l)(hm:SL m):m=ZV l:=QL (hp.trans (EV l).symm) hm (Hf h)
def EZ:List L→L→List L→List L
 | [],e,A=>e::A
 | x::R,e,A=>if IS e x then EZ R e (x::A) else (x::R).reverse++e::A
theorem KE:∀(R:List L) (e:L) (A:List L),(EZ R e A).Perm (R.reverse++e::A)
 | [],e,A=>.refl _
 | x::R,e,A=>by
  simp only[EZ]
  split
  ·refine(KE R e (x::A)).trans ?_
   rw[List.reverse_cons,List.append_assoc]
   exact List.Perm.append_left _ (.swap x e A)
  ·exact .refl _
theorem WI:∀(R:List L) (e:L) (A:List L),SL (R.reverse++A)→(∀y∈A,IS e y)→(∀y∈R,¬sameK e y)→SL (EZ R e A)
 | [],e,A,h,h1,_=>List.pairwise_cons.2 ⟨h1,h⟩
 | x::R,e,A,h,h1,h2=>by
  simp only[EZ]
  have h':SL (R.reverse++x::A):=by rw[List.reverse_cons,List.append_assoc] at h;exact h
  split
  ·rename_i hlt
   exact WI R e (x::A) h' (fun y hy=>by
    rcases List.mem_cons.1 hy with rfl | hy
    ·exact hlt
    ·exact h1 y hy) fun y hy=>h2 y (by simp[hy])
  ·rename_i hlt
   have hxe:IS x e:=(Qb (h2 x (by simp))).resolve_left hlt
   obtain⟨p1,p2,p3⟩:=List.pairwise_append.1 h'
   obtain⟨q1,q2⟩:=List.pairwise_cons.1 p2
   have hAe:SL (e::A):=List.pairwise_cons.2 ⟨h1,q2⟩
   refine List.pairwise_append.2 ⟨(List.pairwise_append.1 h).1,hAe,fun a ha b hb=>?_⟩
   have hax:a=x∨IS a x:=by
    rcases List.mem_cons.1 (List.mem_reverse.1 ha) with h | h
    ·exact .inl h
    ·exact .inr (p3 a (List.mem_reverse.2 h) x (by simp))
   have hae:IS a e:=by
    rcases hax with rfl | hax
    ·exact hxe
    ·exact KB hax hxe
   rcases List.mem_cons.1 hb with rfl | hb
   ·exact hae
   ·exact KB hae (h1 b hb)
end Go.Eng.Ord
namespace Go.Eng.Ord
open Go.Eng Go.Eng.Tw Go.Eng.Tm Go.Eng.Tg Go.Eng.Rt
def oZ(k:Nat)(l:L):L:=(List.range l.length).map fun i=>aV l (k+i)
theorem gS(k:Nat)(l:L):(oZ k l).length=l.length:=by unfold oZ;rw[List.length_map,List.length_range]
theorem GV(l:L)(i:Nat):aV l (i%l.length)=aV l i:=by unfold aV;rw[Nat.mod_mod]
theorem Qc(l:L)(i:Nat):aV l (i+l.length)=aV l i:=by unfold aV;rw[Nat.add_mod_right]
theorem tN{l:L}(h:0<l.length)(k i:Nat):aV (oZ k l) i=aV l (k+i):=by
 have hi:=Nat.mod_lt i h
 have e:aV (oZ k l) i=(oZ k l).getD (i%l.length) default:=by unfold aV;rw[gS]
 rw[e,List.getD_eq_getElem?_getD]
 unfold oZ
 rw[List.getElem?_map,List.getElem?_range hi]
 show aV l (k+i%l.length)=aV l (k+i)
 unfold aV
 rw[Nat.add_mod_mod]
theorem WJ{l:L}{k:Nat}{p:Z}:p∈oZ k l→p∈l:=fun h=>by
 unfold oZ at h
 obtain⟨i,hi,rfl⟩:=List.mem_map.1 h
 have:=List.mem_range.1 hi
 exact(yM (by omega) _).1
theorem IT{l m:L}(h:l.length=m.length)(hi:∀i,i<l.length→aV l i=aV m i):l=m:=by
 refine List.ext_getElem h fun i h1 h2=>?_
 have:=hi i h1
 unfold aV at this
 rw[Nat.mod_eq_of_lt h1,Nat.mod_eq_of_lt h2,List.getD_eq_getElem?_getD,List.getD_eq_getElem?_getD,List.getElem?_eq_getElem h1,List.getElem?_eq_getElem h2] at this
 exact this
theorem Qd(l:L):oZ 0 l=l:=by
 refine IT (gS _ _) fun i hi=>?_
 rw[gS] at hi
 rw[tN (by omega),Nat.zero_add]
theorem Hh(j k:Nat)(l:L):oZ j (oZ k l)=oZ (k+j) l:=by
 refine IT (by rw[gS,gS,gS]) fun i hi=>?_
 rw[gS,gS] at hi
 have h:0<l.length:=by omega
 rw[tN (by rw[gS];exact h),tN h,tN h,Nat.add_assoc]
theorem WK(k:Nat)(l:L):oZ (k%l.length) l=oZ k l:=by
 refine IT (by rw[gS,gS]) fun i hi=>?_
 rw[gS] at hi
 have h:0<l.length:=by omega
 rw[tN h,tN h]
 unfold aV
 rw[Nat.mod_add_mod]
theorem Qe(k:Nat)(l:L):∃j,oZ j (oZ k l)=l:=by
 refine⟨l.length-k%l.length,?_⟩
 rw[Hh]
 by_cases h:0<l.length
 ·have:=Nat.mod_lt k h
  rw[←WK,←Nat.mod_add_mod,show k%l.length+(l.length-k%l.length)=l.length by omega,Nat.mod_self,Qd]
 ·refine IT (gS _ _) fun i hi=>?_
  rw[gS] at hi;omega
theorem Ux{l:L}{n:Nat}(h:n≤l.length):l.drop n++l.take n=oZ n l:=by
 refine IT (by rw[gS,List.length_append,List.length_drop,List.length_take];omega) fun i hi=>?_
 rw[List.length_append,List.length_drop,List.length_take] at hi
 have hi:i<l.length:=by omega
 have h0:0<l.length:=by omega
 rw[tN h0]
 have e:(l.drop n++l.take n).length=l.length:=by rw[List.length_append,List.length_drop,List.length_take];omega
 unfold aV
 rw[e,Nat.mod_eq_of_lt hi,List.getD_eq_getElem?_getD,List.getD_eq_getElem?_getD]
 congr 1
 by_cases hc:i<l.length-n
 ·rw[List.getElem?_append_left (by rw[List.length_drop];exact hc),List.getElem?_drop,Nat.mod_eq_of_lt (by omega)]
 ·rw[List.getElem?_append_right (by rw[List.length_drop];omega),List.length_drop,List.getElem?_take,if_pos (by omega)]
  have e2:(n+i)%l.length=i-(l.length-n):=by
   rw[show n+i=i-(l.length-n)+l.length by omega,Nat.add_mod_right,Nat.mod_eq_of_lt (by omega)]
  rw[e2]
theorem WA(l:L)(p:Q):wd (jK (qs l)) p=uO l.length fun i=>we p (cq (aV l i),cq (aV l (i+1))):=by
 unfold wd uO jK
 rw[List.map_map,tL]
 refine congrArg List.sum (List.map_congr_left fun i hi=>?_)
 have hi:=List.mem_range.1 hi
 have h0:0<l.length:=by omega
 rw[←sR h0,←sR h0]
 unfold aV
 rw[tL,Nat.mod_eq_of_lt hi]
 rfl
theorem Zt{k:Nat}{l:L}(h:Bx l):Bx (oZ k l):=
 ⟨by rw[gS];exact h.1,fun p hp=>h.2.1 p (WJ hp),fun p hp q hq=>h.2.2 p (WJ hp) q (WJ hq)⟩
def aDP(l:L):Prop:=3≤l.length∧∀i,aV l i≠aV l (i+1)∧¬MW (cq (aV l i)) (cq (aV l (i+1))) (cq (aV l (i+2)))∧∀d,2≤d→d+2≤l.length→¬gR l i (i+d)
theorem Uy{l:L}(h:A8 l):aDP l:=by
 obtain⟨h3,hb⟩:=h
 have h0:0<l.length:=by omega
 have e:∀i j,aV l (i%l.length+j)=aV l (i+j):=fun i j=>by unfold aV;rw[Nat.mod_add_mod]
 refine⟨h3,fun i=>?_⟩
 have hi:=Nat.mod_lt i h0
 have nb:¬J8 l (i%l.length):=fun c=>hb ⟨_,hi,c⟩
 refine⟨fun c=>nb (.inl (by rw[e,GV];exact c)),fun c=>nb (.inr (.inl (by rw[e,e,GV];exact c))),fun d h1 h2 c=>?_⟩
 by_cases hw:i%l.length+d<l.length
 ·refine nb (.inr (.inr ⟨i%l.length+d,by omega,?_,?_⟩))
  ·split
   ·exact hw
   ·omega
  ·unfold gR at *
   rw[show i%l.length+d+1=i%l.length+(d+1) by omega,e,e,e,GV]
   exact c
 ·-- the other edge comes first
  refine hb ⟨i%l.length+d-l.length,by omega,.inr (.inr ⟨i%l.length,by omega,?_,?_⟩)⟩
  ·split
   ·exact hi
   ·omega
  ·unfold gR at *
   have e3:∀j,aV l (i%l.length+d-l.length+j)=aV l (i+d+j):=fun j=>by
    rw[←Qc,show i%l.length+d-l.length+j+l.length=i%l.length+(d+j) by omega,e,Nat.add_assoc]
   have e4:=e3 0
   rw[Nat.add_zero,Nat.add_zero] at e4
   rw[e3,e4,e,GV]
   exact QA c
theorem Zu{l:L}(h:A8 l){i j:Nat}(hi:i<l.length)(hj:j<l.length)(e:aV l i=aV l j):i=j:=by
 have key:∀i d,i+d<l.length→0<d→aV l i≠aV l (i+d):=fun i d hd h0 c=>by
  have hs:=Uy h
  by_cases h1:d=1
  ·subst h1;exact(hs.2 i).1 c
  ·by_cases h2:d+2≤l.length
   ·refine(hs.2 i).2.2 d (by omega) h2 ?_
    unfold gR
    rw[←c]
    refine .inl ?_
    have:=A5 (a:=cq (aV l i)) (b:=cq (aV l (i+1))) (t:=0) (by decide) (by decide)
    rwa[Oq] at this
   ·have hd1:i=0∧d+1=l.length:=by omega
    obtain⟨rfl,hd1⟩:=hd1
    refine(hs.2 (0+d)).1 ?_
    rw[←c,show 0+d+1=0+l.length by omega,Qc]
 rcases Nat.lt_trichotomy i j with h1 | h1 | h1
 ·exact absurd (by rw[show i+(j-i)=j by omega];exact e) (key i (j-i) (by omega) (by omega))
 ·exact h1
 ·exact absurd (by rw[show j+(i-j)=i by omega];exact e.symm) (key j (i-j) (by omega) (by omega))
end Go.Eng.Ord
namespace Go.Eng.Ord
open Go.Eng Go.Eng.Tw Go.Eng.Tm Go.Eng.Tg Go.Eng.Rt
noncomputable def sW(ls:List L)(p:Q):Int:=(ls.map fun l=>wn l p).sum
def Qf(l:L):Q:=cq (aV l 0)
def Zv(ls:List L):Prop:=(∀l∈ls,A8 l)∧ls.Pairwise (fun l m=>Apart (jK (qs l)) (jK (qs m)))∧∀l∈ls,0≤sW ls (Qf l)∧sW ls (Qf l)≤1∧0≤sW ls (Qf l)+sA l∧sW ls (Qf l)+sA l≤1
theorem yN{ls:List L}{i:Nat}(h:i<ls.length):bH ls i=ls[i]:=by unfold bH;rw[List.getD_eq_getElem?_getD,List.getElem?_eq_getElem h];rfl
theorem Hi{ls:List L}{l:L}(h:l∈ls):∃i,i<ls.length∧bH ls i=l:=by
 obtain⟨i,hi,e⟩:=List.mem_iff_getElem.1 h
 exact⟨i,hi,by rw[yN hi];exact e⟩
theorem Zw{ls:List L}{R:L→L→Prop}:ls.Pairwise R↔∀i,i<ls.length→∀j,j<i→R (bH ls j) (bH ls i):=by
 rw[List.pairwise_iff_getElem]
 constructor
 ·intro h i hi j hj
  rw[yN hi,yN (by omega)]
  exact h j i (by omega) hi hj
 ·intro h i j hi hj hij
  have:=h j hj i hij
  rwa[yN hi,yN hj] at this
theorem Uz(ls:List L)(p:Q):sW ls p=uO ls.length fun j=>wn (bH ls j) p:=by
 unfold sW uO
 congr 1
 refine List.ext_getElem (by rw[List.length_map,List.length_map,List.length_range]) fun i h1 h2=>?_
 rw[List.length_map] at h1
 rw[List.getElem_map,List.getElem_map,List.getElem_range,yN h1]
theorem Zx{l:L}(h:0<l.length)(k:Nat):wn l (cq (aV l k))=0:=by
 have:EY (jK (qs l)) (cq (aV l k)):=by
  refine⟨_,V7 (L:=qs l) (i:=k) (by rw[tL];exact h),?_⟩
  rw[sR h,sR h]
  have:=A5 (a:=cq (aV l k)) (b:=cq (aV l (k+1))) (t:=0) (by decide) (by decide)
  rwa[Oq] at this
 unfold wn
 rw[gN this];rfl
theorem Hj{ls:List L}{i:Nat}(hi:i<ls.length)(h:0<(bH ls i).length):zF ls i ls.length=sW ls (Qf (bH ls i)):=by
 rw[Uz]
 refine Da fun j _=>?_
 by_cases e:j=i
 ·rw[if_pos e,e];exact(Zx h 0).symm
 ·rw[if_neg e];rfl
theorem badA_iff{ls:List L}:(¬∃i,0≤i∧i<ls.length∧AB ls i)↔(∀l∈ls,A8 l)∧ls.Pairwise (fun l m=>Apart (jK (qs l)) (jK (qs m))):=by
 rw[Zw]
 constructor
 ·intro h
  refine⟨fun l hl=>?_,fun i hi j hj=>?_⟩
  ·obtain⟨i,hi,rfl⟩:=Hi hl
   exact Classical.byContradiction fun c=>h ⟨i,Nat.zero_le _,hi,.inl c⟩
  ·exact(KA.1 fun c=>h ⟨i,Nat.zero_le _,hi,.inr ⟨j,Nat.zero_le _,hj,c⟩⟩).symm
 ·rintro ⟨h1,h2⟩ ⟨i,_,hi,c | ⟨k,_,hk,c⟩⟩
  ·exact c (h1 _ (bO hi))
  ·exact KA.2 (h2 i hi k hk).symm c
def Cv(ls:List L):Prop:=(∀l∈ls,A8 l)→ls.Pairwise (fun l m=>Apart (jK (qs l)) (jK (qs m)))→∃G,Reg ls G
theorem Wu{ls:List L}(hS:∀l∈ls,Shp l):Cv ls:=fun h1 h2=>Zr hS (badA_iff.2 ⟨h1,h2⟩)
theorem WL{ls:List L}(hc:Cv ls):(Zv ls→A9 ls=0)∧(¬Zv ls→A9 ls=8):=by
 unfold A9
 by_cases hA:∃i,0≤i∧i<ls.length∧AB ls i
 ·rw[gN hA]
  exact⟨fun h=>absurd hA (badA_iff.2 ⟨h.1,h.2.1⟩),fun _=>rfl⟩
 ·rw[gF hA,cond_false]
  obtain⟨h1,h2⟩:=badA_iff.1 hA
  obtain⟨G,hR⟩:=hc h1 h2
  by_cases hN:∃i,0≤i∧i<ls.length∧R8 ls i
  ·rw[gN hN]
   refine⟨fun h=>?_,fun _=>rfl⟩
   obtain⟨i,_,hi,hb⟩:=hN
   refine absurd ?_ ((hR.bad hi).1 hb)
   rw[Hj hi (hR.pos i hi)]
   exact h.2.2 _ (bO hi)
  ·rw[gF hN]
   refine⟨fun _=>rfl,fun h=>absurd ⟨h1,h2,fun l hl=>?_⟩ h⟩
   obtain⟨i,hi,rfl⟩:=Hi hl
   have nb:¬R9 ls i:=fun c=>hN ⟨i,Nat.zero_le _,hi,(hR.bad hi).2 c⟩
   unfold R9 at nb
   rw[Hj hi (hR.pos i hi)] at nb
   exact Classical.byContradiction fun c=>nb c
end Go.Eng.Ord
namespace Go.Eng.Nst
open Go.Eng Go.Eng.Tw Go.Eng.Tm Go.Eng.Tg Go.Eng.Rt
def Z9:Option Nat→Int
 | none=>-1
 | some b=>(b:Int)
def kT(ls:List (List Z))(o:Option Nat)(a:Nat):Option Nat:=
 match o with
 | none=>some a
 | some b=>if (gQ (bH ls a)).natAbs<(gQ (bH ls b)).natAbs then some a else some b
noncomputable def sG(ls:List (List Z))(i:Nat):Option Nat:=(B5 ls i ls.length).foldl (kT ls) none
theorem KF{ls:List (List Z)}:∀(l:List Nat) (o:Option Nat),(o=none→l=[]→l.foldl (kT ls) o=none)∧∀c,l.foldl (kT ls) o=some c→(o=some c∨c∈l)∧(∀a∈l,(gQ (bH ls c)).natAbs≤(gQ (bH ls a)).natAbs)∧∀b,o=some b→(gQ (bH ls c)).natAbs≤(gQ (bH ls b)).natAbs
 | [],o=>⟨fun h _=>h,fun c h=>⟨.inl h,fun a ha=>(by cases ha),fun b hb=>by
  have h:o=some c:=h
  rw[h] at hb;cases hb;exact Nat.le_refl _⟩⟩
 | a::l,o=>by
  refine⟨fun _ h=>(by cases h),fun c h=>?_⟩
  have h:l.foldl (kT ls) (kT ls o a)=some c:=h
  obtain⟨p1,p2,p3⟩:=(KF l (kT ls o a)).2 c h
  have key:kT ls o a=some a∧(∀b,o=some b→(gQ (bH ls a)).natAbs≤(gQ (bH ls b)).natAbs)∨∃b,o=some b∧kT ls o a=some b∧(gQ (bH ls b)).natAbs≤(gQ (bH ls a)).natAbs:=by
   cases o with
   | none=>exact .inl ⟨rfl,fun b hb=>by cases hb⟩
   | some b=>
    unfold kT
    by_cases hlt:(gQ (bH ls a)).natAbs<(gQ (bH ls b)).natAbs
    ·dsimp only
     rw[if_pos hlt]
     exact .inl ⟨rfl,fun b' hb=>by cases hb;omega⟩
    ·dsimp only
     rw[if_neg hlt]
     exact .inr ⟨b,rfl,rfl,by omega⟩
  rcases key with⟨k1,k2⟩ | ⟨b,k1,k2,k3⟩
  ·have q:=p3 a k1
   refine⟨.inr ?_,fun a' ha=>?_,fun b hb=>Nat.le_trans q (k2 b hb)⟩
   ·rcases p1 with p1 | p1
    ·rw[k1] at p1;cases p1;exact List.mem_cons_self ..
    ·exact List.mem_cons_of_mem _ p1
   ·rcases List.mem_cons.1 ha with rfl | ha
    ·exact q
    ·exact p2 a' ha
  ·have q:=p3 b k2
   refine⟨?_,fun a' ha=>?_,fun b' hb=>?_⟩
   ·rcases p1 with p1 | p1
    ·exact .inl (by rw[k1,←k2];exact p1)
    ·exact .inr (List.mem_cons_of_mem _ p1)
   ·rcases List.mem_cons.1 ha with rfl | ha
    ·exact Nat.le_trans q k3
    ·exact p2 a' ha
   ·rw[k1] at hb;cases hb;exact q
end Go.Eng.Nst
namespace Go.Eng.Sq
open Go.Eng Go.Eng.Tm Go.Eng.Tw Go.Eng.Rt Go.Eng.Tg
def WM(turn:Bool):List Z:=bif turn then Kl.reverse else Kl
theorem Kq{l:List Z}{i:Nat}(h:i<l.length):l.take (i+1)=l.take i++[l.getD i default]:=by
 rw[List.take_add_one,List.getElem?_eq_getElem h,List.getD_eq_getElem?_getD,List.getElem?_eq_getElem h];rfl
theorem Hk(turn:Bool):(WM turn).length=8:=by cases turn <;> rfl
def BS(l:List Z):Prop:=Bx l∧Shp l∧l.length≤8
theorem QM{turn:Bool}{s:List Z}(h:s.Sublist (WM turn)):ZL s=true∧ZL (swp s)=true:=by
 have key:∀R:List Z,((Kk R).all fun s=>ZL s&&ZL (swp s))=true→s.Sublist R→ZL s=true∧ZL (swp s)=true:=fun R hR hs=>by
  rw[List.all_eq_true] at hR
  have:=hR s (QD hs)
  rw[Bool.and_eq_true] at this
  exact this
 cases turn with
 | true=>exact key _ Zc h
 | false=>exact key _ Zb h
theorem Qg{turn:Bool}{s:List Z}(h:s.Sublist (WM turn)):∀p∈s,p.1.natAbs≤2∧p.2.natAbs≤2:=fun p hp=>by
 have:=h.subset hp
 have hm:p∈Kl:=by
  cases turn with
  | true=>exact List.mem_reverse.1 this
  | false=>exact this
 simp only[Kl,List.mem_cons,List.not_mem_nil,or_false] at hm
 rcases hm with rfl | rfl | rfl | rfl | rfl | rfl | rfl | rfl <;> exact⟨by decide,by decide⟩
theorem aCL{x y r:Int}(hr0:1≤r)(hr:r≤5){s:List Z}(h:∀p∈s,p.1.natAbs≤2∧p.2.natAbs≤2):SmS x y (s.map (pz x y r)):=fun p hp=>by
 obtain⟨q,hq,rfl⟩:=List.mem_map.1 hp
 obtain⟨h1,h2⟩:=h q hq
 have bd:∀c:Int,c.natAbs≤2→(r*c).natAbs≤10:=fun c hc=>by
  rw[Int.natAbs_mul]
  have:=Nat.mul_le_mul (show r.natAbs≤5 by omega) hc
  omega
 have b1:=bd q.1 h1
 have b2:=bd q.2 h2
 unfold pz
 dsimp only
 omega
end Go.Eng.Sq
namespace Go.Eng.Sq
open Go.Eng Go.Eng.Tm Go.Eng.Tw Go.Eng.Rt Go.Eng.Tg
end Go.Eng.Sq
namespace Go.Eng.Sq
open Go.Eng Go.Eng.Tm Go.Eng.Tw Go.Eng.Rt Go.Eng.Tg
def Kr(r:Int)(l:List (Int×Int)):Prop:=1≤r∧(l=Pa.map (pz 0 0 r)∨l=ZM.map (pz 0 0 r))
theorem Zy{r:Int}(hr:r≤9){m:List (Int×Int)}(h:Kr r m){j:Nat}(hj:j<4):BS (m.drop j++m.take j):=by
 obtain⟨h1,h2⟩:=h
 have hc:=Zd
 rw[List.all_eq_true] at hc
 have hc:=hc j (List.mem_range.2 hj)
 rw[Bool.and_eq_true] at hc
 have key:∀w:List Z,w.length=4→(∀p∈w,p.1.natAbs≤1∧p.2.natAbs≤1)→ZL (w.drop j++w.take j)=true→BS ((w.map (pz 0 0 r)).drop j++(w.map (pz 0 0 r)).take j):=fun w hw hp hk=>by
  rw[←List.map_drop,←List.map_take,←List.map_append]
  have hl:((w.drop j++w.take j).map (pz 0 0 r)).length≤8:=by rw[List.length_map,List.length_append,List.length_drop,List.length_take];omega
  have hb:∀p∈(w.drop j++w.take j).map (pz 0 0 r),p.1.natAbs≤9∧p.2.natAbs≤9:=fun p hm=>by
   obtain⟨q,hq,rfl⟩:=List.mem_map.1 hm
   have hq:q∈w:=by
    rcases List.mem_append.1 hq with h | h
    ·exact List.mem_of_mem_drop h
    ·exact List.mem_of_mem_take h
   obtain⟨b1,b2⟩:=hp q hq
   have bd:∀c:Int,c.natAbs≤1→(0+r*c).natAbs≤9:=fun c hc=>by
    rw[Int.zero_add,Int.natAbs_mul]
    have:=Nat.mul_le_mul (show r.natAbs≤9 by omega) hc
    omega
   exact⟨bd _ b1,bd _ b2⟩
  exact⟨⟨by omega,fun p hp=>by have:=hb p hp;omega,fun p hp q hq=>by have h1:=hb p hp;have h2:=hb q hq;omega⟩,⟨0,0,r,_,by omega,hk,rfl⟩,hl⟩
 rcases h2 with rfl | rfl
 ·exact key Pa rfl (by decide) hc.1
 ·exact key ZM rfl (by decide) hc.2
end Go.Eng.Sq
namespace Go.Eng
theorem WN{S E:Type}{F:S→Option (S⊕E)}(n:Nat)(s:S):Le (qW F n s) (aI F s):=Fc (fun _=>JL) n s
noncomputable def v_ref01_Trim(n:Nat)(t:((List T)×Unit)):Option ((List T)×Unit):=
 (ob (qW jN n (t.1,(Go.Eng.lenL t.1),())) fun q3=>dE q3 (fun t4=>(ob (Go.Eng.cutL t4.1 (0:Int) t4.2.1) fun x5=>(ob (Go.Eng.room [] x5 4) fun x6=>(some (x6,()))))) fun q7=>eB q7)
theorem SA(n:Nat)(t:((List T)×Unit)):Le (v_ref01_Trim n t) (cQ t):=by
 unfold v_ref01_Trim cQ
 repeat' with_reducible first | exact JL | refine HG ?_ ?_ | refine OT (fun _=>?_) fun _=>?_ | refine YJ ?_ fun _=>?_ | refine le_both ?_ ?_ | exact WN _ _
noncomputable def v_ref01_byLimb(n:Nat)(t:((List T)×Int×Unit)):Option ((List T)×Int×Unit):=
 (ob (Go.Eng.mkLen (Go.Eng.lenL t.1) (Go.Eng.lenL t.1) 4) fun x0=>(ob (qW xR n (t.1,t.2.1,(Go.Eng.repL x0.1 (Go.Eng.T.v (Go.Value.int Go.IntKind.u32 (0:Int)))),(0:Int),(Go.Eng.wr Go.IntKind.i64 (Go.Eng.subI (Go.Eng.lenL t.1) (1:Int))),())) fun q9=>dE q9 (fun t10=>(ob (Go.Eng.v_ref01_Trim n (t10.1,())) fun x11=>(some (x11.1,(Go.Eng.wr Go.IntKind.u32 t10.2.1),())))) fun q12=>eB q12))
theorem MX(n:Nat)(t:((List T)×Int×Unit)):Le (v_ref01_byLimb n t) (nX t):=by
 unfold v_ref01_byLimb nX
 repeat' with_reducible first | exact JL | refine HG ?_ ?_ | refine OT (fun _=>?_) fun _=>?_ | refine YJ ?_ fun _=>?_ | refine le_both ?_ ?_ | exact SA n _ | exact WN _ _
noncomputable def vA(n:Nat)(s0:(List T×List T×Unit)):Option ((List T×List T×Unit)⊕((List T×Unit)⊕Empty)):=
 (bif (Go.Eng.ltI (0:Int) (Go.Eng.lenL s0.1)) then (ob (Go.Eng.v_ref01_byLimb n (s0.1,(1000000000:Int),())) fun x1=>(ob (qW BK n (s0.2.1,x1.1,x1.2.1,(0:Int),())) fun q5=>dE q5 (fun t6=>(some (Sum.inl (t6.2.1,t6.1,())))) fun q7=>eB q7)) else (some (Sum.inr (Sum.inl (s0.2.1,())))))
theorem KG(n:Nat)(s0:(List T×List T×Unit)):Le (vA n s0) (uV s0):=by
 unfold vA uV
 repeat' with_reducible first | exact JL | refine HG ?_ ?_ | refine OT (fun _=>?_) fun _=>?_ | refine YJ ?_ fun _=>?_ | refine le_both ?_ ?_ | exact MX n _ | exact WN _ _
noncomputable def v_ref01_Text(n:Nat)(t:((List T)×Unit)):Option (ByteArray×Unit):=
 (bif (Go.Eng.eqI (Go.Eng.lenL t.1) (0:Int)) then (some ((ByteArray.mk #[48]),())) else (ob (qW (vA n) n (t.1,[],())) fun q8=>dE q8 (fun t9=>(ob (Go.Eng.mkLen (Go.Eng.lenL t9.1) (Go.Eng.lenL t9.1) 1) fun x10=>(ob (qW BL n (t9.1,(Go.Eng.repL x10.1 (Go.Eng.T.v (Go.Value.int Go.IntKind.u8 (0:Int)))),(0:Int),())) fun q17=>dE q17 (fun t18=>(ob (Go.Eng.strOf t18.1) fun x19=>(some (x19,())))) fun q20=>eB q20))) fun q21=>eB q21))
theorem SB(n:Nat)(t:((List T)×Unit)):Le (v_ref01_Text n t) (rQ t):=by
 unfold v_ref01_Text rQ
 repeat' with_reducible first | exact JL | refine HG ?_ ?_ | refine OT (fun _=>?_) fun _=>?_ | refine YJ ?_ fun _=>?_ | refine le_both ?_ ?_ | exact Fc (KG n) _ _ | exact WN _ _
noncomputable def IU(n:Nat)(t:(Bool×(List T)×(List T)×Unit)):Option (ByteArray×Unit):=
 (ob (Go.Eng.v_ref01_Text n (t.2.1,())) fun x0=>(ob (α:=((Unit×ByteArray×Bool×List T×List T×Unit)⊕Empty)) (bif t.1 then (ob (Go.Eng.catS (ByteArray.mk #[45]) x0.1) fun x1=>(some (Sum.inl ((),x1,t.1,t.2.1,t.2.2.1,())))) else (some (Sum.inl ((),x0.1,t.1,t.2.1,t.2.2.1,())))) fun q2=>dE q2 (fun t3=>(ob (α:=((ByteArray×Unit)⊕Empty)) (bif (Go.Eng.ltI (0:Int) (Go.Eng.lenL t3.2.2.2.2.1)) then (ob (Go.Eng.v_ref01_Text n (t3.2.2.2.2.1,())) fun x4=>(ob (Go.Eng.catS (ByteArray.mk #[47]) x4.1) fun x5=>(ob (Go.Eng.catS t3.2.1 x5) fun x6=>(some (Sum.inl (x6,())))))) else (some (Sum.inl (t3.2.1,())))) fun q7=>dE q7 (fun t8=>(some (t8.1,()))) fun q9=>eB q9)) fun q10=>eB q10))
theorem SC(n:Nat)(t:(Bool×(List T)×(List T)×Unit)):Le (IU n t) (oQ t):=by
 unfold IU oQ
 repeat' with_reducible first | exact JL | refine HG ?_ ?_ | refine OT (fun _=>?_) fun _=>?_ | refine YJ ?_ fun _=>?_ | refine le_both ?_ ?_ | exact SB n _
end Go.Eng
namespace Go.Eng.Sq
open Go.Eng Go.Eng.Tm Go.Eng.Tw Go.Eng.Rt Go.Eng.Tg
instance dBt(d u:Rat):Decidable (Bt d u):=inferInstanceAs (Decidable ((0≤u∧u≤d)∨(d≤u∧u≤0)))
instance dOn(a b p:Q):Decidable (On a b p):=inferInstanceAs (Decidable (cr a b p=0∧Bt (b.1-a.1) (p.1-a.1)∧Bt (b.2-a.2) (p.2-a.2)))
instance dMe(a b c d:Q):Decidable (pB a b c d):=inferInstanceAs (Decidable (On a b c∨On a b d∨On c d a∨On c d b∨(cr a b c*cr a b d<0∧cr c d a*cr c d b<0)))
instance dFo(a b c:Q):Decidable (MW a b c):=inferInstanceAs (Decidable (cr a b c=0∧0<(a.1-b.1)*(c.1-b.1)+(a.2-b.2)*(c.2-b.2)))
instance dMa(l:List Z)(i j:Nat):Decidable (gR l i j):=inferInstanceAs (Decidable (pB _ _ _ _))
instance dOL(E:List Ed)(z:Q):Decidable (EY E z):=inferInstanceAs (Decidable (∃e∈E,On e.1 e.2 z))
def SD:List Z:=[(0,0),(1,0),(1,1),(0,1)]
def Zz:List Z:=[(0,0),(0,1),(1,1),(1,0)]
theorem bxA:Bx SD∧Bx Zz:=⟨⟨by decide,by decide,by decide⟩,⟨by decide,by decide,by decide⟩⟩
theorem Va:A6 [SD]∧A6 [Zz]:=⟨fun l h=>(List.mem_singleton.1 h)▸bxA.1,fun l h=>(List.mem_singleton.1 h)▸bxA.2⟩
theorem aDQ:A8 SD:=by
 refine⟨by decide,fun⟨i,hi,h⟩=>?_⟩
 have hi:i<4:=hi
 have key:∀i,i<4→¬(aV SD i=aV SD (i+1))∧¬MW (cq (aV SD i)) (cq (aV SD (i+1))) (cq (aV SD (i+2)))∧∀j,j<4→i+2≤j→(0<i∨j<3)→¬gR SD i j:=by decide +kernel
 rcases h with h | h | ⟨j,h1,h2,h3⟩
 ·exact(key i hi).1 h
 ·exact(key i hi).2.1 h
 ·by_cases h0:0<i
  ·rw[if_pos h0] at h2
   exact(key i hi).2.2 j h2 h1 (.inl h0) h3
  ·rw[if_neg h0] at h2
   have h2:j<3:=h2
   exact(key i hi).2.2 j (by omega) h1 (.inr h2) h3
theorem Wv(l:List Z):outs [l] 0=0:=by
 have h:B5 [l] 0 1=[]:=by
  unfold B5
  rw[List.filter_eq_nil_iff]
  intro j hj
  have hj:j=0:=by have:=List.mem_range.1 hj;omega
  rw[hj,gF (fun c=>c.1 rfl)]
  exact Bool.false_ne_true
 show ((B5 [l] 0 1).map fun j=>sA (bH [l] j)).sum=0
 rw[h];rfl
theorem aDR:A9 [SD]=0:=by
 unfold A9
 rw[gF,gF]
 ·rfl
 ·rintro ⟨i,_,hi,h⟩
  have hi:i=0:=by have hi:i<1:=hi;omega
  subst hi
  refine h (.inr ?_)
  rw[Wv]
  exact⟨by decide +kernel,rfl⟩
 ·rintro ⟨i,_,hi,h⟩
  have hi:i=0:=by have hi:i<1:=hi;omega
  subst hi
  rcases h with h | ⟨k,_,hk,_⟩
  ·exact h aDQ
  ·omega
theorem aDS:A9 [Zz]=8:=by
 unfold A9
 rw[gN (P:=∃i,0≤i∧i<[Zz].length∧R8 [Zz] i)]
 ·generalize bP _=b
  cases b <;> rfl
 ·refine⟨0,Nat.le_refl _,by decide,fun h=>?_⟩
  rw[Wv] at h
  have e:sA (bH [Zz] 0)=-1:=by decide +kernel
  rw[e] at h
  omega
theorem aAA(p:Q)(e:Ed):we p e=if decide (e.1.2≤p.2)&&decide (p.2<e.2.2)&&decide (0<cr e.1 e.2 p) then 1 else if decide (e.2.2≤p.2)&&decide (p.2<e.1.2)&&decide (cr e.1 e.2 p<0) then -1 else 0:=by
 unfold we
 simp only[Bool.and_eq_true,decide_eq_true_eq,and_assoc]
theorem wsA:IR [SD] (1/2,1/2) 1=1:=by
 show ([wd (jK (qs SD)) (1/2,1/2)]).sum=1
 unfold wd
 have:(fun e=>we (1/2,1/2) e)=fun e:Ed=>if decide (e.1.2≤(1/2:Rat))&&decide ((1/2:Rat)<e.2.2)&&decide (0<cr e.1 e.2 (1/2,1/2)) then 1 else if decide (e.2.2≤(1/2:Rat))&&decide ((1/2:Rat)<e.1.2)&&decide (cr e.1 e.2 (1/2,1/2)<0) then -1 else 0:=funext fun e=>aAA _ e
 rw[show we (1/2,1/2)=fun e=>we (1/2,1/2) e from rfl,this]
 decide +kernel
theorem half:oO (1,2,())=some (c3 (1/2) ())∧qFr 2 20 (1/2):=by
 have e:=Yj (n:=1) (d:=2) (by omega) (by omega) (by omega) (by omega) (by omega)
 have h:P3 1 2=(1/2:Rat):=by decide +kernel
 rw[h] at e
 exact⟨e,by decide,1,by decide,by decide +kernel⟩
theorem onA:¬QJ [SD] (1/2,1/2)∧QJ [SD] (((1:Int):Rat),1/2):=by
 refine⟨?_,0,Nat.le_refl _,by decide,?_⟩
 ·rintro ⟨j,_,hj,h⟩
  have hj:j=0:=by have hj:j<1:=hj;omega
  subst hj
  revert h
  decide +kernel
 ·decide +kernel
theorem aCM:oQ (aM 2,aU 2,aY 2,())=some (ByteArray.mk #[50],()):=by
 have e1:aU 2=[gA 2]:=tJ (by decide) (by decide)
 have e2:aY 2=[]:=by show dn 1=[];exact if_pos rfl
 rw[e1,e2]
 exact SC 60 _ _ (by kernel_rfl)
theorem w_awake:cR ()=some (true,()):=by
 have a00:=Gv (x:=0) (y:=0) (by decide) (by decide)
 have a10:=Gv (x:=1) (y:=0) (by decide) (by decide)
 have a11:=Gv (x:=1) (y:=1) (by decide) (by decide)
 have a01:=Gv (x:=0) (y:=1) (by decide) (by decide)
 have c1:=IQ Va.1 (by decide) (by decide) (by decide)
 have c2:=IQ Va.2 (by decide) (by decide) (by decide)
 rw[aDR] at c1
 rw[aDS] at c2
 have ar:=Cw (l:=SD) (by unfold Uc;decide) (by decide)
 rw[show (gQ SD:Rat)=2 from by decide +kernel] at ar
 have i1:=LO (n:=1) (by decide) (by decide)
 have f2:=half.2
 have w1:=Hb Va.1 (by decide) (D:=2) (px:=1/2) (py:=1/2) (pz:=0) ⟨by decide,f2.mono (by decide),f2.mono (by decide),(qFr.zero (by decide)).mono (by decide)⟩
 have w2:=Hb Va.1 (by decide) (D:=2) (px:=((1:Int):Rat)) (py:=1/2) (pz:=0) ⟨by decide,(qFr.ofInt (l:=1) (by decide) (by decide)).mono (by decide),f2.mono (by decide),(qFr.zero (by decide)).mono (by decide)⟩
 rw[gF onA.1,show IR [SD] (1/2,1/2) [SD].length=1 from wsA] at w1
 rw[gN onA.2] at w2
 rw[z3] at w1 w2
 have hA:[T.sl 9 (SD.map wT)]=[SD].map lT:=rfl
 have hB:[T.sl 9 [wT (0,0),wT (0,1),wT (1,1),wT (1,0)]]=[Zz].map lT:=rfl
 have hC:[wT (0,0),wT (1,0),wT (1,1),wT (0,1)]=SD.map wT:=rfl
 unfold cR
 simp only[a00,a10,a11,a01,bC,half.1,c3] 
 simp only[Pl,hB,hC,c2,ar,aCM,bC]
 have q (s:ByteArray):Hz s s=true:=by unfold Hz;simp
 have w1':=w1;have w2':=w2
 simp only[c3] at w1' w2'
 simp only[hA,c1,bC,aL,decide_true,cond_true,q,w1',i1,w2',cond_false]
end Go.Eng.Sq
namespace Go.Eng.Sq
open Go.Eng Go.Eng.Tm Go.Eng.Tw Go.Eng.Rt Go.Eng.Tg
theorem nilChecks:dC (([]:List T),())=some (1,())∧dF (([]:List T),())=some (1,()):=by
 constructor
 ·unfold dC
  simp only[aK,List.length_nil,aL]
  rfl
 ·unfold dF
  simp only[aK,List.length_nil,aL]
  rfl
end Go.Eng.Sq
