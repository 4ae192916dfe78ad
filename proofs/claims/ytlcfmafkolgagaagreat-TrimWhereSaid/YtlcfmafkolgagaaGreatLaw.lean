/- The functions and the laws of this seat in plain words; each statement names its conditions. -/
import Derived.Test.YtlcfmafkolgagaaGreatEng2
import Derived.Test.YtlcfmafkolgagaaGreatGen
import Derived.Test.YtlcfmafkolgagaaGreatGen2
set_option linter.unusedSimpArgs false
set_option linter.unusedVariables false
namespace Go.Eng.Rt
open Go.Eng
abbrev BB:Nat:=4294967296
def val:List Nat→Nat
 | []=>0
 | a::l=>a+BB*val l
def aV(n:Nat):List Nat:=if h:n=0 then [] else (n%BB)::aV (n/BB)
termination_by n
decreasing_by exact Nat.div_lt_self (Nat.pos_of_ne_zero h) (by decide)
def Lim(l:List Nat):Prop:=∀x∈l,x<BB
theorem eE:aV 0=[]:=by rw[aV];simp
theorem nV{n:Nat}(h:n≠0):aV n=(n%BB)::aV (n/BB):=by rw[aV];simp[h]
theorem GJ{n:Nat}(h:n≠0)(hn:n<BB):aV n=[n]:=by
 rw[nV h,Nat.mod_eq_of_lt hn,Nat.div_eq_of_lt hn,eE]
theorem Dy{n:Nat}(h:BB≤n)(hn:n<BB*BB):aV n=[n%BB,n/BB]:=by
 rw[nV (by simp only[BB] at h;omega),GJ (n:=n/BB)]
 ·have:0<n/BB:=Nat.div_pos h (by decide)
  omega
 ·exact Nat.div_lt_of_lt_mul hn
theorem dV(n:Nat):val (aV n)=n:=by
 induction n using Nat.strongRecOn with
 | _ n ih=>
  by_cases h:n=0
  ·subst h;rw[eE];rfl
  ·rw[nV h,val,ih _ (Nat.div_lt_self (Nat.pos_of_ne_zero h) (by decide))]
   exact Nat.mod_add_div n BB
theorem eU(n:Nat):Lim (aV n):=by
 induction n using Nat.strongRecOn with
 | _ n ih=>
  by_cases h:n=0
  ·subst h;rw[eE];intro x hx;cases hx
  ·rw[nV h]
   intro x hx
   rcases List.mem_cons.1 hx with rfl | hx
   ·exact Nat.mod_lt _ (by decide)
   ·exact ih _ (Nat.div_lt_self (Nat.pos_of_ne_zero h) (by decide)) x hx
theorem Lim.nil:Lim []:=fun x h=>by cases h
theorem Lim.cons{a:Nat}{l:List Nat}(h:a<BB)(hl:Lim l):Lim (a::l):=fun x hx=>by
 rcases List.mem_cons.1 hx with rfl | hx
 ·exact h
 ·exact hl x hx
theorem Lim.head{a:Nat}{l:List Nat}(h:Lim (a::l)):a<BB:=h a (by simp)
theorem Lim.tail{a:Nat}{l:List Nat}(h:Lim (a::l)):Lim l:=fun x hx=>h x (by simp[hx])
theorem Lim.append{l m:List Nat}(h:Lim l)(h':Lim m):Lim (l++m):=fun x hx=>(List.mem_append.1 hx).elim (h x) (h' x)
theorem XX{l:List Nat}(h:Lim l):val l<BB ^ l.length:=by
 induction l with
 | nil=>simp[val]
 | cons a l ih=>
  have h1:=h.head
  have h2:=ih h.tail
  rw[val,List.length_cons,Nat.pow_succ]
  have h3:val l+1≤BB ^ l.length:=h2
  have h4:BB*(val l+1)≤BB*BB ^ l.length:=Nat.mul_le_mul_left _ h3
  have h5:BB*(val l+1)=BB*val l+BB:=by rw[Nat.mul_add];simp
  rw[Nat.mul_comm (BB ^ l.length)]
  omega
def rA(l:List Nat):List Nat:=(l.reverse.dropWhile (·==0)).reverse
theorem AC(l:List Nat):rA (l++[0])=rA l:=by
 unfold rA;simp
theorem C5{l:List Nat}{a:Nat}(h:a≠0):rA (l++[a])=l++[a]:=by
 unfold rA;simp[h]
theorem tD(l m:List Nat):val (l++m)=val l+BB ^ l.length*val m:=by
 induction l with
 | nil=>simp[val]
 | cons a l ih=>
  rw[List.cons_append,val,val,ih,List.length_cons,Nat.pow_succ,Nat.mul_add,Nat.mul_comm (BB ^ l.length) BB,Nat.mul_assoc]
  omega
theorem Ho{n:Nat}(h:n≠0):aV n≠[]:=by rw[nV h];simp
theorem XY{l:List Nat}{a:Nat}(hl:Lim l)(ha:a<BB)(h0:a≠0):aV (val (l++[a]))=l++[a]:=by
 induction l with
 | nil=>rw[List.nil_append];show aV (a+BB*0)=[a];rw[Nat.mul_zero,Nat.add_zero,GJ h0 ha]
 | cons b l ih=>
  have h1:=hl.head
  rw[List.cons_append,val]
  have hp:val (l++[a])≠0:=by
   intro h
   have:=ih hl.tail
   rw[h,eE] at this
   simp at this
  rw[nV (by simp only[BB];omega),Nat.add_mul_mod_self_left,Nat.mod_eq_of_lt h1,Nat.add_mul_div_left _ _ (by decide),Nat.div_eq_of_lt h1,Nat.zero_add,ih hl.tail]
theorem GK{l:List Nat}(h:Lim l):aV (val l)=rA l:=by
 have key:∀k (l:List Nat),l.length=k→Lim l→aV (val l)=rA l:=by
  intro k
  induction k with
  | zero=>
   intro l hl _
   have:=List.eq_nil_of_length_eq_zero hl
   subst this
   exact eE
  | succ k ih=>
   intro l hl h
   have hne:l≠[]:=by intro e;subst e;simp at hl
   obtain⟨m,a,rfl⟩:∃m a,l=m++[a]:=⟨l.dropLast,l.getLast hne,(List.dropLast_concat_getLast hne).symm⟩
   have hm:Lim m:=fun x hx=>h x (List.mem_append.2 (.inl hx))
   have ha:a<BB:=h a (by simp)
   by_cases h0:a=0
   ·subst h0
    rw[AC,tD,show val [0]=0 from rfl,Nat.mul_zero,Nat.add_zero]
    exact ih m (by simp at hl;exact hl) hm
   ·rw[XY hm ha h0,C5 h0]
 exact key _ l rfl h
theorem GL{a b:Nat}(h:aV a=aV b):a=b:=by rw[←dV a,h,dV]
theorem kK{n k:Nat}:(aV n).length≤k↔n<BB ^ k:=by
 constructor
 ·intro h
  have:=XX (eU n)
  rw[dV] at this
  exact Nat.lt_of_lt_of_le this (Nat.pow_le_pow_right (by decide) h)
 ·intro h
  induction k generalizing n with
  | zero=>
   have:n=0:=by simpa using h
   subst this;simp[eE]
  | succ k ih=>
   by_cases h0:n=0
   ·subst h0;simp[eE]
   ·rw[nV h0,List.length_cons]
    have:=ih (n:=n/BB) (Nat.div_lt_of_lt_mul (by rw[Nat.mul_comm,←Nat.pow_succ];exact h))
    omega
def eL(n:Nat):T:=.v (.int .u32 (n:Int))
def cV(l:List Nat):List T:=l.map eL
def lm(n:Nat):List T:=cV (aV n)
def dn(d:Nat):List T:=if d=1 then [] else lm d
theorem dJ(l:List Nat):(cV l).length=l.length:=by simp[cV]
theorem j8:lm 0=[]:=by rw[lm,eE];rfl
theorem pX{n:Nat}(h:n≠0)(hn:n<BB):lm n=[eL n]:=by rw[lm,GJ h hn];rfl
theorem Qf{n:Nat}(h:BB≤n)(hn:n<BB*BB):lm n=[eL (n%BB),eL (n/BB)]:=by rw[lm,Dy h hn];rfl
theorem Hp{a b:Nat}(h:eL a=eL b):a=b:=by
 unfold eL at h
 injection h with h
 injection h with _ h
 omega
theorem SE{a b:List Nat}(h:cV a=cV b):a=b:=by
 induction a generalizing b with
 | nil=>cases b with
  | nil=>rfl
  | cons y b=>simp[cV] at h
 | cons x a ih=>cases b with
  | nil=>simp[cV] at h
  | cons y b=>
   simp only[cV,List.map_cons,List.cons.injEq] at h
   rw[Hp h.1,ih h.2]
theorem MK{a b:Nat}(h:lm a=lm b):a=b:=GL (SE h)
end Go.Eng.Rt
namespace Go.Eng.Rt
open Go.Eng
def aN(q:Rat):Bool:=decide (q.num<0)
def aU(q:Rat):List T:=lm q.num.natAbs
def aY(q:Rat):List T:=dn q.den
def sg(neg:Bool)(n:Nat):Int:=if neg then -(n:Int) else n
theorem XZ(neg:Bool)(n:Nat):(sg neg n).natAbs=n:=by cases neg <;> simp[sg]
theorem mJ(q:Rat):sg (aN q) q.num.natAbs=q.num:=by
 unfold sg aN
 by_cases h:q.num<0
 ·rw[decide_eq_true h,if_pos rfl];omega
 ·rw[decide_eq_false h];simp;omega
theorem Hq{n:Int}{d:Nat}(hd:d≠0):(mkRat n d).den=d/n.natAbs.gcd d:=by
 rw[Rat.mkRat_def,dif_neg hd,Rat.normalize_eq]
theorem Hr{n:Int}{d:Nat}(hd:d≠0):(mkRat n d).num=n/(n.natAbs.gcd d:Nat):=by
 rw[Rat.mkRat_def,dif_neg hd,Rat.normalize_eq]
theorem Hs(neg:Bool){n d:Nat}(hd:d≠0):(mkRat (sg neg n) d).num.natAbs=n/n.gcd d:=by
 rw[Hr hd,XZ]
 unfold sg
 have hg:0<n.gcd d:=Nat.gcd_pos_of_pos_right _ (Nat.pos_of_ne_zero hd)
 cases neg with
 | false=>simp only[Bool.false_eq_true,if_false];rw[←Int.natCast_ediv];exact Int.natAbs_natCast _
 | true=>
  simp only[if_true]
  rw[Int.neg_ediv_of_dvd (Int.natCast_dvd_natCast.2 (Nat.gcd_dvd_left n d)),Int.natAbs_neg,←Int.natCast_ediv];exact Int.natAbs_natCast _
theorem X1(neg:Bool){n d:Nat}(hd:d≠0)(hn:n≠0):aN (mkRat (sg neg n) d)=neg:=by
 unfold aN
 rw[Hr hd,XZ]
 have hg:0<n.gcd d:=Nat.gcd_pos_of_pos_right _ (Nat.pos_of_ne_zero hd)
 have hq:0<n/n.gcd d:=Nat.div_pos (Nat.le_of_dvd (Nat.pos_of_ne_zero hn) (Nat.gcd_dvd_left n d)) hg
 unfold sg
 cases neg with
 | false=>
  simp only[Bool.false_eq_true,if_false];rw[←Int.natCast_ediv]
  exact decide_eq_false (by omega)
 | true=>
  simp only[if_true]
  rw[Int.neg_ediv_of_dvd (Int.natCast_dvd_natCast.2 (Nat.gcd_dvd_left n d)),←Int.natCast_ediv]
  exact decide_eq_true (by omega)
theorem Z8(neg:Bool)(d:Nat):mkRat (sg neg 0) d=0:=by
 cases neg <;> simp[sg,Rat.zero_mkRat]
theorem Z9(neg:Bool){n d:Nat}(hd:d≠0):aU (mkRat (sg neg n) d)=lm (n/n.gcd d):=by unfold aU;rw[Hs neg hd]
theorem Aa(neg:Bool){n d:Nat}(hd:d≠0):aY (mkRat (sg neg n) d)=dn (d/n.gcd d):=by unfold aY;rw[Hq hd,XZ]
theorem sF:aN 0=false:=rfl
theorem sG:aU 0=[]:=j8
theorem sH:aY 0=[]:=rfl
theorem Ht{a b:Nat}(ha:a≠0)(hb:b≠0)(h:dn a=dn b):a=b:=by
 unfold dn at h
 split at h <;> split at h
 ·omega
 ·rw[←j8] at h;exact absurd (MK h).symm hb
 ·rw[←j8] at h;exact absurd (MK h) ha
 ·exact MK h
theorem Ab{p q:Rat}(h1:aN p=aN q)(h2:p.num.natAbs=q.num.natAbs)(h3:p.den=q.den):p=q:=by
 have:p.num=q.num:=by rw[←mJ p,h1,h2,mJ q]
 cases p;cases q
 simp only at this h3
 subst this;subst h3;rfl
theorem SF(p q:Rat):p+q=mkRat (p.num*q.den+q.num*p.den) (p.den*q.den):=by
 rw[Rat.add_def,Rat.mkRat_def,dif_neg (Nat.mul_ne_zero p.den_nz q.den_nz)]
theorem Qg(p q:Rat):p*q=mkRat (p.num*q.num) (p.den*q.den):=by
 rw[Rat.mul_def,Rat.mkRat_def,dif_neg (Nat.mul_ne_zero p.den_nz q.den_nz)]
theorem j9(a:Bool)(n:Nat)(m:Nat):sg a n*(m:Int)=sg a (n*m):=by
 cases a <;> simp[sg,Int.neg_mul]
theorem Hu(a:Bool)(n m:Nat):sg a n+sg a m=sg a (n+m):=by
 cases a <;> simp[sg] <;> omega
theorem X2{a b:Bool}(hab:a≠b){n m:Nat}(h:m≤n):sg a n+sg b m=sg a (n-m):=by
 cases a <;> cases b <;> simp[sg] at hab ⊢ <;> omega
theorem VC{p q:Rat}(h:aN p=aN q):p+q=mkRat (sg (aN q) (p.num.natAbs*q.den+q.num.natAbs*p.den)) (p.den*q.den):=by
 rw[SF]
 congr 1
 rw[←Hu,←j9,←j9,mJ,←h,mJ]
theorem E3{p q:Rat}(h:aN p≠aN q)(hle:q.num.natAbs*p.den≤p.num.natAbs*q.den):p+q=mkRat (sg (aN p) (p.num.natAbs*q.den-q.num.natAbs*p.den)) (p.den*q.den):=by
 rw[SF]
 congr 1
 rw[←X2 h hle,←j9,←j9,mJ,mJ]
theorem X3(p q:Rat):p*q=mkRat (sg (aN p != aN q) (p.num.natAbs*q.num.natAbs)) (p.den*q.den):=by
 rw[Qg]
 congr 1
 have h1:=mJ p
 have h2:=mJ q
 generalize p.num.natAbs=a at *
 generalize q.num.natAbs=b at *
 rw[←h1,←h2]
 cases aN p <;> cases aN q <;> simp[sg,Int.neg_mul,Int.mul_neg]
def Sm(q:Rat):Prop:=q.num.natAbs<2147483648∧q.den<2147483648
theorem Sm.zero:Sm 0:=⟨by decide,by decide⟩
theorem Lu{q:Rat}(h:q.den<BB):aY q=if q.den=1 then [] else [eL q.den]:=by
 unfold aY dn
 split
 ·rfl
 ·rw[pX q.den_nz h]
theorem ML{q:Rat}:q.num.natAbs=0↔q=0:=by
 constructor
 ·intro h;exact Rat.num_eq_zero.1 (by omega)
 ·rintro rfl;rfl
theorem MM{p q:Rat}:p<q↔p.num*q.den<q.num*p.den:=Rat.lt_iff p q
end Go.Eng.Rt
namespace Go.Eng.Rt
open Go.Eng
def En(D k:Nat)(q:Rat):Prop:=∃m:Nat,m≤k∧q=mkRat (m:Int) D
theorem En.add{D a b:Nat}{p q:Rat}(hD:D≠0)(hp:En D a p)(hq:En D b q):En D (a+b) (p+q):=by
 obtain⟨m,hm,rfl⟩:=hp
 obtain⟨n,hn,rfl⟩:=hq
 refine⟨m+n,by omega,?_⟩
 rw[Rat.mkRat_add_mkRat _ _ hD hD,Rat.mkRat_eq_iff (Nat.mul_ne_zero hD hD) hD]
 push_cast
 rw[←Int.add_mul,Int.mul_assoc]
theorem En.zero{D k:Nat}:En D k 0:=⟨0,Nat.zero_le _,by simp[Rat.zero_mkRat]⟩
theorem En.mono{D a b:Nat}{q:Rat}(h:En D a q)(hab:a≤b):En D b q:=by
 obtain⟨m,hm,e⟩:=h;exact⟨m,by omega,e⟩
theorem En.sm{D k:Nat}{q:Rat}(hD:D≠0)(hD':D<2147483648)(hk:k<2147483648)(h:En D k q):Sm q:=by
 obtain⟨m,hm,rfl⟩:=h
 have e:(m:Int)=sg false m:=rfl
 constructor
 ·rw[e,Hs false hD]
  exact Nat.lt_of_le_of_lt (Nat.div_le_self _ _) (by omega)
 ·rw[Hq hD]
  exact Nat.lt_of_le_of_lt (Nat.div_le_self _ _) hD'
theorem En.nn{D k:Nat}{q:Rat}(hD:D≠0)(h:En D k q):aN q=false:=by
 obtain⟨m,hm,rfl⟩:=h
 by_cases h0:m=0
 ·subst h0;simp[Rat.zero_mkRat];rfl
 ·exact X1 false hD h0
end Go.Eng.Rt
namespace Go.Eng.Rt
open Go.Eng
abbrev dW:Nat:=18446744073709551616
theorem H4(n:Nat):wr .u32 (n:Int)=((n%BB:Nat):Int):=by
 unfold wr IntKind.wrap
 simp only[IntKind.bits,IntKind.signed,Bool.false_and,Bool.false_eq_true,if_false]
 rw[show ((2:Int) ^ 32)=((BB:Nat):Int) from rfl]
 omega
theorem Tc(n:Nat):wr .u64 (n:Int)=((n%dW:Nat):Int):=by
 unfold wr IntKind.wrap
 simp only[IntKind.bits,IntKind.signed,Bool.false_and,Bool.false_eq_true,if_false]
 rw[show ((2:Int) ^ 64)=((dW:Nat):Int) from rfl]
 omega
theorem dZ{n:Nat}(h:n<dW):wr .u64 (n:Int)=(n:Int):=by rw[Tc,Nat.mod_eq_of_lt h]
theorem Hv{n:Nat}(h:n<BB):wr .u32 (n:Int)=(n:Int):=by rw[H4,Nat.mod_eq_of_lt h]
theorem X4{n:Nat}(h:n<4611686018427387904):wr .i64 (n:Int)=(n:Int):=rH (by omega) (by omega)
theorem dC{n:Int}(h0:-4611686018427387904<n)(h:n<4611686018427387904):wr .i64 n=n:=rH (by omega) (by omega)
theorem MN(n:Nat):iX .u64 (n:Int) 32=((n/BB:Nat):Int):=by
 unfold iX
 rw[show ((2:Int) ^ (min (Int.toNat 32) (IntKind.bits .u64)))=((BB:Nat):Int) from rfl,Int.fdiv_eq_ediv_of_nonneg _ (by omega)]
 exact(Int.natCast_ediv n BB).symm
theorem Og(n:Nat):CC .u64 (n:Int) 32=((n*BB:Nat):Int):=by
 unfold CC
 rw[show ((2:Int) ^ (min (Int.toNat 32) (IntKind.bits .u64)))=((BB:Nat):Int) from rfl]
 exact(Int.natCast_mul n BB).symm
theorem SG:nn (32:Int)=some 32:=by unfold nn;rfl
theorem Lw{a b:Nat}(h:a<BB):a ||| (b*BB)=a+b*BB:=by
 rw[Nat.or_comm,Nat.add_comm,show b*BB=b <<< 32 by rw[Nat.shiftLeft_eq]]
 exact(Nat.shiftLeft_add_eq_or_of_lt (by simpa using h) b).symm
theorem Td{a b:Nat}(ha:a<BB)(hb:b<BB):rT .or .u64 (a:Int) ((b*BB:Nat):Int)=((a+b*BB:Nat):Int):=by
 have hlt:a+b*BB<dW:=by simp only[BB,dW] at *;omega
 unfold rT
 have e:∀n:Nat,n<dW→(BitVec.ofInt 64 (n:Int)).toNat=n:=fun n hn=>by
  rw[BitVec.ofInt_natCast,BitVec.toNat_ofNat]
  exact Nat.mod_eq_of_lt (by simp only[dW] at hn;omega)
 show IntKind.wrap .u64 (((BitVec.ofInt 64 (a:Int) ||| BitVec.ofInt 64 ((b*BB:Nat):Int)).toNat:Nat):Int)=_
 rw[BitVec.toNat_or,e a (by simp only[BB,dW] at *;omega),e (b*BB) (by simp only[BB,dW] at *;omega),Lw ha]
 have:=dZ hlt
 unfold wr at this
 exact this
theorem Te{a b:Nat}(ha:a<BB)(hb:b<BB):rT .or .u64 ((b*BB:Nat):Int) (a:Int)=((a+b*BB:Nat):Int):=by
 rw[←Td ha hb]
 unfold rT
 simp only[BitVec.or_comm]
theorem fQ(l:List Nat)(i:Nat):(cV l)[i]?=(l[i]?).map eL:=by simp[cV]
theorem cW(n:Nat):T.cell (eL n) 0=eL n:=rfl
theorem rB(n:Nat):T.int? .u32 (eL n)=some (n:Int):=by unfold eL;simp
theorem kG(n:Nat):T.anyInt? (eL n)=some (n:Int):=rfl
theorem E4(x:T)(n:Nat)(h:∃m,x=eL m):T.upd 1 x 0 [T.v (.int .u32 (n:Int))]=eL n:=by
 obtain⟨m,rfl⟩:=h
 exact Gj _ _
theorem JK(l:List Nat)(i n:Nat):(cV l).set i (eL n)=cV (l.set i n):=by unfold cV;rw[List.map_set]
theorem X5(a b:List Nat):cV a++cV b=cV (a++b):=by unfold cV;simp
theorem VD(l:List Nat)(k:Nat):(cV l).take k=cV (l.take k):=by unfold cV;simp
theorem Ac(n:Nat):List.replicate n (T.v (.int .u32 (0:Int)))=cV (List.replicate n 0):=by unfold cV;simp[eL]
theorem Lim.take{l:List Nat}(h:Lim l)(k:Nat):Lim (l.take k):=fun x hx=>h x (List.mem_of_mem_take hx)
theorem Lim.drop{l:List Nat}(h:Lim l)(k:Nat):Lim (l.drop k):=fun x hx=>h x (List.mem_of_mem_drop hx)
theorem Lim.get{l:List Nat}(h:Lim l){i:Nat}{x:Nat}(hi:l[i]?=some x):x<BB:=h x (List.mem_of_getElem? hi)
theorem Lim.set{l:List Nat}(h:Lim l){x:Nat}(hx:x<BB)(i:Nat):Lim (l.set i x):=fun y hy=>by
 rcases List.mem_or_eq_of_mem_set hy with h1 | h1
 ·exact h y h1
 ·subst h1;exact hx
theorem Lim.rep(n:Nat):Lim (List.replicate n 0):=fun x hx=>by rw[List.eq_of_mem_replicate hx];decide
theorem Ad(n:Nat):val (List.replicate n 0)=0:=by
 induction n with
 | zero=>rfl
 | succ n ih=>rw[List.replicate_succ,val,ih,Nat.mul_zero]
theorem SH{l:List Nat}{i x y:Nat}(hi:l[i]?=some y):val (l.set i x)+BB ^ i*y=val l+BB ^ i*x:=by
 induction l generalizing i with
 | nil=>simp at hi
 | cons a l ih=>
  cases i with
  | zero=>
   simp only[List.getElem?_cons_zero,Option.some.injEq] at hi
   subst hi
   simp only[List.set_cons_zero,val,Nat.pow_zero,Nat.one_mul]
   omega
  | succ i=>
   simp only[List.getElem?_cons_succ] at hi
   have:=ih hi
   simp only[List.set_cons_succ,val,Nat.pow_succ]
   rw[Nat.mul_comm (BB ^ i) BB,Nat.mul_assoc,Nat.mul_assoc]
   have h1:BB*(val (l.set i x)+BB ^ i*y)=BB*(val l+BB ^ i*x):=by rw[this]
   rw[Nat.mul_add,Nat.mul_add] at h1
   omega
theorem uY{l:List Nat}{i x:Nat}(hi:l[i]?=some x):val (l.take (i+1))=val (l.take i)+BB ^ i*x:=by
 have hlt:i<l.length:=(List.getElem?_eq_some_iff.1 hi).1
 have hx:l[i]=x:=by rw[List.getElem?_eq_getElem hlt] at hi;exact Option.some.inj hi
 rw[List.take_succ_eq_append_getElem hlt,tD,hx]
 simp only[List.length_take,Nat.min_eq_left (Nat.le_of_lt hlt),val,Nat.mul_zero,Nat.add_zero]
theorem PV(l:List Nat):rA l <+: l:=by
 unfold rA
 have:=List.dropWhile_suffix (l:=l.reverse) (·==0)
 have h2:=List.reverse_prefix.2 this
 simpa using h2
theorem MO(l:List Nat):l.take (rA l).length=rA l:=(List.prefix_iff_eq_take.1 (PV l)).symm
theorem E5(l:List Nat):(rA l).length≤l.length:=(PV l).length_le
theorem MP{l:List Nat}(h:Lim l):cV (rA l)=lm (val l):=by rw[lm,GK h]
theorem AD(n:Nat):(lm n).length=(aV n).length:=by simp[lm,cV]
theorem uD{n:Nat}:(lm n).length=0↔n=0:=by
 rw[AD]
 constructor
 ·intro h
  rcases Nat.eq_zero_or_pos n with h0 | h0
  ·exact h0
  ·rw[nV (by omega)] at h;simp at h
 ·intro h;subst h;rw[eE];rfl
theorem Hw{n:Nat}:(lm n).length≤1↔n<BB:=by rw[AD,kK];simp
def jK(a b:Nat):Int:=if a<b then -1 else if a=b then 0 else 1
theorem PW{l:List Nat}{i x:Nat}(hi:l[i]?=some x):val l=val (l.take i)+BB ^ i*(x+BB*val (l.drop (i+1))):=by
 have hlt:i<l.length:=(List.getElem?_eq_some_iff.1 hi).1
 have hx:l[i]=x:=by rw[List.getElem?_eq_getElem hlt] at hi;exact Option.some.inj hi
 have h1:val (l.take i++l.drop i)=val l:=by rw[List.take_append_drop]
 rw[←h1,tD,List.drop_eq_getElem_cons hlt,hx,val,List.length_take,Nat.min_eq_left (Nat.le_of_lt hlt)]
theorem A0{a b:List Nat}(ha:Lim a){i x y:Nat}(hx:a[i]?=some x)(hy:b[i]?=some y)(hxy:x<y)(hd:a.drop (i+1)=b.drop (i+1)):val a<val b:=by
 rw[PW hx,PW hy,hd]
 have hlt:i<a.length:=(List.getElem?_eq_some_iff.1 hx).1
 have h1:=XX (ha.take i)
 rw[List.length_take,Nat.min_eq_left (Nat.le_of_lt hlt)] at h1
 have h2:BB ^ i*(x+1+BB*val (b.drop (i+1)))≤BB ^ i*(y+BB*val (b.drop (i+1))):=Nat.mul_le_mul_left _ (by omega)
 rw[show x+1+BB*val (b.drop (i+1))=(x+BB*val (b.drop (i+1)))+1 by omega,Nat.mul_add] at h2
 omega
end Go.Eng.Rt
namespace Go.Eng.Rt
open Go.Eng
abbrev LM:Nat:=1000000
theorem H5(l:List Nat)(hl:l.length<LM):∀n,n≤l.length→aM gX (cV l,(n:Int),())=some (.inl (cV l,(((rA (l.take n)).length:Nat):Int),())):=by
 intro n
 induction n with
 | zero=>intro _;exact aW (by simp[gX,rA])
 | succ n ih=>
  intro hn
  have hlt:n<l.length:=hn
  have ht:l.take (n+1)=l.take n++[l[n]]:=List.take_succ_eq_append_getElem hlt
  have step:gX (cV l,((n+1:Nat):Int),())=if l[n]=0 then some (.inl (cV l,(n:Int),())) else some (.inr (.inl (cV l,((n+1:Nat):Int),()))):=by
   unfold gX
   simp only[aG,bO]
   rw[decide_eq_true (by omega),show ((n+1:Nat):Int)-1=(n:Int) by omega,X4 (by simp only[LM] at hl;omega),bZ,fQ,List.getElem?_eq_getElem hlt]
   simp only[cond_true,Option.map_some,aZ,cW,rB,aS]
   by_cases h0:l[n]=0
   ·rw[if_pos h0,decide_eq_true (by omega)];rfl
   ·rw[if_neg h0,decide_eq_false (by omega)];rfl
  rw[ht]
  by_cases h0:l[n]=0
  ·rw[if_pos h0] at step
   rw[eX step,ih (by omega),h0,AC]
  ·rw[if_neg h0] at step
   rw[aW step,C5 h0]
   simp only[List.length_append,List.length_take,Nat.min_eq_left (Nat.le_of_lt hlt),List.length_cons,List.length_nil]
theorem X6{l:List Nat}(h:Lim l):(lm (val l)).length≤l.length:=by rw[←MP h,dJ];exact E5 l
theorem SJ{l:List Nat}(h:Lim l)(hl:l.length<LM):bV (cV l,())=some (lm (val l),()):=by
 unfold bV
 have e:=H5 l hl l.length (Nat.le_refl _)
 rw[List.take_length] at e
 simp only[aL,dJ,e,aZ,aO]
 rw[T5 (by omega) (by omega) (by rw[dJ];have:=E5 l;omega)]
 simp only[Int.toNat_natCast,Int.toNat_zero,List.drop_zero,aZ,VD,MO,MP h]
 have hlen:=X6 h
 rw[qD (by simp only[List.length_nil];simp only[LM] at hl;omega) (by decide)]
 rfl
theorem E6{n:Nat}(h:(aV n).length<LM):bV (lm n,())=some (lm n,()):=by
 have:=SJ (eU n) h
 rw[dV] at this
 exact this
theorem oV{n:Nat}(h:n<dW):(aV n).length<LM:=by
 have:(aV n).length≤2:=kK.2 h
 simp only[LM];omega
theorem Hx{n:Nat}(h:n<dW):iP ((n:Int),())=some (lm n,()):=by
 unfold iP
 simp only[SG,aZ,H4,MN]
 have hd:n/BB<BB:=Nat.div_lt_of_lt_mul h
 have e:=SJ (l:=[n%BB,n/BB%BB]) (Lim.cons (Nat.mod_lt _ (by decide)) (Lim.cons (Nat.mod_lt _ (by decide)) Lim.nil)) (by simp only[List.length_cons,List.length_nil,LM];omega)
 have hv:val [n%BB,n/BB%BB]=n:=by
  rw[Nat.mod_eq_of_lt hd]
  simp only[val,Nat.mul_zero,Nat.add_zero]
  exact Nat.mod_add_div n BB
 rw[hv] at e
 simp only[cV,List.map_cons,List.map_nil,eL] at e
 rw[e]
 rfl
theorem Lx{l:List Nat}(h:Lim l):dL (cV l,())=some (if l.length≤2 then (val l:Int) else 0,decide (l.length≤2),()):=by
 match l,h with
 | [],_=>unfold dL;simp[cV,val]
 | [a],h=>
  have ha:=h.head
  unfold dL
  simp only[aL,dJ,List.length_cons,List.length_nil,aS]
  rw[qP _ (by omega)]
  simp[cV,cW,kG,val,dZ (show a<dW by simp only[BB,dW] at *;omega)]
 | [a,b],h=>
  have ha:=h.head
  have hb:=h.tail.head
  unfold dL
  simp only[aL,dJ,List.length_cons,List.length_nil,aS]
  rw[qP _ (by omega),qP _ (by omega)]
  have e1:wr .u64 (a:Int)=(a:Int):=dZ (by simp only[BB,dW] at *;omega)
  have e2:wr .u64 (b:Int)=(b:Int):=dZ (by simp only[BB,dW] at *;omega)
  have e3:wr .u64 ((b*BB:Nat):Int)=((b*BB:Nat):Int):=dZ (by simp only[BB,dW] at *;omega)
  have g0:(cV [a,b])[(0:Int).toNat]?=some (eL a):=rfl
  have g1:(cV [a,b])[(1:Int).toNat]?=some (eL b):=rfl
  rw[g0,g1,decide_eq_false (by omega),decide_eq_false (by omega),decide_eq_true (by omega)]
  simp only[cond_false,cond_true,aZ,cW,kG,SG,e1,e2,Og,e3,Td ha hb]
  rw[if_pos (by omega),decide_eq_true (by omega)]
  simp only[val,Nat.mul_zero,Nat.add_zero]
  rw[Nat.mul_comm b BB]
 | a::b::c::l,h=>
  unfold dL
  simp only[aL,dJ,List.length_cons,aS]
  rw[decide_eq_false (by omega),decide_eq_false (by omega),decide_eq_false (by omega),if_neg (by omega),decide_eq_false (by omega)]
  rfl
theorem X7{a b:List Nat}(ha:Lim a)(hb:Lim b)(hl:a.length=b.length)(hm:a.length<LM):∀n,n≤a.length→a.drop n=b.drop n →
 aM lF (cV a,cV b,(n:Int)-1,())=some (if val a=val b then .inr (.inl ()) else .inl (jK (val a) (val b),())):=by
 intro n
 induction n with
 | zero=>
  intro _ hd
  have:a=b:=by simpa using hd
  subst this
  rw[if_pos rfl]
  exact aW (by unfold lF;simp only[mI];rw[decide_eq_false (by omega)];rfl)
 | succ n ih=>
  intro hn hd
  have h1:n<a.length:=hn
  have h2:n<b.length:=by omega
  have ga:=List.getElem?_eq_getElem h1
  have gb:=List.getElem?_eq_getElem h2
  have step:lF (cV a,cV b,((n+1:Nat):Int)-1,())=if a[n]<b[n] then some (.inr (.inl (-1,()))) else if b[n]<a[n] then some (.inr (.inl (1,()))) else some (.inl (cV a,cV b,(n:Int)-1,())):=by
   unfold lF
   rw[show ((n+1:Nat):Int)-1=(n:Int) by omega]
   simp only[mI,aG,bO]
   rw[decide_eq_true (by omega),bZ,bZ,fQ,fQ,ga,gb,dC (by omega) (by simp only[LM] at hm;omega)]
   simp only[cond_true,Option.map_some,aZ,cW,rB]
   by_cases c1:a[n]<b[n]
   ·rw[if_pos c1,decide_eq_true (by omega)];rfl
   ·rw[if_neg c1,decide_eq_false (by omega)]
    by_cases c2:b[n]<a[n]
    ·rw[if_pos c2,decide_eq_true (by omega)];rfl
    ·rw[if_neg c2,decide_eq_false (by omega)];rfl
  by_cases c1:a[n]<b[n]
  ·rw[if_pos c1] at step
   have:=A0 ha ga gb c1 hd
   rw[aW step,if_neg (by omega)]
   unfold jK
   rw[if_pos this]
  ·rw[if_neg c1] at step
   by_cases c2:b[n]<a[n]
   ·rw[if_pos c2] at step
    have:=A0 hb gb ga c2 hd.symm
    rw[aW step,if_neg (by omega)]
    unfold jK
    rw[if_neg (by omega),if_neg (by omega)]
   ·rw[if_neg c2] at step
    rw[eX step]
    refine ih (by omega) ?_
    rw[List.drop_eq_getElem_cons h1,List.drop_eq_getElem_cons h2,hd,show a[n]=b[n] by omega]
theorem SK{x y:Nat}(h:(aV x).length<(aV y).length):x<y:=by
 have h1:x<BB ^ (aV x).length:=kK.1 (Nat.le_refl _)
 have h2:¬y<BB ^ (aV x).length:=fun hh=>by
  have:=kK.2 hh
  omega
 omega
theorem MQ{x y:Nat}(hx:(aV x).length<LM)(hy:(aV y).length<LM):eH (lm x,lm y,())=some (jK x y,()):=by
 unfold eH
 simp only[aL,AD,aS,aG,bO]
 by_cases hl:(aV x).length=(aV y).length
 ·rw[decide_eq_true (by omega),dC (by omega) (by simp only[LM] at hx;omega)]
  have:=X7 (eU x) (eU y) hl hx (aV x).length (Nat.le_refl _) (by rw[List.drop_length,hl,List.drop_length])
  rw[dV,dV] at this
  simp only[lm,Bool.not_true,cond_false,this,aZ]
  by_cases he:x=y
  ·subst he;simp[jK]
  ·rw[if_neg he];rfl
 ·rw[decide_eq_false (by omega)]
  simp only[Bool.not_false,cond_true]
  by_cases hc:(aV x).length<(aV y).length
  ·have:=SK hc
   rw[decide_eq_true (by omega)]
   unfold jK
   rw[if_pos this];rfl
  ·have:=SK (x:=y) (y:=x) (by omega)
   rw[decide_eq_false (by omega)]
   unfold jK
   rw[if_neg (by omega),if_neg (by omega)];rfl
theorem Hy{a b o:List Nat}(ha:Lim a)(hb:Lim b)(ho:Lim o){i j x y z c:Nat}(hi:a[i]?=some x)(hj:b[j]?=some y)(hz:o[i+j]?=some z)(hc:c<BB)(hla:a.length<LM)(hlb:b.length<LM):
 gL (cV a,cV b,cV o,(i:Int),(c:Int),(j:Int),())=some (.inl (cV a,cV b,cV (o.set (i+j) ((c+(x*y+z))%BB)),(i:Int),(((c+(x*y+z))/BB:Nat):Int),((j+1:Nat):Int),())):=by
 have hx:=ha.get hi
 have hy:=hb.get hj
 have hzb:=ho.get hz
 have h1:i<a.length:=(List.getElem?_eq_some_iff.1 hi).1
 have h2:j<b.length:=(List.getElem?_eq_some_iff.1 hj).1
 have h3:i+j<o.length:=(List.getElem?_eq_some_iff.1 hz).1
 have hxy:x*y≤(BB-1)*(BB-1):=Nat.mul_le_mul (by omega) (by omega)
 have hbound:(BB-1)*(BB-1)+(BB-1)+(BB-1)<dW:=by decide
 unfold gL
 simp only[aG,aL,dJ,aQ,dX]
 rw[decide_eq_true (by omega)]
 simp only[cond_true,bZ,fQ,hi,hj,Option.map_some,aZ,cW,kG]
 rw[show (i:Int)+(j:Int)=((i+j:Nat):Int) by omega,X4 (by simp only[LM] at *;omega),sP (by omega)]
 simp only[aZ,qC,fQ,hz,Option.map_some,cW,kG,SG]
 rw[dZ (n:=x) (by simp only[BB,dW] at *;omega),dZ (n:=y) (by simp only[BB,dW] at *;omega),dZ (n:=z) (by simp only[BB,dW] at *;omega)]
 rw[show (x:Int)*(y:Int)=((x*y:Nat):Int) by push_cast;rfl,dZ (n:=x*y) (by simp only[BB,dW] at *;omega)]
 rw[show ((x*y:Nat):Int)+(z:Int)=((x*y+z:Nat):Int) by omega,dZ (n:=x*y+z) (by simp only[BB,dW] at *;omega)]
 rw[show (c:Int)+((x*y+z:Nat):Int)=((c+(x*y+z):Nat):Int) by omega,dZ (n:=c+(x*y+z)) (by simp only[BB,dW] at *;omega)]
 rw[H4,MN,show (j:Int)+1=((j+1:Nat):Int) by omega,X4 (by simp only[LM] at *;omega),E4 _ _ ⟨z,rfl⟩,JK]
theorem Dz{a b o:List Nat}(ha:Lim a)(hb:Lim b)(ho:Lim o){i x:Nat}(hi:a[i]?=some x)(hlo:o.length=a.length+b.length)(hla:a.length<LM)(hlb:b.length<LM):
 ∀k,k≤b.length→∃(o':List Nat) (c:Nat),aM gL (cV a,cV b,cV o,(i:Int),(0:Int),(0:Int),())=aM gL (cV a,cV b,cV o',(i:Int),(c:Int),(k:Int),()) ∧
  o'.length=o.length∧Lim o'∧c<BB∧val o'+BB ^ (i+k)*c=val o+BB ^ i*(x*val (b.take k))∧∀m,i+k≤m→o'[m]?=o[m]?:=by
 intro k
 induction k with
 | zero=>intro _;exact⟨o,0,rfl,rfl,ho,by decide,by simp[val],fun _ _=>rfl⟩
 | succ k ih=>
  intro hk
  obtain⟨o',c,h1,h2,h3,h4,h5,h6⟩:=ih (by omega)
  have hik:i<a.length:=(List.getElem?_eq_some_iff.1 hi).1
  have hj:=List.getElem?_eq_getElem (show k<b.length from hk)
  have hz:=List.getElem?_eq_getElem (show i+k<o'.length by omega)
  have hs:=Hy ha hb h3 hi hj hz h4 hla hlb
  refine⟨_,_,h1.trans (eX hs),by rw[List.length_set,h2],h3.set (Nat.mod_lt _ (by decide)) _,?_,?_,fun m hm=>?_⟩
  ·have hx:=ha.get hi
   have hy:=hb.get hj
   have hzb:=h3.get hz
   have hxy:x*b[k]≤(BB-1)*(BB-1):=Nat.mul_le_mul (by omega) (by omega)
   have hbound:(BB-1)*(BB-1)+(BB-1)+(BB-1)<BB*BB:=by decide
   exact Nat.div_lt_of_lt_mul (by omega)
  ·have hv:=SH (x:=(c+(x*b[k]+o'[i+k]))%BB) hz
   rw[uY hj]
   have hm:=Nat.mod_add_div (c+(x*b[k]+o'[i+k])) BB
   generalize (c+(x*b[k]+o'[i+k]))%BB=r at *
   generalize (c+(x*b[k]+o'[i+k]))/BB=q at *
   generalize o'[i+k]=z at *
   generalize b[k]=y at *
   generalize val (o'.set (i+k) r)=v' at *
   have e1:BB ^ (i+(k+1))*q=BB ^ (i+k)*(BB*q):=by rw[←Nat.add_assoc,Nat.pow_succ,Nat.mul_assoc]
   have e2:BB ^ (i+k)*(r+BB*q)=BB ^ (i+k)*(c+(x*y+z)):=by rw[hm]
   have e3:BB ^ i*(x*(val (b.take k)+BB ^ k*y))=BB ^ i*(x*val (b.take k))+BB ^ (i+k)*(x*y):=by
    rw[Nat.mul_add,Nat.mul_add,Nat.pow_add,Nat.mul_assoc (BB ^ i) (BB ^ k),←Nat.mul_assoc x (BB ^ k) y,Nat.mul_comm x (BB ^ k),Nat.mul_assoc (BB ^ k) x y]
   rw[e1,e3]
   rw[Nat.mul_add,Nat.mul_add,Nat.mul_add] at e2
   omega
  ·rw[List.getElem?_set_ne (by omega)]
   exact h6 m (by omega)
theorem MR{a b o:List Nat}(ha:Lim a)(hb:Lim b)(ho:Lim o){i:Nat}(hi:i<a.length)(hlo:o.length=a.length+b.length)(hla:a.length<LM)(hlb:b.length<LM)(hv:val o=val (a.take i)*val b)(h0:∀m,i+b.length≤m→m<o.length→o[m]?=some 0):
 ∃o',gM (cV a,cV b,cV o,(i:Int),())=some (.inl (cV a,cV b,cV o',((i+1:Nat):Int),()))∧o'.length=o.length∧Lim o'∧val o'=val (a.take (i+1))*val b∧∀m,i+1+b.length≤m→m<o'.length→o'[m]?=some 0:=by
 have gi:=List.getElem?_eq_getElem hi
 obtain⟨o',c,h1,h2,h3,h4,h5,h6⟩:=Dz ha hb ho gi hlo hla hlb b.length (Nat.le_refl _)
 have hend:gL (cV a,cV b,cV o',(i:Int),(c:Int),(b.length:Int),())=some (.inr (.inl (cV a,cV b,cV o',(i:Int),(c:Int),()))):=by
  unfold gL
  simp only[aG,aL,dJ]
  rw[decide_eq_false (by omega)];rfl
 have hz:o'[i+b.length]?=some 0:=by rw[h6 _ (Nat.le_refl _)];exact h0 _ (Nat.le_refl _) (by omega)
 refine⟨o'.set (i+b.length) c,?_,by rw[List.length_set,h2],h3.set h4 _,?_,fun m hm hlt=>?_⟩
 ·unfold gM
  simp only[aG,aL,dJ,aQ]
  rw[decide_eq_true (by omega)]
  simp only[cond_true]
  rw[h1.trans (aW hend)]
  simp only[aZ,aO,dJ]
  rw[show (i:Int)+(b.length:Int)=((i+b.length:Nat):Int) by omega,X4 (by simp only[LM] at *;omega),sP (by omega)]
  simp only[aZ,qC,fQ,hz,Option.map_some]
  rw[Hv h4,show (i:Int)+1=((i+1:Nat):Int) by omega,X4 (by simp only[LM] at *;omega),E4 _ _ ⟨0,rfl⟩,JK]
 ·have e1:=SH (x:=c) hz
  rw[uY gi,Nat.add_mul,←hv]
  rw[List.take_length] at h5
  rw[Nat.mul_assoc]
  omega
 ·rw[List.getElem?_set_ne (by omega),h6 m (by omega)]
  rw[List.length_set,h2] at hlt
  exact h0 m (by omega) hlt
theorem Qh{a b:List Nat}(ha:Lim a)(hb:Lim b)(hab:a.length+b.length<LM):a9 (cV a,cV b,())=some (lm (val a*val b),()):=by
 have hla:a.length<LM:=by omega
 have hlb:b.length<LM:=by omega
 have key:∀k,k≤a.length→∃o,aM gM (cV a,cV b,cV (List.replicate (a.length+b.length) 0),(0:Int),())=aM gM (cV a,cV b,cV o,(k:Int),()) ∧
  o.length=a.length+b.length∧Lim o∧val o=val (a.take k)*val b∧∀m,k+b.length≤m→m<o.length→o[m]?=some 0:=by
  intro k
  induction k with
  | zero=>
   intro _
   refine⟨_,rfl,by simp,Lim.rep _,by simp[Ad,val],fun m _ hm=>?_⟩
   rw[List.getElem?_replicate,if_pos (by simpa using hm)]
  | succ k ih=>
   intro hk
   obtain⟨o,h1,h2,h3,h4,h5⟩:=ih (by omega)
   obtain⟨o',g1,g2,g3,g4,g5⟩:=MR ha hb h3 (show k<a.length from hk) h2 hla hlb h4 h5
   exact⟨o',h1.trans (eX g1),g2.trans h2,g3,g4,g5⟩
 obtain⟨o,h1,h2,h3,h4,_⟩:=key a.length (Nat.le_refl _)
 have hend:gM (cV a,cV b,cV o,(a.length:Int),())=some (.inr (.inl (cV o,()))):=by
  unfold gM
  simp only[aG,aL,dJ]
  rw[decide_eq_false (by omega)];rfl
 unfold a9
 simp only[aL,dJ,aQ]
 rw[show (a.length:Int)+(b.length:Int)=((a.length+b.length:Nat):Int) by omega,X4 (by simp only[LM] at *;omega),T6 (by omega) (by omega) (by simp only[LM] at *;omega) (by decide)]
 simp only[aZ,Int.toNat_natCast,Q2,Ac]
 rw[h1.trans (aW hend)]
 simp only[aZ,aO]
 rw[SJ h3 (by omega)]
 rw[List.take_length] at h4
 simp only[aZ,h4]
theorem Tf{x y:Nat}(h:(aV x).length+(aV y).length<LM):a9 (lm x,lm y,())=some (lm (x*y),()):=by
 have:=Qh (eU x) (eU y) h
 rw[dV,dV] at this
 exact this
theorem E7{n:Nat}(h:n<dW):dL (lm n,())=some ((n:Int),true,()):=by
 have h2:(aV n).length≤2:=kK.2 h
 have:=Lx (eU n)
 rw[if_pos h2,decide_eq_true h2,dV] at this
 exact this
theorem Hz(a b:Nat):(a:Int).tdiv (b:Int)=((a/b:Nat):Int):=rfl
theorem Oh(a b:Nat):(a:Int).tmod (b:Int)=((a%b:Nat):Int):=rfl
theorem Ae{a b:Nat}(ha:a<dW)(hb:b<dW)(h0:b≠0):iH (lm a,lm b,())=some (lm (a/b),lm (a%b),0,()):=by
 unfold iH
 simp only[aL,aS,aG]
 have hbl:(lm b).length≠0:=fun h=>h0 (uD.1 h)
 rw[decide_eq_false (by omega)]
 simp only[cond_false,MQ (oV ha) (oV hb),aZ]
 unfold jK
 by_cases hlt:a<b
 ·rw[if_pos hlt,decide_eq_true (by omega)]
  simp only[cond_true,E6 (oV ha),aZ]
  rw[Nat.div_eq_of_lt hlt,Nat.mod_eq_of_lt hlt,j8]
 ·rw[if_neg hlt]
  have:decide ((if a=b then (0:Int) else 1)<0)=false:=decide_eq_false (by split <;> omega)
  rw[this]
  simp only[cond_false,E7 ha,E7 hb,aZ,cond_true,ZH,mX,Hz,Oh]
  rw[ZI (by omega)]
  have hd:a/b<dW:=Nat.lt_of_le_of_lt (Nat.div_le_self _ _) ha
  have hm:a%b<dW:=Nat.lt_of_le_of_lt (Nat.mod_le _ _) ha
  simp only[aZ,Hz,Oh,dZ hd,Hx hd,Hx hm]
theorem VE{a b:Nat}:aM lI ((a:Int),(b:Int),())=some (.inl (((a.gcd b:Nat):Int),())):=by
 induction b using Nat.strongRecOn generalizing a with
 | _ b ih=>
  by_cases h0:b=0
  ·subst h0
   exact aW (by unfold lI;simp[Nat.gcd_zero_right])
  ·have step:lI ((a:Int),(b:Int),())=some (.inl ((b:Int),((a%b:Nat):Int),())):=by
    unfold lI
    simp only[aS,mX]
    rw[decide_eq_false (by omega),ZI (by omega)]
    rfl
   rw[eX step,ih (a%b) (Nat.mod_lt _ (Nat.pos_of_ne_zero h0)),Nat.gcd_comm a b,Nat.gcd_rec b a,Nat.gcd_comm]
theorem Oi{a b:Nat}(ha:a<dW)(hb:b<dW):fU (lm a,lm b,())=some (lm (a.gcd b),()):=by
 unfold fU
 simp only[E6 (oV ha),E6 (oV hb),aZ]
 by_cases h0:b=0
 ·subst h0
  rw[aW (e:=.inr (.inl (lm a,()))) (by unfold sU;simp[j8])]
  simp[Nat.gcd_zero_right]
 ·have hbl:(lm b).length≠0:=fun h=>h0 (uD.1 h)
  have hg:a.gcd b<dW:=Nat.lt_of_le_of_lt (Nat.gcd_le_right _ (Nat.pos_of_ne_zero h0)) hb
  rw[aW (e:=.inl (lm (a.gcd b),())) (by
   unfold sU
   simp only[aG,aL]
   rw[decide_eq_true (by omega)]
   simp only[cond_true,E7 ha,E7 hb,aZ,VE,aO,Hx hg])]
  rfl
theorem Af{d:Nat}(hd:d<dW)(h0:d≠0):(lm d).length=1↔d<BB:=by
 constructor
 ·intro h;exact Hw.1 (by omega)
 ·intro h;rw[pX h0 h];rfl
theorem oW(neg:Bool){n d:Nat}(hn:n<dW)(hd:d<dW)(h0:d≠0):cT (neg,lm n,lm d,())=some (aN (mkRat (sg neg n) d),aU (mkRat (sg neg n) d),aY (mkRat (sg neg n) d),()):=by
 unfold cT
 simp only[E6 (oV hn),E6 (oV hd),aZ,aL,aS]
 by_cases hz:n=0
 ·subst hz
  rw[decide_eq_true (by rw[j8];rfl),Z8,sF,sG,sH]
  rfl
 ·have hnl:(lm n).length≠0:=fun h=>hz (uD.1 h)
  have hg:n.gcd d<dW:=Nat.lt_of_le_of_lt (Nat.gcd_le_right _ (Nat.pos_of_ne_zero h0)) hd
  have hg0:n.gcd d≠0:=Nat.gcd_ne_zero_right h0
  rw[decide_eq_false (by omega),X1 neg h0 hz,Z9 neg h0,Aa neg h0]
  have hq0:d/n.gcd d≠0:=by
   have:=Nat.div_pos (Nat.le_of_dvd (Nat.pos_of_ne_zero h0) (Nat.gcd_dvd_right n d)) (Nat.pos_of_ne_zero hg0)
   omega
  have hq:d/n.gcd d<dW:=Nat.lt_of_le_of_lt (Nat.div_le_self _ _) hd
  have fin:∀(N:List T) (e:Nat),e<dW→e≠0→(ob (α:=((Bool×List T×List T×Unit×Bool×T×T×Unit)⊕Empty)) (bif (eqI (lenL (lm e)) (1:Int)) then (ob (bD (lm e) (0:Int)) fun x11=>(ob (T.int? .u32 (T.cell x11 0)) fun x12=>(bif (eqI x12 (1:Int)) then (some (Sum.inl (neg,N,[],(),false,(T.v (.slice none 0 0)),(T.v (.slice none 0 0)),()))) else (some (Sum.inl (neg,N,lm e,(),false,(T.v (.slice none 0 0)),(T.v (.slice none 0 0)),())))))) else (some (Sum.inl (neg,N,lm e,(),false,(T.v (.slice none 0 0)),(T.v (.slice none 0 0)),()))))
   fun q13=>cQ q13 (fun t14=>(some (t14.1,t14.2.1,t14.2.2.1,()))) fun q15=>dK q15)=some (neg,N,dn e,()):=by
   intro N e he he0
   simp only[aL,aS]
   by_cases h1:e<BB
   ·rw[decide_eq_true (by rw[pX he0 h1];rfl)]
    simp only[cond_true]
    rw[pX he0 h1,qP _ (by omega)]
    simp only[Int.toNat_zero,List.getElem?_cons_zero,aZ,cW,rB]
    unfold dn
    by_cases h2:e=1
    ·subst h2;rfl
    ·rw[if_neg h2,decide_eq_false (by omega),pX he0 h1];rfl
   ·rw[decide_eq_false (by have:=(Af he he0).1;omega)]
    unfold dn
    rw[if_neg (by simp only[BB] at h1;omega)]
    rfl
  simp only[cond_false,Oi hn hd,aZ,aL]
  have tail:=fin (lm (n/n.gcd d)) (d/n.gcd d) hq hq0
  simp only[aL,aS] at tail
  by_cases h1:n.gcd d=1
  ·have e1:lm (n.gcd d)=[eL 1]:=by rw[h1];exact pX (by decide) (by decide)
   rw[e1]
   rw[h1,Nat.div_one,Nat.div_one] at tail ⊢
   simp only[List.length_cons,List.length_nil]
   rw[decide_eq_true (by omega),qP _ (by omega)]
   simp only[Bool.not_true,cond_false,Int.toNat_zero,List.getElem?_cons_zero,aZ,cW,rB]
   rw[decide_eq_true (by omega)]
   simp only[Bool.not_true,cond_false,aZ,aO]
   exact tail
  ·by_cases h2:n.gcd d<BB
   ·have e1:lm (n.gcd d)=[eL (n.gcd d)]:=pX hg0 h2
    rw[decide_eq_true (by rw[e1];rfl)]
    have e2:bD (lm (n.gcd d)) 0=some (eL (n.gcd d)):=by rw[e1,qP _ (by omega)];rfl
    simp only[Bool.not_true,cond_false,e2,aZ,cW,rB]
    rw[decide_eq_false (by omega)]
    simp only[Bool.not_false,cond_true,Ae hn hg hg0,Ae hd hg hg0,aZ,aO]
    exact tail
   ·rw[decide_eq_false (by have:=(Af hg hg0).1;omega)]
    simp only[Bool.not_false,cond_true,Ae hn hg hg0,Ae hd hg hg0,aZ,aO]
    exact tail
theorem X8{n:Int}(h1:-4611686018427387904<n)(h2:n<4611686018427387904):l6 (n,())=some (lm n.natAbs,decide (n<0),()):=by
 unfold l6
 simp only[aG,aQ,bO]
 by_cases h:n<0
 ·rw[decide_eq_true h]
  have e:wr .u64 (wr .u64 (wr .i64 (0-wr .i64 (n+1)))+1)=((n.natAbs:Nat):Int):=by
   rw[dC (n:=n+1) (by omega) (by omega),dC (by omega) (by omega),show 0-(n+1)=((n.natAbs-1:Nat):Int) by omega,dZ (by simp only[dW];omega),
    show ((n.natAbs-1:Nat):Int)+1=((n.natAbs:Nat):Int) by omega,dZ (by simp only[dW];omega)]
  simp only[cond_true,e,Hx (n:=n.natAbs) (by simp only[dW];omega),aZ]
 ·rw[decide_eq_false h]
  have e:wr .u64 n=((n.natAbs:Nat):Int):=by
   rw[show n=((n.natAbs:Nat):Int) by omega,dZ (by simp only[dW];omega)];rfl
  simp only[cond_false,e,Hx (n:=n.natAbs) (by simp only[dW];omega),aZ]
def E8(n d:Int):Rat:=mkRat (sg (decide (n<0) != decide (d<0)) n.natAbs) d.natAbs
theorem Ly(a b:Bool):(!(a==b))=(a != b):=rfl
theorem Qi{n d:Int}(h1:-4611686018427387904<n)(h2:n<4611686018427387904)(h3:-4611686018427387904<d)(h4:d<4611686018427387904)(h0:d≠0):
 rY (n,d,())=some (aN (E8 n d),aU (E8 n d),aY (E8 n d),0,()):=by
 unfold rY
 simp only[aS]
 rw[decide_eq_false h0]
 simp only[cond_false,X8 h1 h2,X8 h3 h4,aZ,wH,Ly]
 rw[oW _ (by simp only[dW];omega) (by simp only[dW];omega) (by omega)]
 rfl
theorem Ia{n d:Int}(h1:-4611686018427387904<n)(h2:n<4611686018427387904)(h3:-4611686018427387904<d)(h4:d<4611686018427387904)(h0:d≠0):
 jY (n,d,())=some (aN (E8 n d),aU (E8 n d),aY (E8 n d),()):=by
 unfold jY
 simp only[Qi h1 h2 h3 h4 h0,aZ]
def Ib(q:Rat):Prop:=(aV q.num.natAbs).length<LM∧(aV q.den).length<LM
theorem Sm.fit{q:Rat}(h:Sm q):Ib q:=⟨oV (by have:=h.1;simp only[dW];omega),oV (by have:=h.2;simp only[dW];omega)⟩
theorem VF(d:Nat):∃m,dn d=lm m∧(m=d∨m=0):=by
 unfold dn
 split
 ·exact⟨0,j8.symm,.inr rfl⟩
 ·exact⟨d,rfl,.inl rfl⟩
theorem A1{a b:Nat}:jK a b=0↔a=b:=by
 unfold jK
 by_cases h1:a<b
 ·rw[if_pos h1];omega
 ·rw[if_neg h1];split <;> omega
theorem X9{p q:Rat}(hp:Ib p)(hq:Ib q):l7 (aN p,aU p,aY p,aN q,aU q,aY q,())=some (decide (p=q),()):=by
 unfold l7
 simp only[wH]
 by_cases hn:aN p=aN q
 ·rw[hn]
  simp only[beq_self_eq_true,cond_true]
  unfold aU
  rw[MQ hp.1 hq.1]
  simp only[aZ,aS]
  by_cases h1:p.num.natAbs=q.num.natAbs
  ·rw[decide_eq_true (A1.2 h1)]
   simp only[cond_true]
   obtain⟨m,e1,c1⟩:=VF p.den
   obtain⟨m',e2,c2⟩:=VF q.den
   have l1:(aV m).length<LM:=by rcases c1 with rfl | rfl;exact hp.2;rw[eE];decide
   have l2:(aV m').length<LM:=by rcases c2 with rfl | rfl;exact hq.2;rw[eE];decide
   unfold aY
   rw[e1,e2,MQ l1 l2]
   simp only[aZ]
   congr 2
   rw[decide_eq_decide,A1]
   constructor
   ·intro h
    exact Ab hn h1 (Ht p.den_nz q.den_nz (by rw[e1,e2,h]))
   ·intro h
    subst h
    exact MK (e1.symm.trans e2)
  ·rw[decide_eq_false (fun h=>h1 (A1.1 h)),decide_eq_false (fun h=>h1 (by rw[h]))]
   rfl
 ·have hb:(aN p==aN q)=false:=by simpa using hn
  rw[hb,decide_eq_false (fun h=>hn (by rw[h]))]
  rfl
def jM(q:Rat):Int:=if q=0 then 0 else if aN q then -1 else 1
theorem E9{q:Rat}:(aU q).length=0↔q=0:=by unfold aU;rw[uD,ML]
theorem Ea(q:Rat):aU (-q)=aU q∧aY (-q)=aY q∧aN (-q)=(!aN q&&decide (q≠0)):=by
 refine⟨by unfold aU;rw[Rat.neg_num,Int.natAbs_neg],by unfold aY;rw[Rat.neg_den],?_⟩
 unfold aN
 rw[Rat.neg_num]
 have h0:q.num=0↔q=0:=Rat.num_eq_zero
 by_cases h:q=0
 ·subst h;rfl
 ·have:q.num≠0:=fun hh=>h (h0.1 hh)
  rw[decide_eq_true h,Bool.and_true]
  by_cases hl:q.num<0
  ·rw[decide_eq_true hl,decide_eq_false (by omega)];rfl
  ·rw[decide_eq_false hl,decide_eq_true (by omega)];rfl
theorem Th(q:Rat):qV (aN q,aU q,aY q,())=some (aN (-q),aU (-q),aY (-q),()):=by
 obtain⟨e1,e2,e3⟩:=Ea q
 unfold qV
 simp only[aG,aL,e1,e2,e3]
 cases hn:aN q with
 | true=>simp
 | false=>
  simp only[Bool.not_false,cond_true,Bool.true_and]
  congr 3
  apply propext
  have:=E9 (q:=q)
  constructor
  ·intro h hq;have:=this.2 hq;omega
  ·intro h;have:(aU q).length≠0:=fun hh=>h (this.1 hh);omega
end Go.Eng.Rt
namespace Go.Eng.Rt
open Go.Eng
theorem VG(l:List Nat)(hl:l.length<LM):∀n,n≤l.length→aM tU (cV l,(n:Int),())=some (.inl (cV l,(((rA (l.take n)).length:Nat):Int),())):=
 H5 l hl
theorem Qj{l:List Nat}(h:Lim l)(hl:l.length<LM):eC (cV l,())=some (lm (val l),()):=by
 unfold eC
 have e:=VG l hl l.length (Nat.le_refl _)
 rw[List.take_length] at e
 simp only[aL,dJ,e,aZ,aO]
 rw[T5 (by omega) (by omega) (by rw[dJ];have:=E5 l;omega)]
 simp only[Int.toNat_natCast,Int.toNat_zero,List.drop_zero,aZ,VD,MO,MP h]
theorem SL{n:Nat}(h:(aV n).length<LM):eC (lm n,())=some (lm n,()):=by
 have:=Qj (eU n) h
 rw[dV] at this
 exact this
def Ag(s:ByteArray)(t:(Int×Unit)):Option (Int×Unit):=
 (ob (α:=((Int×Int×Unit)⊕Empty)) (bif (tG (65536:Int) t.1) then (ob (nn (16:Int)) fun x0=>(some (Sum.inl ((iX .u32 t.1 x0),(16:Int),())))) else (some (Sum.inl (t.1,(0:Int),())))) fun q1=>cQ q1 (fun t2=>(ob (α:=((Int×Int×Unit)⊕Empty)) (bif (tG (256:Int) t2.1) then (ob (nn (8:Int)) fun x3=>(some (Sum.inl ((iX .u32 t2.1 x3),(wr .i64 (aJ t2.2.1 (8:Int))),())))) else (some (Sum.inl (t2.1,t2.2.1,())))) fun q4=>cQ q4 (fun t5=>(ob (S9 s (wr .u8 t5.1)) fun x6=>(some ((wr .i64 (aJ t5.2.1 (wr .i64 x6))),())))) fun q7=>dK q7)) fun q8=>dK q8)
def Ti(s:ByteArray):Bool:=(List.range 256).all fun y=>match S9 s (y:Int) with
 | some k=>decide (0≤k)&&decide (k≤8)&&(y==0||decide (1≤k))
 | none=>false
theorem Lz:∃s,(∀t,kQ t=Ag s t)∧Ti s=true:=⟨_,fun _=>rfl,by decide +kernel⟩
theorem Tj(n:Nat):iX .u32 (n:Int) 16=((n/65536:Nat):Int):=by
 unfold iX
 rw[show ((2:Int) ^ (min (Int.toNat 16) (IntKind.bits .u32)))=((65536:Nat):Int) from rfl,Int.fdiv_eq_ediv_of_nonneg _ (by omega)]
 exact(Int.natCast_ediv n _).symm
theorem Tk(n:Nat):iX .u32 (n:Int) 8=((n/256:Nat):Int):=by
 unfold iX
 rw[show ((2:Int) ^ (min (Int.toNat 8) (IntKind.bits .u32)))=((256:Nat):Int) from rfl,Int.fdiv_eq_ediv_of_nonneg _ (by omega)]
 exact(Int.natCast_ediv n _).symm
theorem Ma{x:Nat}(hx:x<BB):∃k:Nat,kQ ((x:Int),())=some ((k:Int),())∧k≤32∧(x≠0→k≠0):=by
 obtain⟨s,hs,ht⟩:=Lz
 have tab:∀y:Nat,y<256→∃k:Nat,S9 s (wr .u8 (y:Int))=some (k:Int)∧k≤8∧(y≠0→k≠0):=fun y hy=>by
  have:=List.all_eq_true.1 ht y (List.mem_range.2 hy)
  rw[Ve (by omega) (by omega)]
  cases hi:S9 s (y:Int) with
  | none=>rw[hi] at this;cases this
  | some k=>
   rw[hi] at this
   simp only[Bool.and_eq_true,decide_eq_true_eq,Bool.or_eq_true,beq_iff_eq] at this
   obtain⟨k',rfl⟩:=Int.eq_ofNat_of_zero_le this.1.1
   exact⟨k',rfl,by omega,fun h=>by omega⟩
 rw[hs]
 unfold Ag
 have n16:nn (16:Int)=some 16:=by unfold nn;rfl
 have n8:nn (8:Int)=some 8:=by unfold nn;rfl
 simp only[mI,aQ]
 have last:∀(y c:Nat),y<256→c≤24→∃k:Nat,(ob (S9 s (wr .u8 (y:Int))) fun x6=>(some ((wr .i64 ((c:Int)+(wr .i64 x6))),())))=some ((k:Int),())∧k≤32∧(y≠0∨c≠0→k≠0):=fun y c hy hc=>by
  obtain⟨k,h1,h2,h3⟩:=tab y hy
  rw[h1]
  simp only[aZ]
  rw[X4 (n:=k) (by omega),show (c:Int)+(k:Int)=((c+k:Nat):Int) by omega,X4 (by omega)]
  exact⟨c+k,rfl,by omega,fun h=>by omega⟩
 by_cases h1:65536≤x
 ·rw[decide_eq_true (by omega)]
  simp only[cond_true,n16,aZ,Tj,aO]
  by_cases h2:256≤x/65536
  ·rw[decide_eq_true (by omega)]
   simp only[cond_true,n8,aZ,Tk,aO]
   rw[show (16:Int)+8=((24:Nat):Int) from rfl,X4 (by omega)]
   obtain⟨k,e1,e2,e3⟩:=last (x/65536/256) 24 (by simp only[BB] at hx;omega) (by omega)
   exact⟨k,e1,e2,fun _=>e3 (.inr (by omega))⟩
  ·rw[decide_eq_false (by omega)]
   simp only[cond_false,aZ,aO]
   obtain⟨k,e1,e2,e3⟩:=last (x/65536) 16 (by omega) (by omega)
   exact⟨k,e1,e2,fun _=>e3 (.inr (by omega))⟩
 ·rw[decide_eq_false (by omega)]
  simp only[cond_false,aZ,aO]
  by_cases h2:256≤x
  ·rw[decide_eq_true (by omega)]
   simp only[cond_true,n8,aZ,Tk,aO]
   rw[show (0:Int)+8=((8:Nat):Int) from rfl,X4 (by omega)]
   obtain⟨k,e1,e2,e3⟩:=last (x/256) 8 (by omega) (by omega)
   exact⟨k,e1,e2,fun _=>e3 (.inr (by omega))⟩
  ·rw[decide_eq_false (by omega)]
   simp only[cond_false,aZ,aO]
   obtain⟨k,e1,e2,e3⟩:=last x 0 (by omega) (by omega)
   exact⟨k,e1,e2,fun h=>e3 (.inl h)⟩
theorem MS{n:Nat}(h:n≠0):∃x,(aV n)[(aV n).length-1]?=some x∧x≠0∧x<BB:=by
 have hne:aV n≠[]:=Ho h
 obtain⟨m,a,e⟩:∃m a,aV n=m++[a]:=⟨(aV n).dropLast,(aV n).getLast hne,(List.dropLast_concat_getLast hne).symm⟩
 have hl:=eU n
 refine⟨a,by rw[e];simp,?_,hl a (by rw[e];simp)⟩
 intro h0
 subst h0
 have h1:aV (val (aV n))=rA (aV n):=GK hl
 rw[dV,e,AC] at h1
 have h2:=congrArg List.length h1
 have h3:=E5 m
 simp at h2
 omega
theorem Qk{n:Nat}(h:(aV n).length<LM):∃k:Nat,gN (lm n,())=some ((k:Int),())∧(k=0↔n=0):=by
 unfold gN
 simp only[SL h,aZ,aL,aS,bO,dX,aQ]
 by_cases h0:n=0
 ·subst h0
  rw[decide_eq_true (by rw[j8];rfl)]
  exact⟨0,rfl,by simp⟩
 ·have hl:(lm n).length≠0:=fun hh=>h0 (uD.1 hh)
  obtain⟨x,h1,h2,h3⟩:=MS h0
  obtain⟨k,g1,g2,g3⟩:=Ma h3
  rw[decide_eq_false (by omega),dC (by omega) (by rw[AD];simp only[LM] at h;omega)]
  have hll:=AD n
  rw[show ((lm n).length:Int)-1=(((aV n).length-1:Nat):Int) by omega]
  simp only[cond_false,bZ]
  unfold lm
  simp only[fQ,h1,Option.map_some,aZ,cW,rB,g1]
  rw[show (32:Int)*(((aV n).length-1:Nat):Int)=((32*((aV n).length-1):Nat):Int) by push_cast;rfl,X4 (by simp only[LM] at h;omega),
   show ((32*((aV n).length-1):Nat):Int)+(k:Int)=((32*((aV n).length-1)+k:Nat):Int) by omega,X4 (by simp only[LM] at h;omega)]
  exact⟨_,rfl,by constructor <;> intro hh <;> have:=g3 h2 <;> omega⟩
theorem YA{a b:List Nat}(ha:Lim a)(hb:Lim b)(hl:a.length=b.length)(hm:a.length<LM):∀n,n≤a.length→a.drop n=b.drop n →
 aM jD (cV a,cV b,(n:Int)-1,())=some (if val a=val b then .inr (.inl ()) else .inl (jK (val a) (val b),())):=by
 intro n
 induction n with
 | zero=>
  intro _ hd
  have:a=b:=by simpa using hd
  subst this
  rw[if_pos rfl]
  exact aW (by unfold jD;simp only[mI];rw[decide_eq_false (by omega)];rfl)
 | succ n ih=>
  intro hn hd
  have h1:n<a.length:=hn
  have h2:n<b.length:=by omega
  have ga:=List.getElem?_eq_getElem h1
  have gb:=List.getElem?_eq_getElem h2
  have step:jD (cV a,cV b,((n+1:Nat):Int)-1,())=if a[n]<b[n] then some (.inr (.inl (-1,()))) else if b[n]<a[n] then some (.inr (.inl (1,()))) else some (.inl (cV a,cV b,(n:Int)-1,())):=by
   unfold jD
   rw[show ((n+1:Nat):Int)-1=(n:Int) by omega]
   simp only[mI,aG,bO,aS]
   rw[decide_eq_true (by omega),bZ,bZ,fQ,fQ,ga,gb,dC (by omega) (by simp only[LM] at hm;omega)]
   simp only[cond_true,Option.map_some,aZ,cW,rB]
   by_cases c1:a[n]<b[n]
   ·rw[if_pos c1,decide_eq_false (by omega),decide_eq_true (by omega)];rfl
   ·rw[if_neg c1]
    by_cases c2:b[n]<a[n]
    ·rw[if_pos c2,decide_eq_false (by omega),decide_eq_false (by omega)];rfl
    ·rw[if_neg c2,decide_eq_true (by omega)];rfl
  by_cases c1:a[n]<b[n]
  ·rw[if_pos c1] at step
   have:=A0 ha ga gb c1 hd
   rw[aW step,if_neg (by omega)]
   unfold jK
   rw[if_pos this]
  ·rw[if_neg c1] at step
   by_cases c2:b[n]<a[n]
   ·rw[if_pos c2] at step
    have:=A0 hb gb ga c2 hd.symm
    rw[aW step,if_neg (by omega)]
    unfold jK
    rw[if_neg (by omega),if_neg (by omega)]
   ·rw[if_neg c2] at step
    rw[eX step]
    refine ih (by omega) ?_
    rw[List.drop_eq_getElem_cons h1,List.drop_eq_getElem_cons h2,hd,show a[n]=b[n] by omega]
theorem Tl{x y:Nat}(hx:(aV x).length<LM)(hy:(aV y).length<LM):kI (lm x,lm y,())=some (jK x y,()):=by
 unfold kI
 simp only[SL hx,SL hy,aZ,aL,AD,aS,aG,bO]
 by_cases hl:(aV x).length=(aV y).length
 ·rw[decide_eq_true (by omega),dC (by omega) (by simp only[LM] at hx;omega)]
  have:=YA (eU x) (eU y) hl hx (aV x).length (Nat.le_refl _) (by rw[List.drop_length,hl,List.drop_length])
  rw[dV,dV] at this
  simp only[lm,Bool.not_true,cond_false,this,aZ]
  by_cases he:x=y
  ·subst he;simp[jK]
  ·rw[if_neg he];rfl
 ·rw[decide_eq_false (by omega)]
  simp only[Bool.not_false,cond_true]
  by_cases hc:(aV x).length<(aV y).length
  ·have:=SK hc
   rw[decide_eq_true (by omega)]
   unfold jK
   rw[if_pos this];rfl
  ·have:=SK (x:=y) (y:=x) (by omega)
   rw[decide_eq_false (by omega)]
   unfold jK
   rw[if_neg (by omega),if_neg (by omega)];rfl
theorem Ql{n:Nat}(h:n<BB):kC (lm n,())=some ((n:Int),()):=by
 unfold kC
 by_cases h0:n=0
 ·subst h0
  rw[j8]
  rw[aW (e:=.inl (0,())) (by simp[jZ,dC])]
  rfl
 ·rw[pX h0 h]
  have e:rT .or .u64 (0:Int) (n:Int)=(n:Int):=by
   have:=Te (a:=n) (b:=0) h (by decide)
   simpa using this
  rw[eX (s':=([eL n],(n:Int),-1,())) (by
   unfold jZ
   simp only[mI,aL,bO,List.length_cons,List.length_nil]
   rw[dC (by omega) (by omega),decide_eq_true (by omega),qP _ (by omega),dC (by omega) (by omega)]
   simp only[cond_true,SG,aZ]
   have e2:CC .u64 (0:Int) 32=0:=by have:=Og 0;simpa using this
   have e3:wr .u64 (0:Int)=0:=dZ (n:=0) (by decide)
   simp[cW,kG,e2,e3,dZ (show n<dW by simp only[BB,dW] at *;omega),e])]
  rw[aW (e:=.inl ((n:Int),())) (by simp[jZ])]
  rfl
def Vx(q:Rat):Prop:=q.num.natAbs<BB∧q.den<BB
theorem Sm.s1{q:Rat}(h:Sm q):Vx q:=⟨by have:=h.1;simp only[BB];omega,by have:=h.2;simp only[BB];omega⟩
theorem A2{q:Rat}(h:Vx q)(b:Bool):cA (b,aU q,aY q,())=some ((q.num.natAbs:Int),(q.den:Int),true,()):=by
 obtain⟨h1,h2⟩:=h
 have hd:=q.den_nz
 have l1:(aU q).length≤1:=Hw.2 h1
 unfold cA
 simp only[aG,aL,aS]
 rw[decide_eq_false (by omega)]
 have w:kC (aU q,())=some ((q.num.natAbs:Int),()):=Ql h1
 rw[Lu h2]
 by_cases hd1:q.den=1
 ·rw[if_pos hd1]
  simp only[List.length_nil]
  rw[decide_eq_false (by omega),decide_eq_false (by omega)]
  simp only[cond_false,aZ,aO,w]
  rw[hd1];rfl
 ·rw[if_neg hd1]
  simp only[List.length_cons,List.length_nil]
  rw[decide_eq_false (by omega),decide_eq_true (by omega),qP _ (by omega)]
  simp only[cond_false,cond_true,Int.toNat_zero,List.getElem?_cons_zero,aZ,cW,kG,aO,w]
  rw[dZ (by simp only[BB,dW] at *;omega),decide_eq_false (by omega)]
  rfl
theorem Eb(a b:Nat):gO ((a:Int),(b:Int),())=some (((a.gcd b:Nat):Int),()):=by
 unfold gO
 have:aM pG ((a:Int),(b:Int),())=some (.inl (((a.gcd b:Nat):Int),())):=VE
 rw[this];rfl
theorem SM{α:Type}(l:List α)(a n:Nat):fI l a n=(l.drop a).take n:=by unfold fI;rfl
theorem Tn{L l h:Nat}(h1:l≤h)(h2:h≤L):sI (L:Int) (l:Int) (h:Int) (h:Int)=some (l,h-l):=by
 unfold sI
 rw[if_pos ⟨by omega,by omega,rfl,by omega⟩]
 simp
theorem VH{L l h:Nat}(h1:l≤h)(h2:h≤L):yK (L:Int) (l:Int) (h:Int)=some (l,h-l):=by
 unfold yK
 rw[if_pos ⟨by omega,by omega,by omega⟩]
 simp
theorem Mb(a b:Nat):nA a b=a+b:=by unfold nA;rfl
theorem Vf:repL 4 (T.v (.int .u32 (0:Int)))=[eL 0,eL 0,eL 0,eL 0]:=by rw[Q2];rfl
theorem Qm:mkLen (4:Int) 4 4=some (4,4):=by unfold mkLen;rfl
theorem Vg{n:Int}(h:0<n):dY n 0=some 0:=by rw[Gk (by omega) h];rfl
theorem Qn(n:Nat):T.v (.int .u32 (wr .u32 (n:Int)))=eL (n%BB):=by rw[H4];rfl
theorem To(n m:Nat):T.upd 1 (eL n) 0 [eL m]=eL m:=Gj _ _
theorem k1:sI 4 0 1 1=some (0,1):=by unfold sI;rfl
theorem k2:sI 4 1 2 2=some (1,1):=by unfold sI;rfl
theorem k3:sI 4 1 3 3=some (1,2):=by unfold sI;rfl
theorem k4:sI 4 0 2 2=some (0,2):=by unfold sI;rfl
theorem k5:sI 4 2 3 3=some (2,1):=by unfold sI;rfl
theorem k6:sI 4 2 4 4=some (2,2):=by unfold sI;rfl
theorem k7:yK 4 1 4=some (1,3):=by unfold yK;rfl
theorem k8:yK 4 2 4=some (2,2):=by unfold yK;rfl
theorem k9:wr .i64 (1+1)=2:=rH (by omega) (by omega)
theorem Wd:wr .i64 (1+2)=3:=rH (by omega) (by omega)
theorem We:wr .i64 (2+1)=3:=rH (by omega) (by omega)
theorem Wf:wr .i64 (2+2)=4:=rH (by omega) (by omega)
theorem Wg:DB 3=3:=by unfold DB;rfl
theorem Wh:DB 2=2:=by unfold DB;rfl
theorem Wi:dY 4 0=some 0:=by unfold dY;rfl
theorem Wj:dY 4 1=some 1:=by unfold dY;rfl
theorem Wk:dY 3 0=some 0:=by unfold dY;rfl
theorem Wl:dY 3 1=some 1:=by unfold dY;rfl
theorem Wm:dY 2 0=some 0:=by unfold dY;rfl
theorem Wn:dY 2 1=some 1:=by unfold dY;rfl
theorem JL(neg:Bool){n d:Nat}(hn:n<dW)(hd:d<dW)(h0:d≠0):
 bK (neg,(n:Int),(d:Int),())=some (aN (mkRat (sg neg n) d),aU (mkRat (sg neg n) d),aY (mkRat (sg neg n) d),()):=by
 unfold bK
 simp only[aS]
 by_cases hz:n=0
 ·subst hz
  rw[decide_eq_true (by omega),Z8,sF,sG,sH]
  rfl
 ·rw[decide_eq_false (by omega)]
  have hg0:n.gcd d≠0:=Nat.gcd_ne_zero_right h0
  have hq1:n/n.gcd d≠0:=by
   have:=Nat.div_pos (Nat.le_of_dvd (Nat.pos_of_ne_zero hz) (Nat.gcd_dvd_left n d)) (Nat.pos_of_ne_zero hg0)
   omega
  have hq2:d/n.gcd d≠0:=by
   have:=Nat.div_pos (Nat.le_of_dvd (Nat.pos_of_ne_zero h0) (Nat.gcd_dvd_right n d)) (Nat.pos_of_ne_zero hg0)
   omega
  have b1:n/n.gcd d<dW:=Nat.lt_of_le_of_lt (Nat.div_le_self _ _) hn
  have b2:d/n.gcd d<dW:=Nat.lt_of_le_of_lt (Nat.div_le_self _ _) hd
  rw[X1 neg h0 hz,Z9 neg h0,Aa neg h0]
  simp only[cond_false,Eb,aZ,ZI (show ((n.gcd d:Nat):Int)≠0 by omega),Qm,Vf,aL,List.length_cons,List.length_nil,ZH,Hz,dZ b1,dZ b2]
  generalize n/n.gcd d=N at *
  generalize d/n.gcd d=M at *
  clear hn hd hz h0 hg0
  have m1:N%BB<BB:=Nat.mod_lt _ (by decide)
  have m2:M%BB<BB:=Nat.mod_lt _ (by decide)
  have c1:N/BB<BB:=Nat.div_lt_of_lt_mul b1
  have c2:M/BB<BB:=Nat.div_lt_of_lt_mul b2
  rw[Vg (by omega)]
  simp only[aZ,qC,List.getElem?_cons_zero,SG,MN,Qn,To,List.set_cons_zero,aG,aQ]
  have l4:∀a b c d:T,(([a,b,c,d]:List T).length:Int)=4:=fun _ _ _ _=>rfl
  have dm:∀(m:Nat),m<dW→decide (((m/BB:Nat):Int)=0)=decide (m<BB):=fun m hm=>by
   rw[decide_eq_decide]
   constructor
   ·intro h
    have:m/BB=0:=by omega
    exact(Nat.div_eq_zero_iff.1 this).resolve_left (by decide)
   ·intro h;rw[Nat.div_eq_of_lt h];rfl
  have d1:decide ((1:Int)<(M:Int))=!decide (M=1):=by
   by_cases h:M=1
   ·subst h;rfl
   ·rw[decide_eq_true (by omega),decide_eq_false h];rfl
  rw[dm N b1]
  have r1:N/BB%BB=N/BB:=Nat.mod_eq_of_lt c1
  have r2:M/BB%BB=M/BB:=Nat.mod_eq_of_lt c2
  have two:∀m:Nat,¬m<BB→m<dW→lm m=[eL (m%BB),eL (m/BB)]:=fun m h1 h2=>Qf (by omega) h2
  unfold dn
  have fN:N<BB→lm N=[eL (N%BB)]:=fun h=>by rw[Nat.mod_eq_of_lt h,pX hq1 h]
  have fM:M<BB→lm M=[eL (M%BB)]:=fun h=>by rw[Nat.mod_eq_of_lt h,pX hq2 h]
  have e1:decide (M=1)=true∨decide (M=1)=false:=by cases decide (M=1) <;> simp
  have e2:decide (N<BB)=true∧lm N=[eL (N%BB)]∨decide (N<BB)=false∧lm N=[eL (N%BB),eL (N/BB)]:=by
   by_cases h:N<BB
   ·exact .inl ⟨decide_eq_true h,fN h⟩
   ·exact .inr ⟨decide_eq_false h,two N h b1⟩
  have e3:decide (M<BB)=true∧lm M=[eL (M%BB)]∨decide (M<BB)=false∧lm M=[eL (M%BB),eL (M/BB)]:=by
   by_cases h:M<BB
   ·exact .inl ⟨decide_eq_true h,fM h⟩
   ·exact .inr ⟨decide_eq_false h,two M h b2⟩
  have e4:(if M=1 then ([]:List T) else lm M)=bif decide (M=1) then [] else lm M:=by
   by_cases h:M=1
   ·rw[if_pos h,decide_eq_true h];rfl
   ·rw[if_neg h,decide_eq_false h];rfl
  rw[e4,d1,dm M b2]
  rcases e1 with h1 | h1 <;> rcases e2 with⟨h2,g2⟩ | ⟨h2,g2⟩ <;> rcases e3 with⟨h3,g3⟩ | ⟨h3,g3⟩
  all_goals simp only[h1,h2,h3,g2,g3,Bool.not_true,Bool.not_false,cond_true,cond_false,k1,k2,k3,k4,k5,k6,k7,k8,k9,Wd,We,Wf,Wi,Wj,Wk,Wl,Wm,Wn,Wg,Wh,aZ,l4,qC,List.length_set,List.set_cons_zero,List.set_cons_succ,List.getElem?_cons_zero,List.getElem?_cons_succ,Mb,Nat.add_zero,Nat.reduceAdd,To,r1,r2,aO,SM,List.drop_zero,List.drop_succ_cons,List.take_succ_cons,List.take_zero]
theorem SN{a b:List Nat}(ha:a.length<LM):aK (cV a,cV b,())=some (decide (a=b),()):=by
 unfold aK
 simp only[aL,dJ,aS]
 by_cases hl:a.length=b.length
 ·rw[decide_eq_true (by omega)]
  simp only[Bool.not_true,cond_false]
  have key:∀d i,i+d=a.length→a.take i=b.take i→aM bU (cV a,cV b,(a.length:Int),(i:Int),())=some (if a=b then .inr (.inl ()) else .inl (false,())):=by
   intro d
   induction d with
   | zero=>
    intro i hi ht
    have:i=a.length:=by omega
    subst this
    rw[List.take_length,hl,List.take_length] at ht
    rw[if_pos ht]
    exact aW (by unfold bU;simp only[aG];rw[decide_eq_false (by omega)];rfl)
   | succ d ih=>
    intro i hi ht
    have h1:i<a.length:=by omega
    have h2:i<b.length:=by omega
    have ga:=List.getElem?_eq_getElem h1
    have gb:=List.getElem?_eq_getElem h2
    have step:bU (cV a,cV b,(a.length:Int),(i:Int),())=if a[i]=b[i] then some (.inl (cV a,cV b,(a.length:Int),((i+1:Nat):Int),())) else some (.inr (.inl (false,()))):=by
     unfold bU
     simp only[aG,aQ,aS]
     rw[decide_eq_true (by omega),bZ,bZ,fQ,fQ,ga,gb,show (i:Int)+1=((i+1:Nat):Int) by omega,X4 (by simp only[LM] at ha;omega)]
     simp only[cond_true,Option.map_some,aZ,cW,rB]
     by_cases h:a[i]=b[i]
     ·rw[if_pos h,decide_eq_true (by omega)];rfl
     ·rw[if_neg h,decide_eq_false (by omega)];rfl
    by_cases h:a[i]=b[i]
    ·rw[if_pos h] at step
     rw[eX step]
     refine ih (i+1) (by omega) ?_
     rw[List.take_succ_eq_append_getElem h1,List.take_succ_eq_append_getElem h2,ht,h]
    ·rw[if_neg h] at step
     rw[aW step,if_neg]
     intro hab
     subst hab
     exact h rfl
  have:=key a.length 0 (by omega) (by simp)
  rw[show ((0:Nat):Int)=0 from rfl] at this
  rw[this]
  by_cases hab:a=b
  ·rw[if_pos hab,decide_eq_true hab];rfl
  ·rw[if_neg hab,decide_eq_false hab];rfl
 ·rw[decide_eq_false (by omega),decide_eq_false (fun h=>hl (by rw[h]))]
  rfl
theorem AE{q:Rat}(h:Ib q):bM (aN q,aU q,aY q,())=some (jM q,()):=by
 unfold bM
 obtain⟨k,h1,h2⟩:=Qk h.1
 have h1':gN (aU q,())=some ((k:Int),()):=h1
 simp only[h1',aZ,aS]
 unfold jM
 by_cases h0:q=0
 ·rw[if_pos h0,decide_eq_true (by have:=h2.2 (ML.2 h0);omega)];rfl
 ·rw[if_neg h0,decide_eq_false (fun hh=>h0 (ML.1 (h2.1 (by omega))))]
  cases aN q <;> rfl
theorem jL(q:Rat):(jM q=0∧q=0)∨(jM q=-1∧q.num<0)∨(jM q=1∧0<q.num):=by
 unfold jM
 by_cases h:q=0
 ·exact .inl ⟨if_pos h,h⟩
 ·have h0:q.num≠0:=fun hh=>h (Rat.num_eq_zero.1 hh)
  rw[if_neg h]
  unfold aN
  by_cases hl:q.num<0
  ·rw[decide_eq_true hl];exact .inr (.inl ⟨rfl,hl⟩)
  ·rw[decide_eq_false hl];exact .inr (.inr ⟨rfl,by omega⟩)
def lO(p q:Rat):Int:=if p<q then -1 else if p=q then 0 else 1
theorem Ah{p q:Rat}:(p.num*q.den<q.num*p.den→lO p q=-1)∧(p.num*q.den=q.num*p.den→lO p q=0)∧(q.num*p.den<p.num*q.den→lO p q=1):=by
 refine⟨fun h=>?_,fun h=>?_,fun h=>?_⟩
 ·unfold lO;rw[if_pos (MM.2 h)]
 ·have e:p=q:=by
   rw[←Rat.mkRat_self p,←Rat.mkRat_self q]
   exact(Rat.mkRat_eq_iff p.den_nz q.den_nz).2 h
  unfold lO
  rw[if_neg (fun hh=>by have:=MM.1 hh;omega),if_pos e]
 ·unfold lO
  rw[if_neg (fun hh=>by have:=MM.1 hh;omega),if_neg (fun hh=>by subst hh;omega)]
theorem MT{p q:Rat}(hp:Sm p)(hq:Sm q):cU (aN p,aU p,aY p,aN q,aU q,aY q,())=some (lO p q,()):=by
 have p0:=p.den_nz
 have q0:=q.den_nz
 unfold cU
 simp only[AE hp.fit,AE hq.fit,aZ,aS,aG,bO]
 have pd:(0:Int)<p.den:=by omega
 have qd:(0:Int)<q.den:=by omega
 have key:∀s:Int,(s<0→s*q.den<0)∧(0<s→0<s*q.den):=fun s=>⟨fun h=>Int.mul_neg_of_neg_of_pos h qd,fun h=>Int.mul_pos h qd⟩
 have key':∀s:Int,(s<0→s*p.den<0)∧(0<s→0<s*p.den):=fun s=>⟨fun h=>Int.mul_neg_of_neg_of_pos h pd,fun h=>Int.mul_pos h pd⟩
 obtain⟨c1,c2,c3⟩:=Ah (p:=p) (q:=q)
 have zp:p=0→p.num*q.den=0:=fun h=>by subst h;simp
 have zq:q=0→q.num*p.den=0:=fun h=>by subst h;simp
 by_cases hs:jM p=jM q
 ·rw[decide_eq_true hs]
  simp only[Bool.not_true,cond_false,A2 hp.s1,A2 hq.s1,aZ]
  obtain⟨m1,f1,g1⟩:=VF p.den
  obtain⟨m2,f2,g2⟩:=VF q.den
  have eqd:aK (aY p,aY q,())=some (decide (p.den=q.den),()):=by
   have l1:(aV m1).length<LM:=by rcases g1 with rfl | rfl;exact hp.fit.2;rw[eE];decide
   unfold aY
   rw[f1,f2]
   have:=SN (a:=aV m1) (b:=aV m2) l1
   unfold lm
   rw[this]
   congr 2
   rw[decide_eq_decide]
   constructor
   ·intro h;exact Ht p0 q0 (by rw[f1,f2,GL h])
   ·intro h;rw[h] at f1;exact congrArg aV (MK (f1.symm.trans f2))
  have natc:kI (aU p,aU q,())=some (jK p.num.natAbs q.num.natAbs,()):=Tl hp.fit.1 hq.fit.1
  have sizes:∀(x y:Int) (a b:Nat),x=sg (aN p) a→y=sg (aN p) b→p.num*q.den=x→q.num*p.den=y→some ((bif aN p then 0-jK a b else jK a b),())=some (lO p q,()):=fun x y a b hx hy e1 e2=>by
   rw[e1,e2] at c1 c2 c3
   congr 2
   unfold jK
   cases hn:aN p with
   | true=>
    rw[hn] at hx hy
    simp only[sg,if_true] at hx hy
    simp only[cond_true]
    by_cases h1:a<b
    ·rw[if_pos h1,c3 (by omega)];rfl
    ·rw[if_neg h1]
     by_cases h2:a=b
     ·rw[if_pos h2,c2 (by omega)];rfl
     ·rw[if_neg h2,c1 (by omega)];rfl
   | false=>
    rw[hn] at hx hy
    simp only[sg,Bool.false_eq_true,if_false] at hx hy
    simp only[cond_false]
    by_cases h1:a<b
    ·rw[if_pos h1,c1 (by omega)]
    ·rw[if_neg h1]
     by_cases h2:a=b
     ·rw[if_pos h2,c2 (by omega)]
     ·rw[if_neg h2,c3 (by omega)]
  have hneg:aN p=aN q:=by
   unfold aN
   rcases jL p with⟨a1,a2⟩ | ⟨a1,a2⟩ | ⟨a1,a2⟩ <;> rcases jL q with⟨b1,b2⟩ | ⟨b1,b2⟩ | ⟨b1,b2⟩ <;> first
    | (rw[a1,b1] at hs;cases hs;done)
    | (subst a2;subst b2;rfl)
    | (rw[decide_eq_true a2,decide_eq_true b2])
    | (rw[decide_eq_false (by omega),decide_eq_false (by omega)])
  have wc:∀a b:Nat,wr .i64 (0-jK a b)=0-jK a b:=fun a b=>by
   have:jK a b=-1∨jK a b=0∨jK a b=1:=by
    unfold jK
    by_cases h1:a<b
    ·rw[if_pos h1];exact .inl rfl
    ·rw[if_neg h1]
     by_cases h2:a=b
     ·rw[if_pos h2];exact .inr (.inl rfl)
     ·rw[if_neg h2];exact .inr (.inr rfl)
   exact dC (by omega) (by omega)
  rw[eqd]
  simp only[aZ]
  have hpn:=mJ p
  have hqn:=mJ q
  by_cases hd:p.den=q.den
  ·rw[decide_eq_true hd]
   simp only[cond_true,natc,aZ,aO,wc]
   have pos:∀s:Bool,sg s p.num.natAbs*(q.den:Int)=sg s (p.num.natAbs*q.den):=fun s=>j9 s _ _
   have hcm:jK p.num.natAbs q.num.natAbs=jK (p.num.natAbs*q.den) (q.num.natAbs*p.den):=by
    rw[hd]
    unfold jK
    have i1:p.num.natAbs*q.den<q.num.natAbs*q.den↔p.num.natAbs<q.num.natAbs:=Nat.mul_lt_mul_right (Nat.pos_of_ne_zero q0)
    have i2:p.num.natAbs*q.den=q.num.natAbs*q.den↔p.num.natAbs=q.num.natAbs:=Nat.mul_left_inj q0
    simp only[i1,i2]
   rw[hcm]
   have fin:=sizes _ _ (p.num.natAbs*q.den) (q.num.natAbs*p.den) rfl rfl (by rw[←j9,hpn]) (by rw[←j9,hneg,hqn])
   cases hn:aN p <;> rw[hn] at fin <;> exact fin
  ·rw[decide_eq_false hd]
   have bp:=hp.1;have bq:=hq.1;have bpd:=hp.2;have bqd:=hq.2
   have m1:p.num.natAbs*q.den<2147483648*2147483648:=Nat.mul_lt_mul'' bp bqd
   have m2:q.num.natAbs*p.den<2147483648*2147483648:=Nat.mul_lt_mul'' bq bpd
   simp only[cond_false,cond_true,aZ,dX]
   rw[show ((p.num.natAbs:Nat):Int)*(q.den:Int)=((p.num.natAbs*q.den:Nat):Int) from(Int.natCast_mul _ _).symm,show ((q.num.natAbs:Nat):Int)*(p.den:Int)=((q.num.natAbs*p.den:Nat):Int) from(Int.natCast_mul _ _).symm,
    dZ (by simp only[dW];omega),dZ (by simp only[dW];omega)]
   have fin:=sizes _ _ (p.num.natAbs*q.den) (q.num.natAbs*p.den) rfl rfl (by rw[←j9,hpn]) (by rw[←j9,hneg,hqn])
   generalize p.num.natAbs*q.den=a at *
   generalize q.num.natAbs*p.den=b at *
   by_cases h1:a<b
   ·rw[decide_eq_true (by omega)]
    have hc:jK a b=-1:=by unfold jK;rw[if_pos h1]
    rw[hc] at fin
    simp only[cond_true,aZ,aO]
    rw[dC (n:=0 - -1) (by omega) (by omega)]
    cases hn:aN p <;> rw[hn] at fin <;> exact fin
   ·rw[decide_eq_false (by omega)]
    by_cases h2:b<a
    ·rw[decide_eq_true (by omega)]
     have hc:jK a b=1:=by unfold jK;rw[if_neg h1,if_neg (by omega)]
     rw[hc] at fin
     simp only[cond_false,cond_true,aZ,aO]
     rw[dC (n:=0-1) (by omega) (by omega)]
     cases hn:aN p <;> rw[hn] at fin <;> exact fin
    ·rw[decide_eq_false (by omega)]
     have hc:jK a b=0:=A1.2 (by omega)
     rw[hc] at fin
     simp only[cond_false,aZ,aO]
     rw[dC (n:=0-0) (by omega) (by omega)]
     cases hn:aN p <;> rw[hn] at fin <;> exact fin
 ·rw[decide_eq_false hs]
  simp only[Bool.not_false,cond_true]
  rcases jL p with⟨a1,a2⟩ | ⟨a1,a2⟩ | ⟨a1,a2⟩ <;> rcases jL q with⟨b1,b2⟩ | ⟨b1,b2⟩ | ⟨b1,b2⟩ <;> rw[a1,b1]
  ·exact absurd (a1.trans b1.symm) hs
  ·have:=(key' _).1 b2
   rw[c3 (by rw[zp a2];exact this)];rfl
  ·have:=(key' _).2 b2
   rw[c1 (by rw[zp a2];exact this)];rfl
  ·have:=(key _).1 a2
   rw[c1 (by rw[zq b2];exact this)];rfl
  ·exact absurd (a1.trans b1.symm) hs
  ·have h1:=(key _).1 a2
   have h2:=(key' _).2 b2
   rw[c1 (by omega)];rfl
  ·have:=(key _).2 a2
   rw[c3 (by rw[zq b2];exact this)];rfl
  ·have h1:=(key _).2 a2
   have h2:=(key' _).1 b2
   rw[c3 (by omega)];rfl
  ·exact absurd (a1.trans b1.symm) hs
theorem Mc(a b:Nat):LI (a:Int) (b:Int) 0=some (((a+b)%dW:Nat):Int):=by
 unfold LI
 rw[if_pos ⟨by omega,by omega,by omega,by omega⟩]
 congr 1
theorem Md{a b:Nat}(h:a+b<dW):LJ (a:Int) (b:Int) 0=0:=by
 unfold LJ
 simp only[dW] at h
 omega
theorem Oj{p q:Rat}(hp:Sm p)(hq:Sm q)(neg:Bool):jE (aN p,aU p,aY p,aN q,aU q,aY q,neg,()) =
 (let r:=mkRat (sg (aN p) (p.num.natAbs*q.den)+sg neg (q.num.natAbs*p.den)) (p.den*q.den);some (aN r,aU r,aY r,())):=by
 have p0:=p.den_nz
 have q0:=q.den_nz
 have bp:=hp.1;have bq:=hq.1;have bpd:=hp.2;have bqd:=hq.2
 have m1:p.num.natAbs*q.den<2147483648*2147483648:=Nat.mul_lt_mul'' bp bqd
 have m2:q.num.natAbs*p.den<2147483648*2147483648:=Nat.mul_lt_mul'' bq bpd
 have m3:p.den*q.den<2147483648*2147483648:=Nat.mul_lt_mul'' bpd bqd
 have d0:p.den*q.den≠0:=Nat.mul_ne_zero p0 q0
 unfold jE
 simp only[A2 hp.s1,A2 hq.s1,aZ,cond_true,dX,bO,mI,aS,wH]
 rw[show ((p.num.natAbs:Nat):Int)*(q.den:Int)=((p.num.natAbs*q.den:Nat):Int) from(Int.natCast_mul _ _).symm,show ((q.num.natAbs:Nat):Int)*(p.den:Int)=((q.num.natAbs*p.den:Nat):Int) from(Int.natCast_mul _ _).symm,
  show ((p.den:Nat):Int)*(q.den:Int)=((p.den*q.den:Nat):Int) from(Int.natCast_mul _ _).symm,dZ (n:=p.num.natAbs*q.den) (by simp only[dW];omega),dZ (n:=q.num.natAbs*p.den) (by simp only[dW];omega),dZ (n:=p.den*q.den) (by simp only[dW];omega)]
 generalize p.num.natAbs*q.den=a at *
 generalize q.num.natAbs*p.den=b at *
 generalize p.den*q.den=d at *
 rw[Mc,Md (by simp only[dW];omega),Nat.mod_eq_of_lt (by simp only[dW];omega)]
 simp only[aZ]
 by_cases hn:aN p=neg
 ·rw[hn]
  simp only[beq_self_eq_true,cond_true,decide_true]
  rw[JL neg (by simp only[dW];omega) (by simp only[dW];omega) d0]
  simp only[aZ,aO,Hu]
 ·have hb:(aN p==neg)=false:=by simpa using hn
  simp only[hb,cond_false,Bool.not_false,cond_true]
  by_cases hle:b≤a
  ·rw[decide_eq_true (by omega),show (a:Int)-(b:Int)=((a-b:Nat):Int) by omega,dZ (n:=a-b) (by simp only[dW];omega),JL (aN p) (by simp only[dW];omega) (by simp only[dW];omega) d0]
   simp only[cond_true,aZ,aO,X2 hn hle]
  ·rw[decide_eq_false (by omega),show (b:Int)-(a:Int)=((b-a:Nat):Int) by omega,dZ (n:=b-a) (by simp only[dW];omega),JL neg (by simp only[dW];omega) (by simp only[dW];omega) d0]
   simp only[cond_false,aZ,aO]
   rw[Int.add_comm,X2 (Ne.symm hn) (by omega)]
theorem Ok{p q:Rat}(hp:Sm p)(hq:Sm q):gP (aN p,aU p,aY p,aN q,aU q,aY q,())=some (aN (p+q),aU (p+q),aY (p+q),()):=by
 unfold gP
 simp only[Oj hp hq,aZ]
 rw[←j9,←j9,mJ,mJ,←SF]
theorem Ai{l:List T}(h:l.length<1000000000):bQ (l,())=some (l,()):=by
 have hr:room [] l 4=some l:=by rw[qD (by simp only[List.length_nil];omega) (by decide)];rfl
 unfold bQ
 simp only[hr,aZ]
 unfold Cj
 cases l with
 | nil=>exact T3 rfl rfl
 | cons a l=>rfl
theorem Me{q:Rat}(h:Ib q):(aU q).length<1000000000:=by
 have:=h.1
 unfold aU
 rw[AD]
 simp only[LM] at this;omega
theorem Mf{q:Rat}(h:Ib q):(aY q).length<1000000000:=by
 obtain⟨m,e,c⟩:=VF q.den
 unfold aY
 rw[e,AD]
 rcases c with rfl | rfl
 ·have:=h.2;simp only[LM] at this;omega
 ·rw[eE];decide
end Go.Eng.Rt
namespace Go.Eng.Rt
open Go.Eng
def iZ(l:List Nat)(i:Nat):Nat:=l.getD i 0
theorem GM{l:List Nat}(h:Lim l)(i:Nat):iZ l i<BB:=by
 unfold iZ
 rw[List.getD_eq_getElem?_getD]
 cases hg:l[i]? with
 | none=>decide
 | some x=>exact h.get hg
theorem oX{l:List Nat}{i:Nat}(h:i<l.length):l[i]?=some (iZ l i):=by
 unfold iZ;rw[List.getD_eq_getElem?_getD,List.getElem?_eq_getElem h];rfl
theorem uE{l:List Nat}{i:Nat}(h:l.length≤i):iZ l i=0:=by
 unfold iZ;rw[List.getD_eq_getElem?_getD,List.getElem?_eq_none h];rfl
theorem A3(l:List Nat)(i:Nat):val (l.take (i+1))=val (l.take i)+BB ^ i*iZ l i:=by
 by_cases h:i<l.length
 ·exact uY (oX h)
 ·rw[uE (by omega),List.take_of_length_le (by omega),List.take_of_length_le (by omega)];simp
theorem MU{a b:List Nat}(ha:Lim a)(hb:Lim b)(hla:a.length<LM)(hlb:b.length<LM){o:List Nat}{c i:Nat}(hc:c<BB)(hi:i<LM)(ho:o.length=i):
 lG (cV a,cV b,cV o,(c:Int),(i:Int),())=if i<a.length∨i<b.length∨c≠0 then
  some (.inl (cV a,cV b,cV (o++[(c+iZ a i+iZ b i)%BB]),(((c+iZ a i+iZ b i)/BB:Nat):Int),((i+1:Nat):Int),())) else some (.inr (.inl (cV o,()))):=by
 have xa:=GM ha i
 have xb:=GM hb i
 have hroom:∀n:Nat,room (cV o) [T.v (.int .u32 ((n%BB:Nat):Int))] 4=some (cV (o++[n%BB])):=fun n=>by
  rw[qD (by rw[dJ,ho];simp only[List.length_cons,List.length_nil,LM] at *;omega) (by decide)]
  rw[←X5];rfl
 have wi:wr .i64 ((i:Int)+1)=((i+1:Nat):Int):=by rw[show (i:Int)+1=((i+1:Nat):Int) by omega,X4 (by simp only[LM] at *;omega)]
 have w1:wr .u64 ((iZ a i:Nat):Int)=((iZ a i:Nat):Int):=dZ (by simp only[BB,dW] at *;omega)
 have w2:wr .u64 ((iZ b i:Nat):Int)=((iZ b i:Nat):Int):=dZ (by simp only[BB,dW] at *;omega)
 have w3:wr .u64 ((c:Int)+((iZ a i:Nat):Int))=((c+iZ a i:Nat):Int):=by rw[show (c:Int)+((iZ a i:Nat):Int)=((c+iZ a i:Nat):Int) by omega,dZ (by simp only[BB,dW] at *;omega)]
 have w4:wr .u64 (((c+iZ a i:Nat):Int)+((iZ b i:Nat):Int))=((c+iZ a i+iZ b i:Nat):Int):=by rw[show ((c+iZ a i:Nat):Int)+((iZ b i:Nat):Int)=((c+iZ a i+iZ b i:Nat):Int) by omega,dZ (by simp only[BB,dW] at *;omega)]
 have w5:wr .u64 ((c:Int)+((iZ b i:Nat):Int))=((c+iZ b i:Nat):Int):=by rw[show (c:Int)+((iZ b i:Nat):Int)=((c+iZ b i:Nat):Int) by omega,dZ (by simp only[BB,dW] at *;omega)]
 unfold lG
 simp only[aG,aL,dJ,aQ,aS]
 by_cases h1:i<a.length <;> by_cases h2:i<b.length
 ·rw[decide_eq_true (show (i:Int)<(a.length:Int) by omega),if_pos (.inl h1)]
  simp only[cond_true,bZ,fQ,oX h1,oX h2,Option.map_some,aZ,cW,kG,aO,w1,w2,w3,w4,dJ]
  rw[decide_eq_true (show (i:Int)<(b.length:Int) by omega)]
  simp only[cond_true,bZ,fQ,oX h1,oX h2,Option.map_some,aZ,cW,kG,aO,w1,w2,w3,w4,SG,H4,hroom,MN,wi]
 ·rw[decide_eq_true (show (i:Int)<(a.length:Int) by omega),if_pos (.inl h1)]
  simp only[cond_true,bZ,fQ,oX h1,Option.map_some,aZ,cW,kG,aO,w1,w3,dJ]
  rw[decide_eq_false (show ¬(i:Int)<(b.length:Int) by omega)]
  simp only[cond_false,aZ,aO,SG,H4,hroom,MN,wi,uE (show b.length≤i by omega),Nat.add_zero]
 ·rw[decide_eq_false (show ¬(i:Int)<(a.length:Int) by omega),decide_eq_true (show (i:Int)<(b.length:Int) by omega),if_pos (.inr (.inl h2))]
  simp only[cond_false,cond_true,aZ,aO,dJ]
  rw[decide_eq_true (show (i:Int)<(b.length:Int) by omega)]
  simp only[cond_true,bZ,fQ,oX h2,Option.map_some,aZ,cW,kG,aO,w2,w5,SG,H4,hroom,MN,wi,uE (show a.length≤i by omega),Nat.add_zero]
 ·rw[decide_eq_false (show ¬(i:Int)<(a.length:Int) by omega),decide_eq_false (show ¬(i:Int)<(b.length:Int) by omega)]
  by_cases h3:c=0
  ·subst h3
   rw[decide_eq_true (by omega),if_neg (by omega)]
   rfl
  ·rw[decide_eq_false (by omega),if_pos (.inr (.inr h3))]
   simp only[cond_false,cond_true,Bool.not_false,aZ,aO,dJ]
   rw[decide_eq_false (show ¬(i:Int)<(b.length:Int) by omega)]
   simp only[cond_false,aZ,aO,SG,H4,hroom,MN,wi,uE (show a.length≤i by omega),uE (show b.length≤i by omega),Nat.add_zero]
def Vy(l:List Nat):Prop:=∀x,l.getLast?=some x→x≠0
theorem PX(n:Nat):Vy (aV n):=fun x hx=>by
 by_cases h:n=0
 ·subst h;rw[eE] at hx;cases hx
 ·obtain⟨y,h1,h2,_⟩:=MS h
  rw[List.getLast?_eq_getElem?] at hx
  rw[hx] at h1
  cases h1
  exact h2
theorem PY{l:List Nat}(h:Lim l)(ht:Vy l):aV (val l)=l:=by
 rw[GK h]
 by_cases hne:l=[]
 ·subst hne;rfl
 ·obtain⟨m,a,rfl⟩:∃m a,l=m++[a]:=⟨l.dropLast,l.getLast hne,(List.dropLast_concat_getLast hne).symm⟩
  exact C5 (ht a (by simp))
theorem Ol{x y:Nat}(hx:(aV x).length<100000)(hy:(aV y).length<100000):qT (lm x,lm y,())=some (lm (x+y),()):=by
 have ha:=eU x
 have hb:=eU y
 have ta:=PX x
 have tb:=PX y
 have va:=dV x
 have vb:=dV y
 unfold lm
 generalize aV x=a at *
 generalize aV y=b at *
 let N:=max a.length b.length
 have key:∀i,i≤N→∃(o:List Nat) (c:Nat),aM lG (cV a,cV b,cV [],(0:Int),(0:Int),())=aM lG (cV a,cV b,cV o,(c:Int),(i:Int),()) ∧
  o.length=i∧Lim o∧c<2∧val o+BB ^ i*c=val (a.take i)+val (b.take i)∧(∀x,o.getLast?=some x→i=N→c=0→x≠0):=by
  intro i
  induction i with
  | zero=>intro _;exact⟨[],0,rfl,rfl,Lim.nil,by decide,by simp[val],fun x hx=>by cases hx⟩
  | succ i ih=>
   intro hi
   obtain⟨o,c,h1,h2,h3,h4,h5,_⟩:=ih (by omega)
   have hs:=MU ha hb (by simp only[LM];omega) (by simp only[LM];omega) (o:=o) (c:=c) (i:=i) (by simp only[BB];omega) (by simp only[LM];omega) h2
   rw[if_pos (by omega)] at hs
   have xa:=GM ha i
   have xb:=GM hb i
   have hm:=Nat.mod_add_div (c+iZ a i+iZ b i) BB
   refine⟨_,_,h1.trans (eX hs),by rw[List.length_append,h2];rfl,h3.append (Lim.cons (Nat.mod_lt _ (by decide)) Lim.nil),?_,?_,?_⟩
   ·simp only[BB] at *;omega
   ·rw[tD,h2,A3,A3]
    simp only[val,Nat.mul_zero,Nat.add_zero]
    generalize (c+iZ a i+iZ b i)%BB=r at *
    generalize (c+iZ a i+iZ b i)/BB=q at *
    have e1:BB ^ (i+1)*q=BB ^ i*(BB*q):=by rw[Nat.pow_succ,Nat.mul_assoc]
    have e2:BB ^ i*(r+BB*q)=BB ^ i*(c+iZ a i+iZ b i):=by rw[hm]
    rw[e1]
    rw[Nat.mul_add,Nat.mul_add,Nat.mul_add] at e2
    omega
   ·intro z hz hN hq
    simp at hz
    have hsum:c+iZ a i+iZ b i<BB:=by
     rcases Nat.lt_or_ge (c+iZ a i+iZ b i) BB with h | h
     ·exact h
     ·have:=Nat.div_pos h (show 0<BB by decide);omega
    rw[Nat.mod_eq_of_lt hsum] at hz
    have hlast:iZ a i≠0∨iZ b i≠0:=by
     have:a.length=i+1∨b.length=i+1:=by omega
     rcases this with hl | hl
     ·left
      exact ta _ (by rw[List.getLast?_eq_getElem?,hl,Nat.add_sub_cancel,oX (by omega)])
     ·right
      exact tb _ (by rw[List.getLast?_eq_getElem?,hl,Nat.add_sub_cancel,oX (by omega)])
    omega
 obtain⟨o,c,h1,h2,h3,h4,h5,h6⟩:=key N (Nat.le_refl _)
 have hN1:a.length≤N:=Nat.le_max_left _ _
 have hN2:b.length≤N:=Nat.le_max_right _ _
 have hNl:N<100000:=by omega
 rw[List.take_of_length_le hN1,List.take_of_length_le hN2,va,vb] at h5
 have hs:=MU ha hb (by simp only[LM];omega) (by simp only[LM];omega) (o:=o) (c:=c) (i:=N) (by simp only[BB];omega) (by simp only[LM];omega) h2
 unfold qT
 rw[show ([]:List T)=cV [] from rfl,h1]
 by_cases hc:c=0
 ·subst hc
  rw[if_neg (by omega)] at hs
  rw[aW hs]
  simp only[aZ,aO]
  rw[←PY h3 (fun z hz=>h6 z hz rfl rfl)]
  rw[show val o=x+y by simpa using h5]
 ·rw[if_pos (by omega),uE hN1,uE hN2] at hs
  have c1:c=1:=by omega
  subst c1
  rw[eX hs]
  have hs2:=MU ha hb (by simp only[LM];omega) (by simp only[LM];omega) (o:=o++[(1+0+0)%BB]) (c:=0) (i:=N+1) (by decide) (by simp only[LM];omega) (by rw[List.length_append,h2];rfl)
  rw[if_neg (by omega)] at hs2
  have e0:((1+0+0)/BB:Nat)=0:=by decide
  rw[e0,aW hs2]
  simp only[aZ,aO]
  have e1:(1+0+0)%BB=1:=by decide
  rw[e1]
  have hl:Lim (o++[1]):=h3.append (Lim.cons (by decide) Lim.nil)
  rw[←PY hl (fun z hz=>by simp at hz;omega)]
  have hv:val (o++[1])=x+y:=by
   rw[tD,h2]
   simp only[val,Nat.mul_zero,Nat.add_zero]
   exact h5
  rw[hv]
theorem YB{a b:List Nat}(ha:Lim a)(hb:Lim b)(hla:a.length<LM)(hlb:b.length<LM){o:List Nat}{c i:Nat}(hc:c≤1)(hi:i<a.length)(ho:o.length=a.length)(hz:o[i]?=some 0):
 ∃c' d,c'≤1∧d<BB∧d+(c+iZ b i)=iZ a i+BB*c' ∧
  eR (cV a,cV b,cV o,(c:Int),(i:Int),())=some (.inl (cV a,cV b,cV (o.set i d),(c':Int),((i+1:Nat):Int),())):=by
 have xa:=GM ha i
 have xb:=GM hb i
 have wi:wr .i64 ((i:Int)+1)=((i+1:Nat):Int):=by rw[show (i:Int)+1=((i+1:Nat):Int) by omega,X4 (by simp only[LM] at *;omega)]
 have w1:wr .u64 ((iZ a i:Nat):Int)=((iZ a i:Nat):Int):=dZ (by simp only[BB,dW] at *;omega)
 have w2:wr .u64 ((iZ b i:Nat):Int)=((iZ b i:Nat):Int):=dZ (by simp only[BB,dW] at *;omega)
 have w3:wr .u64 ((c:Int)+((iZ b i:Nat):Int))=((c+iZ b i:Nat):Int):=by rw[show (c:Int)+((iZ b i:Nat):Int)=((c+iZ b i:Nat):Int) by omega,dZ (by simp only[BB,dW] at *;omega)]
 have w4:wr .u64 (((iZ a i:Nat):Int)+4294967296)=((iZ a i+BB:Nat):Int):=by rw[show ((iZ a i:Nat):Int)+4294967296=((iZ a i+BB:Nat):Int) by simp only[BB];omega,dZ (by simp only[BB,dW] at *;omega)]
 have first:∀(R:Type) (k:(List T×List T×List T×Int×Int×Unit)→Option R),(ob (α:=((List T×List T×List T×Int×Int×Unit)⊕Empty)) (bif decide ((i:Int)<(b.length:Int)) then (ob ((b[i]?).map eL) fun x2=>(ob (T.anyInt? (T.cell x2 0)) fun x3=>(some (Sum.inl (cV a,cV b,cV o,(i:Int),(wr .u64 ((c:Int)+(wr .u64 x3))),()))))) else (some (Sum.inl (cV a,cV b,cV o,(i:Int),(c:Int),()))))
  fun q4=>cQ q4 k fun q13=>dK q13)=k (cV a,cV b,cV o,(i:Int),((c+iZ b i:Nat):Int),()):=fun R k=>by
  by_cases h2:i<b.length
  ·rw[decide_eq_true (by omega)]
   simp only[cond_true,oX h2,Option.map_some,aZ,cW,kG,w2,w3,aO]
  ·rw[decide_eq_false (by omega),uE (show b.length≤i by omega)]
   rfl
 have e:eR (cV a,cV b,cV o,(c:Int),(i:Int),())=if iZ a i<c+iZ b i then some (.inl (cV a,cV b,cV (o.set i (iZ a i+BB-(c+iZ b i))),(1:Int),((i+1:Nat):Int),()))
  else some (.inl (cV a,cV b,cV (o.set i (iZ a i-(c+iZ b i))),(0:Int),((i+1:Nat):Int),())):=by
  unfold eR
  simp only[aG,aL,dJ,aQ,bO]
  rw[decide_eq_true (show (i:Int)<(a.length:Int) by omega)]
  simp only[cond_true,bZ,fQ]
  rw[first]
  simp only[bZ,fQ,oX hi,Option.map_some,aZ,cW,kG,w1]
  by_cases h3:iZ a i<c+iZ b i
  ·rw[if_pos h3,decide_eq_true (by omega)]
   simp only[cond_true,aZ,aO,w4,dJ]
   rw[sP (by omega),show ((iZ a i+BB:Nat):Int)-((c+iZ b i:Nat):Int)=((iZ a i+BB-(c+iZ b i):Nat):Int) by simp only[BB] at *;omega,dZ (by simp only[BB,dW] at *;omega),Hv (by simp only[BB] at *;omega)]
   simp only[aZ,qC,fQ,hz,Option.map_some,wi]
   rw[E4 _ _ ⟨0,rfl⟩,JK]
  ·rw[if_neg h3,decide_eq_false (by omega)]
   simp only[cond_false,aZ,aO,dJ]
   rw[sP (by omega),show ((iZ a i:Nat):Int)-((c+iZ b i:Nat):Int)=((iZ a i-(c+iZ b i):Nat):Int) by omega,dZ (by simp only[BB,dW] at *;omega),Hv (by simp only[BB] at *;omega)]
   simp only[aZ,qC,fQ,hz,Option.map_some,wi]
   rw[E4 _ _ ⟨0,rfl⟩,JK]
 by_cases h3:iZ a i<c+iZ b i
 ·rw[if_pos h3] at e
  exact⟨1,iZ a i+BB-(c+iZ b i),by omega,by simp only[BB] at *;omega,by simp only[BB] at *;omega,e⟩
 ·rw[if_neg h3] at e
  exact⟨0,iZ a i-(c+iZ b i),by omega,by simp only[BB] at *;omega,by omega,e⟩
theorem Mg{x y:Nat}(hx:(aV x).length<LM)(hxy:y≤x):kH (lm x,lm y,())=some (lm (x-y),()):=by
 have ha:=eU x
 have hb:=eU y
 have va:=dV x
 have vb:=dV y
 have hll:(aV y).length≤(aV x).length:=kK.2 (Nat.lt_of_le_of_lt hxy (kK.1 (Nat.le_refl _)))
 unfold lm
 have fin:∀d,cV (aV d)=lm d:=fun _=>rfl
 rw[fin (x-y)]
 generalize aV x=a at *
 generalize aV y=b at *
 have key:∀i,i≤a.length→∃(o:List Nat) (c:Nat),aM eR (cV a,cV b,cV (List.replicate a.length 0),(0:Int),(0:Int),())=aM eR (cV a,cV b,cV o,(c:Int),(i:Int),()) ∧
  o.length=a.length∧Lim o∧c≤1∧val o+val (b.take i)=val (a.take i)+BB ^ i*c∧∀m,i≤m→m<a.length→o[m]?=some 0:=by
  intro i
  induction i with
  | zero=>
   intro _
   refine⟨_,0,rfl,by simp,Lim.rep _,by decide,by simp[val,Ad],fun m _ hm=>?_⟩
   rw[List.getElem?_replicate,if_pos hm]
  | succ i ih=>
   intro hi
   obtain⟨o,c,h1,h2,h3,h4,h5,h6⟩:=ih (by omega)
   have hz:=h6 i (Nat.le_refl _) hi
   obtain⟨c',d,g1,g2,g3,g4⟩:=YB ha hb hx (by omega) h4 hi h2 hz
   refine⟨_,c',h1.trans (eX g4),by rw[List.length_set,h2],h3.set g2 _,g1,?_,fun m hm hlt=>?_⟩
   ·have hv:=SH (x:=d) hz
    rw[A3,A3]
    have e1:BB ^ (i+1)*c'=BB ^ i*(BB*c'):=by rw[Nat.pow_succ,Nat.mul_assoc]
    have e2:BB ^ i*(d+(c+iZ b i))=BB ^ i*(iZ a i+BB*c'):=by rw[g3]
    rw[e1]
    rw[Nat.mul_add,Nat.mul_add,Nat.mul_add] at e2
    omega
   ·rw[List.getElem?_set_ne (by omega)]
    exact h6 m (by omega) hlt
 obtain⟨o,c,h1,h2,h3,h4,h5,_⟩:=key a.length (Nat.le_refl _)
 rw[List.take_length,List.take_of_length_le hll,va,vb] at h5
 have hvo:=XX h3
 rw[h2] at hvo
 have hval:val o=x-y:=by
  have:c=0∨c=1:=by omega
  rcases this with rfl | rfl
  ·simp at h5;omega
  ·simp at h5;omega
 unfold kH
 simp only[aL,dJ]
 rw[T6 (by omega) (by omega) (by simp only[LM] at hx;omega) (by decide)]
 simp only[aZ,Int.toNat_natCast,Q2,Ac]
 rw[h1,aW (e:=.inl (cV o,())) (by
  unfold eR
  simp only[aG,aL,dJ]
  rw[decide_eq_false (by omega)];rfl)]
 simp only[aZ,aO]
 rw[SJ h3 (by omega),hval]
 rfl
theorem Aj{x y:Nat}(hx:(aV x).length<LM)(hxy:y≤x):nP (lm x,lm y,())=some (lm (x-y),0,()):=by
 have hll:(aV y).length≤(aV x).length:=kK.2 (Nat.lt_of_le_of_lt hxy (kK.1 (Nat.le_refl _)))
 unfold nP
 rw[MQ hx (by omega)]
 simp only[aZ,aG]
 rw[decide_eq_false (by unfold jK;rw[if_neg (by omega)];split <;> omega)]
 simp only[cond_false,Mg hx hxy,aZ]
theorem PZ(q:Rat):bN (aN q,aU q,aY q,())=some (lm q.den,()):=by
 unfold bN aY dn
 simp only[aL,aS]
 by_cases h:q.den=1
 ·rw[if_pos h,h,pX (by decide) (by decide)]
  rfl
 ·rw[if_neg h,decide_eq_false (fun hh=>q.den_nz (uD.1 (by omega)))]
  rfl
theorem nW{n:Nat}(h:n<dW):(aV n).length≤2:=kK.2 h
theorem m8{x y:Nat}(hx:x<dW)(hy:y<dW):a9 (lm x,lm y,())=some (lm (x*y),()):=
 Tf (by have h1:=nW hx;have h2:=nW hy;simp only[LM];omega)
theorem VI{q:Rat}(h:Sm q):q.num.natAbs<dW∧q.den<dW:=by
 obtain⟨h1,h2⟩:=h;simp only[dW];omega
theorem eF{q:Rat}:((aU q).length:Int)=0↔q=0:=by
 rw[←E9];omega
theorem MV{p q:Rat}(hp:Sm p)(hq:Sm q):bS (aN p,aU p,aY p,aN q,aU q,aY q,())=some (aN (p+q),aU (p+q),aY (p+q),()):=by
 obtain⟨p1,p2⟩:=VI hp
 obtain⟨q1,q2⟩:=VI hq
 have bp:=hp.1;have bq:=hq.1;have bpd:=hp.2;have bqd:=hq.2
 have m1:p.num.natAbs*q.den<2147483648*2147483648:=Nat.mul_lt_mul'' bp bqd
 have m2:q.num.natAbs*p.den<2147483648*2147483648:=Nat.mul_lt_mul'' bq bpd
 have m3:p.den*q.den<2147483648*2147483648:=Nat.mul_lt_mul'' bpd bqd
 have d0:p.den*q.den≠0:=Nat.mul_ne_zero p.den_nz q.den_nz
 unfold bS
 simp only[aL,aS]
 by_cases hp0:p=0
 ·rw[decide_eq_true (eF.2 hp0)]
  rw[hp0,Rat.zero_add]
  rfl
 rw[decide_eq_false (fun h=>hp0 (eF.1 h))]
 by_cases hq0:q=0
 ·rw[decide_eq_true (eF.2 hq0)]
  rw[hq0,Rat.add_zero]
  rfl
 rw[decide_eq_false (fun h=>hq0 (eF.1 h))]
 have e1:a9 (aU p,lm q.den,())=some (lm (p.num.natAbs*q.den),()):=m8 p1 q2
 have e2:a9 (aU q,lm p.den,())=some (lm (q.num.natAbs*p.den),()):=m8 q1 p2
 simp only[cond_false,PZ,aZ,e1,e2,m8 p2 q2,wH]
 have l1:=nW (n:=p.num.natAbs*q.den) (by simp only[dW];omega)
 have l2:=nW (n:=q.num.natAbs*p.den) (by simp only[dW];omega)
 by_cases hn:aN p=aN q
 ·rw[show (aN p==aN q)=true by simpa using hn]
  simp only[cond_true]
  rw[Ol (by omega) (by omega)]
  simp only[aZ]
  rw[oW _ (by simp only[dW];omega) (by simp only[dW];omega) d0]
  simp only[aZ]
  rw[hn,←VC hn]
 ·rw[show (aN p==aN q)=false by simpa using hn]
  simp only[cond_false]
  rw[MQ (by simp only[LM];omega) (by simp only[LM];omega)]
  simp only[aZ,aG]
  by_cases hlt:p.num.natAbs*q.den<q.num.natAbs*p.den
  ·rw[decide_eq_true (by unfold jK;rw[if_pos hlt];omega)]
   simp only[cond_true]
   rw[Aj (by simp only[LM];omega) (by omega)]
   simp only[aZ]
   rw[oW _ (by simp only[dW];omega) (by simp only[dW];omega) d0]
   simp only[aZ]
   have:=E3 (p:=q) (q:=p) (Ne.symm hn) (by omega)
   rw[Rat.add_comm,this,Nat.mul_comm p.den]
  ·rw[decide_eq_false (by unfold jK;rw[if_neg hlt];split <;> omega)]
   simp only[cond_false]
   rw[Aj (by simp only[LM];omega) (by omega)]
   simp only[aZ]
   rw[oW _ (by simp only[dW];omega) (by simp only[dW];omega) d0]
   simp only[aZ]
   rw[←E3 hn (by omega)]
theorem Sm.neg{q:Rat}(h:Sm q):Sm (-q):=by
 unfold Sm at *
 rw[Rat.neg_num,Int.natAbs_neg,Rat.neg_den]
 exact h
def AF(p q:Rat):Rat:=if 0<lO q p then q else p
theorem VJ{n:Int}(h1:-4611686018427387904<n)(h2:n<4611686018427387904):aC (n,())=some (aN (n:Rat),aU (n:Rat),aY (n:Rat),()):=by
 unfold aC
 simp only[X8 h1 h2,aZ]
 rfl
theorem MW{p q:Rat}(hp:Sm p)(hq:Sm q):cK (aN p,aU p,aY p,aN q,aU q,aY q,())=some (aN (p-q),aU (p-q),aY (p-q),()):=by
 unfold cK
 simp only[Oj hp hq,aZ]
 have e:sg (!aN q) (q.num.natAbs*p.den)=(-q).num*((p.den:Nat):Int):=by
  have key:∀(b:Bool) (n:Nat),sg (!b) n=-(sg b n):=fun b n=>by cases b <;> simp[sg]
  rw[←j9,Rat.neg_num,key,mJ]
 rw[e,←j9,mJ,Rat.sub_eq_add_neg,SF,Rat.neg_den]
theorem CB{p q:Rat}(hp:Sm p)(hq:Sm q):bJ (aN p,aU p,aY p,aN q,aU q,aY q,())=some (aN (p*q),aU (p*q),aY (p*q),()):=by
 have bp:=hp.1;have bq:=hq.1;have bpd:=hp.2;have bqd:=hq.2
 have m1:p.num.natAbs*q.num.natAbs<2147483648*2147483648:=Nat.mul_lt_mul'' bp bq
 have m3:p.den*q.den<2147483648*2147483648:=Nat.mul_lt_mul'' bpd bqd
 unfold bJ
 simp only[aL,aS]
 by_cases hp0:p=0
 ·rw[decide_eq_true (eF.2 hp0)]
  rw[hp0,Rat.zero_mul,sF,sG,sH]
  rfl
 rw[decide_eq_false (fun h=>hp0 (eF.1 h))]
 by_cases hq0:q=0
 ·rw[decide_eq_true (eF.2 hq0)]
  rw[hq0,Rat.mul_zero,sF,sG,sH]
  rfl
 rw[decide_eq_false (fun h=>hq0 (eF.1 h))]
 simp only[cond_false,A2 hp.s1,A2 hq.s1,aZ,cond_true,dX,wH,Ly]
 rw[show ((p.num.natAbs:Nat):Int)*((q.num.natAbs:Nat):Int)=((p.num.natAbs*q.num.natAbs:Nat):Int) from(Int.natCast_mul _ _).symm,show ((p.den:Nat):Int)*(q.den:Int)=((p.den*q.den:Nat):Int) from(Int.natCast_mul _ _).symm,
  dZ (n:=p.num.natAbs*q.num.natAbs) (by simp only[dW];omega),dZ (n:=p.den*q.den) (by simp only[dW];omega),JL _ (by simp only[dW];omega) (by simp only[dW];omega) (Nat.mul_ne_zero p.den_nz q.den_nz),←X3]
 rfl
theorem FA{q:Rat}(h:Ib q):fA (aN q,aU q,aY q,())=some (aN q,aU q,aY q,()):=by
 unfold fA
 simp only[Ai (Me h),Ai (Mf h),aZ]
theorem Tp{p q:Rat}(hp:Sm p)(hq:Sm q):lK (aN p,aU p,aY p,aN q,aU q,aY q,())=some (aN (AF p q),aU (AF p q),aY (AF p q),()):=by
 unfold lK AF
 simp only[MT hq hp,aZ,aG]
 by_cases h:0<lO q p
 ·rw[if_pos h,decide_eq_true h]
  simp only[cond_true,aZ,aO,FA hq.fit]
 ·rw[if_neg h,decide_eq_false h]
  simp only[cond_false,aZ,aO,FA hp.fit]
end Go.Eng.Rt
namespace Go.Eng.Tw
def Fr(D k:Nat)(q:Rat):Prop:=0<D∧∃m:Int,m.natAbs≤k∧q*(D:Rat)=(m:Rat)
theorem Fr.mono{D k l:Nat}{q:Rat}(h:Fr D k q)(hl:k≤l):Fr D l q:=by
 obtain⟨h0,m,h1,h2⟩:=h
 exact⟨h0,m,Nat.le_trans h1 hl,h2⟩
theorem Fr.int(n:Int):Fr 1 n.natAbs (n:Rat):=⟨by decide,n,Nat.le_refl _,by grind⟩
theorem Fr.zero{D:Nat}(h:0<D):Fr D 0 0:=⟨h,0,Nat.le_refl _,by grind⟩
theorem Fr.add{D k l:Nat}{p q:Rat}(h:Fr D k p)(h':Fr D l q):Fr D (k+l) (p+q):=by
 obtain⟨h0,m,h1,h2⟩:=h
 obtain⟨_,m',h1',h2'⟩:=h'
 exact⟨h0,m+m',by omega,by rw[Rat.add_mul,h2,h2',Rat.intCast_add]⟩
theorem Fr.neg{D k:Nat}{p:Rat}(h:Fr D k p):Fr D k (-p):=by
 obtain⟨h0,m,h1,h2⟩:=h
 exact⟨h0,-m,by omega,by rw[Rat.neg_mul,h2,Rat.intCast_neg]⟩
theorem Fr.sub{D k l:Nat}{p q:Rat}(h:Fr D k p)(h':Fr D l q):Fr D (k+l) (p-q):=by
 rw[Rat.sub_eq_add_neg];exact h.add h'.neg
theorem Fr.mul{D E k l:Nat}{p q:Rat}(h:Fr D k p)(h':Fr E l q):Fr (D*E) (k*l) (p*q):=by
 obtain⟨h0,m,h1,h2⟩:=h
 obtain⟨h0',m',h1',h2'⟩:=h'
 refine⟨Nat.mul_pos h0 h0',m*m',by rw[Int.natAbs_mul];exact Nat.mul_le_mul h1 h1',?_⟩
 rw[Rat.natCast_mul,Rat.intCast_mul,←h2,←h2']
 grind
theorem Fr.up{D k:Nat}{p:Rat}(E:Nat)(hE:0<E)(h:Fr D k p):Fr (D*E) (k*E) p:=by
 have:=h.mul (Fr.int (E:Int):Fr 1 _ _)
 obtain⟨h0,m,h1,h2⟩:=h
 refine⟨Nat.mul_pos h0 hE,m*E,by rw[Int.natAbs_mul,Int.natAbs_natCast];exact Nat.mul_le_mul_right _ h1,?_⟩
 rw[Rat.natCast_mul,Rat.intCast_mul,←h2,Rat.intCast_natCast]
 grind
theorem Tq{D:Nat}{q:Rat}{m:Int}(h0:0<D)(h:q*(D:Rat)=(m:Rat)):q=mkRat m D:=by
 have hD:(D:Rat)≠0:=by
  intro e
  have:((D:Int):Rat)=((0:Int):Rat):=by rw[Rat.intCast_natCast];exact e
  have:=Rat.intCast_inj.1 this
  omega
 have h2:mkRat m D*(D:Rat)=(m:Rat):=by
  rw[Rat.mkRat_eq_div,Rat.div_mul_cancel hD]
 grind
theorem Mh{n:Int}{d:Nat}(hd:d≠0):(mkRat n d).num.natAbs≤n.natAbs∧(mkRat n d).den≤d:=by
 rw[Rat.mkRat_def,dif_neg hd,Rat.normalize_eq]
 refine⟨?_,Nat.div_le_self _ _⟩
 show (n/((n.natAbs.gcd d:Nat):Int)).natAbs≤_
 have h1:((n.natAbs.gcd d:Nat):Int) ∣ n:=Int.dvd_trans (Int.natCast_dvd_natCast.2 (Nat.gcd_dvd_left n.natAbs d)) (Int.natAbs_dvd.2 (Int.dvd_refl n))
 obtain⟨c,hc⟩:=h1
 have hg:0<n.natAbs.gcd d:=Nat.gcd_pos_of_pos_right _ (Nat.pos_of_ne_zero hd)
 have h2:n/((n.natAbs.gcd d:Nat):Int)=c:=by
  have e:=Int.mul_ediv_cancel_left c (show ((n.natAbs.gcd d:Nat):Int)≠0 by omega)
  rw[←hc] at e
  exact e
 rw[h2]
 have h3:n.natAbs=n.natAbs.gcd d*c.natAbs:=by
  have:=congrArg Int.natAbs hc
  rw[Int.natAbs_mul,Int.natAbs_natCast] at this
  exact this
 have h4:=Nat.mul_le_mul_right c.natAbs hg
 omega
theorem Fr.bnd{D k:Nat}{q:Rat}(h:Fr D k q):q.num.natAbs≤k∧q.den≤D:=by
 obtain⟨h0,m,h1,h2⟩:=h
 rw[Tq h0 h2]
 have:=Mh (n:=m) (d:=D) (by omega)
 omega
theorem Fr.of_mul{D N k:Nat}{q r:Rat}(hN:0<N)(h:Fr D k r)(e:(N:Rat)*q=r):Fr (D*N) k q:=by
 obtain⟨h0,m,h1,h2⟩:=h
 refine⟨Nat.mul_pos h0 hN,m,h1,?_⟩
 rw[Rat.natCast_mul,←h2,←e]
 grind
theorem Fr.imul{D k l:Nat}{n:Int}{q:Rat}(hn:n.natAbs≤l)(h:Fr D k q):Fr D (l*k) ((n:Rat)*q):=by
 have:=(Fr.int n).mul h
 rw[Nat.one_mul] at this
 exact this.mono (Nat.mul_le_mul_right _ hn)
theorem Fr.ofInt{D l:Nat}{n:Int}(hD:0<D)(hn:n.natAbs≤l):Fr D (l*D) (n:Rat):=by
 have:=(Fr.int n).up D hD
 rw[Nat.one_mul] at this
 exact this.mono (Nat.mul_le_mul_right _ hn)
theorem Fr.mk{n:Int}{D:Nat}(hD:0<D):Fr D n.natAbs (mkRat n D):=by
 refine⟨hD,n,Nat.le_refl _,?_⟩
 have hD':(D:Rat)≠0:=by
  intro e
  have:((D:Int):Rat)=((0:Int):Rat):=by rw[Rat.intCast_natCast];exact e
  have:=Rat.intCast_inj.1 this
  omega
 rw[Rat.mkRat_eq_div,Rat.div_mul_cancel hD']
end Go.Eng.Tw
namespace Go.Eng.Tw
theorem YC{a:Rat}(h:a≤0):0≤-a:=by grind
theorem lP{n u:Rat}(hn:0<n)(h:0≤n*u):0≤u:=by
 rcases Rat.le_total (a:=0) (b:=u) with h1 | h1
 ·exact h1
 ·by_cases e:u=0
  ·grind
  ·have h2:0 < -u:=by grind
   have:=Rat.mul_pos hn h2
   grind
theorem P0(a:Rat):0≤a*a:=by
 rcases Rat.le_total (a:=0) (b:=a) with h | h
 ·exact Rat.mul_nonneg h h
 ·have:=Rat.mul_nonneg (YC h) (YC h)
  grind
theorem Tr{a:Rat}(h:a*a=0):a=0:=by
 rcases Rat.mul_eq_zero.1 h with h | h <;> exact h
theorem SO{a b:Rat}(h:a*a+b*b=0):a=0∧b=0:=by
 have h1:=P0 a
 have h2:=P0 b
 have e1:a*a=0:=by grind
 have e2:b*b=0:=by grind
 exact⟨Tr e1,Tr e2⟩
def Bt(d u:Rat):Prop:=(0≤u∧u≤d)∨(d≤u∧u≤0)
theorem SP{d u:Rat}(h:Bt d u):0≤u*d∧0≤(d-u)*d:=by
 rcases h with⟨h1,h2⟩ | ⟨h1,h2⟩
 ·exact⟨Rat.mul_nonneg h1 (by grind),Rat.mul_nonneg (by grind) (by grind)⟩
 ·have a1:=Rat.mul_nonneg (YC h2) (show (0:Rat)≤-d by grind)
  have a2:=Rat.mul_nonneg (show (0:Rat)≤-(d-u) by grind) (show (0:Rat)≤-d by grind)
  exact⟨by grind,by grind⟩
theorem Ts{d u:Rat}(h:Bt d u)(h0:u*d=0):u=0:=by
 rcases Rat.mul_eq_zero.1 h0 with e | e
 ·exact e
 ·subst e
  rcases h with⟨h1,h2⟩ | ⟨h1,h2⟩ <;> grind
theorem Tt{d u:Rat}(h:Bt d u)(h0:(d-u)*d=0):u=d:=by
 rcases Rat.mul_eq_zero.1 h0 with e | e
 ·grind
 ·subst e
  rcases h with⟨h1,h2⟩ | ⟨h1,h2⟩ <;> grind
theorem Ak{d u x n:Rat}(hn:0<n)(hx:0≤x)(hxn:x≤n)(h:n*u=x*d):Bt d u:=by
 rcases Rat.le_total (a:=0) (b:=d) with hd | hd
 ·left
  have a1:=Rat.mul_nonneg hx hd
  have a2:=Rat.mul_nonneg (show (0:Rat)≤n-x by grind) hd
  have b1:0≤n*u:=by grind
  have b2:0≤n*(d-u):=by grind
  exact⟨lP hn b1,by have:=lP hn b2;grind⟩
 ·right
  have a1:=Rat.mul_nonneg hx (show (0:Rat)≤-d by grind)
  have a2:=Rat.mul_nonneg (show (0:Rat)≤n-x by grind) (show (0:Rat)≤-d by grind)
  have b1:0≤n*(-u):=by grind
  have b2:0≤n*(u-d):=by grind
  exact⟨by have:=lP hn b2;grind,by have:=lP hn b1;grind⟩
def Mi(dx dy ux uy:Rat):Rat:=
 if ux*dx+uy*dy≤0 then ux*ux+uy*uy
 else if dx*dx+dy*dy≤ux*dx+uy*dy then (ux-dx)*(ux-dx)+(uy-dy)*(uy-dy)
 else (ux-(ux*dx+uy*dy)/(dx*dx+dy*dy)*dx)*(ux-(ux*dx+uy*dy)/(dx*dx+dy*dy)*dx)+(uy-(ux*dx+uy*dy)/(dx*dx+dy*dy)*dy)*(uy-(ux*dx+uy*dy)/(dx*dx+dy*dy)*dy)
theorem Ic(dx dy ux uy:Rat):Mi dx dy ux uy=0↔dx*uy-dy*ux=0∧Bt dx ux∧Bt dy uy:=by
 unfold Mi
 have n0:=P0 dx
 have n1:=P0 dy
 by_cases h1:ux*dx+uy*dy≤0
 ·rw[if_pos h1]
  constructor
  ·intro h
   obtain⟨e1,e2⟩:=SO h
   subst e1;subst e2
   refine⟨by grind,?_,?_⟩
   ·rcases Rat.le_total (a:=0) (b:=dx) with h | h
    ·exact .inl ⟨Rat.le_refl,h⟩
    ·exact .inr ⟨h,Rat.le_refl⟩
   ·rcases Rat.le_total (a:=0) (b:=dy) with h | h
    ·exact .inl ⟨Rat.le_refl,h⟩
    ·exact .inr ⟨h,Rat.le_refl⟩
  ·rintro ⟨hc,b1,b2⟩
   have m1:=(SP b1).1
   have m2:=(SP b2).1
   have e1:=Ts b1 (by grind)
   have e2:=Ts b2 (by grind)
   subst e1;subst e2
   grind
 ·rw[if_neg h1]
  by_cases h2:dx*dx+dy*dy≤ux*dx+uy*dy
  ·rw[if_pos h2]
   constructor
   ·intro h
    obtain⟨e1,e2⟩:=SO h
    have f1:ux=dx:=by grind
    have f2:uy=dy:=by grind
    subst f1;subst f2
    refine⟨by grind,?_,?_⟩
    ·rcases Rat.le_total (a:=0) (b:=ux) with h | h
     ·exact .inl ⟨h,Rat.le_refl⟩
     ·exact .inr ⟨Rat.le_refl,h⟩
    ·rcases Rat.le_total (a:=0) (b:=uy) with h | h
     ·exact .inl ⟨h,Rat.le_refl⟩
     ·exact .inr ⟨Rat.le_refl,h⟩
   ·rintro ⟨hc,b1,b2⟩
    have m1:=(SP b1).2
    have m2:=(SP b2).2
    have e1:=Tt b1 (by grind)
    have e2:=Tt b2 (by grind)
    subst e1;subst e2
    grind
  ·rw[if_neg h2]
   obtain⟨x,hx⟩:∃x,x=ux*dx+uy*dy:=⟨_,rfl⟩
   obtain⟨n,hn⟩:∃n,n=dx*dx+dy*dy:=⟨_,rfl⟩
   rw[←hx,←hn] at h2 ⊢
   rw[←hx] at h1
   have x0:0≤x:=by grind
   have n0:0<n:=by grind
   have nz:n≠0:=by grind
   obtain⟨t,ht⟩:∃t,t=x/n:=⟨_,rfl⟩
   have htn:t*n=x:=by rw[ht,Rat.div_mul_cancel nz]
   rw[←ht]
   have k1:n*(ux-t*dx)=-(dy*(dx*uy-dy*ux)):=by grind
   have k2:n*(uy-t*dy)=dx*(dx*uy-dy*ux):=by grind
   constructor
   ·intro h
    obtain⟨e1,e2⟩:=SO h
    refine⟨?_,Ak n0 x0 (by grind) (by grind),Ak n0 x0 (by grind) (by grind)⟩
    grind
   ·rintro ⟨hc,_,_⟩
    rw[hc] at k1 k2
    have e1:ux-t*dx=0:=by
     rcases Rat.mul_eq_zero.1 (show n*(ux-t*dx)=0 by grind) with e | e
     ·exact absurd e nz
     ·exact e
    have e2:uy-t*dy=0:=by
     rcases Rat.mul_eq_zero.1 (show n*(uy-t*dy)=0 by grind) with e | e
     ·exact absurd e nz
     ·exact e
    rw[e1,e2]
    grind
end Go.Eng.Tw
namespace Go.Eng.Rt
open Go.Eng Go.Eng.Tw
theorem GN(q:Rat):cI (aN q,aU q,aY q,())=some (jM q,()):=by
 unfold cI jM
 simp only[aL,aS]
 by_cases h:q=0
 ·rw[if_pos h,decide_eq_true (by have:=E9.2 h;omega)];rfl
 ·rw[if_neg h,decide_eq_false (fun hh=>h (E9.1 (by omega)))]
  cases aN q <;> rfl
theorem oY{p q:Rat}(hp:Sm p)(hq:Sm q):bT (aN p,aU p,aY p,aN q,aU q,aY q,())=some (aN (p*q),aU (p*q),aY (p*q),()):=by
 obtain⟨p1,p2⟩:=VI hp
 obtain⟨q1,q2⟩:=VI hq
 have bp:=hp.1;have bq:=hq.1;have bpd:=hp.2;have bqd:=hq.2
 have m1:p.num.natAbs*q.num.natAbs<2147483648*2147483648:=Nat.mul_lt_mul'' bp bq
 have m3:p.den*q.den<2147483648*2147483648:=Nat.mul_lt_mul'' bpd bqd
 unfold bT
 have e1:a9 (aU p,aU q,())=some (lm (p.num.natAbs*q.num.natAbs),()):=m8 p1 q1
 simp only[e1,PZ,aZ,m8 p2 q2,wH,Ly]
 rw[oW _ (by simp only[dW];omega) (by simp only[dW];omega) (Nat.mul_ne_zero p.den_nz q.den_nz),←X3]
 rfl
theorem C6{p q:Rat}(hp:Sm p)(hq:Sm q):dR (aN p,aU p,aY p,aN q,aU q,aY q,())=some (aN (p-q),aU (p-q),aY (p-q),()):=by
 unfold dR
 simp only[Th,aZ,MV hp hq.neg]
 rw[Rat.sub_eq_add_neg]
theorem YD{p q:Rat}(hp:Sm p)(hq:Sm q):iI (aN p,aU p,aY p,aN q,aU q,aY q,())=some (lO p q,()):=by
 obtain⟨p1,p2⟩:=VI hp
 obtain⟨q1,q2⟩:=VI hq
 have bp:=hp.1;have bq:=hq.1;have bpd:=hp.2;have bqd:=hq.2
 have m1:p.num.natAbs*q.den<2147483648*2147483648:=Nat.mul_lt_mul'' bp bqd
 have m2:q.num.natAbs*p.den<2147483648*2147483648:=Nat.mul_lt_mul'' bq bpd
 have l1:=nW (n:=p.num.natAbs*q.den) (by simp only[dW];omega)
 have l2:=nW (n:=q.num.natAbs*p.den) (by simp only[dW];omega)
 have e1:a9 (aU p,lm q.den,())=some (lm (p.num.natAbs*q.den),()):=m8 p1 q2
 have e2:a9 (aU q,lm p.den,())=some (lm (q.num.natAbs*p.den),()):=m8 q1 p2
 have hprog:=MT hp hq
 unfold cU at hprog
 unfold iI
 simp only[GN,aZ,aS,aG,bO]
 simp only[AE hp.fit,AE hq.fit,aZ,aS,aG] at hprog
 by_cases hs:jM p=jM q
 ·rw[decide_eq_true hs]
  simp only[Bool.not_true,cond_false,PZ,aZ,e1,e2]
  rw[MQ (by simp only[LM];omega) (by simp only[LM];omega)]
  simp only[aZ]
  obtain⟨c1,c2,c3⟩:=Ah (p:=p) (q:=q)
  have hneg:aN p=aN q:=by
   unfold aN
   rcases jL p with⟨a1,a2⟩ | ⟨a1,a2⟩ | ⟨a1,a2⟩ <;> rcases jL q with⟨b1,b2⟩ | ⟨b1,b2⟩ | ⟨b1,b2⟩ <;> first
    | (rw[a1,b1] at hs;cases hs;done)
    | (subst a2;subst b2;rfl)
    | (rw[decide_eq_true a2,decide_eq_true b2])
    | (rw[decide_eq_false (by omega),decide_eq_false (by omega)])
  have hx:p.num*(q.den:Int)=sg (aN p) (p.num.natAbs*q.den):=by rw[←j9,mJ]
  have hy:q.num*(p.den:Int)=sg (aN p) (q.num.natAbs*p.den):=by rw[←j9,hneg,mJ]
  rw[hx,hy] at c1 c2 c3
  generalize p.num.natAbs*q.den=a at *
  generalize q.num.natAbs*p.den=b at *
  unfold jK
  cases hn:aN p with
  | true=>
   rw[hn] at c1 c2 c3
   simp only[sg,if_true] at c1 c2 c3
   simp only[cond_true]
   by_cases h1:a<b
   ·rw[if_pos h1,c3 (by omega),dC (by omega) (by omega)];rfl
   ·rw[if_neg h1]
    by_cases h2:a=b
    ·rw[if_pos h2,c2 (by omega),dC (by omega) (by omega)];rfl
    ·rw[if_neg h2,c1 (by omega),dC (by omega) (by omega)];rfl
  | false=>
   rw[hn] at c1 c2 c3
   simp only[sg,Bool.false_eq_true,if_false] at c1 c2 c3
   simp only[cond_false]
   by_cases h1:a<b
   ·rw[if_pos h1,c1 (by omega)]
   ·rw[if_neg h1]
    by_cases h2:a=b
    ·rw[if_pos h2,c2 (by omega)]
    ·rw[if_neg h2,c3 (by omega)]
 ·rw[decide_eq_false hs] at hprog ⊢
  exact hprog
theorem Mj{p q:Rat}(m1:p.num.natAbs*q.den<4611686018427387904)(m2:q.num.natAbs*p.den<4611686018427387904)(m3:p.den*q.den<4611686018427387904):bS (aN p,aU p,aY p,aN q,aU q,aY q,())=some (aN (p+q),aU (p+q),aY (p+q),()):=by
 have pd:=p.den_pos
 have qd:=q.den_pos
 have p1:p.num.natAbs<dW:=by have:=Nat.le_mul_of_pos_right p.num.natAbs qd;simp only[dW];omega
 have q1:q.num.natAbs<dW:=by have:=Nat.le_mul_of_pos_right q.num.natAbs pd;simp only[dW];omega
 have p2:p.den<dW:=by have:=Nat.le_mul_of_pos_right p.den qd;simp only[dW];omega
 have q2:q.den<dW:=by have:=Nat.le_mul_of_pos_left q.den pd;simp only[dW];omega
 have d0:p.den*q.den≠0:=Nat.mul_ne_zero p.den_nz q.den_nz
 unfold bS
 simp only[aL,aS]
 by_cases hp0:p=0
 ·rw[decide_eq_true (eF.2 hp0)]
  rw[hp0,Rat.zero_add]
  rfl
 rw[decide_eq_false (fun h=>hp0 (eF.1 h))]
 by_cases hq0:q=0
 ·rw[decide_eq_true (eF.2 hq0)]
  rw[hq0,Rat.add_zero]
  rfl
 rw[decide_eq_false (fun h=>hq0 (eF.1 h))]
 have e1:a9 (aU p,lm q.den,())=some (lm (p.num.natAbs*q.den),()):=m8 p1 q2
 have e2:a9 (aU q,lm p.den,())=some (lm (q.num.natAbs*p.den),()):=m8 q1 p2
 simp only[cond_false,PZ,aZ,e1,e2,m8 p2 q2,wH]
 have l1:=nW (n:=p.num.natAbs*q.den) (by simp only[dW];omega)
 have l2:=nW (n:=q.num.natAbs*p.den) (by simp only[dW];omega)
 by_cases hn:aN p=aN q
 ·rw[show (aN p==aN q)=true by simpa using hn]
  simp only[cond_true]
  rw[Ol (by omega) (by omega)]
  simp only[aZ]
  rw[oW _ (by simp only[dW];omega) (by simp only[dW];omega) d0]
  simp only[aZ]
  rw[hn,←VC hn]
 ·rw[show (aN p==aN q)=false by simpa using hn]
  simp only[cond_false]
  rw[MQ (by simp only[LM];omega) (by simp only[LM];omega)]
  simp only[aZ,aG]
  by_cases hlt:p.num.natAbs*q.den<q.num.natAbs*p.den
  ·rw[decide_eq_true (by unfold jK;rw[if_pos hlt];omega)]
   simp only[cond_true]
   rw[Aj (by simp only[LM];omega) (by omega)]
   simp only[aZ]
   rw[oW _ (by simp only[dW];omega) (by simp only[dW];omega) d0]
   simp only[aZ]
   have:=E3 (p:=q) (q:=p) (Ne.symm hn) (by omega)
   rw[Rat.add_comm,this,Nat.mul_comm p.den]
  ·rw[decide_eq_false (by unfold jK;rw[if_neg hlt];split <;> omega)]
   simp only[cond_false]
   rw[Aj (by simp only[LM];omega) (by omega)]
   simp only[aZ]
   rw[oW _ (by simp only[dW];omega) (by simp only[dW];omega) d0]
   simp only[aZ]
   rw[←E3 hn (by omega)]
theorem Qo{p q:Rat}(h:q≠0):p/q=mkRat (sg (aN p != aN q) (p.num.natAbs*q.den)) (p.den*q.num.natAbs):=by
 have hn:q.num≠0:=fun e=>h (Rat.num_eq_zero.1 e)
 have h1:(q⁻¹).num.natAbs=q.den:=by
  rw[Rat.num_inv,Int.natAbs_mul,Int.natAbs_natCast,Int.natAbs_sign_of_ne_zero hn,Nat.one_mul]
 have h2:(q⁻¹).den=q.num.natAbs:=by rw[Rat.den_inv,if_neg hn]
 have h3:aN q⁻¹=aN q:=by
  unfold aN
  rw[Rat.num_inv]
  have hd:(0:Int)<q.den:=by have:=q.den_pos;omega
  congr 1
  rcases Int.lt_trichotomy q.num 0 with e | e | e
  ·rw[Int.sign_eq_neg_one_of_neg e];simp only[eq_iff_iff];constructor <;> intro <;> omega
  ·exact absurd e hn
  ·rw[Int.sign_eq_one_of_pos e];simp only[eq_iff_iff];constructor <;> intro <;> omega
 rw[Rat.div_def,X3,h1,h2,h3]
theorem Qp{p q:Rat}(hp:Sm p)(hq:Sm q)(h:q≠0):oO (aN p,aU p,aY p,aN q,aU q,aY q,())=some (aN (p/q),aU (p/q),aY (p/q),()):=by
 obtain⟨p1,p2⟩:=VI hp
 obtain⟨q1,q2⟩:=VI hq
 have bp:=hp.1;have bq:=hq.1;have bpd:=hp.2;have bqd:=hq.2
 have m1:p.num.natAbs*q.den<2147483648*2147483648:=Nat.mul_lt_mul'' bp bqd
 have m3:p.den*q.num.natAbs<2147483648*2147483648:=Nat.mul_lt_mul'' bpd bq
 have hn:q.num.natAbs≠0:=fun e=>h (Rat.num_eq_zero.1 (by omega))
 have e1:a9 (aU p,lm q.den,())=some (lm (p.num.natAbs*q.den),()):=m8 p1 q2
 have e2:a9 (lm p.den,aU q,())=some (lm (p.den*q.num.natAbs),()):=m8 p2 q1
 unfold oO tT
 simp only[aL,aS]
 rw[decide_eq_false (fun e=>h (eF.1 e))]
 simp only[cond_false,PZ,aZ,e1,e2,wH,Ly]
 rw[oW _ (by simp only[dW];omega) (by simp only[dW];omega) (Nat.mul_ne_zero p.den_nz hn),Qo h]
 rfl
def AG(p q:Rat):Rat:=if lO q p<0 then q else p
theorem Tu{p q:Rat}(hp:Sm p)(hq:Sm q):lJ (aN p,aU p,aY p,aN q,aU q,aY q,())=some (aN (AG p q),aU (AG p q),aY (AG p q),()):=by
 unfold lJ AG
 simp only[MT hq hp,aZ,aG]
 by_cases h:lO q p<0
 ·rw[if_pos h,decide_eq_true h]
  simp only[cond_true,aZ,aO,FA hq.fit]
 ·rw[if_neg h,decide_eq_false h]
  simp only[cond_false,aZ,aO,FA hp.fit]
theorem oZ{p q:Rat}:lO p q≤0↔p≤q:=by
 unfold lO
 by_cases h:p<q
 ·rw[if_pos h];constructor
  ·intro;exact Rat.le_of_lt h
  ·intro;omega
 ·rw[if_neg h]
  by_cases e:p=q
  ·rw[if_pos e,e];constructor
   ·intro;exact Rat.le_refl
   ·intro;omega
  ·rw[if_neg e]
   constructor
   ·intro h2;omega
   ·intro h2;exact absurd (by grind) e
theorem SQ{p q:Rat}:lO p q<0↔p<q:=by
 unfold lO
 by_cases h:p<q
 ·rw[if_pos h];constructor <;> intro <;> first | exact h | omega
 ·rw[if_neg h]
  by_cases e:p=q
  ·rw[if_pos e];constructor
   ·intro;omega
   ·intro h2;exact absurd h2 h
  ·rw[if_neg e]
   constructor
   ·intro h2;omega
   ·intro h2;exact absurd h2 h
theorem Mk{p q:Rat}:0<lO p q↔q<p:=by
 have:=oZ (p:=p) (q:=q)
 constructor
 ·intro h
  have:¬p≤q:=fun e=>by have:=this.2 e;omega
  grind
 ·intro h
  have:¬lO p q≤0:=fun e=>by have:=this.1 e;grind
  omega
end Go.Eng.Rt
namespace Go.Eng.Rt
open Go.Eng Go.Eng.Tw
abbrev c3{β:Type}(q:Rat)(r:β):Bool×List T×List T×β:=(aN q,aU q,aY q,r)
theorem Id:aN 0=false:=rfl
theorem P1:aU 0=[]:=by
 show cV (aV 0)=[]
 unfold aV
 rfl
theorem P2:aY 0=[]:=by
 show dn 1=[]
 exact if_pos rfl
theorem z3{β:Type}(r:β):c3 0 r=(false,([]:List T),([]:List T),r):=by
 show (aN 0,aU 0,aY 0,r)=_
 rw[P1,P2];rfl
theorem FJ:Sm 0:=⟨by decide,by decide⟩
def Bd(k D:Nat)(q:Rat):Prop:=q.num.natAbs≤k∧q.den≤D
theorem Bd.sm{k D:Nat}{q:Rat}(h:Bd k D q)(hk:k<2147483648)(hD:D<2147483648):Sm q:=⟨Nat.lt_of_le_of_lt h.1 hk,Nat.lt_of_le_of_lt h.2 hD⟩
theorem kA{D k l E:Nat}{q:Rat}(h:Fr D k q)(hk:k≤l)(hD:D≤E):Bd l E q:=⟨Nat.le_trans h.bnd.1 hk,Nat.le_trans h.bnd.2 hD⟩
theorem eN{n:Int}{k:Nat}(h:n.natAbs≤k)(hk:k<2147483648):Sm (n:Rat):=⟨by rw[Rat.num_intCast];omega,by rw[Rat.den_intCast];decide⟩
theorem Fr.muli{D k l:Nat}{n:Int}{q:Rat}(hn:n.natAbs≤l)(h:Fr D k q):Fr D (l*k) (q*(n:Rat)):=by
 rw[Rat.mul_comm];exact h.imul hn
theorem Ml(q:Rat):bS (false,[],[],c3 q ())=some (c3 q ()):=by
 unfold bS
 simp only[aL,aS,List.length_nil]
 rfl
theorem Mm(q:Rat):bS (c3 q (c3 0 ()))=some (c3 q ()):=by
 unfold bS
 simp only[aL,aS]
 by_cases h:q=0
 ·rw[decide_eq_true (eF.2 h),h];rfl
 ·rw[decide_eq_false (fun e=>h (eF.1 e)),decide_eq_true (eF.2 rfl)];rfl
theorem Ie{a b c d e f:Rat}(ha:Sm a)(hb:Sm b)(hc:Sm c)(hd:Sm d)(he:Sm e)(hf:Sm f):cY (c3 a (c3 b (c3 c (c3 d (c3 e (c3 f ()))))))=some (c3 (a-d) (c3 (b-e) (c3 (c-f) ()))):=by
 unfold cY
 simp only[C6 ha hd,C6 hb he,C6 hc hf,aZ,aO]
theorem SR{a b d e:Rat}(ha:Sm a)(hb:Sm b)(hd:Sm d)(he:Sm e):cY (c3 a (c3 b (c3 0 (c3 d (c3 e (c3 0 ()))))))=some (c3 (a-d) (c3 (b-e) (c3 0 ()))):=by
 have:=Ie ha hb FJ hd he FJ
 rw[Rat.sub_self] at this
 exact this
theorem Qq{a b d e:Rat}(ha:Sm a)(hb:Sm b)(hd:Sm d)(he:Sm e):qW (c3 a (c3 b (c3 0 (c3 d (c3 e (c3 0 ()))))))=some (c3 (a+d) (c3 (b+e) (c3 0 ()))):=by
 have h:=MV FJ FJ
 rw[Rat.add_zero] at h
 unfold qW
 simp only[MV ha hd,MV hb he,h,aZ,aO]
theorem Ig{t a b:Rat}(ht:Sm t)(ha:Sm a)(hb:Sm b):mQ (c3 t (c3 a (c3 b (c3 0 ()))))=some (c3 (t*a) (c3 (t*b) (c3 0 ()))):=by
 have h:=oY ht FJ
 rw[Rat.mul_zero] at h
 unfold mQ
 simp only[oY ht ha,oY ht hb,h,aZ,aO]
theorem MX{a b d e:Rat}{k l D E:Nat}(ha:Sm a)(hb:Sm b)(hd:Sm d)(he:Sm e)(h1:Bd k D (a*d))(h2:Bd l E (b*e))(c1:k*E<4611686018427387904)(c2:l*D<4611686018427387904)(c4:D*E<4611686018427387904):
 fV (c3 a (c3 b (c3 0 (c3 d (c3 e (c3 0 ()))))))=some (c3 (a*d+b*e) ()):=by
 have h:=oY FJ FJ
 rw[Rat.mul_zero] at h
 have hs:=Mj (p:=a*d) (q:=b*e) (Nat.lt_of_le_of_lt (Nat.mul_le_mul h1.1 h2.2) c1) (Nat.lt_of_le_of_lt (Nat.mul_le_mul h2.1 h1.2) c2) (Nat.lt_of_le_of_lt (Nat.mul_le_mul h1.2 h2.2) c4)
 unfold fV
 simp only[oY ha hd,oY hb he,h,aZ,aO,Ml,hs,Mm]
theorem VK{q:Rat}:q.num<0↔q<0:=by
 rw[Rat.lt_iff]
 have:(0:Rat).num=0:=rfl
 have h2:(0:Rat).den=1:=rfl
 rw[this,h2]
 omega
theorem VL{q:Rat}:0<q.num↔0<q:=by
 rw[Rat.lt_iff]
 have:(0:Rat).num=0:=rfl
 have h2:(0:Rat).den=1:=rfl
 rw[this,h2]
 omega
theorem Al{q:Rat}:jM q≤0↔q≤0:=by
 rcases jL q with⟨h1,h2⟩ | ⟨h1,h2⟩ | ⟨h1,h2⟩
 ·rw[h1,h2];exact⟨fun _=>Rat.le_refl,fun _=>Int.le_refl _⟩
 ·rw[h1];exact⟨fun _=>Rat.le_of_lt (VK.1 h2),fun _=>by decide⟩
 ·rw[h1];exact⟨fun h=>absurd h (by decide),fun h=>by have:=VL.1 h2;grind⟩
theorem FB{q:Rat}:jM q=0↔q=0:=by
 rcases jL q with⟨h1,h2⟩ | ⟨h1,h2⟩ | ⟨h1,h2⟩
 ·rw[h1,h2];exact⟨fun _=>rfl,fun _=>rfl⟩
 ·rw[h1];exact⟨fun h=>absurd h (by decide),fun h=>by rw[h] at h2;exact absurd h2 (by decide)⟩
 ·rw[h1];exact⟨fun h=>absurd h (by decide),fun h=>by rw[h] at h2;exact absurd h2 (by decide)⟩
theorem Ec{ax ay dx dy:Int}{px py:Rat}{D:Nat}(hD:D≤8)(ha:ax.natAbs≤32)(hb:ay.natAbs≤32)(hdx:dx.natAbs≤20)(hdy:dy.natAbs≤20){kk:Nat}(hk:kk+32*D≤276)(hpx:Fr D kk px)(hpy:Fr D kk py):
 gZ (c3 (ax:Rat) (c3 (ay:Rat) (c3 0 (c3 ((ax+dx:Int):Rat) (c3 ((ay+dy:Int):Rat) (c3 0 (c3 px (c3 py (c3 0 ())))))))))=some (c3 (Mi dx dy (px-ax) (py-ay)) ()):=by
 have D0:=hpx.1
 have sax:Sm (ax:Rat):=eN ha (by decide)
 have say:Sm (ay:Rat):=eN hb (by decide)
 have sbx:Sm ((ax+dx:Int):Rat):=eN (k:=52) (by omega) (by decide)
 have sby:Sm ((ay+dy:Int):Rat):=eN (k:=52) (by omega) (by decide)
 have sdx:Sm (dx:Rat):=eN hdx (by decide)
 have sdy:Sm (dy:Rat):=eN hdy (by decide)
 have spx:Sm px:=(kA hpx (Nat.le_refl _) hD).sm (by omega) (by decide)
 have spy:Sm py:=(kA hpy (Nat.le_refl _) hD).sm (by omega) (by decide)
 have ebx:((ax+dx:Int):Rat)-(ax:Rat)=(dx:Rat):=by rw[Rat.intCast_add];grind
 have eby:((ay+dy:Int):Rat)-(ay:Rat)=(dy:Rat):=by rw[Rat.intCast_add];grind
 obtain⟨ux,hux⟩:∃ux,ux=px-(ax:Rat):=⟨_,rfl⟩
 obtain⟨uy,huy⟩:∃uy,uy=py-(ay:Rat):=⟨_,rfl⟩
 have fux:Fr D 276 ux:=by rw[hux];exact(hpx.sub (Fr.ofInt D0 ha)).mono (by omega)
 have fuy:Fr D 276 uy:=by rw[huy];exact(hpy.sub (Fr.ofInt D0 hb)).mono (by omega)
 have sux:Sm ux:=(kA fux (Nat.le_refl _) hD).sm (by decide) (by decide)
 have suy:Sm uy:=(kA fuy (Nat.le_refl _) hD).sm (by decide) (by decide)
 have q1:=SR sbx sby sax say
 rw[ebx,eby] at q1
 have q2:=SR spx spy sax say
 rw[←hux,←huy] at q2
 have fx1:Fr D 5520 (ux*(dx:Rat)):=(Fr.muli hdx fux)
 have fx2:Fr D 5520 (uy*(dy:Rat)):=(Fr.muli hdy fuy)
 have q3:=MX sux suy sdx sdy (kA fx1 (Nat.le_refl _) hD) (kA fx2 (Nat.le_refl _) hD) (by decide) (by decide) (by decide)
 have fn1:Fr 1 400 ((dx:Rat)*(dx:Rat)):=(Fr.muli hdx (Fr.mono (Fr.int dx) hdx))
 have fn2:Fr 1 400 ((dy:Rat)*(dy:Rat)):=(Fr.muli hdy (Fr.mono (Fr.int dy) hdy))
 have q4:=MX sdx sdy sdx sdy (kA fn1 (Nat.le_refl _) (Nat.le_refl _)) (kA fn2 (Nat.le_refl _) (Nat.le_refl _)) (by decide) (by decide) (by decide)
 have fx:=(fx1.add fx2)
 have fn:=(fn1.add fn2)
 have sx:=(kA fx (Nat.le_refl _) hD).sm (by decide) (by decide)
 have sn:=(kA fn (Nat.le_refl _) (Nat.le_refl 1)).sm (by decide) (by decide)
 rw[←hux,←huy]
 unfold gZ Mi
 simp only[q1,q2,q3,q4,aZ,GN,mI]
 by_cases h1:ux*(dx:Rat)+uy*(dy:Rat)≤0
 ·rw[decide_eq_true (Al.2 h1),if_pos h1]
  have gx:Bd 76176 64 (ux*ux):=kA (fux.mul fux) (by decide) (Nat.mul_le_mul hD hD)
  have gy:Bd 76176 64 (uy*uy):=kA (fuy.mul fuy) (by decide) (Nat.mul_le_mul hD hD)
  have q5:=MX sux suy sux suy gx gy (by decide) (by decide) (by decide)
  simp only[cond_true,q5,aZ]
 ·rw[decide_eq_false (fun e=>h1 (Al.1 e)),if_neg h1]
  simp only[cond_false,YD sx sn,aZ]
  by_cases h2:(dx:Rat)*(dx:Rat)+(dy:Rat)*(dy:Rat)≤ux*(dx:Rat)+uy*(dy:Rat)
  ·have h2':0≤lO (ux*(dx:Rat)+uy*(dy:Rat)) ((dx:Rat)*(dx:Rat)+(dy:Rat)*(dy:Rat)):=by
    have:=SQ (p:=ux*(dx:Rat)+uy*(dy:Rat)) (q:=(dx:Rat)*(dx:Rat)+(dy:Rat)*(dy:Rat))
    have hn:¬(ux*(dx:Rat)+uy*(dy:Rat)<(dx:Rat)*(dx:Rat)+(dy:Rat)*(dy:Rat)):=by grind
    have:¬_:=fun e=>hn (this.1 e)
    omega
   rw[decide_eq_true h2',if_pos h2]
   have e1:px-((ax+dx:Int):Rat)=ux-dx:=by rw[hux,Rat.intCast_add];grind
   have e2:py-((ay+dy:Int):Rat)=uy-dy:=by rw[huy,Rat.intCast_add];grind
   have q5:=SR spx spy sbx sby
   rw[e1,e2] at q5
   have gx0:Fr D 436 (ux-dx):=(fux.sub (Fr.ofInt D0 hdx)).mono (by omega)
   have gy0:Fr D 436 (uy-dy):=(fuy.sub (Fr.ofInt D0 hdy)).mono (by omega)
   have s1:=(kA gx0 (Nat.le_refl _) hD).sm (by decide) (by decide)
   have s2:=(kA gy0 (Nat.le_refl _) hD).sm (by decide) (by decide)
   have q6:=MX s1 s2 s1 s2 (kA (gx0.mul gx0) (Nat.le_refl _) (Nat.mul_le_mul hD hD)) (kA (gy0.mul gy0) (Nat.le_refl _) (Nat.mul_le_mul hD hD)) (by decide) (by decide) (by decide)
   simp only[cond_true,q5,q6,aZ]
  ·have h2':¬0≤lO (ux*(dx:Rat)+uy*(dy:Rat)) ((dx:Rat)*(dx:Rat)+(dy:Rat)*(dy:Rat)):=by
    have:=SQ (p:=ux*(dx:Rat)+uy*(dy:Rat)) (q:=(dx:Rat)*(dx:Rat)+(dy:Rat)*(dy:Rat))
    have:=this.2 (by grind)
    omega
   rw[decide_eq_false h2',if_neg h2]
   simp only[cond_false]
   obtain⟨N,hN⟩:∃N:Nat,((dx*dx+dy*dy:Int))=(N:Int):=⟨(dx*dx+dy*dy).toNat,by
    have a1:0≤dx*dx:=by rw[←Int.natAbs_mul_self];exact Int.natCast_nonneg _
    have a2:0≤dy*dy:=by rw[←Int.natAbs_mul_self];exact Int.natCast_nonneg _
    omega⟩
   have hNr:(dx:Rat)*(dx:Rat)+(dy:Rat)*(dy:Rat)=(N:Rat):=by
    rw[←Rat.intCast_mul,←Rat.intCast_mul,←Rat.intCast_add,hN,Rat.intCast_natCast]
   have hN1:N≤800:=by
    have a1:=Nat.mul_le_mul hdx hdx
    have a2:=Nat.mul_le_mul hdy hdy
    have b1:=Int.natAbs_mul_self (a:=dx)
    have b2:=Int.natAbs_mul_self (a:=dy)
    omega
   obtain⟨x,hx⟩:∃x,x=ux*(dx:Rat)+uy*(dy:Rat):=⟨_,rfl⟩
   rw[hNr] at h2 sn ⊢
   rw[←hx] at h1 h2 sx fx ⊢
   have hN0:N≠0:=by
    intro e
    subst e
    have:((0:Nat):Rat)=0:=rfl
    rw[this] at h2
    grind
   have nz:(N:Rat)≠0:=by
    intro e
    have:((N:Int):Rat)=((0:Int):Rat):=by rw[Rat.intCast_natCast];exact e
    have:=Rat.intCast_inj.1 this
    omega
   obtain⟨t,ht⟩:∃t,t=x/(N:Rat):=⟨_,rfl⟩
   have htn:(N:Rat)*t=x:=by rw[ht,Rat.mul_comm,Rat.div_mul_cancel nz]
   have hDN:D*N≤6400:=Nat.mul_le_mul hD hN1
   have DN0:0<D*N:=Nat.mul_pos D0 (Nat.pos_of_ne_zero hN0)
   have ft:Fr (D*N) 11040 t:=Fr.of_mul (Nat.pos_of_ne_zero hN0) fx htn
   have st:=(kA ft (Nat.le_refl _) hDN).sm (by decide) (by decide)
   have q5:=Qp sx sn nz
   rw[←ht] at q5 ⊢
   have q6:=Ig st sdx sdy
   have f1:Fr (D*N) 220800 (t*(dx:Rat)):=Fr.muli hdx ft
   have f2:Fr (D*N) 220800 (t*(dy:Rat)):=Fr.muli hdy ft
   have s1:=(kA f1 (Nat.le_refl _) hDN).sm (by decide) (by decide)
   have s2:=(kA f2 (Nat.le_refl _) hDN).sm (by decide) (by decide)
   have q7:=Qq sax say s1 s2
   have f3:Fr (D*N) 425600 ((ax:Rat)+t*(dx:Rat)):=((Fr.ofInt DN0 ha).add f1).mono (by omega)
   have f4:Fr (D*N) 425600 ((ay:Rat)+t*(dy:Rat)):=((Fr.ofInt DN0 hb).add f2).mono (by omega)
   have s3:=(kA f3 (Nat.le_refl _) hDN).sm (by decide) (by decide)
   have s4:=(kA f4 (Nat.le_refl _) hDN).sm (by decide) (by decide)
   have q8:=SR spx spy s3 s4
   have e1:px-((ax:Rat)+t*(dx:Rat))=ux-t*dx:=by rw[hux];grind
   have e2:py-((ay:Rat)+t*(dy:Rat))=uy-t*dy:=by rw[huy];grind
   rw[e1,e2] at q8
   have fc:Fr D 11040 ((dx:Rat)*uy-(dy:Rat)*ux):=((fuy.imul hdx).sub (fux.imul hdy))
   have k1:(N:Rat)*(ux-t*dx)=-((dy:Rat)*((dx:Rat)*uy-(dy:Rat)*ux)):=by grind
   have k2:(N:Rat)*(uy-t*dy)=(dx:Rat)*((dx:Rat)*uy-(dy:Rat)*ux):=by grind
   have g1:Fr (D*N) 220800 (ux-t*dx):=Fr.of_mul (Nat.pos_of_ne_zero hN0) (fc.imul hdy).neg k1
   have g2:Fr (D*N) 220800 (uy-t*dy):=Fr.of_mul (Nat.pos_of_ne_zero hN0) (fc.imul hdx) k2
   have s5:=(kA g1 (Nat.le_refl _) hDN).sm (by decide) (by decide)
   have s6:=(kA g2 (Nat.le_refl _) hDN).sm (by decide) (by decide)
   have q9:=MX s5 s6 s5 s6 (kA (g1.mul g1) (Nat.le_refl _) (Nat.mul_le_mul hDN hDN)) (kA (g2.mul g2) (Nat.le_refl _) (Nat.mul_le_mul hDN hDN)) (by decide) (by decide) (by decide)
   simp only[q5,q6,q7,q8,q9,aZ]
end Go.Eng.Rt
namespace Go.Eng.Tm
def NC(p q:Int×Int):Int:=p.1*q.2-q.1*p.2
def C7:List (Int×Int)→Int
 | a::b::l=>NC a b+C7 (b::l)
 | _=>0
def A9:List (Int×Int)→Int
 | []=>0
 | p::l=>C7 (p::l++[p])
theorem VM:∀(u:List (Int×Int)) (a:Int×Int) (v:List (Int×Int)),C7 (u++a::v)=C7 (u++[a])+C7 (a::v)
 | [],a,v=>by simp[C7]
 | [x],a,v=>by simp[C7]
 | x::y::u,a,v=>by
  have h:=VM (y::u) a v
  simp only[List.cons_append,C7] at h ⊢
  omega
theorem P3(l:List (Int×Int))(a b:Int×Int):C7 (l++[a,b])=C7 (l++[a])+NC a b:=by
 rw[VM l a [b]]
 simp[C7]
def mM(l:List (Int×Int))(i:Nat):Int×Int:=l.getD i (0,0)
def mV(l:List (Int×Int)):Nat→Int
 | 0=>0
 | i+1=>mV l i+NC (mM l i) (mM l ((i+1)%l.length))
theorem P4{l:List (Int×Int)}:∀{i:Nat},i<l.length→mV l i=C7 (l.take (i+1))
 | 0,h=>by
  cases l with
  | nil=>simp at h
  | cons a l=>simp[mV,C7]
 | i+1,h=>by
  have ih:=P4 (l:=l) (i:=i) (by omega)
  simp only[mV]
  rw[ih,Nat.mod_eq_of_lt h]
  have ha:l[i]?=some (mM l i):=by unfold mM;rw[List.getD_eq_getElem?_getD,List.getElem?_eq_getElem (by omega)];rfl
  have hb:l[i+1]?=some (mM l (i+1)):=by unfold mM;rw[List.getD_eq_getElem?_getD,List.getElem?_eq_getElem h];rfl
  rw[List.take_add_one (i:=i+1),hb,List.take_add_one (i:=i),ha]
  simp only[Option.toList_some,List.append_assoc,List.cons_append,List.nil_append]
  rw[P3]
theorem A4(l:List (Int×Int)):mV l l.length=A9 l:=by
 cases l with
 | nil=>rfl
 | cons p l=>
  have h:=P4 (l:=p::l) (i:=l.length) (by simp)
  have e:mV (p::l) (p::l).length=mV (p::l) l.length+NC (mM (p::l) l.length) (mM (p::l) ((l.length+1)%(l.length+1))):=rfl
  rw[e,h,Nat.mod_self]
  have ht:(p::l).take (l.length+1)=p::l:=List.take_of_length_le (by simp)
  rw[ht]
  show C7 (p::l)+NC (mM (p::l) l.length) p=C7 (p::l++[p])
  have hlast:p::l=(p::l).dropLast++[mM (p::l) l.length]:=by
   have h1:=List.dropLast_concat_getLast (l:=p::l) (by simp)
   have h2:(p::l).getLast (by simp)=mM (p::l) l.length:=by
    unfold mM
    rw[List.getD_eq_getElem?_getD,List.getLast_eq_getElem]
    simp
   rw[h2] at h1
   exact h1.symm
  generalize mM (p::l) l.length=z at *
  have e2:p::l++[p]=(p::l).dropLast++[z,p]:=by
   conv=>lhs;rw[hlast]
   simp
  rw[e2,P3,←hlast]
end Go.Eng.Tm
namespace Go.Eng.Rt
open Go.Eng Go.Eng.Tm
def wT(p:Int×Int):T:=.agg [.v (.bool (aN (p.1:Rat))),.sl 1 (aU (p.1:Rat)),.sl 1 (aY (p.1:Rat)),.v (.bool (aN (p.2:Rat))),.sl 1 (aU (p.2:Rat)),.sl 1 (aY (p.2:Rat)),.v (.bool false),.sl 1 [],.sl 1 []]
def Mn(p:Int×Int):Prop:=p.1.natAbs<100∧p.2.natAbs<100
theorem rO{n:Int}(h:n.natAbs<2147483648):Sm (n:Rat):=⟨by rw[Rat.num_intCast];exact h,by rw[Rat.den_intCast];decide⟩
theorem YE{l:List (Int×Int)}(hl:l.length<1000000){i:Nat}(hi:i<l.length){p q:Int×Int}(hp:l[i]?=some p)(hq:l[(i+1)%l.length]?=some q):
 cX (l.map wT,(i:Int),())=some (aN (p.1:Rat),aU (p.1:Rat),aY (p.1:Rat),aN (p.2:Rat),aU (p.2:Rat),aY (p.2:Rat),false,[],[],aN (q.1:Rat),aU (q.1:Rat),aY (q.1:Rat),aN (q.2:Rat),aU (q.2:Rat),aY (q.2:Rat),false,[],[],()):=by
 have wi:wr .i64 ((i:Int)+1)=((i+1:Nat):Int):=by rw[dC (by omega) (by omega)];push_cast;rfl
 have hgp:(l.map wT)[i]?=some (wT p):=by simp[hp]
 have hgq:(l.map wT)[(i+1)%l.length]?=some (wT q):=by simp[hq]
 have hpl:((l.map wT).length:Int)=(l.length:Int):=by rw[List.length_map]
 have hnz:nz (l.length:Int)=some (l.length:Int):=by unfold nz;rw[if_neg (by omega)]
 have hmod:((i+1:Nat):Int).tmod (l.length:Int)=(((i+1)%l.length:Nat):Int):=rfl
 have cs:∀p,T.bool? (T.cell (wT p) 0)=some (aN (p.1:Rat))∧T.sl? 1 (T.cell (wT p) 1)=some (aU (p.1:Rat))∧T.sl? 1 (T.cell (wT p) 2)=some (aY (p.1:Rat)) ∧
  T.bool? (T.cell (wT p) 3)=some (aN (p.2:Rat))∧T.sl? 1 (T.cell (wT p) 4)=some (aU (p.2:Rat))∧T.sl? 1 (T.cell (wT p) 5)=some (aY (p.2:Rat)) ∧
  T.bool? (T.cell (wT p) 6)=some false∧T.sl? 1 (T.cell (wT p) 7)=some []∧T.sl? 1 (T.cell (wT p) 8)=some []:=fun p=>⟨rfl,uO _ _,uO _ _,rfl,uO _ _,uO _ _,rfl,uO _ _,uO _ _⟩
 obtain⟨a0,a1,a2,a3,a4,a5,a6,a7,a8⟩:=cs p
 obtain⟨b0,b1,b2,b3,b4,b5,b6,b7,b8⟩:=cs q
 unfold cX
 simp only[aL,hpl,hnz,aQ,wi,mX,hmod,bZ,hgp,hgq,aZ,a0,a1,a2,a3,a4,a5,a6,a7,a8,b0,b1,b2,b3,b4,b5,b6,b7,b8]
theorem GO{p q:Int×Int}(hp:Mn p)(hq:Mn q):(NC p q).natAbs≤20000:=by
 have h1:(p.1*q.2).natAbs≤10000:=by
  rw[Int.natAbs_mul]
  exact Nat.mul_le_mul (show _≤100 from Nat.le_of_lt hp.1) (show _≤100 from Nat.le_of_lt hq.2)
 have h2:(q.1*p.2).natAbs≤10000:=by
  rw[Int.natAbs_mul]
  exact Nat.mul_le_mul (show _≤100 from Nat.le_of_lt hq.1) (show _≤100 from Nat.le_of_lt hp.2)
 unfold NC
 omega
theorem tE{l:List (Int×Int)}{i:Nat}(h:i<l.length):l[i]?=some (mM l i)∧mM l i∈l:=by
 have e:l[i]?=some (mM l i):=by unfold mM;rw[List.getD_eq_getElem?_getD,List.getElem?_eq_getElem h];rfl
 exact⟨e,List.mem_of_getElem? e⟩
theorem wW{l:List (Int×Int)}(hl:∀p∈l,Mn p):∀{i:Nat},i≤l.length→(mV l i).natAbs≤20000*i
 | 0,_=>by simp[mV]
 | i+1,h=>by
  have ih:=wW hl (i:=i) (by omega)
  have hc:=GO (hl _ (tE (l:=l) (i:=i) (by omega)).2) (hl _ (tE (l:=l) (i:=(i+1)%l.length) (Nat.mod_lt _ (by omega))).2)
  simp only[mV]
  omega
def AS(l:List (Int×Int))(i:Nat):(List T×Unit×Unit×Int×Int×Bool×T×T×Bool×List T×List T×Unit):=
 (l.map wT,(),(),(l.length:Int),(i:Int),false,.v (.slice none 0 0),.v (.slice none 0 0),aN (mV l i:Rat),aU (mV l i:Rat),aY (mV l i:Rat),())
theorem Ee{l:List (Int×Int)}(hl:∀p∈l,Mn p)(hn:l.length≤1000){i:Nat}(hi:i<l.length):jH (AS l i)=some (.inl (AS l (i+1))):=by
 obtain⟨e1,m1⟩:=tE hi
 obtain⟨e2,m2⟩:=tE (l:=l) (i:=(i+1)%l.length) (Nat.mod_lt _ (by omega))
 have hb:=wW hl (i:=i) (by omega)
 have hc:=GO (hl _ m1) (hl _ m2)
 have wi:wr .i64 ((i:Int)+1)=((i+1:Nat):Int):=by rw[dC (by omega) (by omega)];push_cast;rfl
 have hlt:decide ((i:Int)<(l.length:Int))=true:=decide_eq_true (by omega)
 have hed:=YE (l:=l) (by omega) hi e1 e2
 have hs:mV l (i+1)=mV l i+NC (mM l i) (mM l ((i+1)%l.length)):=rfl
 generalize mM l i=p at *
 generalize mM l ((i+1)%l.length)=q at *
 have sp:=hl _ m1
 have sq:=hl _ m2
 have sm:∀{n:Int},n.natAbs<100→Sm (n:Rat):=fun h=>rO (by omega)
 have k1:(p.1*q.2).natAbs≤10000:=by
  rw[Int.natAbs_mul]
  exact Nat.mul_le_mul (show _≤100 from Nat.le_of_lt sp.1) (show _≤100 from Nat.le_of_lt sq.2)
 have k2:(q.1*p.2).natAbs≤10000:=by
  rw[Int.natAbs_mul]
  exact Nat.mul_le_mul (show _≤100 from Nat.le_of_lt sq.1) (show _≤100 from Nat.le_of_lt sp.2)
 have f1:=CB (sm sp.1) (sm sq.2)
 have f2:=CB (sm sq.1) (sm sp.2)
 rw[←Rat.intCast_mul] at f1 f2
 have f3:=MW (rO (n:=p.1*q.2) (by omega)) (rO (n:=q.1*p.2) (by omega))
 rw[←Rat.intCast_sub] at f3
 have f4:=Ok (rO (n:=mV l i) (by omega)) (rO (n:=NC p q) (by omega))
 rw[←Rat.intCast_add,←hs] at f4
 unfold NC at f4
 unfold jH
 conv=>lhs;unfold AS
 simp only[aG,hlt,cond_true,hed,aZ,f1,f2,f3,f4,aQ,wi]
 rfl
theorem Ih{l:List (Int×Int)}(hl:∀p∈l,Mn p)(hn:l.length≤1000):iK (l.map wT,())=some (aN (A9 l:Rat),aU (A9 l:Rat),aY (A9 l:Rat),()):=by
 have h:=jB (F:=jH) l.length (AS l) fun i hi=>Ee hl hn hi
 have hpl:((l.map wT).length:Int)=(l.length:Int):=by rw[List.length_map]
 have fold:(l.map wT,(),(),(l.length:Int),(0:Int),false,T.v (Value.slice none 0 0),T.v (Value.slice none 0 0),false,([]:List T),([]:List T),())=AS l 0:=by
  have e:((mV l 0:Int):Rat)=0:=rfl
  unfold AS
  rw[e,sF,sG,sH];rfl
 have hout:aM jH (AS l l.length)=some (.inl ((),(),false,T.v (Value.slice none 0 0),T.v (Value.slice none 0 0),aN (mV l l.length:Rat),aU (mV l l.length:Rat),aY (mV l l.length:Rat),())):=by
  refine aW ?_
  have hlt:decide ((l.length:Int)<(l.length:Int))=false:=decide_eq_false (by omega)
  unfold jH AS
  simp only[aG,hlt,cond_false]
 rw[←A4]
 unfold iK
 simp only[aL,hpl,fold,h,hout,aZ,aO]
end Go.Eng.Rt
namespace Go.Eng.Rt
open Go.Eng Go.Eng.Tw Go.Eng.Tm
theorem SS{a b c d e f:Rat}(ha:Sm a)(hb:Sm b)(hc:Sm c)(hd:Sm d)(he:Sm e)(hf:Sm f):fO (c3 a (c3 b (c3 c (c3 d (c3 e (c3 f ()))))))=some (c3 (a-d) (c3 (b-e) (c3 (c-f) ()))):=by
 unfold fO kT
 simp only[MW ha hd,MW hb he,MW hc hf,aZ,aO]
theorem Mo(q:Rat):q-0=q:=by grind
theorem Tv(q:Rat):0*q=0:=Rat.zero_mul q
section
variable {ax ay dx dy:Int} {px py pz:Rat} {D:Nat} (hD:D≤8) (ha:ax.natAbs≤32) (hb:ay.natAbs≤32) (hdx:dx.natAbs≤20) (hdy:dy.natAbs≤20) (hpx:Fr D 32 px) (hpy:Fr D 32 py) (hpz:Fr 2 32 pz)
include hD ha hb hdx hdy hpx hpy hpz
theorem H6:bG (c3 (ax:Rat) (c3 (ay:Rat) (c3 0 (c3 ((ax+dx:Int):Rat) (c3 ((ay+dy:Int):Rat) (c3 0 (c3 px (c3 py (c3 pz ())))))))))=some (jM ((dx:Rat)*(py-ay)-(dy:Rat)*(px-ax)),()) ∧
 cB (c3 (ax:Rat) (c3 (ay:Rat) (c3 0 (c3 ((ax+dx:Int):Rat) (c3 ((ay+dy:Int):Rat) (c3 0 (c3 px (c3 py (c3 pz ())))))))))=some (jM ((dx:Rat)*(py-ay)-(dy:Rat)*(px-ax)),()):=by
 have D0:=hpx.1
 have sax:Sm (ax:Rat):=eN ha (by decide)
 have say:Sm (ay:Rat):=eN hb (by decide)
 have sbx:Sm ((ax+dx:Int):Rat):=eN (k:=52) (by omega) (by decide)
 have sby:Sm ((ay+dy:Int):Rat):=eN (k:=52) (by omega) (by decide)
 have sdx:Sm (dx:Rat):=eN hdx (by decide)
 have sdy:Sm (dy:Rat):=eN hdy (by decide)
 have spx:Sm px:=(kA hpx (Nat.le_refl _) hD).sm (by decide) (by decide)
 have spy:Sm py:=(kA hpy (Nat.le_refl _) hD).sm (by decide) (by decide)
 have spz:Sm pz:=(kA hpz (Nat.le_refl _) (Nat.le_refl 2)).sm (by decide) (by decide)
 have ebx:((ax+dx:Int):Rat)-(ax:Rat)=(dx:Rat):=by rw[Rat.intCast_add];grind
 have eby:((ay+dy:Int):Rat)-(ay:Rat)=(dy:Rat):=by rw[Rat.intCast_add];grind
 obtain⟨ux,hux⟩:∃ux,ux=px-(ax:Rat):=⟨_,rfl⟩
 obtain⟨uy,huy⟩:∃uy,uy=py-(ay:Rat):=⟨_,rfl⟩
 have fux:Fr D 288 ux:=by rw[hux];exact(hpx.sub (Fr.ofInt D0 ha)).mono (by omega)
 have fuy:Fr D 288 uy:=by rw[huy];exact(hpy.sub (Fr.ofInt D0 hb)).mono (by omega)
 have sux:Sm ux:=(kA fux (Nat.le_refl _) hD).sm (by decide) (by decide)
 have suy:Sm uy:=(kA fuy (Nat.le_refl _) hD).sm (by decide) (by decide)
 have f1:Fr D 5760 ((dx:Rat)*uy):=fuy.imul hdx
 have f2:Fr D 5760 ((dy:Rat)*ux):=fux.imul hdy
 have s1:=(kA f1 (Nat.le_refl _) hD).sm (by decide) (by decide)
 have s2:=(kA f2 (Nat.le_refl _) hD).sm (by decide) (by decide)
 have sc:=(kA (f1.sub f2) (Nat.le_refl _) hD).sm (by decide) (by decide)
 have f3:Fr 2 640 ((dx:Rat)*pz):=hpz.imul hdx
 have f4:Fr 2 640 ((dy:Rat)*pz):=hpz.imul hdy
 have s3:=(kA f3 (Nat.le_refl _) (Nat.le_refl 2)).sm (by decide) (by decide)
 have s4:=(kA f4 (Nat.le_refl _) (Nat.le_refl 2)).sm (by decide) (by decide)
 rw[←hux,←huy]
 constructor
 ·have q1:=SS sbx sby FJ sax say FJ
  have q2:=SS spx spy spz sax say FJ
  rw[ebx,eby,Mo] at q1
  rw[←hux,←huy,Mo] at q2
  have m1:=CB FJ suy
  have m2:=CB FJ sux
  rw[Tv] at m1 m2
  unfold bG lL
  simp only[q1,q2,aZ,CB sdx suy,CB sdy sux,CB sdx spz,CB sdy spz,m1,m2,MW s1 s2,MW s4 FJ,MW FJ s3,aO,AE sc.fit]
 ·have q1:=Ie sbx sby FJ sax say FJ
  have q2:=Ie spx spy spz sax say FJ
  rw[ebx,eby,Mo] at q1
  rw[←hux,←huy,Mo] at q2
  have m1:=oY FJ suy
  have m2:=oY FJ sux
  rw[Tv] at m1 m2
  unfold cB mR
  simp only[q1,q2,aZ,oY sdx suy,oY sdy sux,oY sdx spz,oY sdy spz,m1,m2,C6 s1 s2,C6 s4 FJ,C6 FJ s3,aO,GN]
end
theorem Mp{a b:Rat}(ha:Sm a)(hb:Sm b):Sm (AG a b):=by unfold AG;split <;> assumption
theorem Mq{a b:Rat}(ha:Sm a)(hb:Sm b):Sm (AF a b):=by unfold AF;split <;> assumption
theorem P5{a b x:Rat}(ha:Sm a)(hb:Sm b)(hx:Sm x):jF (c3 a (c3 b (c3 x ())))=some (decide (AG a b≤x∧x≤AF a b),()):=by
 unfold jF
 simp only[Tu ha hb,Tp ha hb,MT (Mp ha hb) hx,MT hx (Mq ha hb),aZ,mI]
 by_cases h1:AG a b≤x
 ·rw[decide_eq_true (oZ.2 h1)]
  by_cases h2:x≤AF a b
  ·rw[decide_eq_true (oZ.2 h2),decide_eq_true ⟨h1,h2⟩];rfl
  ·rw[decide_eq_false (show ¬lO x (AF a b)≤0 from fun e=>h2 (oZ.1 e)),decide_eq_false (show ¬(AG a b≤x∧x≤AF a b) from fun e=>h2 e.2)];rfl
 ·rw[decide_eq_false (show ¬lO (AG a b) x≤0 from fun e=>h1 (oZ.1 e)),decide_eq_false (show ¬(AG a b≤x∧x≤AF a b) from fun e=>h1 e.1)];rfl
theorem Am{a x:Rat}{d b:Rat}(hb:b=a+d):(AG a b≤x∧x≤AF a b)↔Bt d (x-a):=by
 unfold AG AF Bt
 simp only[SQ,Mk]
 by_cases h1:b<a
 ·rw[if_pos h1,if_neg (show ¬a<b by grind)]
  constructor
  ·intro h;right;grind
  ·rintro (h | h) <;> grind
 ·rw[if_neg h1]
  by_cases h2:a<b
  ·rw[if_pos h2]
   constructor
   ·intro h;left;grind
   ·rintro (h | h) <;> grind
  ·rw[if_neg h2]
   constructor
   ·intro h;left;grind
   ·rintro (h | h) <;> grind
def Qr(dx dy ux uy:Rat):Prop:=dx*uy-dy*ux=0∧Bt dx ux∧Bt dy uy
open Classical in
noncomputable def An(dx dy ux uy:Rat):Bool:=decide (Qr dx dy ux uy)
open Classical in
theorem Ii{dx dy ux uy:Rat}(h:Qr dx dy ux uy):An dx dy ux uy=true:=by unfold An;exact decide_eq_true h
open Classical in
theorem VN{dx dy ux uy:Rat}(h:¬Qr dx dy ux uy):An dx dy ux uy=false:=by unfold An;exact decide_eq_false h
section
variable {ax ay dx dy:Int} {px py pz:Rat} {D:Nat} (hD:D≤8) (ha:ax.natAbs≤32) (hb:ay.natAbs≤32) (hdx:dx.natAbs≤20) (hdy:dy.natAbs≤20) (hpx:Fr D 32 px) (hpy:Fr D 32 py) (hpz:Fr 2 32 pz)
include hD ha hb hdx hdy hpx hpy hpz
theorem Vh:jG (c3 (ax:Rat) (c3 (ay:Rat) (c3 0 (c3 ((ax+dx:Int):Rat) (c3 ((ay+dy:Int):Rat) (c3 0 (c3 px (c3 py (c3 pz ())))))))))=some (An dx dy (px-ax) (py-ay),()):=by
 have sax:Sm (ax:Rat):=eN ha (by decide)
 have say:Sm (ay:Rat):=eN hb (by decide)
 have sbx:Sm ((ax+dx:Int):Rat):=eN (k:=52) (by omega) (by decide)
 have sby:Sm ((ay+dy:Int):Rat):=eN (k:=52) (by omega) (by decide)
 have spx:Sm px:=(kA hpx (Nat.le_refl _) hD).sm (by decide) (by decide)
 have spy:Sm py:=(kA hpy (Nat.le_refl _) hD).sm (by decide) (by decide)
 unfold jG
 simp only[(H6 hD ha hb hdx hdy hpx hpy hpz).1,aZ,aS,P5 sax sbx spx,P5 say sby spy]
 have b1:=Am (a:=(ax:Rat)) (x:=px) (d:=(dx:Rat)) (b:=((ax+dx:Int):Rat)) (Rat.intCast_add ..)
 have b2:=Am (a:=(ay:Rat)) (x:=py) (d:=(dy:Rat)) (b:=((ay+dy:Int):Rat)) (Rat.intCast_add ..)
 have d1:∀{a b x:Rat} {d:Rat},((AG a b≤x∧x≤AF a b)↔Bt d (x-a))→Bt d (x-a)→decide (AG a b≤x∧x≤AF a b)=true:=fun h h'=>decide_eq_true (h.2 h')
 have d2:∀{a b x:Rat} {d:Rat},((AG a b≤x∧x≤AF a b)↔Bt d (x-a))→¬Bt d (x-a)→decide (AG a b≤x∧x≤AF a b)=false:=fun h h'=>decide_eq_false fun e=>h' (h.1 e)
 by_cases h0:(dx:Rat)*(py-ay)-(dy:Rat)*(px-ax)=0
 ·rw[decide_eq_true (FB.2 h0)]
  by_cases h1:Bt (dx:Rat) (px-ax)
  ·rw[d1 b1 h1]
   by_cases h2:Bt (dy:Rat) (py-ay)
   ·rw[d1 b2 h2,Ii ⟨h0,h1,h2⟩];rfl
   ·rw[d2 b2 h2,VN fun e=>h2 e.2.2];rfl
  ·rw[d2 b1 h1,VN fun e=>h1 e.2.1];rfl
 ·rw[decide_eq_false (fun e=>h0 (FB.1 e)),VN fun e=>h0 e.1];rfl
end
theorem Vi{ax ay dx dy:Int}{px py pz:Rat}{D:Nat}(hD:D≤8)(ha:ax.natAbs≤32)(hb:ay.natAbs≤32)(hdx:dx.natAbs≤20)(hdy:dy.natAbs≤20){kk:Nat}(hk:kk+32*D≤276)(hpx:Fr D kk px)(hpy:Fr D kk py):
 dF (c3 (ax:Rat) (c3 (ay:Rat) (c3 0 (c3 ((ax+dx:Int):Rat) (c3 ((ay+dy:Int):Rat) (c3 0 (c3 px (c3 py (c3 pz ())))))))))=some (An dx dy (px-ax) (py-ay),()):=by
 have hs:=Ec hD ha hb hdx hdy hk hpx hpy
 have hf:∀a b c:Rat,j0 (c3 a (c3 b (c3 c ())))=some (c3 a (c3 b (c3 0 ()))):=fun a b c=>by
  unfold j0
  show some (aN a,aU a,aY a,aN b,aU b,aY b,false,[],[],())=some (aN a,aU a,aY a,aN b,aU b,aY b,aN 0,aU 0,aY 0,())
  rw[P1,P2];rfl
 unfold dF
 simp only[hf,hs,aZ,GN,aS]
 by_cases h:Qr (dx:Rat) dy (px-ax) (py-ay)
 ·rw[Ii h,decide_eq_true (FB.2 ((Ic ..).2 h))]
 ·rw[VN h,decide_eq_false fun e=>h ((Ic ..).1 (FB.1 e))]
end Go.Eng.Rt
namespace Go.Eng.Rt
open Go.Eng Go.Eng.Tw Go.Eng.Tm
def Bx(l:List (Int×Int)):Prop:=l.length≤1000∧(∀p∈l,p.1.natAbs≤32∧p.2.natAbs≤32)∧∀p∈l,∀q∈l,(q.1-p.1).natAbs≤20∧(q.2-p.2).natAbs≤20
def Pp(D k:Nat)(px py pz:Rat):Prop:=D≤8∧Fr D k px∧Fr D k py∧Fr 2 k pz
def Pr(D:Nat)(px py pz:Rat):Prop:=Pp D 32 px py pz∧∃k,k+32*D≤276∧Fr D k px∧Fr D k py
abbrev lit{β:Type}(p q:Int×Int)(r:β):Bool×List T×List T×Bool×List T×List T×Bool×List T×List T×Bool×List T×List T×Bool×List T×List T×Bool×List T×List T×β:=(aN (p.1:Rat),aU (p.1:Rat),aY (p.1:Rat),aN (p.2:Rat),aU (p.2:Rat),aY (p.2:Rat),false,[],[],aN (q.1:Rat),aU (q.1:Rat),aY (q.1:Rat),aN (q.2:Rat),aU (q.2:Rat),aY (q.2:Rat),false,[],[],r)
theorem Ij{β:Type}(p q:Int×Int)(r:β):c3 (p.1:Rat) (c3 (p.2:Rat) (c3 0 (c3 ((p.1+(q.1-p.1):Int):Rat) (c3 ((p.2+(q.2-p.2):Int):Rat) (c3 0 r)))))=lit p q r:=by
 have e1:p.1+(q.1-p.1)=q.1:=by omega
 have e2:p.2+(q.2-p.2)=q.2:=by omega
 rw[z3,e1,e2,z3]
theorem cells(p:Int×Int):T.bool? (T.cell (wT p) 0)=some (aN (p.1:Rat))∧T.sl? 1 (T.cell (wT p) 1)=some (aU (p.1:Rat))∧T.sl? 1 (T.cell (wT p) 2)=some (aY (p.1:Rat)) ∧
 T.bool? (T.cell (wT p) 3)=some (aN (p.2:Rat))∧T.sl? 1 (T.cell (wT p) 4)=some (aU (p.2:Rat))∧T.sl? 1 (T.cell (wT p) 5)=some (aY (p.2:Rat)) ∧
 T.bool? (T.cell (wT p) 6)=some false∧T.sl? 1 (T.cell (wT p) 7)=some []∧T.sl? 1 (T.cell (wT p) 8)=some []:=⟨rfl,uO _ _,uO _ _,rfl,uO _ _,uO _ _,rfl,uO _ _,uO _ _⟩
def sE(p q:Int×Int)(px py:Rat):Int:=jM (((q.1-p.1:Int):Rat)*(py-p.2)-((q.2-p.2:Int):Rat)*(px-p.1))
theorem MY{p q:Int×Int}(h1:p.1.natAbs≤32)(h2:p.2.natAbs≤32)(h3:(q.1-p.1).natAbs≤20)(h4:(q.2-p.2).natAbs≤20){D:Nat}{px py pz:Rat}(hp:Pp D 32 px py pz):
 jG (lit p q (c3 px (c3 py (c3 pz ()))))=some (An ((q.1-p.1:Int):Rat) ((q.2-p.2:Int):Rat) (px-p.1) (py-p.2),())∧bG (lit p q (c3 px (c3 py (c3 pz ()))))=some (sE p q px py,())∧cB (lit p q (c3 px (c3 py (c3 pz ()))))=some (sE p q px py,()):=by
 obtain⟨hD,f1,f2,f3⟩:=hp
 have a1:=Vh hD h1 h2 h3 h4 f1 f2 f3
 have a2:=H6 hD h1 h2 h3 h4 f1 f2 f3
 rw[Ij] at a1 a2
 exact⟨a1,a2.1,a2.2⟩
theorem Ik{p q:Int×Int}(h1:p.1.natAbs≤32)(h2:p.2.natAbs≤32)(h3:(q.1-p.1).natAbs≤20)(h4:(q.2-p.2).natAbs≤20){D:Nat}{px py pz:Rat}(hp:Pr D px py pz):
 dF (lit p q (c3 px (c3 py (c3 pz ()))))=some (An ((q.1-p.1:Int):Rat) ((q.2-p.2:Int):Rat) (px-p.1) (py-p.2),()):=by
 obtain⟨⟨hD,_⟩,k,hk,f1,f2⟩:=hp
 have a1:=Vi (pz:=pz) hD h1 h2 h3 h4 hk f1 f2
 rw[Ij] at a1
 exact a1
theorem Pr.up{D:Nat}{px py pz:Rat}(h:Pr D px py pz):Pp D 32 px py pz:=h.1
theorem Pr.of{D:Nat}{px py pz:Rat}(h:Pp D 20 px py pz):Pr D px py pz:=⟨⟨h.1,h.2.1.mono (by decide),h.2.2.1.mono (by decide),h.2.2.2.mono (by decide)⟩,20,by have:=h.1;omega,h.2.1,h.2.2.1⟩
def PS(l:List (Int×Int))(px py pz:Rat)(i:Nat)(n:Int):List T×Unit×Int×Int×Int×Bool×List T×List T×Bool×List T×List T×Bool×List T×List T×Unit:=(l.map wT,(),n,(l.length:Int),(i:Int),c3 px (c3 py (c3 pz ())))
def RS(l:List (Int×Int))(px py pz:Rat)(i:Nat)(n:Int):List T×Unit×Int×Int×Bool×List T×List T×Bool×List T×List T×Bool×List T×List T×Unit:=(l.map wT,(),n,(i:Int),c3 px (c3 py (c3 pz ())))
def Qs(f g:Bool)(s n:Int):Int:=bif f then (bif g then n else bif decide (0<s) then wr .i64 (n+1) else n) else (bif g then (bif decide (s<0) then wr .i64 (n-1) else n) else n)
section
variable {l:List (Int×Int)} (hB:Bx l) {D:Nat} {px py pz:Rat} {i:Nat} (hi:i<l.length) (n:Int)
include hB hi
theorem Om(hp:Pp D 32 px py pz):fB (PS l px py pz i n)=(bif An (((mM l ((i+1)%l.length)).1-(mM l i).1:Int):Rat) (((mM l ((i+1)%l.length)).2-(mM l i).2:Int):Rat) (px-(mM l i).1) (py-(mM l i).2) then some (.inr (.inl (0,false,()))) else some (.inl (PS l px py pz (i+1) (Qs (decide (lO ((mM l i).2:Rat) py≤0)) (decide (lO ((mM l ((i+1)%l.length)).2:Rat) py≤0)) (sE (mM l i) (mM l ((i+1)%l.length)) px py) n)))):=by
 obtain⟨b1,b2,b3⟩:=hB
 have hj:(i+1)%l.length<l.length:=Nat.mod_lt _ (by omega)
 obtain⟨g1,m1⟩:=tE hi
 obtain⟨g2,m2⟩:=tE hj
 obtain⟨p,hpe⟩:∃p,p=mM l i:=⟨_,rfl⟩
 obtain⟨q,hqe⟩:∃q,q=mM l ((i+1)%l.length):=⟨_,rfl⟩
 rw[←hpe] at g1 m1
 rw[←hqe] at g2 m2
 rw[←hpe,←hqe]
 have c1:=b2 p m1
 have c2:=b2 q m2
 have c5:=b3 p m1 q m2
 have sy:Sm py:=(kA hp.2.2.1 (Nat.le_refl _) hp.1).sm (by decide) (by decide)
 have wi:wr .i64 ((i:Int)+1)=((i+1:Nat):Int):=by rw[dC (by omega) (by omega)];push_cast;rfl
 have hlt:decide ((i:Int)<(l.length:Int))=true:=decide_eq_true (by omega)
 obtain⟨e1,e2,_⟩:=MY (q:=q) c1.1 c1.2 c5.1 c5.2 hp
 have he:=YE (by omega) hi g1 g2
 have k1:=MT (eN c1.2 (by decide)) sy
 have k2:=MT (eN c2.2 (by decide)) sy
 unfold fB PS Qs
 simp -implicitDefEqProofs only[aG,mI,aQ,bO,hlt,cond_true,he,aZ,e1,k1,k2,e2]
 generalize An ((q.1-p.1:Int):Rat) ((q.2-p.2:Int):Rat) (px-p.1) (py-p.2)=b
 generalize sE p q px py=s
 generalize decide (lO (p.2:Rat) py≤0)=f
 generalize decide (lO (q.2:Rat) py≤0)=g
 generalize decide (0<s)=h1
 generalize decide (s<0)=h2
 cases b with
 | true=>simp -implicitDefEqProofs only[cond_true,aZ,aO]
 | false=>cases f <;> cases g <;> cases h1 <;> cases h2 <;> simp -implicitDefEqProofs only[cond_true,cond_false,Bool.not_true,Bool.not_false,aZ,aO,oH,wi]
theorem Oo(hp:Pr D px py pz):eS (RS l px py pz i n)=(bif An (((mM l ((i+1)%l.length)).1-(mM l i).1:Int):Rat) (((mM l ((i+1)%l.length)).2-(mM l i).2:Int):Rat) (px-(mM l i).1) (py-(mM l i).2) then some (.inr (.inl (0,false,()))) else some (.inl (RS l px py pz (i+1) (Qs (decide (lO ((mM l i).2:Rat) py≤0)) (decide (lO ((mM l ((i+1)%l.length)).2:Rat) py≤0)) (sE (mM l i) (mM l ((i+1)%l.length)) px py) n)))):=by
 obtain⟨b1,b2,b3⟩:=hB
 have hj:(i+1)%l.length<l.length:=Nat.mod_lt _ (by omega)
 obtain⟨g1,m1⟩:=tE hi
 obtain⟨g2,m2⟩:=tE hj
 obtain⟨p,hpe⟩:∃p,p=mM l i:=⟨_,rfl⟩
 obtain⟨q,hqe⟩:∃q,q=mM l ((i+1)%l.length):=⟨_,rfl⟩
 rw[←hpe] at g1 m1
 rw[←hqe] at g2 m2
 rw[←hpe,←hqe]
 have c1:=b2 p m1
 have c2:=b2 q m2
 have c5:=b3 p m1 q m2
 have sy:Sm py:=(kA hp.up.2.2.1 (Nat.le_refl _) hp.up.1).sm (by decide) (by decide)
 have wi:wr .i64 ((i:Int)+1)=((i+1:Nat):Int):=by rw[dC (by omega) (by omega)];push_cast;rfl
 have hlt:decide ((i:Int)<(l.length:Int))=true:=decide_eq_true (by omega)
 obtain⟨_,_,e4⟩:=MY (q:=q) c1.1 c1.2 c5.1 c5.2 hp.up
 have e3:=Ik (q:=q) c1.1 c1.2 c5.1 c5.2 hp
 have k3:=YD (eN c1.2 (by decide)) sy
 have k4:=YD (eN c2.2 (by decide)) sy
 have hgp:(l.map wT)[i]?=some (wT p):=by simp[g1]
 have hgq:(l.map wT)[(i+1)%l.length]?=some (wT q):=by simp[g2]
 have hpl:((l.map wT).length:Int)=(l.length:Int):=by rw[List.length_map]
 have hnz:nz (l.length:Int)=some (l.length:Int):=by unfold nz;rw[if_neg (by omega)]
 have hmod:((i+1:Nat):Int).tmod (l.length:Int)=(((i+1)%l.length:Nat):Int):=rfl
 obtain⟨a0,a1,a2,a3,a4,a5,a6,a7,a8⟩:=cells p
 obtain⟨d0,d1,d2,d3,d4,d5,d6,d7,d8⟩:=cells q
 unfold eS RS Qs
 simp -implicitDefEqProofs only[aG,mI,aQ,bO,aL,hpl,hlt,cond_true,hnz,wi,mX,hmod,bZ,hgp,hgq,aZ,a0,a1,a2,a3,a4,a5,a6,a7,a8,d0,d1,d2,d3,d4,d5,d6,d7,d8,e3,k3,k4,e4]
 generalize An ((q.1-p.1:Int):Rat) ((q.2-p.2:Int):Rat) (px-p.1) (py-p.2)=b
 generalize sE p q px py=s
 generalize decide (lO (p.2:Rat) py≤0)=f
 generalize decide (lO (q.2:Rat) py≤0)=g
 cases b with
 | true=>simp -implicitDefEqProofs only[cond_true,aZ,aO]
 | false=>cases f <;> cases g <;> cases h1:decide (0<s) <;> cases h2:decide (s<0) <;> simp -implicitDefEqProofs only[cond_true,cond_false,Bool.not_true,Bool.not_false,aZ,aO,oH,wi,h1,h2]
end
end Go.Eng.Rt
namespace Go.Eng.Tg
open Go.Eng.Tw
abbrev Q:=Rat×Rat
def cr(a b p:Q):Rat:=(b.1-a.1)*(p.2-a.2)-(b.2-a.2)*(p.1-a.1)
def On(a b p:Q):Prop:=cr a b p=0∧Bt (b.1-a.1) (p.1-a.1)∧Bt (b.2-a.2) (p.2-a.2)
def jQ(a b c d:Q):Prop:=On a b c∨On a b d∨On c d a∨On c d b∨(cr a b c*cr a b d<0∧cr c d a*cr c d b<0)
def nX(a b:Q)(t:Rat):Q:=(a.1+t*(b.1-a.1),a.2+t*(b.2-a.2))
theorem AH(a b x y:Q)(t:Rat):cr a b (nX x y t)=(1-t)*cr a b x+t*cr a b y:=by
 unfold cr nX;grind
theorem JM(a b p:Q):cr b a p=-cr a b p:=by unfold cr;grind
theorem Oq{d t:Rat}(h0:0≤t)(h1:t≤1):Bt d (t*d):=by
 rcases Rat.le_total (a:=0) (b:=d) with hd | hd
 ·left
  have a1:=Rat.mul_nonneg h0 hd
  have a2:=Rat.mul_nonneg (show (0:Rat)≤1-t by grind) hd
  exact⟨a1,by grind⟩
 ·right
  have a1:=Rat.mul_nonneg h0 (show (0:Rat)≤-d by grind)
  have a2:=Rat.mul_nonneg (show (0:Rat)≤1-t by grind) (show (0:Rat)≤-d by grind)
  exact⟨by grind,by grind⟩
theorem rP{a b:Q}{t:Rat}(h0:0≤t)(h1:t≤1):On a b (nX a b t):=by
 refine⟨by unfold cr nX;grind,?_,?_⟩
 ·have:=Oq (d:=b.1-a.1) h0 h1
  have e:(nX a b t).1-a.1=t*(b.1-a.1):=by unfold nX;grind
  rw[e];exact this
 ·have:=Oq (d:=b.2-a.2) h0 h1
  have e:(nX a b t).2-a.2=t*(b.2-a.2):=by unfold nX;grind
  rw[e];exact this
theorem rC{a b:Q}(h1:a.1=b.1)(h2:a.2=b.2):a=b:=Prod.ext h1 h2
theorem wX{n d:Rat}(hd:d≠0):∃t,t*d=n:=⟨n/d,Rat.div_mul_cancel hd⟩
theorem uF{a b:Rat}(h:a*b=0)(ha:a≠0):b=0:=by
 rcases Rat.mul_eq_zero.1 h with h | h
 ·exact absurd h ha
 ·exact h
theorem Il{c d p:Q}(hne:c≠d)(h:cr c d p=0):∃t,p=nX c d t:=by
 unfold cr at h
 by_cases h1:d.1-c.1=0
 ·have h2:d.2-c.2≠0:=fun e=>hne (rC (by grind) (by grind))
  obtain⟨t,ht⟩:=wX (n:=p.2-c.2) h2
  refine⟨t,rC ?_ ?_⟩
  ·show p.1=c.1+t*(d.1-c.1)
   rw[h1] at h ⊢
   have:(d.2-c.2)*(p.1-c.1)=0:=by grind
   have:=uF this h2
   grind
  ·show p.2=c.2+t*(d.2-c.2)
   grind
 ·obtain⟨t,ht⟩:=wX (n:=p.1-c.1) h1
  refine⟨t,rC ?_ ?_⟩
  ·show p.1=c.1+t*(d.1-c.1)
   grind
  ·show p.2=c.2+t*(d.2-c.2)
   have:(d.1-c.1)*(p.2-c.2-t*(d.2-c.2))=0:=by grind
   have:=uF this h1
   grind
theorem Im{d t:Rat}(hd:d≠0)(h:Bt d (t*d)):0≤t∧t≤1:=by
 rcases h with⟨h1,h2⟩ | ⟨h1,h2⟩
 ·have hd0:0<d:=by grind
  refine⟨lP hd0 (by grind),?_⟩
  have:=lP (n:=d) (u:=1-t) hd0 (by grind)
  grind
 ·have hd0:0 < -d:=by grind
  refine⟨lP hd0 (by grind),?_⟩
  have:=lP (n:=-d) (u:=1-t) hd0 (by grind)
  grind
theorem MZ{a b z:Q}(hne:a≠b)(h:On a b z):∃t,0≤t∧t≤1∧z=nX a b t:=by
 obtain⟨h0,h1,h2⟩:=h
 obtain⟨t,rfl⟩:=Il hne h0
 have e1:(nX a b t).1-a.1=t*(b.1-a.1):=by unfold nX;grind
 have e2:(nX a b t).2-a.2=t*(b.2-a.2):=by unfold nX;grind
 rw[e1] at h1
 rw[e2] at h2
 by_cases hx:b.1-a.1=0
 ·have hy:b.2-a.2≠0:=fun e=>hne (rC (by grind) (by grind))
  obtain⟨g1,g2⟩:=Im hy h2
  exact⟨t,g1,g2,rfl⟩
 ·obtain⟨g1,g2⟩:=Im hx h1
  exact⟨t,g1,g2,rfl⟩
theorem JN{a b p:Q}(h:On a b p):On b a p:=by
 obtain⟨h0,h1,h2⟩:=h
 refine⟨by rw[JM,h0];grind,?_,?_⟩
 ·unfold Bt at *;grind
 ·unfold Bt at *;grind
theorem VO{a b c d:Q}(h:jQ a b c d):jQ b a c d:=by
 rcases h with h | h | h | h | h
 ·exact .inl (JN h)
 ·exact .inr (.inl (JN h))
 ·exact .inr (.inr (.inr (.inl h)))
 ·exact .inr (.inr (.inl h))
 ·refine .inr (.inr (.inr (.inr ⟨?_,?_⟩)))
  ·rw[JM a b c,JM a b d];grind
  ·grind
theorem C8{a b c d:Q}(h:jQ a b c d):jQ c d a b:=by
 rcases h with h | h | h | h | h
 ·exact .inr (.inr (.inl h))
 ·exact .inr (.inr (.inr (.inl h)))
 ·exact .inl h
 ·exact .inr (.inl h)
 ·exact .inr (.inr (.inr (.inr ⟨h.2,h.1⟩)))
theorem neg_mul{a b:Rat}(ha:0<a)(hb:b<0):a*b<0:=by
 have:=Rat.mul_pos ha (show (0:Rat) < -b by grind)
 grind
theorem Ot{A B t:Rat}(h0:0≤t)(h1:t≤1)(h:(1-t)*A+t*B=0):A*B<0∨(A=0∧(t=0∨B=0))∨(B=0∧(t=1∨A=0)):=by
 have u0:(0:Rat)≤1-t:=by grind
 by_cases ha:A=0
 ·right;left
  subst ha
  have:t*B=0:=by grind
  exact⟨rfl,Rat.mul_eq_zero.1 this⟩
 by_cases hb:B=0
 ·right;right
  subst hb
  have:(1-t)*A=0:=by grind
  rcases Rat.mul_eq_zero.1 this with h | h
  ·exact⟨rfl,.inl (by grind)⟩
  ·exact⟨rfl,.inr h⟩
 left
 rcases Rat.le_total (a:=0) (b:=A) with pa | pa
 ·have pa':0<A:=by grind
  rcases Rat.le_total (a:=0) (b:=B) with pb | pb
  ·exfalso
   have m1:=Rat.mul_nonneg u0 pa
   have m2:=Rat.mul_nonneg h0 pb
   have z1:(1-t)*A=0:=by grind
   have z2:t*B=0:=by grind
   rcases Rat.mul_eq_zero.1 z1 with z | z
   ·rcases Rat.mul_eq_zero.1 z2 with y | y
    ·grind
    ·exact hb y
   ·exact ha z
  ·exact neg_mul pa' (by grind)
 ·have pa':0 < -A:=by grind
  rcases Rat.le_total (a:=0) (b:=B) with pb | pb
  ·have:=neg_mul (show 0<B by grind) (show A<0 by grind)
   grind
  ·exfalso
   have m1:=Rat.mul_nonneg u0 (show 0≤-A by grind)
   have m2:=Rat.mul_nonneg h0 (show 0≤-B by grind)
   have z1:(1-t)*A=0:=by grind
   have z2:t*B=0:=by grind
   rcases Rat.mul_eq_zero.1 z1 with z | z
   ·rcases Rat.mul_eq_zero.1 z2 with y | y
    ·grind
    ·exact hb y
   ·exact ha z
theorem Ef(a b:Q):nX a b 0=a:=by unfold nX;exact rC (by show a.1+0*_=a.1;grind) (by show a.2+0*_=a.2;grind)
theorem Eg(a b:Q):nX a b 1=b:=by unfold nX;exact rC (by show a.1+1*(b.1-a.1)=b.1;grind) (by show a.2+1*(b.2-a.2)=b.2;grind)
theorem Ao(c d:Q)(x y t:Rat):nX (nX c d x) (nX c d y) t=nX c d (x+t*(y-x)):=by
 unfold nX
 exact rC (by dsimp only;grind) (by dsimp only;grind)
theorem wY{a b c d z:Q}(hab:a≠b)(hcd:c≠d)(ha:cr c d a=0)(hb:cr c d b=0)(h1:On a b z)(h2:On c d z):jQ a b c d:=by
 obtain⟨x,rfl⟩:=Il hcd ha
 obtain⟨y,rfl⟩:=Il hcd hb
 obtain⟨t,t0,t1,ht⟩:=MZ hab h1
 obtain⟨s,s0,s1,hs⟩:=MZ hcd h2
 rw[Ao] at ht
 have e:s=x+t*(y-x):=by
  rw[hs] at ht
  have e1:c.1+s*(d.1-c.1)=c.1+(x+t*(y-x))*(d.1-c.1):=congrArg Prod.fst ht
  have e2:c.2+s*(d.2-c.2)=c.2+(x+t*(y-x))*(d.2-c.2):=congrArg Prod.snd ht
  by_cases hx:d.1-c.1=0
  ·have hy:d.2-c.2≠0:=fun e=>hcd (rC (by grind) (by grind))
   have:=uF (show (d.2-c.2)*(s-(x+t*(y-x)))=0 by grind) hy
   grind
  ·have:=uF (show (d.1-c.1)*(s-(x+t*(y-x)))=0 by grind) hx
   grind
 by_cases hx:0≤x∧x≤1
 ·exact .inr (.inr (.inl (rP hx.1 hx.2)))
 by_cases hy:0≤y∧y≤1
 ·exact .inr (.inr (.inr (.inl (rP hy.1 hy.2))))
 have key:∃r,0≤r∧r≤1∧x+r*(y-x)=0:=by
  have hne:y-x≠0:=by
   intro h
   have:s=x:=by rw[e,h];grind
   exact hx ⟨by grind,by grind⟩
  obtain⟨r,hr⟩:=wX (n:=-x) hne
  refine⟨r,?_,?_,by grind⟩
  ·rcases Rat.le_total (a:=0) (b:=y-x) with p | p
   ·have:0<y-x:=by grind
    refine lP this ?_
    have q:=Rat.mul_nonneg t0 p
    have q2:=Rat.mul_nonneg (show (0:Rat)≤1-t by grind) p
    have:¬(0≤x∧x≤1):=hx
    have:x<0:=by
     rcases Rat.le_total (a:=0) (b:=x) with w | w
     ·exfalso;apply hx;exact⟨w,by grind⟩
     ·by_cases w0:x=0
      ·exfalso;apply hx;subst w0;exact⟨Rat.le_refl,by grind⟩
      ·grind
    grind
   ·have p':0<x-y:=by grind
    have q:=Rat.mul_nonneg t0 (show 0≤x-y by grind)
    have q2:=Rat.mul_nonneg (show (0:Rat)≤1-t by grind) (show 0≤x-y by grind)
    have:1<x:=by
     rcases Rat.le_total (a:=x) (b:=1) with w | w
     ·exfalso;apply hx;exact⟨by grind,w⟩
     ·by_cases w0:x=1
      ·exfalso;apply hx;subst w0;exact⟨by grind,Rat.le_refl⟩
      ·grind
    exact lP p' (by grind)
  ·rcases Rat.le_total (a:=0) (b:=y-x) with p | p
   ·have p':0<y-x:=by grind
    have q:=Rat.mul_nonneg t0 p
    have q2:=Rat.mul_nonneg (show (0:Rat)≤1-t by grind) p
    have:0≤y:=by
     rcases Rat.le_total (a:=0) (b:=y) with w | w
     ·exact w
     ·exfalso;apply hy;exact⟨by grind,by grind⟩
    have:=lP (n:=y-x) (u:=1-r) p' (by grind)
    grind
   ·have p':0<x-y:=by grind
    have q:=Rat.mul_nonneg t0 (show 0≤x-y by grind)
    have q2:=Rat.mul_nonneg (show (0:Rat)≤1-t by grind) (show 0≤x-y by grind)
    have:y≤0:=by
     rcases Rat.le_total (a:=y) (b:=0) with w | w
     ·exact w
     ·exfalso;apply hy;exact⟨w,by grind⟩
    have:=lP (n:=x-y) (u:=1-r) p' (by grind)
    grind
 obtain⟨r,r0,r1,hr⟩:=key
 refine .inl ?_
 have:=rP (a:=nX c d x) (b:=nX c d y) r0 r1
 rw[Ao,hr,Ef] at this
 exact this
theorem VP{a b c d z:Q}(hab:a≠b)(hcd:c≠d)(h1:On a b z)(h2:On c d z):jQ a b c d:=by
 obtain⟨t,t0,t1,ht⟩:=MZ hab h1
 obtain⟨s,s0,s1,hs⟩:=MZ hcd h2
 have e1:(1-t)*cr c d a+t*cr c d b=0:=by rw[←AH,←ht];exact h2.1
 have e2:(1-s)*cr a b c+s*cr a b d=0:=by rw[←AH,←hs];exact h1.1
 rcases Ot t0 t1 e1 with g | ⟨ga,g⟩ | ⟨gb,g⟩
 ·rcases Ot s0 s1 e2 with k | ⟨ka,k⟩ | ⟨kb,k⟩
  ·exact .inr (.inr (.inr (.inr ⟨k,g⟩)))
  ·rcases k with k | k
   ·subst k;rw[Ef] at hs;subst hs;exact .inl h1
   ·exact C8 (wY hcd hab ka k h2 h1)
  ·rcases k with k | k
   ·subst k;rw[Eg] at hs;subst hs;exact .inr (.inl h1)
   ·exact C8 (wY hcd hab k kb h2 h1)
 ·rcases g with g | g
  ·subst g;rw[Ef] at ht;subst ht;exact .inr (.inr (.inl h2))
  ·exact wY hab hcd ga g h1 h2
 ·rcases g with g | g
  ·subst g;rw[Eg] at ht;subst ht;exact .inr (.inr (.inr (.inl h2)))
  ·exact wY hab hcd g gb h1 h2
end Go.Eng.Tg
namespace Go.Eng.Tg
open Go.Eng.Tw
abbrev Ed:=Q×Q
structure Gd (E:List Ed):Prop where
 cvx:∀e∈E,∀f∈E,0≤cr e.1 e.2 f.1
 clo:∀e∈E,∃f∈E,f.1=e.2
 nz:∀e∈E,e.1≠e.2
 up1:∀e∈E,∀f∈E,∀y,e.1.2≤y→y<e.2.2→f.1.2≤y→y<f.2.2→e=f
 dn1:∀e∈E,∀f∈E,∀y,e.2.2≤y→y<e.1.2→f.2.2≤y→y<f.1.2→e=f
 nd:E.Nodup
 top:∃e∈E,∃f∈E,e.1.2<e.2.2∧f.2.2<f.1.2∧(∀g∈E,g.1.2≤e.2.2)∧f.1.2=e.2.2∧((e.2=f.1∧0<cr e.1 e.2 f.2)∨((e.2,f.1)∈E∧f.1.1<e.2.1))
 bot:∃e∈E,∃f∈E,e.2.2<e.1.2∧f.1.2<f.2.2∧(∀g∈E,e.2.2≤g.1.2)∧f.1.2=e.2.2∧((e.2=f.1∧0<cr e.1 e.2 f.2)∨((e.2,f.1)∈E∧e.2.1<f.1.1))
 str:∀y,(∃g∈E,g.1.2≤y)→(∃g∈E,y<g.1.2)→(∃e∈E,e.1.2≤y∧y<e.2.2)∧∃e∈E,e.2.2≤y∧y<e.1.2
def W(E:List Ed)(z:Q):Prop:=∀e∈E,0≤cr e.1 e.2 z
def H(E:List Ed)(z:Q):Prop:=∀e∈E,0<cr e.1 e.2 z
def yE(E:List Ed)(z:Q):Prop:=∃e∈E,On e.1 e.2 z
theorem H.w{E:List Ed}{z:Q}(h:H E z):W E z:=fun e he=>Rat.le_of_lt (h e he)
theorem H.off{E:List Ed}{z:Q}(h:H E z):¬yE E z:=fun⟨e,he,ho⟩=>by
 have:=h e he
 rw[ho.1] at this
 exact absurd this (by decide)
variable {E:List Ed}
theorem Gd.cvx2(h:Gd E){e f:Ed}(he:e∈E)(hf:f∈E):0≤cr e.1 e.2 f.2:=by
 obtain⟨g,hg,e2⟩:=h.clo f hf
 rw[←e2];exact h.cvx e he g hg
theorem In{e:Ed}{y:Rat}(h1:e.1.2≤y)(h2:y<e.2.2):∃t,0≤t∧t<1∧(nX e.1 e.2 t).2=y:=by
 obtain⟨t,ht⟩:=wX (n:=y-e.1.2) (d:=e.2.2-e.1.2) (by grind)
 refine⟨t,lP (n:=e.2.2-e.1.2) (by grind) (by grind),?_,by unfold nX;grind⟩
 rcases Rat.le_total (a:=1) (b:=t) with h | h
 ·exfalso
  have:=Rat.mul_nonneg (show 0≤t-1 by grind) (show 0≤e.2.2-e.1.2 by grind)
  grind
 ·by_cases e1:t=1
  ·subst e1;grind
  ·grind
theorem Qt{e:Ed}{y:Rat}(h1:e.2.2≤y)(h2:y<e.1.2):∃t,0<t∧t≤1∧(nX e.1 e.2 t).2=y:=by
 obtain⟨t,t0,t1,ht⟩:=In (e:=(e.2,e.1)) h1 h2
 refine⟨1-t,by grind,by grind,?_⟩
 unfold nX at *
 dsimp only at *
 grind
theorem YF(a b:Q){z u:Q}(h:u.2=z.2)(hu:cr a b u=0):cr a b z=(b.2-a.2)*(u.1-z.1):=by unfold cr at *;grind
theorem M0(a b:Q)(t:Rat):cr a b (nX a b t)=0:=by unfold cr nX;grind
theorem Io{a b x y:Q}{t:Rat}(h0:0≤t)(h1:t≤1)(hx:0≤cr a b x)(hy:0≤cr a b y):0≤cr a b (nX x y t):=by
 rw[AH]
 have m1:=Rat.mul_nonneg (show 0≤1-t by grind) hx
 have m2:=Rat.mul_nonneg h0 hy
 grind
structure Lv (E:List Ed) (z:Q) (e f:Ed) (u d:Q):Prop where
 he:e∈E
 hf:f∈E
 u1:e.1.2≤z.2
 u2:z.2<e.2.2
 d1:f.2.2≤z.2
 d2:z.2<f.1.2
 hu:∃t,0≤t∧t<1∧u=nX e.1 e.2 t
 hd:∃t,0<t∧t≤1∧d=nX f.1 f.2 t
 yu:u.2=z.2
 yd:d.2=z.2
theorem Ou{e f:Ed}{z:Q}(he:e∈E)(hf:f∈E)(u1:e.1.2≤z.2)(u2:z.2<e.2.2)(d1:f.2.2≤z.2)(d2:z.2<f.1.2):∃u d,Lv E z e f u d:=by
 obtain⟨t,t0,t1,ht⟩:=In u1 u2
 obtain⟨s,s0,s1,hs⟩:=Qt d1 d2
 exact⟨_,_,he,hf,u1,u2,d1,d2,⟨t,t0,t1,rfl⟩,⟨s,s0,s1,rfl⟩,ht,hs⟩
section
variable {z u d:Q} {e f:Ed}
theorem Lv.cu(h:Lv E z e f u d):cr e.1 e.2 z=(e.2.2-e.1.2)*(u.1-z.1):=by
 obtain⟨t,_,_,rfl⟩:=h.hu
 exact YF _ _ h.yu (M0 _ _ _)
theorem Lv.cd(h:Lv E z e f u d):cr f.1 f.2 z=(f.1.2-f.2.2)*(z.1-d.1):=by
 obtain⟨t,_,_,rfl⟩:=h.hd
 have:=YF f.1 f.2 h.yd (M0 _ _ _)
 grind
theorem Lv.onu(h:Lv E z e f u d):On e.1 e.2 u:=by
 obtain⟨t,t0,t1,rfl⟩:=h.hu
 exact rP t0 (Rat.le_of_lt t1)
theorem Lv.ond(h:Lv E z e f u d):On f.1 f.2 d:=by
 obtain⟨t,t0,t1,rfl⟩:=h.hd
 exact rP (Rat.le_of_lt t0) t1
theorem Lv.wu(h:Lv E z e f u d)(hG:Gd E):W E u:=fun g hg=>by
 obtain⟨t,t0,t1,rfl⟩:=h.hu
 exact Io t0 (Rat.le_of_lt t1) (hG.cvx g hg e h.he) (hG.cvx2 hg h.he)
theorem Lv.wd(h:Lv E z e f u d)(hG:Gd E):W E d:=fun g hg=>by
 obtain⟨t,t0,t1,rfl⟩:=h.hd
 exact Io (Rat.le_of_lt t0) t1 (hG.cvx g hg f h.hf) (hG.cvx2 hg h.hf)
theorem Lv.pu(h:Lv E z e f u d):(0<cr e.1 e.2 z↔z.1<u.1)∧(cr e.1 e.2 z<0↔u.1<z.1):=by
 have a:=h.cu
 have b:0<e.2.2-e.1.2:=by have:=h.u1;have:=h.u2;grind
 rw[a]
 constructor
 ·constructor
  ·intro hp
   rcases Rat.le_total (a:=u.1) (b:=z.1) with g | g
   ·exfalso
    have:=Rat.mul_nonneg (Rat.le_of_lt b) (show 0≤z.1-u.1 by grind)
    grind
   ·by_cases e1:z.1=u.1
    ·rw[e1] at hp;exfalso;grind
    ·grind
  ·intro hp;exact Rat.mul_pos b (by grind)
 ·constructor
  ·intro hp
   rcases Rat.le_total (a:=u.1) (b:=z.1) with g | g
   ·by_cases e1:z.1=u.1
    ·rw[e1] at hp;exfalso;grind
    ·grind
   ·exfalso
    have:=Rat.mul_nonneg (Rat.le_of_lt b) (show 0≤u.1-z.1 by grind)
    grind
  ·intro hp;exact neg_mul b (by grind)
theorem Lv.pd(h:Lv E z e f u d):(0<cr f.1 f.2 z↔d.1<z.1)∧(cr f.1 f.2 z<0↔z.1<d.1):=by
 have a:=h.cd
 have b:0<f.1.2-f.2.2:=by have:=h.d1;have:=h.d2;grind
 rw[a]
 constructor
 ·constructor
  ·intro hp
   rcases Rat.le_total (a:=z.1) (b:=d.1) with g | g
   ·exfalso
    have:=Rat.mul_nonneg (Rat.le_of_lt b) (show 0≤d.1-z.1 by grind)
    grind
   ·by_cases e1:z.1=d.1
    ·rw[e1] at hp;exfalso;grind
    ·grind
  ·intro hp;exact Rat.mul_pos b (by grind)
 ·constructor
  ·intro hp
   rcases Rat.le_total (a:=z.1) (b:=d.1) with g | g
   ·by_cases e1:z.1=d.1
    ·rw[e1] at hp;exfalso;grind
    ·grind
   ·exfalso
    have:=Rat.mul_nonneg (Rat.le_of_lt b) (show 0≤z.1-d.1 by grind)
    grind
  ·intro hp;exact neg_mul b (by grind)
theorem Lv.zu(h:Lv E z e f u d)(h0:cr e.1 e.2 z=0):z=u:=by
 have a:=h.cu
 have b:e.2.2-e.1.2≠0:=by have:=h.u1;have:=h.u2;grind
 rw[h0] at a
 have:=uF a.symm b
 exact rC (by grind) h.yu.symm
theorem Lv.zd(h:Lv E z e f u d)(h0:cr f.1 f.2 z=0):z=d:=by
 have a:=h.cd
 have b:f.1.2-f.2.2≠0:=by have:=h.d1;have:=h.d2;grind
 rw[h0] at a
 have:=uF a.symm b
 exact rC (by grind) h.yd.symm
theorem Lv.ord(h:Lv E z e f u d)(hG:Gd E):d.1≤u.1:=by
 have h1:=h.wd hG e h.he
 obtain⟨t,t0,t1,ht⟩:=h.hu
 have h2:=YF e.1 e.2 (z:=d) (u:=u) (by rw[h.yu,h.yd]) (by rw[ht];exact M0 _ _ _)
 have b:0<e.2.2-e.1.2:=by have:=h.u1;have:=h.u2;grind
 rw[h2] at h1
 have:=lP b h1
 grind
theorem Lv.inH(h:Lv E z e f u d)(hG:Gd E)(h1:d.1<z.1)(h2:z.1<u.1)(hoff:¬yE E z):H E z:=by
 intro g hg
 have wu:=h.wu hG g hg
 have wd:=h.wd hG g hg
 obtain⟨t,ht⟩:=wX (n:=z.1-d.1) (d:=u.1-d.1) (by grind)
 have hz:z=nX d u t:=by
  unfold nX
  refine rC (by dsimp only;grind) ?_
  dsimp only
  rw[h.yd,h.yu];grind
 have pos:0<u.1-d.1:=by grind
 have t0:0<t:=by
  rcases Rat.le_total (a:=t) (b:=0) with g | g
  ·have:=Rat.mul_nonneg (show 0≤-t by grind) (Rat.le_of_lt pos);grind
  ·by_cases e1:t=0
   ·subst e1;grind
   ·grind
 have t1:0<1-t:=by
  rcases Rat.le_total (a:=1) (b:=t) with g | g
  ·have:=Rat.mul_nonneg (show 0≤t-1 by grind) (Rat.le_of_lt pos);grind
  ·by_cases e1:t=1
   ·subst e1;grind
   ·grind
 have hc:=AH g.1 g.2 d u t
 rw[←hz] at hc
 have m1:=Rat.mul_nonneg (Rat.le_of_lt t1) wd
 have m2:=Rat.mul_nonneg (Rat.le_of_lt t0) wu
 by_cases h0:cr g.1 g.2 z=0
 ·exfalso
  have z1:(1-t)*cr g.1 g.2 d=0:=by grind
  have z2:t*cr g.1 g.2 u=0:=by grind
  have y1:=uF z1 (by grind)
  have y2:=uF z2 (by grind)
  have lv:g.2.2-g.1.2=0:=by
   have:(u.1-d.1)*(g.2.2-g.1.2)=0:=by
    have a1:=h.yu
    have a2:=h.yd
    unfold cr at y1 y2
    grind
   exact uF this (by grind)
  have nx:g.2.1-g.1.1≠0:=fun e0=>hG.nz g hg (rC (by grind) (by grind))
  have zy:z.2=g.1.2:=by
   have:(g.2.1-g.1.1)*(z.2-g.1.2)=0:=by unfold cr at h0;rw[lv] at h0;grind
   have:=uF this nx
   grind
  have all:∀w∈E,0≤(g.2.1-g.1.1)*(w.1.2-z.2):=fun w hw=>by
   have:=hG.cvx g hg w hw
   unfold cr at this
   rw[lv,Rat.zero_mul] at this
   rw[zy]
   grind
  rcases Rat.le_total (a:=0) (b:=g.2.1-g.1.1) with s | s
  ·have s':0<g.2.1-g.1.1:=by grind
   have low:∀w∈E,z.2≤w.1.2:=fun w hw=>by have:=lP s' (all w hw);grind
   obtain⟨e',he',f',hf',b1,b2,b3,b4,b5⟩:=hG.bot
   have q1:=b3 g hg
   have q2:z.2≤e'.2.2:=by rw[←b4];exact low f' hf'
   have ze:e'.2.2=z.2:=by grind
   have ef:=hG.dn1 e' he' f h.hf z.2 (by grind) (by grind) h.d1 h.d2
   have fe:=hG.up1 f' hf' e h.he z.2 (by grind) (by grind) h.u1 h.u2
   subst ef;subst fe
   have dd:d=e'.2:=by
    obtain⟨s1,s2,s3,s4⟩:=h.hd
    have a:(nX e'.1 e'.2 s1).2=e'.2.2:=by rw[←s4,h.yd,ze]
    have:(e'.1.2-e'.2.2)*(1-s1)=0:=by unfold nX at a;dsimp only at a;grind
    have:=uF this (by grind)
    have:s1=1:=by grind
    rw[s4,this,Eg]
   have uu:u=f'.1:=by
    obtain⟨s1,s2,s3,s4⟩:=h.hu
    have a:(nX f'.1 f'.2 s1).2=f'.1.2:=by rw[←s4,h.yu,b4,ze]
    have:(f'.2.2-f'.1.2)*s1=0:=by unfold nX at a;dsimp only at a;grind
    have:=uF this (by grind)
    rw[s4,this,Ef]
   rcases b5 with⟨b5,_⟩ | ⟨b5,_⟩
   ·rw[dd,uu,b5] at pos;grind
   ·refine hoff ⟨_,b5,?_⟩
    dsimp only
    rw[←dd,←uu,hz]
    exact rP (by grind) (by grind)
  ·have s':0<g.1.1-g.2.1:=by grind
   obtain⟨w,hw,e2⟩:=hG.clo e h.he
   have:=all w hw
   rw[e2] at this
   have q:=lP (n:=g.1.1-g.2.1) (u:=z.2-e.2.2) s' (by grind)
   have:=h.u2
   grind
 ·grind
end
theorem Gd.core(hG:Gd E){z:Q}(hw:W E z)(hoff:¬yE E z):∃e f u d,Lv E z e f u d∧d.1<z.1∧z.1<u.1:=by
 by_cases h1:∃g∈E,g.1.2≤z.2
 ·by_cases h2:∃g∈E,z.2<g.1.2
  ·obtain⟨⟨e,he,u1,u2⟩,f,hf,d1,d2⟩:=hG.str z.2 h1 h2
   obtain⟨u,d,hl⟩:=Ou he hf u1 u2 d1 d2
   refine⟨e,f,u,d,hl,hl.pd.1.1 ?_,hl.pu.1.1 ?_⟩
   ·have:=hw f hf
    by_cases h0:cr f.1 f.2 z=0
    ·exfalso
     have:=hl.zd h0
     exact hoff ⟨f,hf,by rw[this];exact hl.ond⟩
    ·grind
   ·have:=hw e he
    by_cases h0:cr e.1 e.2 z=0
    ·exfalso
     have:=hl.zu h0
     exact hoff ⟨e,he,by rw[this];exact hl.onu⟩
    ·grind
  ·-- above all
   exfalso
   have hall:∀g∈E,g.1.2≤z.2:=fun g hg=>by
    rcases Rat.le_total (a:=g.1.2) (b:=z.2) with q | q
    ·exact q
    ·by_cases e1:g.1.2=z.2
     ·grind
     ·exact absurd ⟨g,hg,by grind⟩ h2
   obtain⟨e,he,f,hf,a1,a2,a3,a4,a5⟩:=hG.top
   have we:=hw e he
   have wf:=hw f hf
   have zt:e.2.2≤z.2:=by rw[←a4];exact hall f hf
   rcases a5 with⟨a5,a6⟩ | ⟨a5,a6⟩
   ·-- one top
    rw[←a5] at wf a2
    obtain⟨f1,f2⟩:=f
    dsimp only at *
    subst a5
    have id:(e.2.2-e.1.2)*cr e.2 f2 z+(e.2.2-f2.2)*cr e.1 e.2 z=-((z.2-e.2.2)*cr e.1 e.2 f2):=by unfold cr;grind
    have m1:=Rat.mul_nonneg (show 0≤e.2.2-e.1.2 by grind) wf
    have m2:=Rat.mul_nonneg (show 0≤e.2.2-f2.2 by grind) we
    have m3:=Rat.mul_nonneg (show 0≤z.2-e.2.2 by grind) (Rat.le_of_lt a6)
    have z1:(e.2.2-e.1.2)*cr e.2 f2 z=0:=by grind
    have z2:(e.2.2-f2.2)*cr e.1 e.2 z=0:=by grind
    have z3:(z.2-e.2.2)*cr e.1 e.2 f2=0:=by grind
    have y2:=uF z2 (by grind)
    have zy:z.2=e.2.2:=by
     rcases Rat.mul_eq_zero.1 z3 with q | q
     ·grind
     ·rw[q] at a6;exact absurd a6 (by decide)
    have zx:z.1=e.2.1:=by
     have:(e.2.2-e.1.2)*(e.2.1-z.1)=0:=by unfold cr at y2;grind
     have:=uF this (by grind)
     grind
    refine hoff ⟨e,he,?_⟩
    rw[rC zx zy]
    have:=rP (a:=e.1) (b:=e.2) (t:=1) (by decide) (by decide)
    rw[Eg] at this
    exact this
   ·-- a level top
    have wg:=hw _ a5
    dsimp only at wg
    have zy:z.2=e.2.2:=by
     have:0≤(e.2.1-f.1.1)*(e.2.2-z.2):=by unfold cr at wg;rw[a4] at wg;grind
     have:=lP (n:=e.2.1-f.1.1) (by grind) this
     grind
    have x1:z.1≤e.2.1:=by
     have:0≤(e.2.2-e.1.2)*(e.2.1-z.1):=by have w:=we;unfold cr at w;rw[zy] at w;grind
     have:=lP (n:=e.2.2-e.1.2) (by grind) this
     grind
    have x2:f.1.1≤z.1:=by
     have:0≤(f.1.2-f.2.2)*(z.1-f.1.1):=by have w:=wf;unfold cr at w;rw[zy,←a4,Rat.sub_self,Rat.mul_zero] at w;grind
     have:=lP (n:=f.1.2-f.2.2) (by grind) this
     grind
    refine hoff ⟨_,a5,?_⟩
    dsimp only
    refine⟨by unfold cr;grind,.inr ⟨by grind,by grind⟩,?_⟩
    have e1:f.1.2-e.2.2=0:=by grind
    have e2:z.2-e.2.2=0:=by grind
    rw[e1,e2]
    exact .inl ⟨Rat.le_refl,Rat.le_refl⟩
 ·-- below all
  exfalso
  have hall:∀g∈E,z.2<g.1.2:=fun g hg=>by
   rcases Rat.le_total (a:=g.1.2) (b:=z.2) with q | q
   ·exact absurd ⟨g,hg,q⟩ h1
   ·by_cases e1:g.1.2=z.2
    ·exact absurd ⟨g,hg,by grind⟩ h1
    ·grind
  obtain⟨e,he,f,hf,a1,a2,a3,a4,a5⟩:=hG.bot
  have we:=hw e he
  have wf:=hw f hf
  have zt:z.2<e.2.2:=by rw[←a4];exact hall f hf
  rcases a5 with⟨a5,a6⟩ | ⟨a5,a6⟩
  ·rw[←a5] at wf a2
   obtain⟨f1,f2⟩:=f
   dsimp only at *
   subst a5
   have id:(e.1.2-e.2.2)*cr e.2 f2 z+(f2.2-e.2.2)*cr e.1 e.2 z=-((e.2.2-z.2)*cr e.1 e.2 f2):=by unfold cr;grind
   have m1:=Rat.mul_nonneg (show 0≤e.1.2-e.2.2 by grind) wf
   have m2:=Rat.mul_nonneg (show 0≤f2.2-e.2.2 by grind) we
   have m3:=Rat.mul_pos (show 0<e.2.2-z.2 by grind) a6
   grind
  ·have wg:=hw _ a5
   dsimp only at wg
   have:(f.1.1-e.2.1)*(z.2-e.2.2)<0:=neg_mul (by grind) (by grind)
   unfold cr at wg
   rw[a4] at wg
   grind
theorem Gd.w_cases(hG:Gd E){z:Q}(hw:W E z):yE E z∨H E z:=by
 by_cases ho:yE E z
 ·exact .inl ho
 ·obtain⟨e,f,u,d,hl,h1,h2⟩:=hG.core hw ho
  exact .inr (hl.inH hG h1 h2 ho)
end Go.Eng.Tg
namespace Go.Eng.Tg
open Go.Eng.Tw
variable {E F:List Ed}
open Classical in
noncomputable def we(p:Q)(e:Ed):Int:=
 if e.1.2≤p.2∧p.2<e.2.2∧0<cr e.1 e.2 p then 1 else if e.2.2≤p.2∧p.2<e.1.2∧cr e.1 e.2 p<0 then -1 else 0
noncomputable def wd(E:List Ed)(p:Q):Int:=(E.map (we p)).sum
theorem FC(p:Q):∀{l:List Ed},(∀e∈l,we p e=0)→(l.map (we p)).sum=0
 | [],_=>rfl
 | a::l,h=>by
  rw[List.map_cons,List.sum_cons,h a (List.mem_cons_self ..),FC p fun e he=>h e (List.mem_cons_of_mem _ he)];rfl
theorem ST(p:Q):∀{l:List Ed} {a:Ed},l.Nodup→a∈l→(∀e∈l,e≠a→we p e=0)→(l.map (we p)).sum=we p a
 | [],a,_,ha,_=>by cases ha
 | b::l,a,hn,ha,h=>by
  rw[List.nodup_cons] at hn
  rw[List.map_cons,List.sum_cons]
  by_cases hb:b=a
  ·subst hb
   rw[FC p fun e he=>h e (List.mem_cons_of_mem _ he) fun e0=>hn.1 (e0▸he)];omega
  ·rcases List.mem_cons.1 ha with ha | ha
   ·exact absurd ha.symm hb
   ·rw[h b (List.mem_cons_self ..) hb,ST p hn.2 ha fun e he=>h e (List.mem_cons_of_mem _ he)];omega
theorem Ap(p:Q):∀{l:List Ed} {a b:Ed},l.Nodup→a∈l→b∈l→a≠b→(∀e∈l,e≠a→e≠b→we p e=0)→(l.map (we p)).sum=we p a+we p b
 | [],a,_,_,ha,_,_,_=>by cases ha
 | c::l,a,b,hn,ha,hb,hab,h=>by
  rw[List.nodup_cons] at hn
  rw[List.map_cons,List.sum_cons]
  by_cases hc:c=a
  ·subst hc
   rcases List.mem_cons.1 hb with hb | hb
   ·exact absurd hb.symm hab
   ·rw[ST p hn.2 hb fun e he e1=>h e (List.mem_cons_of_mem _ he) (fun e0=>hn.1 (e0▸he)) e1]
  ·by_cases hc2:c=b
   ·subst hc2
    rcases List.mem_cons.1 ha with ha | ha
    ·exact absurd ha hab
    ·rw[ST p hn.2 ha fun e he e1=>h e (List.mem_cons_of_mem _ he) e1 (fun e0=>hn.1 (e0▸he))];omega
   ·rcases List.mem_cons.1 ha with ha | ha
    ·exact absurd ha.symm hc
    ·rcases List.mem_cons.1 hb with hb | hb
     ·exact absurd hb.symm hc2
     ·rw[h c (List.mem_cons_self ..) hc hc2,Ap p hn.2 ha hb hab fun e he=>h e (List.mem_cons_of_mem _ he)];omega
theorem GP{a b:Rat}(h:¬a≤b):b<a:=by grind
theorem P6{a b:Rat}(h:¬a<b):b≤a:=by grind
theorem Gd.wind(hG:Gd E){p:Q}(ho:¬yE E p):(H E p→wd E p=1)∧(¬H E p→wd E p=0):=by
 by_cases h1:∃g∈E,g.1.2≤p.2
 ·by_cases h2:∃g∈E,p.2<g.1.2
  ·obtain⟨⟨e,he,u1,u2⟩,f,hf,d1,d2⟩:=hG.str p.2 h1 h2
   obtain⟨u,d,hl⟩:=Ou he hf u1 u2 d1 d2
   have hne:e≠f:=fun e0=>by subst e0;grind
   have hsum:wd E p=we p e+we p f:=Ap p hG.nd he hf hne fun g hg g1 g2=>by
    unfold we
    rw[if_neg fun⟨a,b,_⟩=>g1 (hG.up1 g hg e he p.2 a b u1 u2),if_neg fun⟨a,b,_⟩=>g2 (hG.dn1 g hg f hf p.2 a b d1 d2)]
   have n1:¬p.2<f.2.2:=by grind
   have n2:¬p.2<e.1.2:=by grind
   have hwe:we p e=if 0<cr e.1 e.2 p then 1 else 0:=by
    unfold we
    by_cases c:0<cr e.1 e.2 p
    ·rw[if_pos ⟨u1,u2,c⟩,if_pos c]
    ·rw[if_neg fun h=>c h.2.2,if_neg fun h=>n2 h.2.1,if_neg c]
   have hwf:we p f=if cr f.1 f.2 p<0 then -1 else 0:=by
    unfold we
    rw[if_neg fun h=>n1 h.2.1]
    by_cases c:cr f.1 f.2 p<0
    ·rw[if_pos ⟨d1,d2,c⟩,if_pos c]
    ·rw[if_neg fun h=>c h.2.2,if_neg c]
   rw[hsum,hwe,hwf]
   constructor
   ·intro hH
    rw[if_pos (hH e he),if_neg (by have:=hH f hf;grind)];rfl
   ·intro hH
    have c1:cr e.1 e.2 p≠0:=fun h0=>ho ⟨e,he,by rw[hl.zu h0];exact hl.onu⟩
    have c2:cr f.1 f.2 p≠0:=fun h0=>ho ⟨f,hf,by rw[hl.zd h0];exact hl.ond⟩
    by_cases c:0<cr e.1 e.2 p
    ·rw[if_pos c]
     by_cases c':cr f.1 f.2 p<0
     ·rw[if_pos c'];rfl
     ·exfalso
      exact hH (hl.inH hG (hl.pd.1.1 (by grind)) (hl.pu.1.1 c) ho)
    ·rw[if_neg c]
     by_cases c':cr f.1 f.2 p<0
     ·exfalso
      have a1:=hl.pu.2.1 (by grind)
      have a2:=hl.pd.2.1 c'
      have a3:=hl.ord hG
      grind
     ·rw[if_neg c'];rfl
  ·have hall:∀g∈E,g.1.2≤p.2:=fun g hg=>P6 fun c=>h2 ⟨g,hg,c⟩
   have h0:wd E p=0:=FC p fun e he=>by
    obtain⟨f,hf,e2⟩:=hG.clo e he
    have a1:=hall e he
    have a2:=hall f hf
    rw[e2] at a2
    unfold we
    rw[if_neg (by grind),if_neg (by grind)]
   refine⟨fun hH=>?_,fun _=>h0⟩
   obtain⟨e,f,u,d,hl,_,_⟩:=hG.core hH.w ho
   have:=hall f hl.hf
   have:=hl.d2
   grind
 ·have hall:∀g∈E,p.2<g.1.2:=fun g hg=>GP fun c=>h1 ⟨g,hg,c⟩
  have h0:wd E p=0:=FC p fun e he=>by
   obtain⟨f,hf,e2⟩:=hG.clo e he
   have a1:=hall e he
   have a2:=hall f hf
   rw[e2] at a2
   unfold we
   rw[if_neg (by grind),if_neg (by grind)]
  refine⟨fun hH=>?_,fun _=>h0⟩
  obtain⟨e,f,u,d,hl,_,_⟩:=hG.core hH.w ho
  have:=hall e hl.he
  have:=hl.u1
  grind
theorem Aq{α:Type}(m:α→Rat):∀(l:List α),l≠[]→∃a∈l,∀b∈l,m a≤m b
 | [],h=>absurd rfl h
 | [a],_=>⟨a,List.mem_cons_self ..,fun b hb=>by rw[List.mem_singleton.1 hb];exact Rat.le_refl⟩
 | a::b::l,_=>by
  obtain⟨c,hc,h⟩:=Aq m (b::l) (by simp)
  rcases Rat.le_total (a:=m a) (b:=m c) with q | q
  ·exact⟨a,List.mem_cons_self ..,fun d hd=>by
    rcases List.mem_cons.1 hd with hd | hd
    ·rw[hd];exact Rat.le_refl
    ·exact Rat.le_trans q (h d hd)⟩
  ·exact⟨c,List.mem_cons_of_mem _ hc,fun d hd=>by
    rcases List.mem_cons.1 hd with hd | hd
    ·rw[hd];exact q
    ·exact h d hd⟩
theorem Gd.exit(hG:Gd E){x y:Q}(hx:H E x)(hy:¬H E y):∃t e,0<t∧t≤1∧e∈E∧On e.1 e.2 (nX x y t):=by
 have hne:∃e∈E,cr e.1 e.2 y≤0:=by
  apply Classical.byContradiction
  intro hc
  exact hy fun e he=>GP fun c=>hc ⟨e,he,c⟩
 open Classical in
 obtain⟨e0,he0,hmin⟩:=Aq (fun e:Ed=>cr e.1 e.2 x/(cr e.1 e.2 x-cr e.1 e.2 y)) (E.filter fun e=>decide (cr e.1 e.2 y≤0)) (by
  intro hc
  obtain⟨e,he,h⟩:=hne
  have:e∈E.filter fun e=>decide (cr e.1 e.2 y≤0):=List.mem_filter.2 ⟨he,decide_eq_true h⟩
  rw[hc] at this
  cases this)
 obtain⟨he0',hd⟩:=List.mem_filter.1 he0
 have h0:=of_decide_eq_true hd
 have p0:=hx e0 he0'
 obtain⟨t,ht⟩:∃t,t=cr e0.1 e0.2 x/(cr e0.1 e0.2 x-cr e0.1 e0.2 y):=⟨_,rfl⟩
 have htm:t*(cr e0.1 e0.2 x-cr e0.1 e0.2 y)=cr e0.1 e0.2 x:=by rw[ht];exact Rat.div_mul_cancel (by grind)
 have t0:0<t:=by
  rcases Rat.le_total (a:=t) (b:=0) with q | q
  ·exfalso
   have:=Rat.mul_nonneg (show 0≤-t by grind) (show 0≤cr e0.1 e0.2 x-cr e0.1 e0.2 y by grind)
   grind
  ·by_cases e1:t=0
   ·rw[e1] at htm;grind
   ·grind
 have t1:t≤1:=by
  rcases Rat.le_total (a:=t) (b:=1) with q | q
  ·exact q
  ·have:=Rat.mul_nonneg (show 0≤t-1 by grind) (show 0≤cr e0.1 e0.2 x-cr e0.1 e0.2 y by grind)
   by_cases e1:t=1
   ·rw[e1];exact Rat.le_refl
   ·exfalso
    have:=Rat.mul_pos (show 0<t-1 by grind) (show 0<cr e0.1 e0.2 x-cr e0.1 e0.2 y by grind)
    grind
 have hW:W E (nX x y t):=fun e he=>by
  rw[AH]
  have px:=hx e he
  by_cases c:cr e.1 e.2 y≤0
  ·have:=hmin e (List.mem_filter.2 ⟨he,decide_eq_true c⟩)
   rw[←ht] at this
   have hm:cr e.1 e.2 x/(cr e.1 e.2 x-cr e.1 e.2 y)*(cr e.1 e.2 x-cr e.1 e.2 y)=cr e.1 e.2 x:=Rat.div_mul_cancel (by grind)
   have:=Rat.mul_nonneg (show 0≤cr e.1 e.2 x/(cr e.1 e.2 x-cr e.1 e.2 y)-t by grind) (show 0≤cr e.1 e.2 x-cr e.1 e.2 y by grind)
   grind
  ·have m1:=Rat.mul_nonneg (show 0≤1-t by grind) (Rat.le_of_lt px)
   have m2:=Rat.mul_nonneg (Rat.le_of_lt t0) (show 0≤cr e.1 e.2 y by grind)
   grind
 rcases hG.w_cases hW with⟨e,he,ho⟩ | hH
 ·exact⟨t,e,t0,t1,he,ho⟩
 ·exfalso
  have:=hH e0 he0'
  rw[AH] at this
  grind
def Apart(E F:List Ed):Prop:=∀e∈E,∀f∈F,¬jQ e.1 e.2 f.1 f.2
theorem Apart.symm(h:Apart E F):Apart F E:=fun f hf e he hm=>h e he f hf (C8 hm)
theorem Vj(hF:Gd F)(hA:Apart E F)(hE:Gd E){e:Ed}(he:e∈E)(h:H F e.1):H F e.2:=by
 apply Classical.byContradiction
 intro hc
 obtain⟨t,f,t0,t1,hf,ho⟩:=hF.exit h hc
 exact hA e he f hf (VP (hE.nz e he) (hF.nz f hf) (rP (Rat.le_of_lt t0) t1) ho)
def Mr(E:List Ed):Prop:=∀P:Q→Prop,(∀e∈E,P e.1→P e.2)→∀e∈E,∀f∈E,P e.1→P f.1
theorem YG(hF:Gd F)(hA:Apart E F)(hE:Gd E)(hC:Mr E){e:Ed}(he:e∈E)(h:H F e.1):∀f∈E,H F f.1:=
 fun f hf=>hC (H F) (fun g hg=>Vj hF hA hE hg) e he f hf h
theorem Tx(hE:Gd E)(hF:Gd F)(h:∀e∈E,H F e.1){p:Q}(hp:H E p):H F p:=by
 obtain⟨e,f,u,d,hl,h1,h2⟩:=hE.core hp.w hp.off
 have pm:∀{x y:Q} {t:Rat},0≤t→t≤1→H F x→H F y→H F (nX x y t):=fun {x y t} t0 t1 hx hy g hg=>by
  rw[AH]
  have m1:=hx g hg
  have m2:=hy g hg
  have n1:=Rat.mul_nonneg (show 0≤1-t by grind) (Rat.le_of_lt m1)
  have n2:=Rat.mul_nonneg t0 (Rat.le_of_lt m2)
  by_cases e1:t=0
  ·subst e1;grind
  ·have:=Rat.mul_pos (show 0<t by grind) m2
   grind
 have h2':∀g∈E,H F g.2:=fun g hg=>by
  obtain⟨k,hk,e2⟩:=hE.clo g hg
  rw[←e2];exact h k hk
 have hu:H F u:=by
  obtain⟨t,t0,t1,e1⟩:=hl.hu
  rw[e1];exact pm t0 (Rat.le_of_lt t1) (h e hl.he) (h2' e hl.he)
 have hd:H F d:=by
  obtain⟨t,t0,t1,e1⟩:=hl.hd
  rw[e1];exact pm (Rat.le_of_lt t0) t1 (h f hl.hf) (h2' f hl.hf)
 obtain⟨t,ht⟩:=wX (n:=p.1-d.1) (d:=u.1-d.1) (by grind)
 have hz:p=nX d u t:=by
  unfold nX
  refine rC (by dsimp only;grind) ?_
  dsimp only
  rw[hl.yd,hl.yu];grind
 have pos:0<u.1-d.1:=by grind
 have t0:0≤t:=lP pos (by grind)
 have t1:t≤1:=by have:=lP (u:=1-t) pos (by grind);grind
 rw[hz]
 exact pm t0 t1 hd hu
theorem Qu(hE:Gd E)(hF:Gd F)(hA:Apart E F)(cE:Mr E)(cF:Mr F){p:Q}(h1:H E p)(h2:H F p):(∀e∈E,H F e.1)∨∀f∈F,H E f.1:=by
 apply Classical.byContradiction
 intro hc
 have c1:∀e∈E,¬H F e.1:=fun e he h=>hc (.inl (YG hF hA hE cE he h))
 have c2:∀f∈F,¬H E f.1:=fun f hf h=>hc (.inr (YG hE hA.symm hF cF hf h))
 obtain⟨e0,he0,_⟩:=hE.top
 obtain⟨t,f,t0,t1,hf,ho⟩:=hF.exit h2 (c1 e0 he0)
 by_cases e1:t=1
 ·subst e1
  rw[Eg] at ho
  exact hA e0 he0 f hf (.inr (.inr (.inl ho)))
 ·have hz:H E (nX p e0.1 t):=fun g hg=>by
   rw[AH]
   have m1:=Rat.mul_pos (show 0<1-t by grind) (h1 g hg)
   have m2:=Rat.mul_nonneg (Rat.le_of_lt t0) (hE.cvx g hg e0 he0)
   grind
  obtain⟨s,g,s0,s1,hg,ho2⟩:=hE.exit hz (c2 f hf)
  obtain⟨r,r0,r1,er⟩:=MZ (hF.nz f hf) ho
  have e2:nX (nX p e0.1 t) f.1 s=nX f.1 f.2 (r*(1-s)):=by
   rw[er]
   unfold nX
   exact rC (by dsimp only;grind) (by dsimp only;grind)
  have b0:0≤r*(1-s):=Rat.mul_nonneg r0 (by grind)
  have b1:r*(1-s)≤1:=by
   have:=Rat.mul_nonneg r0 (Rat.le_of_lt s0)
   grind
  exact hA g hg f hf (VP (hE.nz g hg) (hF.nz f hf) ho2 (by rw[e2];exact rP b0 b1))
theorem Gd.less(hG:Gd E){p:Q}(h:H E p):∃e∈E,p.1<e.1.1:=by
 obtain⟨e,f,u,d,hl,h1,h2⟩:=hG.core h.w h.off
 obtain⟨t,t0,t1,e1⟩:=hl.hu
 have hu:u.1=e.1.1+t*(e.2.1-e.1.1):=by rw[e1];rfl
 by_cases c:p.1<e.1.1
 ·exact⟨e,hl.he,c⟩
 ·obtain⟨g,hg,e2⟩:=hG.clo e hl.he
  refine⟨g,hg,?_⟩
  rw[e2]
  have:0<e.2.1-e.1.1:=by
   rcases Rat.le_total (a:=e.2.1-e.1.1) (b:=0) with q | q
   ·exfalso
    have:=Rat.mul_nonneg t0 (show 0≤-(e.2.1-e.1.1) by grind)
    grind
   ·by_cases e3:e.2.1-e.1.1=0
    ·rw[e3] at hu;grind
    ·grind
  have:=Rat.mul_nonneg (show 0≤1-t by grind) (Rat.le_of_lt this)
  grind
end Go.Eng.Tg
namespace Go.Eng.Tg
open Go.Eng.Tw
def iV{α:Type}[Inhabited α](l:List α):List (α×α):=(List.range l.length).map fun i=>(l.getD i default,l.getD ((i+1)%l.length) default)
def sw{α:Type}(E:List (α×α)):List (α×α):=E.map fun e=>(e.2,e.1)
theorem wZ{α:Type}{E:List (α×α)}{e:α×α}:e∈sw E↔(e.2,e.1)∈E:=by
 unfold sw
 constructor
 ·intro h
  obtain⟨f,hf,rfl⟩:=List.mem_map.1 h
  exact hf
 ·intro h
  exact List.mem_map.2 ⟨_,h,rfl⟩
theorem o4{α:Type}[Inhabited α]{l:List α}{e:α×α}:e∈iV l↔∃i,i<l.length∧e=(l.getD i default,l.getD ((i+1)%l.length) default):=by
 unfold iV
 constructor
 ·intro h
  obtain⟨i,hi,rfl⟩:=List.mem_map.1 h
  exact⟨i,List.mem_range.1 hi,rfl⟩
 ·rintro ⟨i,hi,rfl⟩
  exact List.mem_map.2 ⟨i,List.mem_range.2 hi,rfl⟩
theorem M1{l:List Q}(P:Q→Prop)(h:∀e∈iV l,P e.1→P e.2){i:Nat}(hi:i<l.length)(hp:P (l.getD i default)):∀k,P (l.getD ((i+k)%l.length) default)
 | 0=>by rw[Nat.add_zero,Nat.mod_eq_of_lt hi];exact hp
 | k+1=>by
  have ih:=M1 P h hi hp k
  have hlt:(i+k)%l.length<l.length:=Nat.mod_lt _ (by omega)
  have:=h _ (o4.2 ⟨_,hlt,rfl⟩) ih
  dsimp only at this
  rw[Nat.mod_add_mod] at this
  exact this
theorem Ar(l:List Q):Mr (iV l):=fun P h e he f hf hp=>by
 obtain⟨i,hi,rfl⟩:=o4.1 he
 obtain⟨j,hj,rfl⟩:=o4.1 hf
 have:=M1 P h hi hp (j+(l.length-i))
 have e1:(i+(j+(l.length-i)))%l.length=j:=by
  rw[show i+(j+(l.length-i))=j+l.length by omega,Nat.add_mod_right,Nat.mod_eq_of_lt hj]
 rw[e1] at this
 exact this
theorem Ip(l:List Q):Mr (sw (iV l)):=fun P h e he f hf hp=>by
 apply Classical.byContradiction
 intro hc
 obtain⟨i,hi,ei⟩:=o4.1 (wZ.1 he)
 obtain⟨j,hj,ej⟩:=o4.1 (wZ.1 hf)
 have hfw:∀g∈iV l,¬P g.1→¬P g.2:=fun g hg hn hp2=>hn (h (g.2,g.1) (wZ.2 hg) hp2)
 have e1:e.1=l.getD ((i+1)%l.length) default:=congrArg Prod.snd ei
 have e2:f.1=l.getD ((j+1)%l.length) default:=congrArg Prod.snd ej
 have hjl:(j+1)%l.length<l.length:=Nat.mod_lt _ (by omega)
 have hil:(i+1)%l.length<l.length:=Nat.mod_lt _ (by omega)
 have:=M1 (fun q=>¬P q) hfw hjl (by rw[←e2];exact hc) ((i+1)%l.length+(l.length-(j+1)%l.length))
 rw[show (j+1)%l.length+((i+1)%l.length+(l.length-(j+1)%l.length))=(i+1)%l.length+l.length by omega,Nat.add_mod_right,Nat.mod_eq_of_lt hil,←e1] at this
 exact this hp
theorem Ms{l:List Q}{e:Ed}(he:e∈iV l):∃f∈iV l,f.1=e.2:=by
 obtain⟨i,hi,rfl⟩:=o4.1 he
 exact⟨_,o4.2 ⟨(i+1)%l.length,Nat.mod_lt _ (by omega),rfl⟩,rfl⟩
theorem Iq{l:List Q}{e:Ed}(he:e∈sw (iV l)):∃f∈sw (iV l),f.1=e.2:=by
 obtain⟨i,hi,ei⟩:=o4.1 (wZ.1 he)
 have e2:e.2=l.getD i default:=congrArg Prod.fst ei
 refine⟨(l.getD i default,l.getD ((i+(l.length-1))%l.length) default),wZ.2 (o4.2 ⟨(i+(l.length-1))%l.length,Nat.mod_lt _ (by omega),?_⟩),e2.symm⟩
 rw[Nat.mod_add_mod,show i+(l.length-1)+1=i+l.length by omega,Nat.add_mod_right,Nat.mod_eq_of_lt hi]
theorem Qv{E:List Ed}(hC:Mr E)(y:Rat)(h1:∃g∈E,g.1.2≤y)(h2:∃g∈E,y<g.1.2):(∃e∈E,e.1.2≤y∧y<e.2.2)∧∃e∈E,e.2.2≤y∧y<e.1.2:=by
 obtain⟨g,hg,hy⟩:=h1
 obtain⟨k,hk,hz⟩:=h2
 constructor
 ·apply Classical.byContradiction
  intro hc
  have:=hC (fun q=>q.2≤y) (fun e he h=>P6 fun c=>hc ⟨e,he,h,c⟩) g hg k hk hy
  grind
 ·apply Classical.byContradiction
  intro hc
  have:=hC (fun q=>y<q.2) (fun e he h=>GP fun c=>hc ⟨e,he,c,h⟩) k hk g hg hz
  grind
abbrev Z:=Int×Int
abbrev Mu:=Z×Z
def As(a b p:Z):Int:=(b.1-a.1)*(p.2-a.2)-(b.2-a.2)*(p.1-a.1)
def le(a b:Int):Bool:=decide (a≤b)
def lt(a b:Int):Bool:=decide (a<b)
def Eh(a b:Z):Bool:=decide (a.1=b.1)&&decide (a.2=b.2)
def Ir(E:List Mu)(e:Mu):Bool:=E.any fun f=>Eh e.1 f.1&&Eh e.2 f.2
def Ux(a b c d:Int):Bool:=le b c||le d a||le b a||le d c
def SU:List Mu→Bool
 | []=>true
 | e::l=>!(Ir l e)&&SU l
def At(E:List Mu):Bool:=
 (E.all fun e=>E.all fun f=>le 0 (As e.1 e.2 f.1))&&(E.all fun e=>!(Eh e.1 e.2)) &&
 (E.all fun e=>E.all fun f=>(Eh e.1 f.1&&Eh e.2 f.2)||Ux e.1.2 e.2.2 f.1.2 f.2.2)&&(E.all fun e=>E.all fun f=>(Eh e.1 f.1&&Eh e.2 f.2)||Ux e.2.2 e.1.2 f.2.2 f.1.2)&&SU E &&
 (E.any fun e=>lt e.1.2 e.2.2&&E.all (fun g=>le g.1.2 e.2.2)&&E.any fun f=>lt f.2.2 f.1.2&&decide (f.1.2=e.2.2)&&((Eh e.2 f.1&&lt 0 (As e.1 e.2 f.2))||(Ir E (e.2,f.1)&&lt f.1.1 e.2.1))) &&
 (E.any fun e=>lt e.2.2 e.1.2&&E.all (fun g=>le e.2.2 g.1.2)&&E.any fun f=>lt f.1.2 f.2.2&&decide (f.1.2=e.2.2)&&((Eh e.2 f.1&&lt 0 (As e.1 e.2 f.2))||(Ir E (e.2,f.1)&&lt e.2.1 f.1.1)))
theorem VQ{a b:Int}:le a b=true↔a≤b:=by unfold le;exact decide_eq_true_iff
theorem Is{a b:Int}:lt a b=true↔a<b:=by unfold lt;exact decide_eq_true_iff
theorem xX{a b:Z}:Eh a b=true↔a=b:=by
 unfold Eh
 rw[Bool.and_eq_true,decide_eq_true_iff,decide_eq_true_iff]
 exact⟨fun h=>Prod.ext h.1 h.2,fun h=>by rw[h];exact⟨rfl,rfl⟩⟩
theorem YH{E:List Mu}{e:Mu}:Ir E e=true↔e∈E:=by
 unfold Ir
 rw[List.any_eq_true]
 constructor
 ·rintro ⟨f,hf,h⟩
  rw[Bool.and_eq_true,xX,xX] at h
  rwa[Prod.ext h.1 h.2]
 ·intro h
  exact⟨e,h,by rw[Bool.and_eq_true,xX,xX];exact⟨rfl,rfl⟩⟩
theorem VR:∀{E:List Mu},SU E=true→E.Nodup
 | [],_=>List.nodup_nil
 | e::l,h=>by
  unfold SU at h
  rw[Bool.and_eq_true,Bool.not_eq_true'] at h
  rw[List.nodup_cons]
  exact⟨fun hm=>by rw[YH.2 hm] at h;exact absurd h.1 (by decide),VR h.2⟩
def pl(x y r:Int)(p:Z):Q:=(((x+r*p.1:Int):Rat),((y+r*p.2:Int):Rat))
def Sk(x y r:Int)(e:Mu):Ed:=(pl x y r e.1,pl x y r e.2)
theorem H7(x y r:Int)(a b p:Z):cr (pl x y r a) (pl x y r b) (pl x y r p)=((r*r*As a b p:Int):Rat):=by
 unfold cr pl As
 dsimp only
 simp only[←Rat.intCast_sub,←Rat.intCast_mul]
 exact congrArg _ (by grind)
theorem vT{a b:Int}:(a:Rat)≤(b:Rat)↔a≤b:=Rat.intCast_le_intCast
theorem AI{a b:Int}:(a:Rat)<(b:Rat)↔a<b:=Rat.intCast_lt_intCast
theorem Mv{r a b c:Int}(hr:0<r):c+r*a≤c+r*b↔a≤b:=by
 constructor
 ·intro h
  have:r*a≤r*b:=by omega
  exact Int.le_of_mul_le_mul_left this hr
 ·intro h
  have:=Int.mul_le_mul_of_nonneg_left h (Int.le_of_lt hr)
  omega
theorem Au{r a b c:Int}(hr:0<r):c+r*a<c+r*b↔a<b:=by
 constructor
 ·intro h
  have:r*a<r*b:=by omega
  exact Int.lt_of_mul_lt_mul_left this (Int.le_of_lt hr)
 ·intro h
  have:=Int.mul_lt_mul_of_pos_left h hr
  omega
section
variable {x y r:Int} (hr:0<r)
include hr
theorem OR{p q:Z}:(pl x y r p).2≤(pl x y r q).2↔p.2≤q.2:=by unfold pl;rw[vT];exact Mv hr
theorem Mw{p q:Z}:(pl x y r p).2<(pl x y r q).2↔p.2<q.2:=by unfold pl;rw[AI];exact Au hr
theorem Ty{p q:Z}:(pl x y r p).1<(pl x y r q).1↔p.1<q.1:=by unfold pl;rw[AI];exact Au hr
theorem Ov{a b p:Z}:0<cr (pl x y r a) (pl x y r b) (pl x y r p)↔0<As a b p:=by
 rw[H7,show (0:Rat)=((0:Int):Rat) from rfl,AI]
 have h2:0<r*r:=Int.mul_pos hr hr
 constructor
 ·intro h
  have:(r*r)*0<(r*r)*As a b p:=by rw[Int.mul_zero];exact h
  exact Int.lt_of_mul_lt_mul_left this (Int.le_of_lt h2)
 ·intro h;exact Int.mul_pos h2 h
theorem Vk{a b p:Z}(h:0≤As a b p):0≤cr (pl x y r a) (pl x y r b) (pl x y r p):=by
 rw[H7,show (0:Rat)=((0:Int):Rat) from rfl,vT]
 exact Int.mul_nonneg (Int.le_of_lt (Int.mul_pos hr hr)) h
theorem YI{p q:Z}(h:pl x y r p=pl x y r q):p=q:=by
 have h1:x+r*p.1=x+r*q.1:=Rat.intCast_inj.1 (congrArg Prod.fst h)
 have h2:y+r*p.2=y+r*q.2:=Rat.intCast_inj.1 (congrArg Prod.snd h)
 exact Prod.ext (Int.eq_of_mul_eq_mul_left (Int.ne_of_gt hr) (by omega)) (Int.eq_of_mul_eq_mul_left (Int.ne_of_gt hr) (by omega))
theorem Ow{E:List Mu}(h:At E=true)(hC:Mr (E.map (Sk x y r)))(hc:∀e∈E.map (Sk x y r),∃f∈E.map (Sk x y r),f.1=e.2):Gd (E.map (Sk x y r)):=by
 unfold At at h
 simp only[Bool.and_eq_true] at h
 obtain⟨⟨⟨⟨⟨⟨g1,g2⟩,g3⟩,g4⟩,g5⟩,g6⟩,g7⟩:=h
 rw[List.all_eq_true] at g1 g2 g3 g4
 rw[List.any_eq_true] at g6 g7
 have dj:∀{a b c d:Int} {A B C D y:Rat},Ux a b c d=true→(B≤C↔b≤c)→(D≤A↔d≤a)→(B≤A↔b≤a)→(D≤C↔d≤c)→A≤y→y<B→C≤y→y<D→False:=fun hd h1 h2 h3 h4 a1 a2 a3 a4=>by
  unfold Ux at hd
  simp only[Bool.or_eq_true,VQ] at hd
  rcases hd with((q | q) | q) | q
  ·have:=h1.2 q;grind
  ·have:=h2.2 q;grind
  ·have:=h3.2 q;grind
  ·have:=h4.2 q;grind
 refine⟨?_,hc,?_,?_,?_,?_,?_,?_,Qv hC⟩
 ·rintro e0 he0 f0 hf0
  obtain⟨e,he,rfl⟩:=List.mem_map.1 he0
  obtain⟨f,hf,rfl⟩:=List.mem_map.1 hf0
  have:=g1 e he
  rw[List.all_eq_true] at this
  exact Vk hr (VQ.1 (this f hf))
 ·rintro e0 he0 h0
  obtain⟨e,he,rfl⟩:=List.mem_map.1 he0
  have:=g2 e he
  rw[Bool.not_eq_true'] at this
  rw[xX.2 (YI hr h0)] at this
  exact absurd this (by decide)
 ·rintro e0 he0 f0 hf0 z h1 h2 h3 h4
  obtain⟨e,he,rfl⟩:=List.mem_map.1 he0
  obtain⟨f,hf,rfl⟩:=List.mem_map.1 hf0
  have:=g3 e he
  rw[List.all_eq_true] at this
  have:=this f hf
  rw[Bool.or_eq_true,Bool.and_eq_true,xX,xX] at this
  rcases this with⟨q1,q2⟩ | q
  ·rw[Prod.ext q1 q2]
  ·exact(dj q (OR hr) (OR hr) (OR hr) (OR hr) h1 h2 h3 h4).elim
 ·rintro e0 he0 f0 hf0 z h1 h2 h3 h4
  obtain⟨e,he,rfl⟩:=List.mem_map.1 he0
  obtain⟨f,hf,rfl⟩:=List.mem_map.1 hf0
  have:=g4 e he
  rw[List.all_eq_true] at this
  have:=this f hf
  rw[Bool.or_eq_true,Bool.and_eq_true,xX,xX] at this
  rcases this with⟨q1,q2⟩ | q
  ·rw[Prod.ext q1 q2]
  ·exact(dj q (OR hr) (OR hr) (OR hr) (OR hr) h1 h2 h3 h4).elim
 ·have:=VR g5
  rw[List.Nodup,List.pairwise_map]
  exact List.Pairwise.imp (fun hne h0=>hne (Prod.ext (YI hr (congrArg Prod.fst h0)) (YI hr (congrArg Prod.snd h0)))) this
 ·obtain⟨e,he,q⟩:=g6
  simp only[Bool.and_eq_true,List.all_eq_true,List.any_eq_true,Is,VQ,Bool.or_eq_true,xX,YH,decide_eq_true_iff] at q
  obtain⟨⟨q1,q2⟩,f,hf,⟨q3,q4⟩,q5⟩:=q
  refine⟨_,List.mem_map.2 ⟨e,he,rfl⟩,_,List.mem_map.2 ⟨f,hf,rfl⟩,(Mw hr).2 q1,(Mw hr).2 q3,fun g0 hg0=>?_,?_,?_⟩
  ·obtain⟨g,hg,rfl⟩:=List.mem_map.1 hg0
   exact(OR hr).2 (q2 g hg)
  ·show (((y+r*f.1.2:Int)):Rat)=((y+r*e.2.2:Int):Rat)
   rw[q4]
  ·rcases q5 with⟨p1,p2⟩ | ⟨p1,p2⟩
   ·exact .inl ⟨congrArg (pl x y r) p1,(Ov hr).2 p2⟩
   ·exact .inr ⟨List.mem_map.2 ⟨_,p1,rfl⟩,(Ty hr).2 p2⟩
 ·obtain⟨e,he,q⟩:=g7
  simp only[Bool.and_eq_true,List.all_eq_true,List.any_eq_true,Is,VQ,Bool.or_eq_true,xX,YH,decide_eq_true_iff] at q
  obtain⟨⟨q1,q2⟩,f,hf,⟨q3,q4⟩,q5⟩:=q
  refine⟨_,List.mem_map.2 ⟨e,he,rfl⟩,_,List.mem_map.2 ⟨f,hf,rfl⟩,(Mw hr).2 q1,(Mw hr).2 q3,fun g0 hg0=>?_,?_,?_⟩
  ·obtain⟨g,hg,rfl⟩:=List.mem_map.1 hg0
   exact(OR hr).2 (q2 g hg)
  ·show (((y+r*f.1.2:Int)):Rat)=((y+r*e.2.2:Int):Rat)
   rw[q4]
  ·rcases q5 with⟨p1,p2⟩ | ⟨p1,p2⟩
   ·exact .inl ⟨congrArg (pl x y r) p1,(Ov hr).2 p2⟩
   ·exact .inr ⟨List.mem_map.2 ⟨_,p1,rfl⟩,(Ty hr).2 p2⟩
end
end Go.Eng.Tg
namespace Go.Eng.Tg
open Go.Eng.Tw
def M2(a b c:Q):Prop:=cr a b c=0∧0<(a.1-b.1)*(c.1-b.1)+(a.2-b.2)*(c.2-b.2)
def aX{α:Type}[Inhabited α](l:List α)(i:Nat):α:=l.getD (i%l.length) default
def Qw(L:List Q):Prop:=3≤L.length∧∀i<L.length,aX L i≠aX L (i+1)∧¬M2 (aX L i) (aX L (i+1)) (aX L (i+2)) ∧
 ∀j,i+2≤j→j<L.length→(0<i∨j<L.length-1)→¬jQ (aX L i) (aX L (i+1)) (aX L j) (aX L (j+1))
def Uy(d u:Int):Bool:=(le 0 u&&le u d)||(le d u&&le u 0)
def Sl(a b p:Z):Bool:=decide (As a b p=0)&&Uy (b.1-a.1) (p.1-a.1)&&Uy (b.2-a.2) (p.2-a.2)
def Av(a b c d:Z):Bool:=Sl a b c||Sl a b d||Sl c d a||Sl c d b||(lt (As a b c*As a b d) 0&&lt (As c d a*As c d b) 0)
def Aw(a b c:Z):Bool:=decide (As a b c=0)&&lt 0 ((a.1-b.1)*(c.1-b.1)+(a.2-b.2)*(c.2-b.2))
def Qx(s:List Z):Bool:=Nat.ble 3 s.length&&(List.range s.length).all fun i=>!(Eh (aX s i) (aX s (i+1)))&&!(Aw (aX s i) (aX s (i+1)) (aX s (i+2))) &&
 (List.range s.length).all fun j=>Nat.blt j (i+2)||!(Nat.blt 0 i||Nat.blt j (s.length-1))||!(Av (aX s i) (aX s (i+1)) (aX s j) (aX s (j+1)))
theorem uZ{α β:Type}[Inhabited α][Inhabited β](f:α→β){l:List α}(h:0<l.length)(i:Nat):aX (l.map f) i=f (aX l i):=by
 unfold aX
 rw[List.length_map]
 have hi:i%l.length<l.length:=Nat.mod_lt _ h
 rw[List.getD_eq_getElem?_getD,List.getD_eq_getElem?_getD,List.getElem?_map,List.getElem?_eq_getElem hi]
 rfl
section
variable {x y r:Int} (hr:0<r)
include hr
omit hr in
theorem Ei{a:Int}:(a:Rat)<0↔a<0:=by rw[show (0:Rat)=((0:Int):Rat) from rfl,AI]
omit hr in
theorem Ox{c a p b:Int}(hr:0<r)(h:Uy (b-a) (p-a)=true):Bt (((c+r*b:Int):Rat)-((c+r*a:Int):Rat)) (((c+r*p:Int):Rat)-((c+r*a:Int):Rat)):=by
 have e1:((c+r*b:Int):Rat)-((c+r*a:Int):Rat)=((r*(b-a):Int):Rat):=by rw[←Rat.intCast_sub];exact congrArg _ (by grind)
 have e2:((c+r*p:Int):Rat)-((c+r*a:Int):Rat)=((r*(p-a):Int):Rat):=by rw[←Rat.intCast_sub];exact congrArg _ (by grind)
 rw[e1,e2]
 unfold Uy at h
 rw[Bool.or_eq_true,Bool.and_eq_true,Bool.and_eq_true,VQ,VQ,VQ,VQ] at h
 have r0:=Int.le_of_lt hr
 rcases h with⟨h1,h2⟩ | ⟨h1,h2⟩
 ·left
  exact⟨by rw[show (0:Rat)=((0:Int):Rat) from rfl,vT];exact Int.mul_nonneg r0 h1,vT.2 (Int.mul_le_mul_of_nonneg_left h2 r0)⟩
 ·right
  exact⟨vT.2 (Int.mul_le_mul_of_nonneg_left h1 r0),by rw[show (0:Rat)=((0:Int):Rat) from rfl,vT];have:=Int.mul_le_mul_of_nonneg_left h2 r0;rw[Int.mul_zero] at this;exact this⟩
theorem Ax{a b p:Z}(h:Sl a b p=true):On (pl x y r a) (pl x y r b) (pl x y r p):=by
 unfold Sl at h
 rw[Bool.and_eq_true,Bool.and_eq_true,decide_eq_true_iff] at h
 obtain⟨⟨h1,h2⟩,h3⟩:=h
 refine⟨by rw[H7,h1,Int.mul_zero];rfl,Ox hr h2,Ox hr h3⟩
theorem Tz{a b:Int}(h:a*b<0):((r*r*a:Int):Rat)*((r*r*b:Int):Rat)<0:=by
 rw[←Rat.intCast_mul,Ei]
 have h2:0<r*r:=Int.mul_pos hr hr
 have:r*r*a*(r*r*b)=(r*r)*((r*r)*(a*b)):=by grind
 rw[this]
 exact Int.mul_neg_of_pos_of_neg h2 (Int.mul_neg_of_pos_of_neg h2 h)
theorem Mx{a b c d:Z}(h:Av a b c d=true):jQ (pl x y r a) (pl x y r b) (pl x y r c) (pl x y r d):=by
 unfold Av at h
 simp only[Bool.or_eq_true,Bool.and_eq_true,Is] at h
 rcases h with(((h | h) | h) | h) | ⟨h1,h2⟩
 ·exact .inl (Ax hr h)
 ·exact .inr (.inl (Ax hr h))
 ·exact .inr (.inr (.inl (Ax hr h)))
 ·exact .inr (.inr (.inr (.inl (Ax hr h))))
 ·refine .inr (.inr (.inr (.inr ⟨?_,?_⟩)))
  ·rw[H7,H7];exact Tz hr h1
  ·rw[H7,H7];exact Tz hr h2
theorem My{a b c:Z}(h:Aw a b c=true):M2 (pl x y r a) (pl x y r b) (pl x y r c):=by
 unfold Aw at h
 rw[Bool.and_eq_true,decide_eq_true_iff,Is] at h
 refine⟨by rw[H7,h.1,Int.mul_zero];rfl,?_⟩
 have e:((pl x y r a).1-(pl x y r b).1)*((pl x y r c).1-(pl x y r b).1)+((pl x y r a).2-(pl x y r b).2)*((pl x y r c).2-(pl x y r b).2)=((r*r*((a.1-b.1)*(c.1-b.1)+(a.2-b.2)*(c.2-b.2)):Int):Rat):=by
  unfold pl
  dsimp only
  simp only[←Rat.intCast_sub,←Rat.intCast_mul,←Rat.intCast_add]
  exact congrArg _ (by grind)
 rw[e,show (0:Rat)=((0:Int):Rat) from rfl,AI]
 exact Int.mul_pos (Int.mul_pos hr hr) h.2
theorem Qy{s:List Z}(h:Qw (s.map (pl x y r))):Qx s=true:=by
 obtain⟨h3,h⟩:=h
 rw[List.length_map] at h3 h
 have h0:0<s.length:=by omega
 unfold Qx
 rw[Bool.and_eq_true]
 refine⟨Nat.ble_eq_true_of_le h3,?_⟩
 rw[List.all_eq_true]
 intro i hi
 obtain⟨g1,g2,g3⟩:=h i (List.mem_range.1 hi)
 rw[uZ _ h0,uZ _ h0] at g1 g2
 rw[uZ _ h0] at g2
 rw[Bool.and_eq_true,Bool.and_eq_true,Bool.not_eq_true',Bool.not_eq_true']
 refine⟨⟨?_,?_⟩,?_⟩
 ·cases hc:Eh (aX s i) (aX s (i+1)) with
  | false=>rfl
  | true=>rw[xX.1 hc] at g1;exact absurd rfl g1
 ·cases hc:Aw (aX s i) (aX s (i+1)) (aX s (i+2)) with
  | false=>rfl
  | true=>exact absurd (My hr hc) g2
 ·rw[List.all_eq_true]
  intro j hj
  have hjl:=List.mem_range.1 hj
  cases c1:Nat.blt j (i+2) with
  | true=>rfl
  | false=>
   cases c2:(Nat.blt 0 i||Nat.blt j (s.length-1)) with
   | false=>rfl
   | true=>
    cases c3:Av (aX s i) (aX s (i+1)) (aX s j) (aX s (j+1)) with
    | false=>rfl
    | true=>
     exfalso
     have a1:i+2≤j:=by
      by_cases c:i+2≤j
      ·exact c
      ·have:Nat.blt j (i+2)=true:=by simp only[Nat.blt_eq];omega
       rw[this] at c1;cases c1
     have a2:0<i∨j<s.length-1:=by
      rw[Bool.or_eq_true,Nat.blt_eq,Nat.blt_eq] at c2
      exact c2
     have:=g3 j a1 hjl a2
     rw[uZ _ h0,uZ _ h0,uZ _ h0,uZ _ h0] at this
     exact this (Mx hr c3)
end
def Uz(s:List Z):Int:=((iV s).map fun e=>e.1.1*e.2.2-e.2.1*e.1.2).sum
def VS(s:List Z):Bool:=(At (iV s)&&lt 0 (Uz s))||(At (sw (iV s))&&lt (Uz s) 0)||!(Qx s)
def Ej:List Z→List (List Z)
 | []=>[[]]
 | a::l=>Ej l++(Ej l).map (a::·)
def Ua:List Z→List Z
 | a::b::l=>b::a::l
 | l=>l
def Ek:List Z:=[(2,0),(2,1),(1,2),(-1,2),(-2,0),(-2,-1),(0,-2),(1,-1)]
def Iu:List Z:=[(-1,-1),(1,-1),(1,1),(-1,1)]
def VT:List Z:=[(-1,-1),(-1,1),(1,1),(1,-1)]
def tri:List Z:=[(0,0),(3,1),(1,4)]
theorem M3:∀{s l:List Z},s.Sublist l→s∈Ej l
 | _,_,.slnil=>List.mem_cons_self ..
 | _,_,.cons _ h=>List.mem_append.2 (.inl (M3 h))
 | _,_,.cons_cons _ h=>List.mem_append.2 (.inr (List.mem_map.2 ⟨_,M3 h,rfl⟩))
theorem Qz:((Ej Ek).all fun s=>VS s&&VS (Ua s))=true:=by decide +kernel
theorem Ra:((Ej Ek.reverse).all fun s=>VS s&&VS (Ua s))=true:=by decide +kernel
theorem Rb:((List.range 4).all fun k=>VS (Iu.drop k++Iu.take k)&&VS (VT.drop k++VT.take k))=true:=by decide +kernel
theorem Ub:VS tri=true:=by decide +kernel
end Go.Eng.Tg
namespace Go.Eng.Tg
open Go.Eng.Tw
variable {E F:List Ed}
theorem Uc{p:Q}:yE (sw E) p↔yE E p:=by
 constructor
 ·rintro ⟨e,he,h⟩
  exact⟨_,wZ.1 he,JN h⟩
 ·rintro ⟨e,he,h⟩
  exact⟨(e.2,e.1),wZ.2 he,JN h⟩
theorem Ud(p:Q)(e:Ed):we p (e.2,e.1)=-we p e:=by
 unfold we
 dsimp only
 rw[JM e.1 e.2 p]
 by_cases h1:e.1.2≤p.2∧p.2<e.2.2
 ·rw[if_neg (by rintro ⟨a,b,_⟩;grind),if_neg (c:=e.2.2≤p.2∧_) (by rintro ⟨a,b,_⟩;grind)]
  by_cases h2:0<cr e.1 e.2 p
  ·rw[if_pos ⟨h1.1,h1.2,by grind⟩,if_pos ⟨h1.1,h1.2,h2⟩]
  ·rw[if_neg (by rintro ⟨_,_,h⟩;grind),if_neg fun h=>h2 h.2.2];rfl
 ·rw[if_neg (c:=e.1.2≤p.2∧p.2<e.2.2∧-cr e.1 e.2 p<0) fun h=>h1 ⟨h.1,h.2.1⟩,if_neg (c:=e.1.2≤p.2∧p.2<e.2.2∧0<cr e.1 e.2 p) fun h=>h1 ⟨h.1,h.2.1⟩]
  by_cases h2:e.2.2≤p.2∧p.2<e.1.2
  ·by_cases h3:cr e.1 e.2 p<0
   ·rw[if_pos ⟨h2.1,h2.2,by grind⟩,if_pos ⟨h2.1,h2.2,h3⟩];rfl
   ·rw[if_neg (by rintro ⟨_,_,h⟩;grind),if_neg fun h=>h3 h.2.2];rfl
  ·rw[if_neg fun h=>h2 ⟨h.1,h.2.1⟩,if_neg fun h=>h2 ⟨h.1,h.2.1⟩];rfl
theorem Oy(p:Q):∀E:List Ed,wd (sw E) p=-wd E p
 | []=>rfl
 | e::l=>by
  have ih:=Oy p l
  unfold wd sw at *
  rw[List.map_cons,List.map_cons,List.map_cons,List.sum_cons,List.sum_cons,ih,Ud];omega
theorem VU(h:Apart E F):Apart (sw E) F:=fun e he f hf hm=>h _ (wZ.1 he) f hf (VO hm)
structure Lp (L:List Q) (s:Int) (G:List Ed):Prop where
 gd:Gd G
 con:Mr G
 dir:(s=1∧G=iV L)∨(s=-1∧G=sw (iV L))
section
variable {L:List Q} {s:Int} {G:List Ed}
theorem Lp.on(h:Lp L s G){p:Q}:yE (iV L) p↔yE G p:=by
 rcases h.dir with⟨_,e⟩ | ⟨_,e⟩
 ·rw[e]
 ·rw[e,Uc]
open Classical in
theorem Lp.wind(h:Lp L s G){p:Q}(ho:¬yE (iV L) p):wd (iV L) p=if H G p then s else 0:=by
 have hw:=h.gd.wind (p:=p) fun c=>ho (h.on.2 c)
 rcases h.dir with⟨es,e⟩ | ⟨es,e⟩
 ·rw[es]
  by_cases hH:H G p
  ·rw[if_pos hH,←e];exact hw.1 hH
  ·rw[if_neg hH,←e];exact hw.2 hH
 ·rw[es]
  have h2:wd G p=-wd (iV L) p:=by rw[e];exact Oy p _
  by_cases hH:H G p
  ·rw[if_pos hH];have:=hw.1 hH;omega
  ·rw[if_neg hH];have:=hw.2 hH;omega
theorem YJ{i:Nat}(h0:0<L.length):(aX L i,aX L (i+1))∈iV L:=by
 refine o4.2 ⟨i%L.length,Nat.mod_lt _ h0,?_⟩
 unfold aX
 rw[Nat.mod_add_mod]
theorem Lp.at(h:Lp L s G)(h0:0<L.length)(i:Nat):∃e∈G,e.1=aX L i:=by
 rcases h.dir with⟨_,e⟩ | ⟨_,e⟩
 ·exact⟨(aX L i,aX L (i+1)),by rw[e];exact YJ h0,rfl⟩
 ·obtain⟨f,hf,e2⟩:=Iq (l:=L) (e:=(aX L (i+1),aX L i)) (wZ.2 (YJ h0))
  exact⟨f,by rw[e];exact hf,e2⟩
theorem Lp.sg(h:Lp L s G):s=1∨s=-1:=h.dir.imp And.left And.left
theorem Lp.apart{M:List Q}{t:Int}{K:List Ed}(h:Lp L s G)(k:Lp M t K)(ha:Apart (iV L) (iV M)):Apart G K:=by
 have h1:Apart G (iV M):=by
  rcases h.dir with⟨_,e⟩ | ⟨_,e⟩
  ·rw[e];exact ha
  ·rw[e];exact VU ha
 rcases k.dir with⟨_,e⟩ | ⟨_,e⟩
 ·rw[e];exact h1
 ·rw[e];exact(VU h1.symm).symm
end
def nZ(m:Nat)(f:Nat→Int):Int:=((List.range m).map f).sum
theorem fG(m:Nat)(f:Nat→Int):nZ (m+1) f=nZ m f+f m:=by
 unfold nZ
 rw[List.range_succ,List.map_append,List.sum_append];simp
theorem w9{m:Nat}{f g:Nat→Int}(h:∀j,j<m→f j=g j):nZ m f=nZ m g:=by
 unfold nZ
 exact congrArg List.sum (List.map_congr_left fun j hj=>h j (List.mem_range.1 hj))
theorem El{m:Nat}{f:Nat→Int}(h:∀j,j<m→f j=0):nZ m f=0:=by
 induction m with
 | zero=>rfl
 | succ m ih=>rw[fG,ih fun j hj=>h j (by omega),h m (by omega)];rfl
theorem Ay{f:Nat→Int}{i:Nat}:∀{m:Nat},i<m→nZ m f=nZ m (fun j=>if j=i then 0 else f j)+f i
 | 0,h=>by omega
 | m+1,h=>by
  rw[fG,fG]
  by_cases hm:i=m
  ·subst hm
   rw[if_pos rfl,w9 (m:=i) (f:=fun j=>if j=i then 0 else f j) (g:=f) fun j hj=>by show (if j=i then 0 else f j)=f j;rw[if_neg (by omega)]];omega
  ·rw[if_neg (fun e=>hm e.symm),Ay (f:=f) (i:=i) (m:=m) (by omega)];omega
structure Ns (m:Nat) (G:Nat→List Ed) (v:Nat→Q):Prop where
 gd:∀i,i<m→Gd (G i)
 con:∀i,i<m→Mr (G i)
 ap:∀i,i<m→∀j,j<m→i≠j→Apart (G i) (G j)
 on:∀i,i<m→∃e∈G i,e.1=v i
open Classical in
noncomputable def ad(G:Nat→List Ed)(s:Nat→Int)(p:Q)(j:Nat):Int:=if H (G j) p then s j else 0
section
variable {m:Nat} {G:Nat→List Ed} {v:Nat→Q} (hN:Ns m G v)
include hN
theorem Iv{p:Q}(h:∃i,i<m∧H (G i) p):∃i,i<m∧H (G i) p∧∀j,j<m→j≠i→(H (G j) p↔H (G j) (v i)):=by
 have hmx:∀i,i<m→∃e∈G i,∀f∈G i,f.1.1≤e.1.1:=fun i hi=>by
  obtain⟨e0,he0,_⟩:=(hN.gd i hi).top
  obtain⟨e,he,hl⟩:=Aq (fun e:Ed=>-e.1.1) (G i) (by intro c;rw[c] at he0;cases he0)
  exact⟨e,he,fun f hf=>by have:=hl f hf;grind⟩
 have hM:∃M:Nat→Rat,∀i,i<m→(∃e∈G i,e.1.1=M i)∧∀f∈G i,f.1.1≤M i:=by
  refine⟨fun i=>if hi:i<m then (Classical.choose (hmx i hi)).1.1 else 0,fun i hi=>?_⟩
  have:=Classical.choose_spec (hmx i hi)
  dsimp only
  rw[dif_pos hi]
  exact⟨⟨_,this.1,rfl⟩,this.2⟩
 obtain⟨M,hM⟩:=hM
 obtain⟨i0,hi0,hp0⟩:=h
 open Classical in
 obtain⟨i,hi,hmin⟩:=Aq M ((List.range m).filter fun i=>decide (H (G i) p)) (by
  intro c
  have:i0∈(List.range m).filter fun i=>decide (H (G i) p):=List.mem_filter.2 ⟨List.mem_range.2 hi0,decide_eq_true hp0⟩
  rw[c] at this
  cases this)
 obtain⟨him,hip⟩:=List.mem_filter.1 hi
 have him:=List.mem_range.1 him
 have hip:=of_decide_eq_true hip
 refine⟨i,him,hip,fun j hj hne=>?_⟩
 have ha:=hN.ap i him j hj (Ne.symm hne)
 obtain⟨e,he,ev⟩:=hN.on i him
 constructor
 ·intro hjp
  rcases Qu (hN.gd i him) (hN.gd j hj) ha (hN.con i him) (hN.con j hj) hip hjp with h | h
  ·rw[←ev];exact h e he
  ·exfalso
   obtain⟨⟨f,hf,ef⟩,_⟩:=hM j hj
   obtain⟨g,hg,hlt⟩:=(hN.gd i him).less (h f hf)
   have h1:=(hM i him).2 g hg
   have h2:=hmin j (List.mem_filter.2 ⟨List.mem_range.2 hj,decide_eq_true hjp⟩)
   grind
 ·intro hjv
  rw[←ev] at hjv
  exact Tx (hN.gd i him) (hN.gd j hj) (YG (hN.gd j hj) ha (hN.gd i him) (hN.con i him) he hjv) hip
theorem Iw{s:Nat→Int}(hc:∀i,i<m→∀n,n=nZ m (fun j=>if j=i then 0 else ad G s (v i) j)→n+s i=0∨n+s i=1)(p:Q):nZ m (ad G s p)=0∨nZ m (ad G s p)=1:=by
 by_cases h:∃i,i<m∧H (G i) p
 ·obtain⟨i,hi,hip,hj⟩:=Iv hN h
  have e1:ad G s p i=s i:=by unfold ad;rw[if_pos hip]
  rw[Ay hi,e1]
  refine hc i hi _ (w9 fun j hjm=>?_)
  by_cases hji:j=i
  ·rw[if_pos hji,if_pos hji]
  ·rw[if_neg hji,if_neg hji]
   unfold ad
   by_cases c:H (G j) p
   ·rw[if_pos c,if_pos ((hj j hjm hji).1 c)]
   ·rw[if_neg c,if_neg fun c'=>c ((hj j hjm hji).2 c')]
 ·left
  exact El fun j hj=>by unfold ad;rw[if_neg fun c=>h ⟨j,hj,c⟩]
end
end Go.Eng.Tg
namespace Go.Eng.Rt
open Go.Eng Go.Eng.Tw Go.Eng.Tm Go.Eng.Tg
def cq(p:Z):Q:=((p.1:Rat),(p.2:Rat))
open Classical in
noncomputable def bP(P:Prop):Bool:=decide P
open Classical in
theorem fJ{P:Prop}(h:P):bP P=true:=by unfold bP;exact decide_eq_true h
open Classical in
theorem e7{P:Prop}(h:¬P):bP P=false:=by unfold bP;exact decide_eq_false h
open Classical in
theorem Rc{P:Prop}:bP P=true↔P:=by unfold bP;exact decide_eq_true_iff
theorem iL{P R:Prop}(h:P↔R):bP P=bP R:=by rw[propext h]
theorem AJ{P:Prop}[Decidable P]:decide P=bP P:=by
 by_cases h:P
 ·rw[decide_eq_true h,fJ h]
 ·rw[decide_eq_false h,e7 h]
theorem uG{P R:Prop}:bP (P∨R)=(bP P||bP R):=by
 by_cases h:P
 ·rw[fJ h,fJ (.inl h)];rfl
 ·rw[e7 h]
  by_cases h':R
  ·rw[fJ h',fJ (.inr h')];rfl
  ·rw[e7 h',e7 (fun c=>c.elim h h')];rfl
theorem AK{P R:Prop}:bP (P∧R)=(bP P&&bP R):=by
 by_cases h:P
 ·rw[fJ h]
  by_cases h':R
  ·rw[fJ h',fJ ⟨h,h'⟩];rfl
  ·rw[e7 h',e7 fun c=>h' c.2];rfl
 ·rw[e7 h,e7 fun c=>h c.1];rfl
theorem GQ{P:Prop}:bP (¬P)=!(bP P):=by
 by_cases h:P
 ·rw[fJ h,e7 fun c=>c h];rfl
 ·rw[e7 h,fJ h];rfl
abbrev pt(p:Z):Bool×List T×List T×Bool×List T×List T×Bool×List T×List T×Unit:=(aN (p.1:Rat),aU (p.1:Rat),aY (p.1:Rat),aN (p.2:Rat),aU (p.2:Rat),aY (p.2:Rat),false,[],[],())
theorem M4(p:Z):c3 (p.1:Rat) (c3 (p.2:Rat) (c3 0 ()))=pt p:=by rw[z3]
def Sp(p:Z):Prop:=p.1.natAbs≤32∧p.2.natAbs≤32
def Se(p q:Z):Prop:=Sp p∧(q.1-p.1).natAbs≤20∧(q.2-p.2).natAbs≤20
theorem M5{p:Z}(h:Sp p):Pr 1 (p.1:Rat) (p.2:Rat) 0:=
 ⟨⟨by decide,(Fr.int _).mono h.1,(Fr.int _).mono h.2,(Fr.zero (by decide)).mono (by decide)⟩,32,by decide,(Fr.int _).mono h.1,(Fr.int _).mono h.2⟩
theorem Mz(a b:Z)(px py:Rat):((b.1-a.1:Int):Rat)*(py-a.2)-((b.2-a.2:Int):Rat)*(px-a.1)=cr (cq a) (cq b) (px,py):=by
 unfold cr cq;dsimp only;rw[Rat.intCast_sub,Rat.intCast_sub]
theorem Re(a b:Z)(px py:Rat):An ((b.1-a.1:Int):Rat) ((b.2-a.2:Int):Rat) (px-a.1) (py-a.2)=bP (On (cq a) (cq b) (px,py)):=by
 have h:Qr ((b.1-a.1:Int):Rat) ((b.2-a.2:Int):Rat) (px-a.1) (py-a.2)↔On (cq a) (cq b) (px,py):=by
  unfold Qr On
  rw[Mz]
  unfold cq
  dsimp only
  rw[Rat.intCast_sub,Rat.intCast_sub]
 by_cases hc:Qr ((b.1-a.1:Int):Rat) ((b.2-a.2:Int):Rat) (px-a.1) (py-a.2)
 ·rw[Ii hc,fJ (h.1 hc)]
 ·rw[VN hc,e7 fun c=>hc (h.2 c)]
theorem Ue{a b:Z}(h:Se a b){D:Nat}{px py pz:Rat}(hp:Pp D 32 px py pz):jG (lit a b (c3 px (c3 py (c3 pz ()))))=some (bP (On (cq a) (cq b) (px,py)),()):=by
 rw[(MY h.1.1 h.1.2 h.2.1 h.2.2 hp).1,Re]
theorem Uf{a b:Z}(h:Se a b){D:Nat}{px py pz:Rat}(hp:Pp D 32 px py pz):bG (lit a b (c3 px (c3 py (c3 pz ()))))=some (jM (cr (cq a) (cq b) (px,py)),()):=by
 rw[(MY h.1.1 h.1.2 h.2.1 h.2.2 hp).2.1];unfold sE;rw[Mz]
theorem Ug{a b:Z}(h:Se a b){D:Nat}{px py pz:Rat}(hp:Pr D px py pz):dF (lit a b (c3 px (c3 py (c3 pz ()))))=some (bP (On (cq a) (cq b) (px,py)),()):=by
 rw[Ik h.1.1 h.1.2 h.2.1 h.2.2 hp,Re]
theorem Uh{a b:Z}(h:Se a b){D:Nat}{px py pz:Rat}(hp:Pp D 32 px py pz):cB (lit a b (c3 px (c3 py (c3 pz ()))))=some (jM (cr (cq a) (cq b) (px,py)),()):=by
 rw[(MY h.1.1 h.1.2 h.2.1 h.2.2 hp).2.2];unfold sE;rw[Mz]
theorem Az{a b c:Z}(h:Se a b)(hc:Sp c):jG (lit a b (pt c))=some (bP (On (cq a) (cq b) (cq c)),()):=by
 have:=Ue h (M5 hc).up;rw[M4] at this;exact this
theorem VV{a b c:Z}(h:Se a b)(hc:Sp c):bG (lit a b (pt c))=some (jM (cr (cq a) (cq b) (cq c)),()):=by
 have:=Uf h (M5 hc).up;rw[M4] at this;exact this
theorem P7{a b c:Z}(h:Se a b)(hc:Sp c):dF (lit a b (pt c))=some (bP (On (cq a) (cq b) (cq c)),()):=by
 have:=Ug h (M5 hc);rw[M4] at this;exact this
theorem Ba{a b c:Z}(h:Se a b)(hc:Sp c):cB (lit a b (pt c))=some (jM (cr (cq a) (cq b) (cq c)),()):=by
 have:=Uh h (M5 hc).up;rw[M4] at this;exact this
theorem VW(x y:Rat):wr .i64 (jM x*jM y)=jM x*jM y:=by
 rcases jL x with⟨h,_⟩ | ⟨h,_⟩ | ⟨h,_⟩ <;> rcases jL y with⟨k,_⟩ | ⟨k,_⟩ | ⟨k,_⟩ <;> rw[h,k] <;> exact dC (by decide) (by decide)
theorem pY(x:Rat):(jM x=0∧x=0)∨(jM x=-1∧x<0)∨(jM x=1∧0<x):=by
 rcases jL x with⟨h,k⟩ | ⟨h,k⟩ | ⟨h,k⟩
 ·exact .inl ⟨h,k⟩
 ·exact .inr (.inl ⟨h,VK.1 k⟩)
 ·exact .inr (.inr ⟨h,VL.1 k⟩)
theorem Na(x y:Rat):jM x*jM y<0↔x*y<0:=by
 rcases pY x with⟨h,hx⟩ | ⟨h,hx⟩ | ⟨h,hx⟩ <;> rcases pY y with⟨k,hy⟩ | ⟨k,hy⟩ | ⟨k,hy⟩ <;> rw[h,k]
 ·rw[hx];exact⟨fun c=>absurd c (by decide),fun c=>absurd c (by grind)⟩
 ·rw[hx];exact⟨fun c=>absurd c (by decide),fun c=>absurd c (by grind)⟩
 ·rw[hx];exact⟨fun c=>absurd c (by decide),fun c=>absurd c (by grind)⟩
 ·rw[hy];exact⟨fun c=>absurd c (by decide),fun c=>absurd c (by grind)⟩
 ·exact⟨fun c=>absurd c (by decide),fun c=>absurd c (by have:=Rat.mul_pos (show 0 < -x by grind) (show 0 < -y by grind);grind)⟩
 ·exact⟨fun _=>by have:=neg_mul hy hx;grind,fun _=>by decide⟩
 ·rw[hy];exact⟨fun c=>absurd c (by decide),fun c=>absurd c (by grind)⟩
 ·exact⟨fun _=>neg_mul hx hy,fun _=>by decide⟩
 ·exact⟨fun c=>absurd c (by decide),fun c=>absurd c (by have:=Rat.mul_pos hx hy;grind)⟩
theorem Oz(x y:Rat):decide (jM x*jM y<0)=bP (x*y<0):=by rw[AJ];exact iL (Na x y)
section
variable {a b c d:Z} (h1:Se a b) (h2:Se c d) (hb:Sp b) (hd:Sp d)
include h1 h2 hb hd
theorem Ix:nS (lit a b (lit c d ()))=some (bP (jQ (cq a) (cq b) (cq c) (cq d)),()):=by
 have e1:=Az h1 h2.1
 have e2:=Az h1 hd
 have e3:=Az h2 h1.1
 have e4:=Az h2 hb
 have f1:=VV h1 h2.1
 have f2:=VV h1 hd
 have f3:=VV h2 h1.1
 have f4:=VV h2 hb
 unfold nS
 simp -implicitDefEqProofs only[e1,e2,e3,e4,f1,f2,f3,f4,aZ,aG,dX,VW,Oz]
 unfold jQ
 rw[uG,uG,uG,uG,AK]
 generalize bP (On (cq a) (cq b) (cq c))=b1
 generalize bP (On (cq a) (cq b) (cq d))=b2
 generalize bP (On (cq c) (cq d) (cq a))=b3
 generalize bP (On (cq c) (cq d) (cq b))=b4
 generalize bP (cr (cq a) (cq b) (cq c)*cr (cq a) (cq b) (cq d)<0)=b5
 generalize bP (cr (cq c) (cq d) (cq a)*cr (cq c) (cq d) (cq b)<0)=b6
 cases b1 <;> cases b2 <;> cases b3 <;> cases b4 <;> cases b5 <;> rfl
theorem Iy:mE (lit a b (lit c d ()))=some (bP (jQ (cq a) (cq b) (cq c) (cq d)),()):=by
 have e1:=P7 h1 h2.1
 have e2:=P7 h1 hd
 have e3:=P7 h2 h1.1
 have e4:=P7 h2 hb
 have f1:=Ba h1 h2.1
 have f2:=Ba h1 hd
 have f3:=Ba h2 h1.1
 have f4:=Ba h2 hb
 unfold mE
 simp -implicitDefEqProofs only[e1,e2,e3,e4,f1,f2,f3,f4,aZ,aG,dX,VW,Oz]
 unfold jQ
 rw[uG,uG,uG,uG,AK]
 generalize bP (On (cq a) (cq b) (cq c))=b1
 generalize bP (On (cq a) (cq b) (cq d))=b2
 generalize bP (On (cq c) (cq d) (cq a))=b3
 generalize bP (On (cq c) (cq d) (cq b))=b4
 generalize bP (cr (cq a) (cq b) (cq c)*cr (cq a) (cq b) (cq d)<0)=b5
 generalize bP (cr (cq c) (cq d) (cq a)*cr (cq c) (cq d) (cq b)<0)=b6
 cases b1 <;> cases b2 <;> cases b3 <;> cases b4 <;> cases b5 <;> rfl
end
end Go.Eng.Rt
namespace Go.Eng.Rt
open Go.Eng Go.Eng.Tw Go.Eng.Tm Go.Eng.Tg
theorem A5{S E:Type}{F:S→Option (S⊕E)}(st:Nat→S)(n:Nat)(bad:Nat→Prop)(hit out:E)(h1:∀k,k<n→bad k→F (st k)=some (.inr hit))(h2:∀k,k<n→¬bad k→F (st k)=some (.inl (st (k+1))))
 (h3:∀k,n≤k→F (st k)=some (.inr out)):∀(d k:Nat),n≤k+d→aM F (st k)=some (bif bP (∃j,k≤j∧j<n∧bad j) then hit else out)
 | 0,k,h=>by
  rw[aW (h3 k (by omega)),e7 (by rintro ⟨j,a,b,_⟩;omega)];rfl
 | d+1,k,h=>by
  by_cases hk:k<n
  ·by_cases hb:bad k
   ·rw[aW (h1 k hk hb),fJ ⟨k,Nat.le_refl _,hk,hb⟩];rfl
   ·rw[eX (h2 k hk hb),A5 st n bad hit out h1 h2 h3 d (k+1) (by omega)]
    have:(∃j,k+1≤j∧j<n∧bad j)↔∃j,k≤j∧j<n∧bad j:=by
     constructor
     ·rintro ⟨j,a,b,c⟩;exact⟨j,by omega,b,c⟩
     ·rintro ⟨j,a,b,c⟩
      refine⟨j,?_,b,c⟩
      by_cases e:j=k
      ·subst e;exact absurd c hb
      ·omega
    rw[iL this]
  ·rw[aW (h3 k (by omega)),e7 (by rintro ⟨j,a,b,_⟩;omega)];rfl
theorem M6{p q:Z}(h:cq p=cq q):p=q:=Prod.ext (Rat.intCast_inj.1 (congrArg Prod.fst h)) (Rat.intCast_inj.1 (congrArg Prod.snd h))
theorem YK{l:List Z}{i:Nat}(h:i<l.length):aX l i=mM l i:=by unfold aX mM;rw[Nat.mod_eq_of_lt h];rfl
theorem SV{l:List Z}{i:Nat}(h:i<l.length):aX l (i+1)=mM l ((i+1)%l.length):=by unfold aX mM;rfl
theorem FD{l:List Z}(h:0<l.length)(i:Nat):aX l i∈l∧l[i%l.length]?=some (aX l i):=by
 have hl:=Nat.mod_lt i h
 have:=tE hl
 have e:mM l (i%l.length)=aX l i:=rfl
 rw[e] at this
 exact⟨this.2,this.1⟩
theorem pH{l:List Z}(hB:Bx l)(h:0<l.length)(i:Nat):Sp (aX l i):=hB.2.1 _ (FD h i).1
theorem xY{l:List Z}(hB:Bx l)(h:0<l.length)(i j:Nat):Se (aX l i) (aX l j):=⟨pH hB h i,hB.2.2 _ (FD h i).1 _ (FD h j).1⟩
theorem FE{l:List Z}(hB:Bx l){i:Nat}(hi:i<l.length):cX (l.map wT,(i:Int),())=some (lit (aX l i) (aX l (i+1)) ()):=by
 have h0:0<l.length:=by omega
 refine YE (by have:=hB.1;omega) hi ?_ (FD h0 (i+1)).2
 have:=(FD h0 i).2
 rwa[Nat.mod_eq_of_lt hi] at this
theorem M7{n m:Int}:(aN (n:Rat)=aN (m:Rat)∧aU (n:Rat)=aU (m:Rat))↔n=m:=by
 constructor
 ·rintro ⟨h1,h2⟩
  have h3:(n:Rat).num.natAbs=(m:Rat).num.natAbs:=GL (SE h2)
  exact Rat.intCast_inj.1 (Ab h1 h3 (by rw[Rat.den_intCast,Rat.den_intCast]))
 ·rintro rfl;exact⟨rfl,rfl⟩
theorem AL(n:Int):aY (n:Rat)=[]:=by unfold aY;rw[Rat.den_intCast];exact if_pos rfl
theorem Bb{n m:Int}(hn:n.natAbs<1000000):kE (aN (n:Rat),aU (n:Rat),aY (n:Rat),aN (m:Rat),aU (m:Rat),aY (m:Rat),())=some (decide (n=m),()):=by
 have hl:(aV n.natAbs).length<LM:=(rO (n:=n) (by omega)).fit.1 |> fun h=>by rw[Rat.num_intCast] at h;exact h
 have e1:aK (aU (n:Rat),aU (m:Rat),())=some (decide (aV n.natAbs=aV m.natAbs),()):=by
  have:=SN (a:=aV n.natAbs) (b:=aV m.natAbs) hl
  show aK (cV (aV (n:Rat).num.natAbs),cV (aV (m:Rat).num.natAbs),())=_
  rw[Rat.num_intCast,Rat.num_intCast];exact this
 have e2:aK (([]:List T),([]:List T),())=some (true,()):=by
  have:=SN (a:=[]) (b:=[]) (by decide)
  exact this
 unfold kE
 rw[AL,AL]
 simp only[e1,e2,aZ,wH]
 have hnum:aU (n:Rat)=aU (m:Rat)↔aV n.natAbs=aV m.natAbs:=by
  constructor
  ·intro h
   have:=SE h
   rw[Rat.num_intCast,Rat.num_intCast] at this
   exact this
  ·intro h
   show cV (aV (n:Rat).num.natAbs)=cV (aV (m:Rat).num.natAbs)
   rw[Rat.num_intCast,Rat.num_intCast,h]
 by_cases h1:aN (n:Rat)=aN (m:Rat)
 ·rw[h1]
  simp only[beq_self_eq_true,cond_true]
  by_cases h2:aV n.natAbs=aV m.natAbs
  ·rw[decide_eq_true h2,decide_eq_true (M7.1 ⟨h1,hnum.2 h2⟩)];rfl
  ·rw[decide_eq_false h2,decide_eq_false (fun e=>h2 (hnum.1 (M7.2 e).2))];rfl
 ·have:(aN (n:Rat)==aN (m:Rat))=false:=by simpa using h1
  rw[this,decide_eq_false (fun e=>h1 (M7.2 e).1)];rfl
section
variable {a b c:Z} (h1:Se a b) (h2:Se b c) (hc:Sp c)
include h1 h2 hc
theorem Iz:kJ (lit a b (pt c))=some (bP (M2 (cq a) (cq b) (cq c)),()):=by
 have ha:=h1.1
 have hb:=h2.1
 have sa1:=eN ha.1 (by decide)
 have sa2:=eN ha.2 (by decide)
 have sb1:=eN hb.1 (by decide)
 have sb2:=eN hb.2 (by decide)
 have sc1:=eN hc.1 (by decide)
 have sc2:=eN hc.2 (by decide)
 have q1:=SS sa1 sa2 FJ sb1 sb2 FJ
 have q2:=SS sc1 sc2 FJ sb1 sb2 FJ
 obtain⟨_,b1,b2⟩:=h1
 obtain⟨_,b3,b4⟩:=h2
 have n1:(a.1:Rat)-b.1=((a.1-b.1:Int):Rat):=(Rat.intCast_sub ..).symm
 have n2:(a.2:Rat)-b.2=((a.2-b.2:Int):Rat):=(Rat.intCast_sub ..).symm
 have n3:(c.1:Rat)-b.1=((c.1-b.1:Int):Rat):=(Rat.intCast_sub ..).symm
 have n4:(c.2:Rat)-b.2=((c.2-b.2:Int):Rat):=(Rat.intCast_sub ..).symm
 have d1:Sm ((a.1-b.1:Int):Rat):=eN (k:=20) (by omega) (by decide)
 have d2:Sm ((a.2-b.2:Int):Rat):=eN (k:=20) (by omega) (by decide)
 have d3:Sm ((c.1-b.1:Int):Rat):=eN (k:=20) (by omega) (by decide)
 have d4:Sm ((c.2-b.2:Int):Rat):=eN (k:=20) (by omega) (by decide)
 rw[n1,n2,Rat.sub_self,z3,z3] at q1
 rw[n3,n4,Rat.sub_self,z3,z3] at q2
 have m1:=CB d1 d3
 have m2:=CB d2 d4
 rw[←Rat.intCast_mul] at m1 m2
 have k1:((a.1-b.1)*(c.1-b.1)).natAbs≤400:=by rw[Int.natAbs_mul];exact Nat.mul_le_mul (show (a.1-b.1).natAbs≤20 by omega) (show (c.1-b.1).natAbs≤20 by omega)
 have k2:((a.2-b.2)*(c.2-b.2)).natAbs≤400:=by rw[Int.natAbs_mul];exact Nat.mul_le_mul (show (a.2-b.2).natAbs≤20 by omega) (show (c.2-b.2).natAbs≤20 by omega)
 have s1:Sm (((a.1-b.1)*(c.1-b.1):Int):Rat):=eN k1 (by decide)
 have s2:Sm (((a.2-b.2)*(c.2-b.2):Int):Rat):=eN k2 (by decide)
 have a1:=Ok s1 s2
 rw[←Rat.intCast_add] at a1
 have s3:Sm (((a.1-b.1)*(c.1-b.1)+(a.2-b.2)*(c.2-b.2):Int):Rat):=eN (k:=800) (by omega) (by decide)
 have g1:=AE s3.fit
 have o1:=VV (a:=a) (b:=b) ⟨ha,b1,b2⟩ hc
 unfold kJ
 simp -implicitDefEqProofs only[q1,q2,m1,m2,a1,g1,o1,aZ,aS,aG]
 have hf:M2 (cq a) (cq b) (cq c)↔jM (cr (cq a) (cq b) (cq c))=0∧0<jM (((a.1-b.1)*(c.1-b.1)+(a.2-b.2)*(c.2-b.2):Int):Rat):=by
  unfold M2
  have e:((cq a).1-(cq b).1)*((cq c).1-(cq b).1)+((cq a).2-(cq b).2)*((cq c).2-(cq b).2)=(((a.1-b.1)*(c.1-b.1)+(a.2-b.2)*(c.2-b.2):Int):Rat):=by
   unfold cq;dsimp only;rw[Rat.intCast_add,Rat.intCast_mul,Rat.intCast_mul,n1.symm,n2.symm,n3.symm,n4.symm]
  rw[e,FB]
  refine and_congr Iff.rfl ?_
  rcases pY (((a.1-b.1)*(c.1-b.1)+(a.2-b.2)*(c.2-b.2):Int):Rat) with⟨h,k⟩ | ⟨h,k⟩ | ⟨h,k⟩
  ·rw[h,k];exact⟨fun c=>absurd c (by decide),fun c=>absurd c (by decide)⟩
  ·rw[h];exact⟨fun c=>absurd c (by grind),fun c=>absurd c (by decide)⟩
  ·rw[h];exact⟨fun _=>by decide,fun _=>k⟩
 rw[iL hf,AK,AJ,AJ]
 generalize bP (jM (cr (cq a) (cq b) (cq c))=0)=x
 generalize bP (0<jM (((a.1-b.1)*(c.1-b.1)+(a.2-b.2)*(c.2-b.2):Int):Rat))=y
 cases x <;> cases y <;> rfl
end
def iM(l:List Z)(i j:Nat):Prop:=jQ (cq (aX l i)) (cq (aX l (i+1))) (cq (aX l j)) (cq (aX l (j+1)))
def SW(l:List Z)(i:Nat):Prop:=∃j,i+2≤j∧j<(if 0<i then l.length else l.length-1)∧iM l i j
def JA(l:List Z)(i:Nat):Prop:=aX l i=aX l (i+1)∨M2 (cq (aX l i)) (cq (aX l (i+1))) (cq (aX l (i+2)))∨SW l i
def SI(l:List Z)(i j:Nat):List T×Int×Unit×Unit×Int×Int×Int×Bool×List T×List T×Bool×List T×List T×Bool×List T×List T×Bool×List T×List T×Bool×List T×List T×Bool×List T×List T×Unit:=(l.map wT,(i:Int),(),(),(j:Int),(l.length:Int),(i:Int),lit (aX l i) (aX l (i+1)) ())
section
variable {l:List Z} (hB:Bx l)
include hB
theorem Em{i:Nat}(hi:i<l.length)(k:Nat):aM fY (SI l i k)=some (bif bP (∃j,k≤j∧j<(if 0<i then l.length else l.length-1)∧iM l i j) then .inl (false,()) else .inr (.inl (l.map wT,(l.length:Int),(i:Int),()))):=by
 have h0:0<l.length:=by omega
 have hle:=hB.1
 have hn:(if 0<i then l.length else l.length-1)≤l.length:=by split <;> omega
 have hlen:lenL (l.map wT)=(l.length:Int):=by rw[aL,List.length_map]
 have key:∀j,j<(if 0<i then l.length else l.length-1)→fY (SI l i j)=some (bif bP (iM l i j) then .inr (.inl (false,())) else .inl (SI l i (j+1))):=fun j hj=>by
  have hjl:j<l.length:=by omega
  have e1:=FE hB hjl
  have m:=Ix (xY hB h0 i (i+1)) (xY hB h0 j (j+1)) (pH hB h0 (i+1)) (pH hB h0 (j+1))
  have wj:wr .i64 ((j:Int)+1)=((j+1:Nat):Int):=by rw[dC (by omega) (by omega)];push_cast;rfl
  have wn:wr .i64 ((l.length:Int)-1)=((l.length-1:Nat):Int):=by rw[dC (by omega) (by omega)];omega
  have d1:decide ((j:Int)<(l.length:Int))=true:=decide_eq_true (by omega)
  have hm:bP (iM l i j)=bP (jQ (cq (aX l i)) (cq (aX l (i+1))) (cq (aX l j)) (cq (aX l (j+1)))):=rfl
  unfold fY SI
  by_cases hi0:0<i
  ·have d2:decide ((0:Int)<(i:Int))=true:=decide_eq_true (by omega)
   simp -implicitDefEqProofs only[aG,hlen,d1,d2,cond_true,e1,aZ,m,wj,aQ,hm]
   cases bP (jQ (cq (aX l i)) (cq (aX l (i+1))) (cq (aX l j)) (cq (aX l (j+1)))) <;> rfl
  ·have d2:decide ((0:Int)<(i:Int))=false:=decide_eq_false (by omega)
   rw[if_neg hi0] at hj
   have d3:decide ((j:Int)<((l.length-1:Nat):Int))=true:=decide_eq_true (by omega)
   simp -implicitDefEqProofs only[aG,hlen,d1,d2,d3,cond_true,cond_false,e1,aZ,m,wj,wn,aQ,bO,hm]
   cases bP (jQ (cq (aX l i)) (cq (aX l (i+1))) (cq (aX l j)) (cq (aX l (j+1)))) <;> rfl
 refine A5 (SI l i) (if 0<i then l.length else l.length-1) (iM l i) _ _ (fun j hj hb=>by rw[key j hj,fJ hb];rfl) (fun j hj hb=>by rw[key j hj,e7 hb];rfl) (fun j hj=>?_) l.length k (by omega)
 have wn:wr .i64 ((l.length:Int)-1)=((l.length-1:Nat):Int):=by rw[dC (by omega) (by omega)];omega
 unfold fY SI
 by_cases hjl:j<l.length
 ·have d1:decide ((j:Int)<(l.length:Int))=true:=decide_eq_true (by omega)
  by_cases hi0:0<i
  ·rw[if_pos hi0] at hj;omega
  ·rw[if_neg hi0] at hj
   have d2:decide ((0:Int)<(i:Int))=false:=decide_eq_false (by omega)
   have d3:decide ((j:Int)<((l.length-1:Nat):Int))=false:=decide_eq_false (by omega)
   simp -implicitDefEqProofs only[aG,hlen,d1,d2,d3,cond_true,cond_false,wn,bO]
 ·have d1:decide ((j:Int)<(l.length:Int))=false:=decide_eq_false (by omega)
  simp -implicitDefEqProofs only[aG,hlen,d1,cond_false]
theorem Ja:qF (l.map wT,())=some (bP (3≤l.length∧¬∃i,i<l.length∧JA l i),()):=by
 have hle:=hB.1
 have hlen:lenL (l.map wT)=(l.length:Int):=by rw[aL,List.length_map]
 unfold qF
 simp only[hlen,aG]
 by_cases h3:l.length<3
 ·rw[decide_eq_true (by omega:(l.length:Int)<3),e7 (by omega)];rfl
 ·rw[decide_eq_false (by omega:¬(l.length:Int)<3),cond_false]
  have h0:0<l.length:=by omega
  have key:∀i,i<l.length→fZ (l.map wT,(l.length:Int),(i:Int),())=some (bif bP (JA l i) then .inr (.inl (false,())) else .inl (l.map wT,(l.length:Int),((i+1:Nat):Int),())):=fun i hi=>by
   have e1:=FE hB hi
   have hi1:(i+1)%l.length<l.length:=Nat.mod_lt _ h0
   have e2:=FE hB hi1
   have a1:aX l ((i+1)%l.length)=aX l (i+1):=by unfold aX;rw[Nat.mod_mod]
   have a2:aX l ((i+1)%l.length+1)=aX l (i+2):=by unfold aX;rw[Nat.mod_add_mod]
   rw[a1,a2] at e2
   have wi:wr .i64 ((i:Int)+1)=((i+1:Nat):Int):=by rw[dC (by omega) (by omega)];push_cast;rfl
   have wi2:wr .i64 ((i:Int)+2)=((i+2:Nat):Int):=by rw[dC (by omega) (by omega)];push_cast;rfl
   have hnz:nz (l.length:Int)=some (l.length:Int):=by unfold nz;rw[if_neg (by omega)]
   have hmod:((i+1:Nat):Int).tmod (l.length:Int)=(((i+1)%l.length:Nat):Int):=rfl
   have d1:decide ((i:Int)<(l.length:Int))=true:=decide_eq_true (by omega)
   have sp:=pH hB h0
   have s1:=Bb (n:=(aX l i).1) (m:=(aX l (i+1)).1) (by have:=(sp i).1;omega)
   have s2:=Bb (n:=(aX l i).2) (m:=(aX l (i+1)).2) (by have:=(sp i).2;omega)
   have f:=Iz (xY hB h0 i (i+1)) (xY hB h0 (i+1) (i+2)) (sp (i+2))
   have lp:=Em hB hi (i+2)
   unfold SI at lp
   have hbj:bP (SW l i)=bP (∃j,i+2≤j∧j<(if 0<i then l.length else l.length-1)∧iM l i j):=rfl
   rw[←hbj] at lp
   unfold fZ
   simp -implicitDefEqProofs only[aG,d1,cond_true,e1,aZ,s1,s2,hlen,hnz,wi,wi2,aQ,mX,hmod,e2,f,lp]
   have hB':bP (JA l i)=(bP (aX l i=aX l (i+1))||(bP (M2 (cq (aX l i)) (cq (aX l (i+1))) (cq (aX l (i+2))))||bP (SW l i))):=by unfold JA;rw[uG,uG]
   have hE:bP (aX l i=aX l (i+1))=(decide ((aX l i).1=(aX l (i+1)).1)&&decide ((aX l i).2=(aX l (i+1)).2)):=by
    rw[AJ,AJ,←AK]
    exact iL ⟨fun h=>by rw[h];exact⟨rfl,rfl⟩,fun h=>Prod.ext h.1 h.2⟩
   rw[hB',hE]
   generalize decide ((aX l i).1=(aX l (i+1)).1)=x1
   generalize decide ((aX l i).2=(aX l (i+1)).2)=x2
   generalize bP (M2 (cq (aX l i)) (cq (aX l (i+1))) (cq (aX l (i+2))))=x3
   generalize bP (SW l i)=x4
   cases x1 <;> cases x2 <;> cases x3 <;> cases x4 <;> simp -implicitDefEqProofs only[cond_true,cond_false,aZ,aO,oH,Bool.or_true,Bool.or_false,Bool.true_or,Bool.false_or,Bool.and_true,Bool.and_false,Bool.true_and,Bool.false_and,wi]
  have:=A5 (F:=fZ) (fun i=>(l.map wT,(l.length:Int),(i:Int),())) l.length (JA l) (.inl (false,())) (.inr (.inl ())) (fun i hi hb=>by rw[key i hi,fJ hb];rfl) (fun i hi hb=>by rw[key i hi,e7 hb];rfl) (fun i hi=>by
   unfold fZ
   simp only[aG,decide_eq_false (by omega:¬(i:Int)<(l.length:Int)),cond_false]) l.length 0 (by omega)
  have:aM fZ (l.map wT,(l.length:Int),(0:Int),())=_:=this
  rw[this]
  have hb:bP (3≤l.length∧¬∃i,i<l.length∧JA l i)=!(bP (∃j,0≤j∧j<l.length∧JA l j)):=by
   rw[←GQ]
   refine iL ⟨fun h c=>h.2 (c.imp fun j hj=>hj.2),fun h=>⟨by omega,fun c=>h (c.imp fun j hj=>⟨Nat.zero_le _,hj⟩)⟩⟩
  rw[hb]
  generalize bP (∃j,0≤j∧j<l.length∧JA l j)=x
  cases x <;> rfl
end
end Go.Eng.Rt
namespace Go.Eng.Rt
open Go.Eng Go.Eng.Tw Go.Eng.Tm Go.Eng.Tg
theorem cZ{S E:Type}{F:S→Option (S⊕E)}(st:Nat→S)(n:Nat)(bad:Nat→Prop)(hit out:E)(h1:∀k,k<n→bad k→F (st k)=some (.inr hit))(h2:∀k,k<n→¬bad k→F (st k)=some (.inl (st (k+1))))
 (h3:F (st n)=some (.inr out)):∀(d k:Nat),k+d=n→aM F (st k)=some (bif bP (∃j,k≤j∧j<n∧bad j) then hit else out)
 | 0,k,h=>by
  have:k=n:=by omega
  subst this
  rw[aW h3,e7 (by rintro ⟨j,a,b,_⟩;omega)];rfl
 | d+1,k,h=>by
  by_cases hb:bad k
  ·rw[aW (h1 k (by omega) hb),fJ ⟨k,Nat.le_refl _,by omega,hb⟩];rfl
  ·rw[eX (h2 k (by omega) hb),cZ st n bad hit out h1 h2 h3 d (k+1) (by omega)]
   have:(∃j,k+1≤j∧j<n∧bad j)↔∃j,k≤j∧j<n∧bad j:=by
    constructor
    ·rintro ⟨j,a,b,c⟩;exact⟨j,by omega,b,c⟩
    ·rintro ⟨j,a,b,c⟩
     refine⟨j,?_,b,c⟩
     by_cases e:j=k
     ·subst e;exact absurd c hb
     ·omega
   rw[iL this]
def qs(l:List Z):List Q:=l.map cq
theorem xA(l:List Z):(qs l).length=l.length:=List.length_map ..
theorem xZ{l:List Z}(h:0<l.length)(i:Nat):aX (qs l) i=cq (aX l i):=uZ cq h i
theorem C9{l:List Z}{e:Ed}:e∈iV (qs l)↔∃i,i<l.length∧e=(cq (aX l i),cq (aX l (i+1))):=by
 rw[o4,xA]
 refine exists_congr fun i=>and_congr_right fun hi=>?_
 have h0:0<l.length:=by omega
 have e1:(qs l).getD i default=cq (aX l i):=by rw[←xZ h0];unfold aX;rw[xA,Nat.mod_eq_of_lt hi]
 have e2:(qs l).getD ((i+1)%l.length) default=cq (aX l (i+1)):=by rw[←xZ h0];unfold aX;rw[xA]
 rw[e1,e2]
theorem Nb{l:List Z}:iV (qs l)=(List.range l.length).map fun i=>(cq (aX l i),cq (aX l (i+1))):=by
 unfold iV
 rw[xA]
 refine List.map_congr_left fun i hi=>?_
 have hi:=List.mem_range.1 hi
 have h0:0<l.length:=by omega
 have e1:(qs l).getD i default=cq (aX l i):=by rw[←xZ h0];unfold aX;rw[xA,Nat.mod_eq_of_lt hi]
 have e2:(qs l).getD ((i+1)%l.length) default=cq (aX l (i+1)):=by rw[←xZ h0];unfold aX;rw[xA]
 rw[e1,e2]
noncomputable def wE(l:List Z)(p:Q)(i:Nat):Int:=we p (cq (aX l i),cq (aX l (i+1)))
theorem YL(l:List Z)(p:Q):wd (iV (qs l)) p=nZ l.length (wE l p):=by
 unfold wd nZ
 rw[Nb,List.map_map]
 rfl
theorem Jb(p:Q)(e:Ed):-1≤we p e∧we p e≤1:=by
 unfold we
 split
 ·exact⟨by decide,by decide⟩
 ·split <;> exact⟨by decide,by decide⟩
theorem SX(f:Nat→Int)(h:∀i,-1≤f i∧f i≤1):∀n:Nat,-(n:Int)≤nZ n f∧nZ n f≤n
 | 0=>by
  have:nZ 0 f=0:=rfl
  rw[this];omega
 | n+1=>by
  have:=SX f h n
  have:=h n
  rw[fG];omega
theorem SY(l:List Z)(p:Q):(wd (iV (qs l)) p).natAbs≤l.length:=by
 rw[YL]
 have:=SX (wE l p) (fun i=>Jb _ _) l.length
 omega
def Va(l:List Z)(p:Q)(i:Nat):Prop:=On (cq (aX l i)) (cq (aX l (i+1))) p
theorem Jc{l:List Z}{p:Q}:yE (iV (qs l)) p↔∃j,0≤j∧j<l.length∧Va l p j:=by
 constructor
 ·rintro ⟨e,he,h⟩
  obtain⟨i,hi,rfl⟩:=C9.1 he
  exact⟨i,Nat.zero_le _,hi,h⟩
 ·rintro ⟨i,_,hi,h⟩
  exact⟨_,C9.2 ⟨i,hi,rfl⟩,h⟩
theorem Rf{a b p:Q}{n:Int}(hn:n.natAbs≤1000000):Qs (decide (lO a.2 p.2≤0)) (decide (lO b.2 p.2≤0)) (jM (cr a b p)) n=n+we p (a,b):=by
 have w1:wr .i64 (n+1)=n+1:=dC (by omega) (by omega)
 have w2:wr .i64 (n-1)=n-1:=dC (by omega) (by omega)
 unfold Qs we
 dsimp only
 by_cases ha:a.2≤p.2
 ·rw[decide_eq_true (oZ.2 ha)]
  by_cases hb:b.2≤p.2
  ·rw[decide_eq_true (oZ.2 hb),if_neg (by rintro ⟨_,h,_⟩;grind),if_neg (by rintro ⟨_,h,_⟩;grind)]
   show n=_;omega
  ·rw[decide_eq_false (fun c=>hb (oZ.1 c))]
   rcases pY (cr a b p) with⟨h,k⟩ | ⟨h,k⟩ | ⟨h,k⟩
   ·rw[h,if_neg (by rintro ⟨_,_,h⟩;grind),if_neg (by rintro ⟨_,h,_⟩;grind)];show n=_;omega
   ·rw[h,if_neg (by rintro ⟨_,_,h⟩;grind),if_neg (by rintro ⟨_,h,_⟩;grind)];show n=_;omega
   ·rw[h,if_pos ⟨ha,by grind,k⟩];show wr .i64 (n+1)=_;rw[w1]
 ·rw[decide_eq_false (fun c=>ha (oZ.1 c))]
  by_cases hb:b.2≤p.2
  ·rw[decide_eq_true (oZ.2 hb),if_neg (fun h=>ha h.1)]
   rcases pY (cr a b p) with⟨h,k⟩ | ⟨h,k⟩ | ⟨h,k⟩
   ·rw[h,if_neg (by rintro ⟨_,_,h⟩;grind)];show n=_;omega
   ·rw[h,if_pos ⟨hb,by grind,k⟩];show wr .i64 (n-1)=_;rw[w2];omega
   ·rw[h,if_neg (by rintro ⟨_,_,h⟩;grind)];show n=_;omega
  ·rw[decide_eq_false (fun c=>hb (oZ.1 c)),if_neg (fun h=>ha h.1),if_neg (fun h=>hb h.1)]
   show n=_;omega
section
variable {l:List Z} (hB:Bx l) {D:Nat} {px py pz:Rat}
include hB
theorem Jd{i:Nat}(hi:i<l.length):Qs (decide (lO ((mM l i).2:Rat) py≤0)) (decide (lO ((mM l ((i+1)%l.length)).2:Rat) py≤0)) (sE (mM l i) (mM l ((i+1)%l.length)) px py) (nZ i (wE l (px,py)))=nZ (i+1) (wE l (px,py)):=by
 have h1:=SX (wE l (px,py)) (fun i=>Jb _ _) i
 have hle:=hB.1
 rw[←YK hi,←SV hi,fG]
 unfold sE
 rw[Mz]
 exact Rf (a:=cq (aX l i)) (b:=cq (aX l (i+1))) (p:=(px,py)) (by omega)
omit hB in
theorem Bc{i:Nat}(hi:i<l.length):An (((mM l ((i+1)%l.length)).1-(mM l i).1:Int):Rat) (((mM l ((i+1)%l.length)).2-(mM l i).2:Int):Rat) (px-(mM l i).1) (py-(mM l i).2)=bP (Va l (px,py) i):=by
 rw[←YK hi,←SV hi,Re];rfl
theorem Je(hp:Pp D 32 px py pz):jI (l.map wT,c3 px (c3 py (c3 pz ())))=some (bif bP (yE (iV (qs l)) (px,py)) then (0,false,()) else (wd (iV (qs l)) (px,py),true,())):=by
 have hpl:((l.map wT).length:Int)=(l.length:Int):=by rw[List.length_map]
 have h:=cZ (F:=fB) (fun i=>PS l px py pz i (nZ i (wE l (px,py)))) l.length (Va l (px,py)) (.inl (0,false,())) (.inr (.inl (wd (iV (qs l)) (px,py),())))
  (fun i hi hb=>by rw[Om hB hi _ hp,Bc hi,fJ hb];rfl)
  (fun i hi hb=>by rw[Om hB hi _ hp,Bc hi,e7 hb,Jd hB hi];rfl)
  (by
   unfold fB PS
   rw[YL]
   simp only[aG,decide_eq_false (by omega:¬(l.length:Int)<(l.length:Int)),cond_false]) l.length 0 (by omega)
 have h:aM fB (l.map wT,(),(0:Int),(l.length:Int),(0:Int),c3 px (c3 py (c3 pz ())))=_:=h
 rw[←iL Jc] at h
 unfold jI
 simp only[aL,hpl]
 rw[h]
 generalize bP (yE (iV (qs l)) (px,py))=b
 cases b <;> rfl
theorem Jf(hp:Pr D px py pz):fH (l.map wT,c3 px (c3 py (c3 pz ())))=some (bif bP (yE (iV (qs l)) (px,py)) then (0,false,()) else (wd (iV (qs l)) (px,py),true,())):=by
 have hpl:((l.map wT).length:Int)=(l.length:Int):=by rw[List.length_map]
 have h:=cZ (F:=eS) (fun i=>RS l px py pz i (nZ i (wE l (px,py)))) l.length (Va l (px,py)) (.inl (0,false,())) (.inr (.inl (wd (iV (qs l)) (px,py),())))
  (fun i hi hb=>by rw[Oo hB hi _ hp,Bc hi,fJ hb];rfl)
  (fun i hi hb=>by rw[Oo hB hi _ hp,Bc hi,e7 hb,Jd hB hi];rfl)
  (by
   unfold eS RS
   rw[YL]
   simp only[aG,aL,hpl,decide_eq_false (by omega:¬(l.length:Int)<(l.length:Int)),cond_false]) l.length 0 (by omega)
 have h:aM eS (l.map wT,(),(0:Int),(0:Int),c3 px (c3 py (c3 pz ())))=_:=h
 rw[←iL Jc] at h
 unfold fH
 rw[h]
 generalize bP (yE (iV (qs l)) (px,py))=b
 cases b <;> rfl
end
theorem Nc{l:List Z}(hB:Bx l){p:Z}(hp:Sp p):jI (l.map wT,pt p)=some (bif bP (yE (iV (qs l)) (cq p)) then (0,false,()) else (wd (iV (qs l)) (cq p),true,())):=by
 have:=Je hB (M5 hp).up;rw[M4] at this;exact this
theorem Nd{l:List Z}(hB:Bx l){p:Z}(hp:Sp p):fH (l.map wT,pt p)=some (bif bP (yE (iV (qs l)) (cq p)) then (0,false,()) else (wd (iV (qs l)) (cq p),true,())):=by
 have:=Jf hB (M5 hp);rw[M4] at this;exact this
def Mt(l m:List Z)(i j:Nat):Prop:=jQ (cq (aX l i)) (cq (aX l (i+1))) (cq (aX m j)) (cq (aX m (j+1)))
def Rg(l m:List Z)(i:Nat):Prop:=∃j,0≤j∧j<m.length∧Mt l m i j
def P8(l m:List Z):Prop:=∃i,0≤i∧i<l.length∧Rg l m i
theorem Eo{l m:List Z}:¬P8 l m↔Apart (iV (qs l)) (iV (qs m)):=by
 constructor
 ·intro h e he f hf hm
  obtain⟨i,hi,rfl⟩:=C9.1 he
  obtain⟨j,hj,rfl⟩:=C9.1 hf
  exact h ⟨i,Nat.zero_le _,hi,j,Nat.zero_le _,hj,hm⟩
 ·rintro h ⟨i,_,hi,j,_,hj,hm⟩
  exact h _ (C9.2 ⟨i,hi,rfl⟩) _ (C9.2 ⟨j,hj,rfl⟩) hm
section
variable {l m:List Z} (hl:Bx l) (hm:Bx m)
include hl hm
theorem Nf:r6 (l.map wT,m.map wT,())=some (!(bP (P8 l m)),()):=by
 have b1:=hl.1
 have b2:=hm.1
 have h1:lenL (l.map wT)=(l.length:Int):=by rw[aL,List.length_map]
 have h2:lenL (m.map wT)=(m.length:Int):=by rw[aL,List.length_map]
 have inn:∀i,i<l.length→aM g9 (l.map wT,m.map wT,(i:Int),(l.length:Int),(i:Int),(m.length:Int),(0:Int),())=some (bif bP (Rg l m i) then .inl (false,()) else .inr (.inl (l.map wT,m.map wT,(l.length:Int),(i:Int),()))):=fun i hi=>by
  have key:∀j,j<m.length→g9 (l.map wT,m.map wT,(i:Int),(l.length:Int),(i:Int),(m.length:Int),(j:Int),())=some (bif bP (Mt l m i j) then .inr (.inl (false,())) else .inl (l.map wT,m.map wT,(i:Int),(l.length:Int),(i:Int),(m.length:Int),((j+1:Nat):Int),())):=fun j hj=>by
   have e1:=FE hl hi
   have e2:=FE hm hj
   have mt:=Ix (xY hl (by omega) i (i+1)) (xY hm (by omega) j (j+1)) (pH hl (by omega) (i+1)) (pH hm (by omega) (j+1))
   have wj:wr .i64 ((j:Int)+1)=((j+1:Nat):Int):=by rw[dC (by omega) (by omega)];push_cast;rfl
   have hb:bP (Mt l m i j)=bP (jQ (cq (aX l i)) (cq (aX l (i+1))) (cq (aX m j)) (cq (aX m (j+1)))):=rfl
   unfold g9
   simp -implicitDefEqProofs only[aG,decide_eq_true (by omega:(j:Int)<(m.length:Int)),cond_true,e1,e2,aZ,mt,wj,aQ,hb]
   generalize bP (jQ (cq (aX l i)) (cq (aX l (i+1))) (cq (aX m j)) (cq (aX m (j+1))))=b
   cases b <;> rfl
  exact cZ (F:=g9) (fun j=>(l.map wT,m.map wT,(i:Int),(l.length:Int),(i:Int),(m.length:Int),(j:Int),())) m.length (Mt l m i) _ _ (fun j hj hb=>by rw[key j hj,fJ hb];rfl) (fun j hj hb=>by rw[key j hj,e7 hb];rfl) (by
   unfold g9
   simp only[aG,decide_eq_false (by omega:¬(m.length:Int)<(m.length:Int)),cond_false]) m.length 0 (by omega)
 have out:=cZ (F:=hJ) (fun i=>(l.map wT,m.map wT,(l.length:Int),(i:Int),())) l.length (Rg l m) (.inl (false,())) (.inr (.inl ()))
  (fun i hi hb=>by
   unfold hJ
   simp only[aG,decide_eq_true (by omega:(i:Int)<(l.length:Int)),cond_true,h2,inn i hi,fJ hb,aZ,aO])
  (fun i hi hb=>by
   have wi:wr .i64 ((i:Int)+1)=((i+1:Nat):Int):=by rw[dC (by omega) (by omega)];push_cast;rfl
   unfold hJ
   simp only[aG,decide_eq_true (by omega:(i:Int)<(l.length:Int)),cond_true,h2,inn i hi,e7 hb,cond_false,aZ,aO,oH,aQ,wi])
  (by
   unfold hJ
   simp only[aG,decide_eq_false (by omega:¬(l.length:Int)<(l.length:Int)),cond_false]) l.length 0 (by omega)
 have out:aM hJ (l.map wT,m.map wT,(l.length:Int),(0:Int),())=_:=out
 unfold r6
 simp only[h1]
 rw[out]
 have hb:bP (∃j,0≤j∧j<l.length∧Rg l m j)=bP (P8 l m):=rfl
 rw[hb]
 generalize bP (P8 l m)=b
 cases b <;> rfl
end
end Go.Eng.Rt
namespace Go.Eng
theorem Be(a:Int){b:Int}(h:0<b):-b<a.tmod b:=by
 rcases Int.lt_or_le a 0 with ha | ha
 ·have h1:(-(-a)).tmod b=-((-a).tmod b):=Int.neg_tmod (-a) b
  rw[Int.neg_neg] at h1
  have h2:(-a).tmod b<b:=by rw[Int.tmod_eq_emod_of_nonneg (by omega)];exact Int.emod_lt_of_pos _ h
  omega
 ·have:0≤a.tmod b:=by rw[Int.tmod_eq_emod_of_nonneg ha];exact Int.emod_nonneg _ (by omega)
  omega
theorem Bf(a:Int){b:Int}(h:0<b):a.tmod b<b:=by
 rcases Int.lt_or_le a 0 with ha | ha
 ·have h1:(-(-a)).tmod b=-((-a).tmod b):=Int.neg_tmod (-a) b
  rw[Int.neg_neg] at h1
  have h2:0≤(-a).tmod b:=by rw[Int.tmod_eq_emod_of_nonneg (by omega)];exact Int.emod_nonneg _ (by omega)
  omega
 ·rw[Int.tmod_eq_emod_of_nonneg ha];exact Int.emod_lt_of_pos _ h
def pB(a n:Int):Int:=if a.tmod n<0 then a.tmod n+n else a.tmod n
theorem JO(a:Int){n:Int}(h:0<n):0≤pB a n:=by
 unfold pB
 have:=Be a h
 split <;> omega
theorem FG(a:Int){n:Int}(h:0<n):pB a n<n:=by
 unfold pB
 have:=Bf a h
 split <;> omega
theorem Bg(a:Int){n:Int}(h1:0<n)(h2:n≤4611686018427387904):cN (a,n,())=some (pB a n,()):=by
 unfold cN pB
 have:=Be a h1
 have:=Bf a h1
 rw[ZI (show n≠0 by omega)]
 simp only[aZ,mX,aG,aQ]
 by_cases h:a.tmod n<0
 ·rw[decide_eq_true h,if_pos h,rH (by omega) (by omega)];rfl
 ·rw[decide_eq_false h,if_neg h];rfl
def Jg(z:Int):T:=.v (.int .i64 z)
def kB(L:List T)(a:Int):Prop:=∃zs:List Int,L=zs.map Jg∧zs.length≤1000000∧0≤a∧a≤zs.length
theorem nF{L:List T}{a:Int}(h:kB L a){n:Int}(h1:0<n)(h2:n≤4611686018427387904):
 ∃v a',aF ((),n,L,a,())=some (v,L,a',())∧0≤v∧v<n∧kB L a':=by
 obtain⟨zs,rfl,hz,ha0,ha1⟩:=h
 unfold aF
 simp only[mI,aL,List.length_map,aQ,bO]
 by_cases hc:(zs.length:Int)≤a
 ·rw[decide_eq_true hc]
  exact⟨0,a,rfl,Int.le_refl _,h1,zs,rfl,hz,ha0,ha1⟩
 ·rw[decide_eq_false hc]
  obtain⟨i,rfl⟩:=Int.eq_ofNat_of_zero_le ha0
  have hi:i<zs.length:=by omega
  rw[rH (n:=(i:Int)+1) (by omega) (by omega),rH (n:=(i:Int)+1-1) (by omega) (by omega),Int.add_sub_cancel,bZ,List.getElem?_map,List.getElem?_eq_getElem hi]
  simp only[cond_false,Option.map_some,aZ,Jg,Gi,Sy,Bg _ h1 h2]
  exact⟨_,_,rfl,JO _ h1,FG _ h1,zs,rfl,hz,by omega,by omega⟩
theorem Bh(L:List T):cP (L,())=some (decide (L.length≤500),()):=by
 unfold cP
 simp only[mI,aL]
 congr 2
 rw[Bool.eq_iff_iff];simp;omega
theorem Jh(L:List T):gR (L,())=some (L,0,()):=rfl
end Go.Eng
namespace Go.Eng.Rt
open Go.Eng Go.Eng.Tm
def DS(L:List T)(a x y r:Int)(turn:Bool)(i:Int)(l:List T):(Unit×Int×Int×Int×Unit×List T×Bool×Int×List T×Int×Int×Int×Int×Int×Int×Int×Int×Int×Int×Int×Int×Int×Int×Int×Int×Int×Unit):=
 ((),x,y,r,(),l,turn,i,L,a,2,0,2,1,1,2,-1,2,-2,0,-2,-1,0,-2,1,-1,())
def Vz(x y:Int)(ps:List (Int×Int)):Prop:=∀p∈ps,(p.1-x).natAbs≤10∧(p.2-y).natAbs≤10
end Go.Eng.Rt
namespace Go.Eng.Rt
open Go.Eng Go.Eng.Tw Go.Eng.Tm
def Pa(l:List (Int×Int))(i:Nat):(List T×Unit×Unit×Int×Bool×T×T×Bool×List T×List T×Unit):=
 (l.map wT,(),(),(i:Int),false,.v (.slice none 0 0),.v (.slice none 0 0),aN (mV l i:Rat),aU (mV l i:Rat),aY (mV l i:Rat),())
theorem YM{l:List (Int×Int)}(hl:∀p∈l,Mn p)(hn:l.length≤1000){i:Nat}(hi:i<l.length):g8 (Pa l i)=some (.inl (Pa l (i+1))):=by
 have hj:(i+1)%l.length<l.length:=Nat.mod_lt _ (by omega)
 obtain⟨e1,m1⟩:=tE hi
 obtain⟨e2,m2⟩:=tE hj
 have hb:=wW hl (i:=i) (by omega)
 have hc:=GO (hl _ m1) (hl _ m2)
 have wi:wr .i64 ((i:Int)+1)=((i+1:Nat):Int):=by rw[dC (by omega) (by omega)];push_cast;rfl
 have hlt:decide ((i:Int)<(l.length:Int))=true:=decide_eq_true (by omega)
 have hpl:((l.map wT).length:Int)=(l.length:Int):=by rw[List.length_map]
 have hnz:nz (l.length:Int)=some (l.length:Int):=by unfold nz;rw[if_neg (by omega)]
 have hmod:((i+1:Nat):Int).tmod (l.length:Int)=(((i+1)%l.length:Nat):Int):=rfl
 have hs:mV l (i+1)=mV l i+NC (mM l i) (mM l ((i+1)%l.length)):=rfl
 generalize mM l i=p at *
 generalize mM l ((i+1)%l.length)=q at *
 have hgp:(l.map wT)[i]?=some (wT p):=by simp[e1]
 have hgq:(l.map wT)[(i+1)%l.length]?=some (wT q):=by simp[e2]
 obtain⟨a0,a1,a2,a3,a4,a5,a6,a7,a8⟩:=cells p
 obtain⟨d0,d1,d2,d3,d4,d5,d6,d7,d8⟩:=cells q
 have sp:=hl _ m1
 have sq:=hl _ m2
 have sm:∀{n:Int},n.natAbs<100→Sm (n:Rat):=fun h=>rO (by omega)
 have k1:(p.1*q.2).natAbs≤10000:=by
  rw[Int.natAbs_mul]
  exact Nat.mul_le_mul (show _≤100 from Nat.le_of_lt sp.1) (show _≤100 from Nat.le_of_lt sq.2)
 have k2:(q.1*p.2).natAbs≤10000:=by
  rw[Int.natAbs_mul]
  exact Nat.mul_le_mul (show _≤100 from Nat.le_of_lt sq.1) (show _≤100 from Nat.le_of_lt sp.2)
 have f1:=oY (sm sp.1) (sm sq.2)
 have f2:=oY (sm sq.1) (sm sp.2)
 rw[←Rat.intCast_mul] at f1 f2
 have f3:=C6 (rO (n:=p.1*q.2) (by omega)) (rO (n:=q.1*p.2) (by omega))
 rw[←Rat.intCast_sub] at f3
 have f4:=MV (rO (n:=mV l i) (by omega)) (rO (n:=NC p q) (by omega))
 rw[←Rat.intCast_add,←hs] at f4
 unfold NC at f4
 unfold g8
 conv=>lhs;unfold Pa
 simp only[aG,aL,hpl,hlt,cond_true,hnz,mX,aQ,wi,hmod,bZ,hgp,hgq,aZ,a0,a1,a2,a3,a4,a5,d0,d1,d2,d3,d4,d5,f1,f2,f3,f4]
 rfl
theorem Rh{l:List (Int×Int)}(hl:∀p∈l,Mn p)(hn:l.length≤1000):mC (l.map wT,())=some (aN (A9 l:Rat),aU (A9 l:Rat),aY (A9 l:Rat),()):=by
 have h:=jB (F:=g8) l.length (Pa l) fun i hi=>YM hl hn hi
 have hpl:((l.map wT).length:Int)=(l.length:Int):=by rw[List.length_map]
 have fold:(l.map wT,(),(),(0:Int),false,T.v (Value.slice none 0 0),T.v (Value.slice none 0 0),false,([]:List T),([]:List T),())=Pa l 0:=by
  have e:((mV l 0:Int):Rat)=0:=rfl
  unfold Pa
  rw[e,sF,sG,sH];rfl
 have hout:aM g8 (Pa l l.length)=some (.inl ((),(),false,T.v (Value.slice none 0 0),T.v (Value.slice none 0 0),aN (mV l l.length:Rat),aU (mV l l.length:Rat),aY (mV l l.length:Rat),())):=by
  refine aW ?_
  have hlt:decide ((l.length:Int)<(l.length:Int))=false:=decide_eq_false (by omega)
  unfold g8 Pa
  simp only[aG,aL,hpl,hlt,cond_false]
 rw[←A4]
 unfold mC
 simp only[fold,h,hout,aZ,aO]
theorem Ji{l:List (Int×Int)}(hl:∀p∈l,Mn p):(A9 l).natAbs≤20000*l.length:=by
 rw[←A4];exact wW hl (Nat.le_refl _)
end Go.Eng.Rt
namespace Go.Eng.Rt
open Go.Eng Go.Eng.Tm
theorem Ri(a0 a1 a2 a3 a4 a5 a6 a7 a8 b0 b1 b2 b3 b4 b5 b6 b7 b8:T):T.upd 9 (.agg [a0,a1,a2,a3,a4,a5,a6,a7,a8]) 0 [b0,b1,b2,b3,b4,b5,b6,b7,b8]=.agg [b0,b1,b2,b3,b4,b5,b6,b7,b8]:=by
 unfold T.upd;rfl
theorem Bh(L:List T):cP (L,())=some (decide (L.length≤500),()):=by
 unfold cP
 simp only[mI,aL]
 congr 2
 rw[Bool.eq_iff_iff];simp;omega
theorem Jh(L:List T):gR (L,())=some (L,0,()):=rfl
def lT(l:List (Int×Int)):T:=.sl 9 (l.map wT)
def YN(ls:List (List (Int×Int))):Prop:=∀l∈ls,Bx l
end Go.Eng.Rt
namespace Go.Eng.Rt
open Go.Eng Go.Eng.Tw Go.Eng.Tm
theorem AM{x y:Int}(hx:x.natAbs≤100)(hy:y.natAbs≤100):aI (x,y,())=some (aN (x:Rat),aU (x:Rat),aY (x:Rat),aN (y:Rat),aU (y:Rat),aY (y:Rat),false,[],[],()):=by
 unfold aI
 simp only[VJ (n:=x) (by omega) (by omega),VJ (n:=y) (by omega) (by omega),aZ]
theorem YO(x y:Int):T.agg [T.v (.bool (aN (x:Rat))),.sl 1 (aU (x:Rat)),.sl 1 (aY (x:Rat)),.v (.bool (aN (y:Rat))),.sl 1 (aU (y:Rat)),.sl 1 (aY (y:Rat)),.v (.bool false),.sl 1 [],.sl 1 []]=wT (x,y):=rfl
theorem Rj(p:Int×Int)(x y:Int):T.upd 9 (wT p) 0 [.v (.bool (aN (x:Rat))),.sl 1 (aU (x:Rat)),.sl 1 (aY (x:Rat)),.v (.bool (aN (y:Rat))),.sl 1 (aU (y:Rat)),.sl 1 (aY (y:Rat)),.v (.bool false),.sl 1 [],.sl 1 []]=wT (x,y):=Ri ..
theorem Jj(a b c d:T):lenL [a,b,c,d]=4:=by rw[aL];rfl
theorem Rk:dY 4 3=some 3:=by unfold dY;rfl
theorem Rl:dY 4 1=some 1:=by unfold dY;rfl
theorem Vl(a b c d:T):iN [a,b,c,d] 3=some d:=by rw[qC];rfl
theorem Vm(a b c d:T):iN [a,b,c,d] 1=some b:=by rw[qC];rfl
theorem H8(a b c d x:T):[a,b,c,d].set 1 x=[a,x,c,d]:=rfl
theorem Rm(a b c d x:T):[a,b,c,d].set 3 x=[a,b,c,x]:=rfl
theorem w0(p:Int×Int):T.bool? (T.cell (wT p) 0)=some (aN (p.1:Rat)):=(cells p).1
theorem w1(p:Int×Int):T.sl? 1 (T.cell (wT p) 1)=some (aU (p.1:Rat)):=(cells p).2.1
theorem w2(p:Int×Int):T.sl? 1 (T.cell (wT p) 2)=some (aY (p.1:Rat)):=(cells p).2.2.1
theorem w3(p:Int×Int):T.bool? (T.cell (wT p) 3)=some (aN (p.2:Rat)):=(cells p).2.2.2.1
theorem w4(p:Int×Int):T.sl? 1 (T.cell (wT p) 4)=some (aU (p.2:Rat)):=(cells p).2.2.2.2.1
theorem w5(p:Int×Int):T.sl? 1 (T.cell (wT p) 5)=some (aY (p.2:Rat)):=(cells p).2.2.2.2.2.1
theorem w6(p:Int×Int):T.bool? (T.cell (wT p) 6)=some false:=(cells p).2.2.2.2.2.2.1
theorem w7(p:Int×Int):T.sl? 1 (T.cell (wT p) 7)=some []:=(cells p).2.2.2.2.2.2.2.1
theorem w8(p:Int×Int):T.sl? 1 (T.cell (wT p) 8)=some []:=(cells p).2.2.2.2.2.2.2.2
end Go.Eng.Rt
namespace Go.Eng.Rt
open Go.Eng Go.Eng.Tw Go.Eng.Tm Go.Eng.Tg
theorem SZ{n:Nat}(hn:n<1000000)(h:n≠0):lm n=[eL n]:=pX h (by unfold BB;omega)
theorem VX{n:Nat}(hn:n<1000000):gY (lm n,())=some (true,()):=by
 unfold gY
 by_cases h:n=0
 ·subst h;rw[j8];simp only[aL,List.length_nil,aS];rfl
 ·rw[SZ hn h]
  have e:lenL [eL n]=1:=by rw[aL];rfl
  have w:wr .i64 ((1:Int)-1)=((0:Nat):Int):=by rw[dC (by decide) (by decide)];rfl
  have g:T.int? .u32 (T.cell (eL n) 0)=some (n:Int):=rfl
  simp only[e,aS,bO,w,bZ]
  have hx:[eL n][0]?=some (eL n):=rfl
  simp only[hx,aZ,g,decide_eq_false (show ¬(n:Int)=0 by omega)]
  rfl
theorem VY{n:Nat}(hn:n<1000000):iR (lm n,())=some (true,()):=by
 unfold iR
 by_cases h:n=0
 ·subst h;rw[j8];simp only[aL,List.length_nil,aS];rfl
 ·rw[SZ hn h]
  have e:lenL [eL n]=1:=by rw[aL];rfl
  have w:wr .i64 ((1:Int)-1)=((0:Nat):Int):=by rw[dC (by decide) (by decide)];rfl
  have g:T.int? .u32 (T.cell (eL n) 0)=some (n:Int):=rfl
  simp only[e,aS,bO,w,bZ]
  have hx:[eL n][0]?=some (eL n):=rfl
  simp only[hx,aZ,g,decide_eq_false (show ¬(n:Int)=0 by omega)]
  rfl
theorem S0(n:Int):aU (n:Rat)=lm n.natAbs:=by unfold aU;rw[Rat.num_intCast]
theorem Jk{n:Int}(hn:n.natAbs<1000000):mA (aN (n:Rat),aU (n:Rat),aY (n:Rat),())=some (true,()):=by
 have e0:gY (([]:List T),())=some (true,()):=by have:=VX (n:=0) (by decide);rwa[j8] at this
 have l0:lenL ([]:List T)=0:=by rw[aL];rfl
 unfold mA
 rw[AL,S0]
 simp only[VX hn,e0,aZ,Bool.not_true,cond_false,l0,aS]
 by_cases h:n=0
 ·subst h
  have:lenL (lm (0:Int).natAbs)=0:=by rw[show (0:Int).natAbs=0 from rfl,j8,l0]
  rw[this,show aN ((0:Int):Rat)=false from rfl];simp
 ·have:lenL (lm n.natAbs)≠0:=by rw[aL];intro c;exact h (by have:=uD.1 (by omega:(lm n.natAbs).length=0);omega)
  rw[decide_eq_false this];rfl
theorem M8{n:Int}(hn:n.natAbs<1000000):iS (aN (n:Rat),aU (n:Rat),aY (n:Rat),())=some (true,()):=by
 have e0:iR (([]:List T),())=some (true,()):=by have:=VY (n:=0) (by decide);rwa[j8] at this
 have l0:lenL ([]:List T)=0:=by rw[aL];rfl
 have hD:=PZ (n:Rat)
 rw[AL,S0,Rat.den_intCast] at hD
 have hG:fU (lm n.natAbs,lm 1,())=some (lm 1,()):=by
  have:=Oi (a:=n.natAbs) (b:=1) (by unfold dW;omega) (by decide)
  rwa[Nat.gcd_one_right] at this
 have h1:lm 1=[eL 1]:=SZ (by decide) (by decide)
 unfold iS
 rw[AL,S0]
 simp only[VY hn,e0,aZ,Bool.not_true,cond_false,l0,aS,hD,hG]
 have e1:lenL (lm 1)=1:=by rw[h1,aL];rfl
 have i1:bD (lm 1) 0=some (eL 1):=by rw[h1,show (0:Int)=((0:Nat):Int) from rfl,bZ];rfl
 have g:T.int? .u32 (T.cell (eL 1) 0)=some 1:=rfl
 simp only[e1,i1,aZ,g]
 by_cases h:n=0
 ·subst h
  have:lenL (lm (0:Int).natAbs)=0:=by rw[show (0:Int).natAbs=0 from rfl,j8,l0]
  have hng:aN ((0:Int):Rat)=false:=rfl
  rw[this,hng];simp[aG]
 ·have:lenL (lm n.natAbs)≠0:=by rw[aL];intro c;exact h (by have:=uD.1 (by omega:(lm n.natAbs).length=0);omega)
  rw[decide_eq_false this];simp[aG]
theorem A6:aN ((0:Int):Rat)=false∧aU ((0:Int):Rat)=[]∧aY ((0:Int):Rat)=[]:=⟨rfl,P1,P2⟩
abbrev o5(n:Int):T:=.agg [.v (.bool (aN (n:Rat))),.sl 1 (aU (n:Rat)),.sl 1 (aY (n:Rat))]
theorem Rn{p:Z}(hp:Sp p):bW ([o5 p.1,o5 p.2,T.agg [(T.v (.bool false)),(T.sl 1 []),(T.sl 1 [])]],(),())=some (false,()):=by
 have hz:T.agg [(T.v (.bool false)),(T.sl 1 []),(T.sl 1 [])]=o5 0:=by unfold o5;rw[A6.1,A6.2.1,A6.2.2]
 rw[hz]
 have key:∀(L:List T) (k:Nat) (n:Int),n.natAbs<1000000→L[k]?=some (o5 n)→(k:Int)<(L.length:Int)→L.length<1000 →
  aT (L,(),(L.length:Int),(k:Int),())=some (.inl (L,(),(L.length:Int),((k+1:Nat):Int),())):=fun L k n hn hk hlt hL=>by
  have wk:wr .i64 ((k:Int)+1)=((k+1:Nat):Int):=by rw[dC (by omega) (by omega)];push_cast;rfl
  have v:=Jk hn
  have c0:T.bool? (T.cell (o5 n) 0)=some (aN (n:Rat)):=rfl
  have c1:T.sl? 1 (T.cell (o5 n) 1)=some (aU (n:Rat)):=uO _ _
  have c2:T.sl? 1 (T.cell (o5 n) 2)=some (aY (n:Rat)):=uO _ _
  unfold aT s8
  simp -implicitDefEqProofs only[aG,decide_eq_true hlt,cond_true,bZ,hk,aZ,c0,c1,c2,v,Bool.not_true,cond_false,aQ,wk]
 have h:=jB (F:=aT) 3 (fun k=>([o5 p.1,o5 p.2,o5 0],(),(3:Int),(k:Int),())) fun k hk=>by
  have h1:=hp.1
  have h2:=hp.2
  match k,hk with
  | 0,_=>exact key [o5 p.1,o5 p.2,o5 0] 0 p.1 (by omega) rfl (by simp only[List.length_cons,List.length_nil];omega) (by simp only[List.length_cons,List.length_nil];omega)
  | 1,_=>exact key [o5 p.1,o5 p.2,o5 0] 1 p.2 (by omega) rfl (by simp only[List.length_cons,List.length_nil];omega) (by simp only[List.length_cons,List.length_nil];omega)
  | 2,_=>exact key [o5 p.1,o5 p.2,o5 0] 2 0 (by decide) rfl (by simp only[List.length_cons,List.length_nil];omega) (by simp only[List.length_cons,List.length_nil];omega)
 have hout:aM aT ([o5 p.1,o5 p.2,o5 0],(),(3:Int),((3:Nat):Int),())=some (.inr (.inl ())):=aW (by
  unfold aT
  simp only[aG,decide_eq_false (by omega:¬((3:Nat):Int)<3),cond_false])
 rw[hout] at h
 have h:aM aT ([o5 p.1,o5 p.2,o5 0],(),(3:Int),(0:Int),())=some (.inr (.inl ())):=h
 have l3:lenL [o5 p.1,o5 p.2,o5 0]=3:=by rw[aL];rfl
 unfold bW dA
 simp only[l3]
 rw[h]
 simp only[aZ,aO,oH,mI]
 rfl
theorem VZ(l:List (Int×Int)):T.sl? 9 (T.cell (lT l) 0)=some (l.map wT):=uO 9 _
theorem Ui(l:List (Int×Int)):T.rw? 9 (T.cell (lT l) 0)=some (l.map wT):=Sz (by decide) (VZ l)
theorem u3(l:List (Int×Int)):T.sl? 9 (lT l)=some (l.map wT):=by unfold lT T.sl?;exact if_pos rfl
theorem S2(l:List (Int×Int)):T.rw? 9 (lT l)=some (l.map wT):=Sz (by decide) (u3 l)
theorem kW(l:List Z):T.cell (lT l) 0=lT l:=by unfold T.cell lT;rfl
theorem mK(ls:List (List Z)):lenL (ls.map lT)=(ls.length:Int):=by rw[aL,List.length_map]
def b9(ls:List (List Z))(i:Nat):List Z:=ls.getD i []
theorem iW{ls:List (List Z)}{i:Nat}(h:i<ls.length):bD (ls.map lT) (i:Int)=some (lT (b9 ls i))∧b9 ls i∈ls:=by
 have e:ls[i]?=some (b9 ls i):=by unfold b9;rw[List.getD_eq_getElem?_getD,List.getElem?_eq_getElem h];rfl
 exact⟨by rw[bZ,List.getElem?_map,e];rfl,List.mem_of_getElem? e⟩
theorem Uj{l:List Z}(hB:Bx l)(A B:List T)(n i:Int):aM hO (A,B,n,i,lT l,(l.length:Int),(0:Int),())=some (.inr (.inl (A,B,n,i,()))):=by
 have hle:=hB.1
 have h:=jB (F:=hO) l.length (fun k=>(A,B,n,i,lT l,(l.length:Int),(k:Int),())) fun k hk=>by
  have g:=(FD (l:=l) (by omega) k).2
  rw[Nat.mod_eq_of_lt hk] at g
  have gi:bD (l.map wT) (k:Int)=some (wT (aX l k)):=by rw[bZ,List.getElem?_map,g];rfl
  have wk:wr .i64 ((k:Int)+1)=((k+1:Nat):Int):=by rw[dC (by omega) (by omega)];push_cast;rfl
  obtain⟨c0,c1,c2,c3,c4,c5,c6,c7,c8⟩:=cells (aX l k)
  have cf:=Rn (pH hB (by omega) k)
  have sg:bM (false,([]:List T),([]:List T),())=some (0,()):=by
   have:=AE FJ.fit
   rw[Id,P1,P2] at this
   exact this
  unfold hO
  simp -implicitDefEqProofs only[aG,decide_eq_true (by omega:(k:Int)<(l.length:Int)),cond_true,S2,gi,aZ,c0,c1,c2,c3,c4,c5,c6,c7,c8,cf,cond_false,sg,aS,decide_true,Bool.not_true,aQ,wk]
 have hout:hO (A,B,n,i,lT l,(l.length:Int),(l.length:Int),())=some (.inr (.inr (.inl (A,B,n,i,())))):=by
  unfold hO
  simp only[aG,decide_eq_false (by omega:¬(l.length:Int)<(l.length:Int)),cond_false]
 rw[aW hout] at h
 exact h
end Go.Eng.Rt
namespace Go.Eng.Rt
open Go.Eng Go.Eng.Tw Go.Eng.Tm Go.Eng.Tg
theorem dD{ls:List (List Z)}{i:Nat}(h:i<ls.length):b9 ls i∈ls:=(iW h).2
theorem Uk{ls:List (List Z)}(hm:ls.length≤1000)(h:∀l∈ls,l.length≤64):bE (ls.map lT,(),())=some (false,()):=by
 have lp:=jB (F:=aR) ls.length (fun k=>(ls.map lT,(),(ls.length:Int),(k:Int),())) fun k hk=>by
  have wk:wr .i64 ((k:Int)+1)=((k+1:Nat):Int):=by rw[dC (by omega) (by omega)];push_cast;rfl
  have hl:=h _ (dD hk)
  have ll:lenL ((b9 ls k).map wT)=((b9 ls k).length:Int):=by rw[aL,List.length_map]
  unfold aR tA
  simp only[aG,decide_eq_true (by omega:(k:Int)<(ls.length:Int)),cond_true,(iW hk).1,aZ,VZ,ll,decide_eq_false (by omega:¬(64:Int)<((b9 ls k).length:Int)),cond_false,aQ,wk]
 have hout:aM aR (ls.map lT,(),(ls.length:Int),(ls.length:Int),())=some (.inr (.inl ())):=aW (by
  unfold aR
  simp only[aG,decide_eq_false (by omega:¬(ls.length:Int)<(ls.length:Int)),cond_false])
 rw[hout] at lp
 have lp:aM aR (ls.map lT,(),(ls.length:Int),(0:Int),())=some (.inr (.inl ())):=lp
 unfold bE cH
 simp only[mK]
 rw[lp]
 simp only[aZ,aO,oH,mI]
 rfl
theorem Vn(a b:Int):Kc false a b=min a b:=by unfold Kc;rfl
theorem Vo(a b:Int):Kc true a b=max a b:=by unfold Kc;rfl
noncomputable def wn(l:List Z)(p:Q):Int:=bif bP (yE (iV (qs l)) p) then 0 else wd (iV (qs l)) p
def nG(ls:List (List Z))(i:Nat):Z:=aX (b9 ls i) 0
def Ng(ls:List (List Z))(i j:Nat):Prop:=j≠i∧wn (b9 ls j) (cq (nG ls i))≠0
noncomputable def H9(ls:List (List Z))(i k:Nat):List Nat:=(List.range k).filter fun j=>bP (Ng ls i j)
theorem V0(ls:List (List Z))(i k:Nat):H9 ls i (k+1)=H9 ls i k++(bif bP (Ng ls i k) then [k] else []):=by
 unfold H9
 rw[List.range_succ,List.filter_append,List.filter_cons]
 cases bP (Ng ls i k) <;> rfl
theorem S3(ls:List (List Z))(i k:Nat):(H9 ls i k).length≤k:=by
 unfold H9
 have:=List.length_filter_le (fun j=>bP (Ng ls i j)) (List.range k)
 rw[List.length_range] at this
 exact this
theorem Nh{ls:List (List Z)}{i k j:Nat}(h:j∈H9 ls i k):j<k∧Ng ls i j:=by
 unfold H9 at h
 rw[List.mem_filter,List.mem_range] at h
 exact⟨h.1,Rc.1 h.2⟩
def yC(n:Nat):T:=.v (.int .i64 (n:Int))
def sA(l:List Z):Int:=jM (A9 l:Rat)
theorem M9(l:List Z):-1≤sA l∧sA l≤1:=by
 unfold sA
 rcases pY (A9 l:Rat) with⟨h,_⟩ | ⟨h,_⟩ | ⟨h,_⟩ <;> rw[h] <;> decide
section
variable {ls:List (List Z)} (hB:YN ls) (hm:ls.length≤1000)
include hB hm
theorem Jl{i:Nat}(hi:i<ls.length)(h0:0<(b9 ls i).length):qG (ls.map lT,(i:Int),())=some ((H9 ls i ls.length).map yC,()):=by
 have hbi:=hB _ (dD hi)
 have sp:=pH hbi h0 0
 have g0:bD ((b9 ls i).map wT) 0=some (wT (nG ls i)):=by
  have:=(FD h0 0).2
  rw[Nat.zero_mod] at this
  rw[show (0:Int)=((0:Nat):Int) from rfl,bZ,List.getElem?_map,this];rfl
 obtain⟨c0,c1,c2,c3,c4,c5,c6,c7,c8⟩:=cells (nG ls i)
 have lp:=jB (F:=f6) ls.length (fun k=>(ls.map lT,(i:Int),(H9 ls i k).map yC,ls.map lT,(ls.length:Int),(k:Int),())) fun k hk=>by
  have wk:wr .i64 ((k:Int)+1)=((k+1:Nat):Int):=by rw[dC (by omega) (by omega)];push_cast;rfl
  have hw:=Nc (hB _ (dD hk)) (p:=nG ls i) sp
  have hfst:(bif bP (yE (iV (qs (b9 ls k))) (cq (nG ls i))) then ((0:Int),false,()) else (wd (iV (qs (b9 ls k))) (cq (nG ls i)),true,())).1=wn (b9 ls k) (cq (nG ls i)):=by
   unfold wn;cases bP (yE (iV (qs (b9 ls k))) (cq (nG ls i))) <;> rfl
  have hr:=qD (l:=(H9 ls i k).map yC) (m:=[yC k]) (b:=8) (by have:=S3 ls i k;simp only[List.length_map,List.length_cons,List.length_nil];omega) (by decide)
  have hr':room ((H9 ls i k).map yC) [T.v (.int .i64 (k:Int))] 8=some ((H9 ls i k).map yC++[yC k]):=hr
  unfold f6
  simp -implicitDefEqProofs only[aG,decide_eq_true (by omega:(k:Int)<(ls.length:Int)),cond_true,(iW hk).1,(iW hi).1,aZ,Ui,g0,VZ,c0,c1,c2,c3,c4,c5,c6,c7,c8,hw,hfst,aS,hr']
  have e2:H9 ls i (k+1)=H9 ls i k++(bif bP (Ng ls i k) then [k] else []):=V0 ls i k
  by_cases h1:k=i
  ·have hrel:bP (Ng ls i k)=false:=e7 fun c=>c.1 h1
   rw[decide_eq_true (by omega:(k:Int)=(i:Int)),e2,hrel]
   simp only[Bool.not_true,cond_false,aZ,aO,aQ,wk,List.append_nil]
  ·rw[decide_eq_false (by omega:¬(k:Int)=(i:Int))]
   by_cases h2:wn (b9 ls k) (cq (nG ls i))=0
   ·have hrel:bP (Ng ls i k)=false:=e7 fun c=>c.2 h2
    rw[decide_eq_true h2,e2,hrel]
    simp only[Bool.not_true,Bool.not_false,cond_true,cond_false,aZ,aO,aQ,wk,List.append_nil]
   ·have hrel:bP (Ng ls i k)=true:=fJ ⟨h1,h2⟩
    rw[decide_eq_false h2,e2,hrel,cond_true]
    simp only[Bool.not_false,cond_true,aZ,aO,aQ,wk,List.map_append,List.map_cons,List.map_nil]
 have hout:f6 (ls.map lT,(i:Int),(H9 ls i ls.length).map yC,ls.map lT,(ls.length:Int),(ls.length:Int),())=some (.inr (.inl ((H9 ls i ls.length).map yC,()))):=by
  unfold f6
  simp only[aG,decide_eq_false (by omega:¬(ls.length:Int)<(ls.length:Int)),cond_false]
 rw[aW hout] at lp
 have lp:aM f6 (ls.map lT,(i:Int),([]:List T),ls.map lT,(ls.length:Int),(0:Int),())=some (.inl ((H9 ls i ls.length).map yC,())):=lp
 unfold qG
 simp only[mK]
 rw[lp]
 simp only[aZ,aO]
noncomputable def outs(ls:List (List Z))(i:Nat):Int:=((H9 ls i ls.length).map fun j=>sA (b9 ls j)).sum
omit hB hm in
theorem YP(f:Nat→Int)(hf:∀i,-1≤f i∧f i≤1):∀L:List Nat,-(L.length:Int)≤(L.map f).sum∧(L.map f).sum≤L.length
 | []=>by simp
 | a::L=>by
  have:=YP f hf L
  have:=hf a
  rw[List.map_cons,List.sum_cons,List.length_cons];omega
omit hB hm in
theorem Jm(i:Nat):(outs ls i).natAbs≤ls.length:=by
 unfold outs
 have h1:=YP (fun j=>sA (b9 ls j)) (fun j=>M9 _) (H9 ls i ls.length)
 have h2:=S3 ls i ls.length
 omega
omit hB hm in
theorem Jn{l:List Z}(h:Bx l):∃x y z,iK (l.map wT,())=some (x,y,z,())∧bM (x,y,z,())=some (sA l,()):=by
 have e:=Ih (l:=l) (fun p hp=>by have:=h.2.1 p hp;exact⟨by omega,by omega⟩) h.1
 have hb:=Ji (l:=l) (fun p hp=>by have:=h.2.1 p hp;exact⟨by omega,by omega⟩)
 have h2:=h.1
 exact⟨_,_,_,e,AE (rO (n:=A9 l) (by omega)).fit⟩
omit hm in
theorem Jo(x:T)(m i:Int)(A:List T)(L:List Nat)(hL:∀j∈L,j<ls.length)(hl:L.length≤1000):
 aM iB (ls.map lT,x,(0:Int),A,m,i,L.map yC,(L.length:Int),(0:Int),())=some (.inl (ls.map lT,x,(L.map fun j=>sA (b9 ls j)).sum,A,m,i,())):=by
 have lp:=jB (F:=iB) L.length (fun k=>(ls.map lT,x,((L.take k).map fun j=>sA (b9 ls j)).sum,A,m,i,L.map yC,(L.length:Int),(k:Int),()) ) fun k hk=>by
  have wk:wr .i64 ((k:Int)+1)=((k+1:Nat):Int):=by rw[dC (by omega) (by omega)];push_cast;rfl
  have hlk:lenL (L.map yC)=(L.length:Int):=by rw[aL,List.length_map]
  have hj:=hL _ (List.getElem_mem hk)
  have g:bD (L.map yC) (k:Int)=some (yC L[k]):=by rw[bZ,List.getElem?_map,List.getElem?_eq_getElem hk];rfl
  have a:T.anyInt? (T.cell (yC L[k]) 0)=some (L[k]:Int):=rfl
  obtain⟨p,q,r,e1,e2⟩:=Jn (hB _ (dD hj))
  have hs:=YP (fun j=>sA (b9 ls j)) (fun j=>M9 _) (L.take k)
  have ht:(L.take k).length≤k:=List.length_take_le ..
  have hs1:=M9 (b9 ls L[k])
  have ws:wr .i64 (((L.take k).map fun j=>sA (b9 ls j)).sum+sA (b9 ls L[k]))=((L.take (k+1)).map fun j=>sA (b9 ls j)).sum:=by
   rw[dC (by omega) (by omega),List.take_add_one,List.getElem?_eq_getElem hk,List.map_append,List.sum_append]
   simp
  unfold iB
  simp -implicitDefEqProofs only[aG,decide_eq_true (by omega:(k:Int)<(L.length:Int)),cond_true,g,aZ,a,(iW hj).1,VZ,e1,e2,aQ,ws,wk]
 have hout:iB (ls.map lT,x,((L.take L.length).map fun j=>sA (b9 ls j)).sum,A,m,i,L.map yC,(L.length:Int),(L.length:Int),())=some (.inr (.inl (ls.map lT,x,(L.map fun j=>sA (b9 ls j)).sum,A,m,i,()))):=by
  unfold iB
  simp only[aG,decide_eq_false (by omega:¬(L.length:Int)<(L.length:Int)),cond_false,List.take_length]
 rw[aW hout] at lp
 exact lp
def JB(ls:List (List Z))(i:Nat):Prop:=¬((outs ls i+sA (b9 ls i)=0∧outs ls i=1)∨(outs ls i+sA (b9 ls i)=1∧outs ls i=0))
def GR(l:List Z):Prop:=3≤l.length∧¬∃i,i<l.length∧JA l i
def yD(ls:List (List Z))(i:Nat):Prop:=¬GR (b9 ls i)∨∃k,0≤k∧k<i∧P8 (b9 ls i) (b9 ls k)
theorem Jp{i:Nat}(hi:i<ls.length)(h0:0<(b9 ls i).length):iC (ls.map lT,ls.map lT,(ls.length:Int),(i:Int),())=some (bif bP (JB ls i) then .inr (.inl (8,())) else .inl (ls.map lT,ls.map lT,(ls.length:Int),((i+1:Nat):Int),())):=by
 have wk:wr .i64 ((i:Int)+1)=((i+1:Nat):Int):=by rw[dC (by omega) (by omega)];push_cast;rfl
 have ar:=Jl hB hm hi h0
 have hla:lenL ((H9 ls i ls.length).map yC)=((H9 ls i ls.length).length:Int):=by rw[aL,List.length_map]
 have sl:=Jo hB (lT (b9 ls i)) (ls.length:Int) (i:Int) (ls.map lT) (H9 ls i ls.length) (fun j hj=>(Nh hj).1) (by have:=S3 ls i ls.length;omega)
 have sl:_=some (Sum.inl (ls.map lT,lT (b9 ls i),outs ls i,ls.map lT,(ls.length:Int),(i:Int),())):=sl
 obtain⟨p,q,r,e1,e2⟩:=Jn (hB _ (dD hi))
 have hs1:=M9 (b9 ls i)
 have hs2:=Jm (ls:=ls) i
 have ws:wr .i64 (outs ls i+sA (b9 ls i))=outs ls i+sA (b9 ls i):=dC (by omega) (by omega)
 have hc:T.cell (lT (b9 ls i)) 0=lT (b9 ls i):=kW _
 unfold iC
 simp -implicitDefEqProofs only[aG,decide_eq_true (by omega:(i:Int)<(ls.length:Int)),cond_true,(iW hi).1,aZ,ar,hla,hc,sl,aO,u3,e1,e2,aQ,ws,aS,Vn,Vo,wk]
 unfold JB
 generalize outs ls i=o at *
 generalize sA (b9 ls i)=s at *
 by_cases h:(o+s=0∧o=1)∨(o+s=1∧o=0)
 ·rw[e7 (fun c=>c h)]
  have e1:min (o+s) o=0:=by omega
  have e2:max (o+s) o=1:=by omega
  rw[decide_eq_true e1,decide_eq_true e2];rfl
 ·rw[fJ h]
  by_cases e1:min (o+s) o=0
  ·have e2:¬max (o+s) o=1:=by omega
   rw[decide_eq_true e1,decide_eq_false e2];rfl
  ·rw[decide_eq_false e1];rfl
end
end Go.Eng.Rt
namespace Go.Eng.Rt
open Go.Eng Go.Eng.Tw Go.Eng.Tm Go.Eng.Tg
section
variable {ls:List (List Z)} (hB:YN ls)
include hB
theorem Ni(hm:ls.length≤1000):aM hQ (ls.map lT,ls.map lT,(ls.length:Int),(0:Int),())=some (.inr (.inl (ls.map lT,()))):=by
 have lp:=jB (F:=hQ) ls.length (fun k=>(ls.map lT,ls.map lT,(ls.length:Int),(k:Int),())) fun k hk=>by
  have wk:wr .i64 ((k:Int)+1)=((k+1:Nat):Int):=by rw[dC (by omega) (by omega)];push_cast;rfl
  have hp:=Uj (hB _ (dD hk)) (ls.map lT) (ls.map lT) (ls.length:Int) (k:Int)
  have hl:T.len? (lT (b9 ls k))=some ((b9 ls k).length:Int):=by
   show (if (9:Nat)<1000000000 then some (lenL ((b9 ls k).map wT)) else none)=_
   rw[if_pos (by decide),aL,List.length_map]
  unfold hQ
  simp only[aG,decide_eq_true (by omega:(k:Int)<(ls.length:Int)),cond_true,(iW hk).1,aZ,kW,hl,hp,aO,oH,aQ,wk]
 have hout:hQ (ls.map lT,ls.map lT,(ls.length:Int),(ls.length:Int),())=some (.inr (.inr (.inl (ls.map lT,())))):=by
  unfold hQ
  simp only[aG,decide_eq_false (by omega:¬(ls.length:Int)<(ls.length:Int)),cond_false]
 rw[aW hout] at lp
 exact lp
theorem Ro(hm:ls.length≤1000){i:Nat}(hi:i<ls.length):aM hZ (ls.map lT,lT (b9 ls i),ls.map lT,(ls.length:Int),(i:Int),(ls.map lT).take i,(i:Int),(0:Int),()) =
 some (bif bP (∃k,0≤k∧k<i∧P8 (b9 ls i) (b9 ls k)) then .inl (8,()) else .inr (.inl (ls.map lT,ls.map lT,(ls.length:Int),(i:Int),()))):=by
 have key:∀k,k<i→hZ (ls.map lT,lT (b9 ls i),ls.map lT,(ls.length:Int),(i:Int),(ls.map lT).take i,(i:Int),(k:Int),())=some (bif bP (P8 (b9 ls i) (b9 ls k)) then .inr (.inl (8,())) else .inl (ls.map lT,lT (b9 ls i),ls.map lT,(ls.length:Int),(i:Int),(ls.map lT).take i,(i:Int),((k+1:Nat):Int),())):=fun k hk=>by
  have wk:wr .i64 ((k:Int)+1)=((k+1:Nat):Int):=by rw[dC (by omega) (by omega)];push_cast;rfl
  have g:bD ((ls.map lT).take i) (k:Int)=some (lT (b9 ls k)):=by
   have:=(iW (ls:=ls) (i:=k) (by omega)).1
   rw[bZ] at this ⊢
   rw[List.getElem?_take,if_pos hk];exact this
  have ha:=Nf (hB _ (dD hi)) (hB _ (dD (i:=k) (by omega)))
  unfold hZ
  simp only[aG,decide_eq_true (by omega:(k:Int)<(i:Int)),cond_true,g,aZ,kW,u3,ha,Bool.not_not,aQ,wk]
  generalize bP (P8 (b9 ls i) (b9 ls k))=b
  cases b <;> rfl
 exact cZ (F:=hZ) (fun k=>(ls.map lT,lT (b9 ls i),ls.map lT,(ls.length:Int),(i:Int),(ls.map lT).take i,(i:Int),(k:Int),())) i (fun k=>P8 (b9 ls i) (b9 ls k)) _ _
  (fun k hk hb=>by rw[key k hk,fJ hb];rfl) (fun k hk hb=>by rw[key k hk,e7 hb];rfl) (by
   unfold hZ
   simp only[aG,decide_eq_false (by omega:¬(i:Int)<(i:Int)),cond_false]) i 0 (by omega)
theorem Ul(hm:ls.length≤1000):aM iA (ls.map lT,ls.map lT,(ls.length:Int),(0:Int),())=some (bif bP (∃i,0≤i∧i<ls.length∧yD ls i) then .inl (8,()) else .inr (.inl (ls.map lT,()))):=by
 have key:∀i,i<ls.length→iA (ls.map lT,ls.map lT,(ls.length:Int),(i:Int),())=some (bif bP (yD ls i) then .inr (.inl (8,())) else .inl (ls.map lT,ls.map lT,(ls.length:Int),((i+1:Nat):Int),())):=fun i hi=>by
  have wi:wr .i64 ((i:Int)+1)=((i+1:Nat):Int):=by rw[dC (by omega) (by omega)];push_cast;rfl
  have hs:=Ja (hB _ (dD hi))
  have hc:cutL (ls.map lT) (0:Int) (i:Int)=some ((ls.map lT).take i):=by
   have:=Gl (l:=ls.map lT) (lo:=0) (hi:=i) (Nat.zero_le _) (by rw[List.length_map];omega)
   rw[List.drop_zero] at this;exact this
  have hlt:lenL ((ls.map lT).take i)=(i:Int):=by rw[aL,List.length_take,List.length_map,Nat.min_eq_left (by omega)]
  have pp:=Ro hB hm hi
  have hb:bP (yD ls i)=(!(bP (3≤(b9 ls i).length∧¬∃j,j<(b9 ls i).length∧JA (b9 ls i) j))||bP (∃k,0≤k∧k<i∧P8 (b9 ls i) (b9 ls k))):=by
   unfold yD GR
   rw[uG,GQ]
  unfold iA
  simp only[aG,decide_eq_true (by omega:(i:Int)<(ls.length:Int)),cond_true,(iW hi).1,aZ,kW,u3,hs,hc,hlt,pp,aQ]
  rw[hb]
  generalize bP (3≤(b9 ls i).length∧¬∃j,j<(b9 ls i).length∧JA (b9 ls i) j)=x
  generalize bP (∃k,0≤k∧k<i∧P8 (b9 ls i) (b9 ls k))=y
  cases x <;> cases y <;> simp only[Bool.not_true,Bool.not_false,cond_true,cond_false,aZ,aO,oH,wi,Bool.true_or,Bool.false_or]
 exact cZ (F:=iA) (fun i=>(ls.map lT,ls.map lT,(ls.length:Int),(i:Int),())) ls.length (yD ls) _ _
  (fun k hk hb=>by rw[key k hk,fJ hb];rfl) (fun k hk hb=>by rw[key k hk,e7 hb];rfl) (by
   unfold iA
   simp only[aG,decide_eq_false (by omega:¬(ls.length:Int)<(ls.length:Int)),cond_false]) ls.length 0 (by omega)
noncomputable def GS(ls:List (List Z)):Int:=bif bP (∃i,0≤i∧i<ls.length∧yD ls i) then 8 else bif bP (∃i,0≤i∧i<ls.length∧JB ls i) then 8 else 0
theorem S4(hm:ls.length≤16)(h0:0<ls.length)(hl:∀l∈ls,l.length≤64):eV (ls.map lT,())=some (GS ls,()):=by
 have v:=Ni hB (by omega)
 have a:=Ul hB (by omega)
 have b:=Uk (ls:=ls) (by omega) hl
 unfold eV GS
 simp only[mK,aS,decide_eq_false (by omega:¬(ls.length:Int)=0),cond_false,v,aZ,aO,oH,aG,decide_eq_false (by omega:¬(16:Int)<(ls.length:Int)),b,a]
 by_cases hA:∃i,0≤i∧i<ls.length∧yD ls i
 ·rw[fJ hA];simp only[cond_true,aZ,aO]
 ·rw[e7 hA]
  have hs:∀i,i<ls.length→0<(b9 ls i).length:=fun i hi=>by
   have hsim:GR (b9 ls i):=Classical.byContradiction fun c=>hA ⟨i,Nat.zero_le _,hi,.inl c⟩
   have:=hsim.1;omega
  have c:=cZ (F:=iC) (fun i=>(ls.map lT,ls.map lT,(ls.length:Int),(i:Int),())) ls.length (JB ls) (.inl (8,())) (.inr (.inl ()))
   (fun k hk hb=>by rw[Jp hB (by omega) hk (hs k hk),fJ hb];rfl) (fun k hk hb=>by rw[Jp hB (by omega) hk (hs k hk),e7 hb];rfl) (by
    unfold iC
    simp only[aG,decide_eq_false (by omega:¬(ls.length:Int)<(ls.length:Int)),cond_false]) ls.length 0 (by omega)
  have c:aM iC (ls.map lT,ls.map lT,(ls.length:Int),(0:Int),())=_:=c
  simp only[cond_false,aZ,aO,oH,mK,c]
  generalize bP (∃j,0≤j∧j<ls.length∧JB ls j)=x
  cases x <;> rfl
end
end Go.Eng.Rt
namespace Go.Eng.Tg
open Go.Eng.Tw
theorem Jq{a b:Q}(h:a≠b):0<(b.1-a.1)*(b.1-a.1)+(b.2-a.2)*(b.2-a.2):=by
 have h1:=P0 (b.1-a.1)
 have h2:=P0 (b.2-a.2)
 by_cases h0:(b.1-a.1)*(b.1-a.1)+(b.2-a.2)*(b.2-a.2)=0
 ·obtain⟨e1,e2⟩:=SO h0
  exact absurd (rC (by grind) (by grind)) h
 ·grind
theorem Bi{a b c:Q}(hab:a≠b)(hbc:b≠c):M2 a b c↔On a b c∨On b c a:=by
 have n:=Jq hab
 constructor
 ·rintro ⟨h0,h1⟩
  obtain⟨t,rfl⟩:=Il hab h0
  have e:(a.1-b.1)*((nX a b t).1-b.1)+(a.2-b.2)*((nX a b t).2-b.2)=(1-t)*((b.1-a.1)*(b.1-a.1)+(b.2-a.2)*(b.2-a.2)):=by unfold nX;dsimp only;grind
  rw[e] at h1
  have t1:t<1:=by
   rcases Rat.le_total (a:=t) (b:=1) with q | q
   ·by_cases e1:t=1
    ·subst e1;grind
    ·grind
   ·have:=Rat.mul_nonneg (show 0≤t-1 by grind) (Rat.le_of_lt n)
    grind
  rcases Rat.le_total (a:=0) (b:=t) with q | q
  ·exact .inl (rP q (Rat.le_of_lt t1))
  ·right
   obtain⟨s,hs⟩:=wX (n:=1) (d:=1-t) (by grind)
   have s0:0≤s:=lP (n:=1-t) (by grind) (by grind)
   have s1:s≤1:=by
    have:=lP (n:=1-t) (u:=1-s) (by grind) (by grind)
    grind
   have ea:a=nX b (nX a b t) s:=by
    unfold nX
    refine rC ?_ ?_
    ·dsimp only
     have:s*(a.1+t*(b.1-a.1)-b.1)=-(s*(1-t))*(b.1-a.1):=by grind
     rw[this,hs];grind
    ·dsimp only
     have:s*(a.2+t*(b.2-a.2)-b.2)=-(s*(1-t))*(b.2-a.2):=by grind
     rw[this,hs];grind
   have:=rP (a:=b) (b:=nX a b t) s0 s1
   rw[←ea] at this
   exact this
 ·rintro (h | h)
  ·obtain⟨t,t0,t1,rfl⟩:=MZ hab h
   refine⟨h.1,?_⟩
   have e:(a.1-b.1)*((nX a b t).1-b.1)+(a.2-b.2)*((nX a b t).2-b.2)=(1-t)*((b.1-a.1)*(b.1-a.1)+(b.2-a.2)*(b.2-a.2)):=by unfold nX;dsimp only;grind
   rw[e]
   refine Rat.mul_pos ?_ n
   by_cases e1:t=1
   ·subst e1;exact absurd (Eg a b).symm hbc
   ·grind
  ·obtain⟨s,s0,s1,hs⟩:=MZ hbc h
   have e1:a.1-b.1=s*(c.1-b.1):=by rw[hs];unfold nX;dsimp only;grind
   have e2:a.2-b.2=s*(c.2-b.2):=by rw[hs];unfold nX;dsimp only;grind
   have n2:=Jq hbc
   refine⟨?_,?_⟩
   ·unfold cr
    have x1:b.1-a.1=-(s*(c.1-b.1)):=by grind
    have x2:b.2-a.2=-(s*(c.2-b.2)):=by grind
    have y1:c.1-a.1=(1-s)*(c.1-b.1):=by grind
    have y2:c.2-a.2=(1-s)*(c.2-b.2):=by grind
    rw[x1,x2,y1,y2];grind
   ·rw[e1,e2]
    have:s*(c.1-b.1)*(c.1-b.1)+s*(c.2-b.2)*(c.2-b.2)=s*((c.1-b.1)*(c.1-b.1)+(c.2-b.2)*(c.2-b.2)):=by grind
    rw[this]
    refine Rat.mul_pos ?_ n2
    by_cases e0:s=0
    ·subst e0;rw[Ef] at hs;exact absurd hs hab
    ·grind
end Go.Eng.Tg
namespace Go.Eng.Rt
open Go.Eng Go.Eng.Tw Go.Eng.Tm Go.Eng.Tg
theorem IA{l:List Z}{i:Nat}(h:i<l.length):bD (l.map wT) (i:Int)=some (wT (aX l i)):=by
 have:=(FD (l:=l) (by omega) i).2
 rw[Nat.mod_eq_of_lt h] at this
 rw[bZ,List.getElem?_map,this];rfl
theorem GT{l:List Z}(h:0<l.length)(i:Nat):bD (l.map wT) ((i%l.length:Nat):Int)=some (wT (aX l i)):=by
 rw[bZ,List.getElem?_map,(FD h i).2];rfl
theorem Nj{a b:Z}(ha:Sp a)(hb:Sp b):oU (lit a b ())=some (bP (a=b),()):=by
 have f1:Ib (a.1:Rat):=(eN ha.1 (by decide)).fit
 have f2:Ib (a.2:Rat):=(eN ha.2 (by decide)).fit
 have g1:Ib (b.1:Rat):=(eN hb.1 (by decide)).fit
 have g2:Ib (b.2:Rat):=(eN hb.2 (by decide)).fit
 have s1:=X9 f1 g1
 have s2:=X9 f2 g2
 have s3:=X9 FJ.fit FJ.fit
 rw[Id,P1,P2] at s3
 unfold oU
 simp -implicitDefEqProofs only[s1,s2,s3,aZ]
 have e:bP (a=b)=(decide ((a.1:Rat)=b.1)&&decide ((a.2:Rat)=b.2)):=by
  rw[AJ,AJ,←AK]
  exact iL ⟨fun h=>by rw[h];exact⟨rfl,rfl⟩,fun h=>Prod.ext (Rat.intCast_inj.1 h.1) (Rat.intCast_inj.1 h.2)⟩
 rw[e]
 generalize decide ((a.1:Rat)=b.1)=x
 generalize decide ((a.2:Rat)=b.2)=y
 cases x <;> cases y <;> rfl
def S5(l:List Z)(i:Nat):Prop:=On (cq (aX l i)) (cq (aX l (i+1))) (cq (aX l (i+2)))∨On (cq (aX l (i+1))) (cq (aX l (i+2))) (cq (aX l i))∨SW l i
abbrev tc(p:Z)(k:Nat):T:=T.cell (wT p) k
def RI(l:List Z)(i k:Nat):List T×Int×Int×Unit×Unit×Int×T×T×T×T×T×T×T×T×T×T×T×T×T×T×T×T×T×T×Unit:=
 (l.map wT,(l.length:Int),(i:Int),(),(),(k:Int),tc (aX l i) 0,tc (aX l i) 1,tc (aX l i) 2,tc (aX l i) 3,tc (aX l i) 4,tc (aX l i) 5,tc (aX l i) 6,tc (aX l i) 7,tc (aX l i) 8,
  (tc (aX l (i+1)) 0,tc (aX l (i+1)) 1,tc (aX l (i+1)) 2,tc (aX l (i+1)) 3,tc (aX l (i+1)) 4,tc (aX l (i+1)) 5,tc (aX l (i+1)) 6,tc (aX l (i+1)) 7,tc (aX l (i+1)) 8,()))
section
variable {l:List Z} (hB:Bx l)
include hB
theorem Vp{i:Nat}(hi:i<l.length)(k:Nat)(hk2:i+2≤k):aM fE (RI l i k)=some (bif bP (∃j,k≤j∧j<l.length∧(0<i∨j<l.length-1)∧iM l i j) then .inl (false,()) else .inr (.inl (l.map wT,(l.length:Int),(i:Int),()))):=by
 have h0:0<l.length:=by omega
 have hle:=hB.1
 have hnz:nz (l.length:Int)=some (l.length:Int):=by unfold nz;rw[if_neg (by omega)]
 have key:∀j,i+2≤j→j<l.length→fE (RI l i j)=some (bif bP ((0<i∨j<l.length-1)∧iM l i j) then .inr (.inl (false,())) else .inl (RI l i (j+1))):=fun j hj2 hj=>by
  have m:=Iy (xY hB h0 i (i+1)) (xY hB h0 j (j+1)) (pH hB h0 (i+1)) (pH hB h0 (j+1))
  have wj:wr .i64 ((j:Int)+1)=((j+1:Nat):Int):=by rw[dC (by omega) (by omega)];push_cast;rfl
  have hmod:((j+1:Nat):Int).tmod (l.length:Int)=(((j+1)%l.length:Nat):Int):=rfl
  have x1:=IA hj
  have x2:=GT h0 (j+1)
  obtain⟨a0,a1,a2,a3,a4,a5,a6,a7,a8⟩:=cells (aX l i)
  obtain⟨b0,b1,b2,b3,b4,b5,b6,b7,b8⟩:=cells (aX l (i+1))
  obtain⟨c0,c1,c2,c3,c4,c5,c6,c7,c8⟩:=cells (aX l j)
  obtain⟨d0,d1,d2,d3,d4,d5,d6,d7,d8⟩:=cells (aX l (j+1))
  have hm:bP (iM l i j)=bP (jQ (cq (aX l i)) (cq (aX l (i+1))) (cq (aX l j)) (cq (aX l (j+1)))):=rfl
  have hc:bP ((0<i∨j<l.length-1)∧iM l i j)=(!(decide ((((j+1)%l.length:Nat):Int)=(i:Int)))&&bP (iM l i j)):=by
   rw[AK,AJ,←GQ]
   congr 1
   refine iL ?_
   by_cases hj1:j+1=l.length
   ·rw[hj1,Nat.mod_self];omega
   ·rw[Nat.mod_eq_of_lt (by omega)];omega
  rw[hc,hm]
  unfold fE RI
  simp -implicitDefEqProofs only[aG,decide_eq_true (by omega:(j:Int)<(l.length:Int)),cond_true,hnz,aZ,aQ,wj,mX,hmod,aS,x1,x2,a0,a1,a2,a3,a4,a5,a6,a7,a8,b0,b1,b2,b3,b4,b5,b6,b7,b8,c0,c1,c2,c3,c4,c5,c6,c7,c8,d0,d1,d2,d3,d4,d5,d6,d7,d8,m]
  generalize bP (jQ (cq (aX l i)) (cq (aX l (i+1))) (cq (aX l j)) (cq (aX l (j+1))))=b
  generalize decide ((((j+1)%l.length:Nat):Int)=(i:Int))=c
  cases b <;> cases c <;> rfl
 have sc:=A5 (F:=fE) (fun d=>RI l i (k+d)) (l.length-k) (fun d=>(0<i∨k+d<l.length-1)∧iM l i (k+d)) (.inl (false,())) (.inr (.inl (l.map wT,(l.length:Int),(i:Int),())))
  (fun d hd hb=>by rw[key (k+d) (by omega) (by omega),fJ hb];rfl) (fun d hd hb=>by rw[key (k+d) (by omega) (by omega),e7 hb];rfl) (fun d hd=>by
   unfold fE RI
   simp only[aG,decide_eq_false (by omega:¬((k+d:Nat):Int)<(l.length:Int)),cond_false]) (l.length-k) 0 (by omega)
 rw[Nat.add_zero] at sc
 rw[sc]
 have:(∃d,0≤d∧d<l.length-k∧(0<i∨k+d<l.length-1)∧iM l i (k+d))↔∃j,k≤j∧j<l.length∧(0<i∨j<l.length-1)∧iM l i j:=by
  constructor
  ·rintro ⟨d,_,h1,h2,h3⟩;exact⟨k+d,by omega,by omega,h2,h3⟩
  ·rintro ⟨j,h1,h2,h3,h4⟩;exact⟨j-k,Nat.zero_le _,by omega,by rw[show k+(j-k)=j by omega];exact⟨h3,h4⟩⟩
 rw[iL this]
omit hB in
theorem Jr{i:Nat}(hi:i<l.length):(∃j,i+2≤j∧j<l.length∧(0<i∨j<l.length-1)∧iM l i j)↔SW l i:=by
 unfold SW
 refine exists_congr fun j=>?_
 by_cases h:0<i
 ·rw[if_pos h]
  exact⟨fun⟨a,b,_,d⟩=>⟨a,b,d⟩,fun⟨a,b,d⟩=>⟨a,b,.inl h,d⟩⟩
 ·rw[if_neg h]
  exact⟨fun⟨a,b,c,d⟩=>⟨a,by omega,d⟩,fun⟨a,b,d⟩=>⟨a,by omega,.inr (by omega),d⟩⟩
theorem Js:lN (l.map wT,())=some (bP (3≤l.length∧(¬∃i,0≤i∧i<l.length∧aX l i=aX l (i+1))∧¬∃i,0≤i∧i<l.length∧S5 l i),()):=by
 have hle:=hB.1
 have hlen:lenL (l.map wT)=(l.length:Int):=by rw[aL,List.length_map]
 unfold lN
 simp only[hlen,aG]
 by_cases h3:l.length<3
 ·rw[decide_eq_true (by omega:(l.length:Int)<3),e7 (by omega)];rfl
 ·rw[decide_eq_false (by omega:¬(l.length:Int)<3),cond_false]
  have h0:0<l.length:=by omega
  have hnz:nz (l.length:Int)=some (l.length:Int):=by unfold nz;rw[if_neg (by omega)]
  have key0:∀i,i<l.length→fC (l.map wT,(l.length:Int),(i:Int),())=some (bif bP (aX l i=aX l (i+1)) then .inr (.inl (false,())) else .inl (l.map wT,(l.length:Int),((i+1:Nat):Int),())):=fun i hi=>by
   have wi:wr .i64 ((i:Int)+1)=((i+1:Nat):Int):=by rw[dC (by omega) (by omega)];push_cast;rfl
   have hmod:((i+1:Nat):Int).tmod (l.length:Int)=(((i+1)%l.length:Nat):Int):=rfl
   have x1:=IA hi
   have x2:=GT h0 (i+1)
   obtain⟨a0,a1,a2,a3,a4,a5,a6,a7,a8⟩:=cells (aX l i)
   obtain⟨b0,b1,b2,b3,b4,b5,b6,b7,b8⟩:=cells (aX l (i+1))
   have s:=Nj (pH hB h0 i) (pH hB h0 (i+1))
   unfold fC
   simp -implicitDefEqProofs only[aG,decide_eq_true (by omega:(i:Int)<(l.length:Int)),cond_true,x1,hnz,aZ,aQ,wi,mX,hmod,x2,a0,a1,a2,a3,a4,a5,a6,a7,a8,b0,b1,b2,b3,b4,b5,b6,b7,b8,s]
   generalize bP (aX l i=aX l (i+1))=b
   cases b <;> rfl
  have sc0:=cZ (F:=fC) (fun i=>(l.map wT,(l.length:Int),(i:Int),())) l.length (fun i=>aX l i=aX l (i+1)) (.inl (false,())) (.inr (.inl (l.map wT,(l.length:Int),())))
   (fun i hi hb=>by rw[key0 i hi,fJ hb];rfl) (fun i hi hb=>by rw[key0 i hi,e7 hb];rfl) (by
    unfold fC
    simp only[aG,decide_eq_false (by omega:¬(l.length:Int)<(l.length:Int)),cond_false]) l.length 0 (by omega)
  have sc0:aM fC (l.map wT,(l.length:Int),(0:Int),())=_:=sc0
  have key1:∀i,i<l.length→fF (l.map wT,(l.length:Int),(i:Int),())=some (bif bP (S5 l i) then .inr (.inl (false,())) else .inl (l.map wT,(l.length:Int),((i+1:Nat):Int),())):=fun i hi=>by
   have wi:wr .i64 ((i:Int)+1)=((i+1:Nat):Int):=by rw[dC (by omega) (by omega)];push_cast;rfl
   have wi2:wr .i64 ((i:Int)+2)=((i+2:Nat):Int):=by rw[dC (by omega) (by omega)];push_cast;rfl
   have hmod:((i+1:Nat):Int).tmod (l.length:Int)=(((i+1)%l.length:Nat):Int):=rfl
   have hmod2:((i+2:Nat):Int).tmod (l.length:Int)=(((i+2)%l.length:Nat):Int):=rfl
   have x1:=IA hi
   have x2:=GT h0 (i+1)
   have x3:=GT h0 (i+2)
   obtain⟨a0,a1,a2,a3,a4,a5,a6,a7,a8⟩:=cells (aX l i)
   obtain⟨b0,b1,b2,b3,b4,b5,b6,b7,b8⟩:=cells (aX l (i+1))
   obtain⟨c0,c1,c2,c3,c4,c5,c6,c7,c8⟩:=cells (aX l (i+2))
   have sp:=pH hB h0
   have o1:=P7 (xY hB h0 i (i+1)) (sp (i+2))
   have o2:=P7 (xY hB h0 (i+1) (i+2)) (sp i)
   have lp:=Vp hB hi (i+2) (Nat.le_refl _)
   rw[iL (Jr hi)] at lp
   unfold RI tc at lp
   have hR:bP (S5 l i)=(bP (On (cq (aX l i)) (cq (aX l (i+1))) (cq (aX l (i+2))))||(bP (On (cq (aX l (i+1))) (cq (aX l (i+2))) (cq (aX l i)))||bP (SW l i))):=by unfold S5;rw[uG,uG]
   rw[hR]
   unfold fF
   simp -implicitDefEqProofs only[aG,decide_eq_true (by omega:(i:Int)<(l.length:Int)),cond_true,x1,hnz,aZ,aQ,wi,wi2,mX,hmod,hmod2,x2,x3,a0,a1,a2,a3,a4,a5,a6,a7,a8,b0,b1,b2,b3,b4,b5,b6,b7,b8,c0,c1,c2,c3,c4,c5,c6,c7,c8,o1,o2,lp]
   generalize bP (On (cq (aX l i)) (cq (aX l (i+1))) (cq (aX l (i+2))))=x
   generalize bP (On (cq (aX l (i+1))) (cq (aX l (i+2))) (cq (aX l i)))=y
   generalize bP (SW l i)=z
   cases x <;> cases y <;> cases z <;> simp -implicitDefEqProofs only[cond_true,cond_false,aZ,aO,oH,Bool.or_true,Bool.or_false,Bool.true_or,Bool.false_or,wi]
  have sc1:=cZ (F:=fF) (fun i=>(l.map wT,(l.length:Int),(i:Int),())) l.length (S5 l) (.inl (false,())) (.inr (.inl ()))
   (fun i hi hb=>by rw[key1 i hi,fJ hb];rfl) (fun i hi hb=>by rw[key1 i hi,e7 hb];rfl) (by
    unfold fF
    simp only[aG,decide_eq_false (by omega:¬(l.length:Int)<(l.length:Int)),cond_false]) l.length 0 (by omega)
  have sc1:aM fF (l.map wT,(l.length:Int),(0:Int),())=_:=sc1
  rw[sc0]
  have hb:bP (3≤l.length∧(¬∃i,0≤i∧i<l.length∧aX l i=aX l (i+1))∧¬∃i,0≤i∧i<l.length∧S5 l i)=(!(bP (∃i,0≤i∧i<l.length∧aX l i=aX l (i+1)))&&!(bP (∃i,0≤i∧i<l.length∧S5 l i))):=by
   rw[AK,AK,GQ,GQ,fJ (by omega:3≤l.length)];rfl
  rw[hb]
  generalize bP (∃i,0≤i∧i<l.length∧aX l i=aX l (i+1))=x at *
  generalize bP (∃i,0≤i∧i<l.length∧S5 l i)=y at *
  cases x with
  | true=>simp only[cond_true,aZ,aO,Bool.not_true,Bool.false_and]
  | false=>
   simp only[cond_false,aZ,aO,oH,sc1]
   cases y <;> rfl
omit hB in
theorem Nk:(3≤l.length∧(¬∃i,0≤i∧i<l.length∧aX l i=aX l (i+1))∧¬∃i,0≤i∧i<l.length∧S5 l i)↔GR l:=by
 unfold GR
 constructor
 ·rintro ⟨h3,h1,h2⟩
  refine⟨h3,?_⟩
  rintro ⟨i,hi,hb⟩
  have h0:0<l.length:=by omega
  have e1:aX l i≠aX l (i+1):=fun e=>h1 ⟨i,Nat.zero_le _,hi,e⟩
  have e2:aX l (i+1)≠aX l (i+2):=fun e=>h1 ⟨(i+1)%l.length,Nat.zero_le _,Nat.mod_lt _ h0,by
   have a1:aX l ((i+1)%l.length)=aX l (i+1):=by unfold aX;rw[Nat.mod_mod]
   have a2:aX l ((i+1)%l.length+1)=aX l (i+2):=by unfold aX;rw[Nat.mod_add_mod]
   rw[a1,a2];exact e⟩
  rcases hb with hb | hb | hb
  ·exact e1 hb
  ·rcases(Bi (fun e=>e1 (M6 e)) (fun e=>e2 (M6 e))).1 hb with h | h
   ·exact h2 ⟨i,Nat.zero_le _,hi,.inl h⟩
   ·exact h2 ⟨i,Nat.zero_le _,hi,.inr (.inl h)⟩
  ·exact h2 ⟨i,Nat.zero_le _,hi,.inr (.inr hb)⟩
 ·rintro ⟨h3,h1⟩
  have h0:0<l.length:=by omega
  have n1:∀i,i<l.length→aX l i≠aX l (i+1):=fun i hi e=>h1 ⟨i,hi,.inl e⟩
  refine⟨h3,fun⟨i,_,hi,e⟩=>n1 i hi e,?_⟩
  rintro ⟨i,_,hi,hb⟩
  have e1:=n1 i hi
  have e2:aX l (i+1)≠aX l (i+2):=fun e=>n1 ((i+1)%l.length) (Nat.mod_lt _ h0) (by
   have a1:aX l ((i+1)%l.length)=aX l (i+1):=by unfold aX;rw[Nat.mod_mod]
   have a2:aX l ((i+1)%l.length+1)=aX l (i+2):=by unfold aX;rw[Nat.mod_add_mod]
   rw[a1,a2];exact e)
  have fo:=Bi (fun e=>e1 (M6 e)) (fun e=>e2 (M6 e))
  rcases hb with hb | hb | hb
  ·exact h1 ⟨i,hi,.inr (.inl (fo.2 (.inl hb)))⟩
  ·exact h1 ⟨i,hi,.inr (.inl (fo.2 (.inr hb)))⟩
  ·exact h1 ⟨i,hi,.inr (.inr hb)⟩
end
section
variable {l m:List Z} (hl:Bx l) (hm:Bx m)
include hl hm
theorem Nl:qI (l.map wT,m.map wT,())=some (!(bP (P8 l m)),()):=by
 have b1:=hl.1
 have b2:=hm.1
 have h1:lenL (l.map wT)=(l.length:Int):=by rw[aL,List.length_map]
 have h2:lenL (m.map wT)=(m.length:Int):=by rw[aL,List.length_map]
 have inn:∀i,i<l.length→aM f9 (l.map wT,m.map wT,(i:Int),(0:Int),())=some (bif bP (Rg l m i) then .inl (false,()) else .inr (.inl (l.map wT,m.map wT,(i:Int),()))):=fun i hi=>by
  have n1:nz (l.length:Int)=some (l.length:Int):=by unfold nz;rw[if_neg (by omega)]
  have key:∀j,j<m.length→f9 (l.map wT,m.map wT,(i:Int),(j:Int),())=some (bif bP (Mt l m i j) then .inr (.inl (false,())) else .inl (l.map wT,m.map wT,(i:Int),((j+1:Nat):Int),())):=fun j hj=>by
   have n2:nz (m.length:Int)=some (m.length:Int):=by unfold nz;rw[if_neg (by omega)]
   have wi:wr .i64 ((i:Int)+1)=((i+1:Nat):Int):=by rw[dC (by omega) (by omega)];push_cast;rfl
   have wj:wr .i64 ((j:Int)+1)=((j+1:Nat):Int):=by rw[dC (by omega) (by omega)];push_cast;rfl
   have hm1:((i+1:Nat):Int).tmod (l.length:Int)=(((i+1)%l.length:Nat):Int):=rfl
   have hm2:((j+1:Nat):Int).tmod (m.length:Int)=(((j+1)%m.length:Nat):Int):=rfl
   have x1:=IA hi
   have x2:=GT (l:=l) (by omega) (i+1)
   have x3:=IA hj
   have x4:=GT (l:=m) (by omega) (j+1)
   obtain⟨a0,a1,a2,a3,a4,a5,a6,a7,a8⟩:=cells (aX l i)
   obtain⟨b0,b1,b2,b3,b4,b5,b6,b7,b8⟩:=cells (aX l (i+1))
   obtain⟨c0,c1,c2,c3,c4,c5,c6,c7,c8⟩:=cells (aX m j)
   obtain⟨d0,d1,d2,d3,d4,d5,d6,d7,d8⟩:=cells (aX m (j+1))
   have mt:=Iy (xY hl (by omega) i (i+1)) (xY hm (by omega) j (j+1)) (pH hl (by omega) (i+1)) (pH hm (by omega) (j+1))
   have hb:bP (Mt l m i j)=bP (jQ (cq (aX l i)) (cq (aX l (i+1))) (cq (aX m j)) (cq (aX m (j+1)))):=rfl
   unfold f9
   simp -implicitDefEqProofs only[aG,h1,h2,decide_eq_true (by omega:(j:Int)<(m.length:Int)),cond_true,n1,n2,x1,x2,x3,x4,aZ,wi,wj,aQ,mX,hm1,hm2,a0,a1,a2,a3,a4,a5,a6,a7,a8,b0,b1,b2,b3,b4,b5,b6,b7,b8,c0,c1,c2,c3,c4,c5,c6,c7,c8,d0,d1,d2,d3,d4,d5,d6,d7,d8,mt,hb]
   generalize bP (jQ (cq (aX l i)) (cq (aX l (i+1))) (cq (aX m j)) (cq (aX m (j+1))))=b
   cases b <;> rfl
  exact cZ (F:=f9) (fun j=>(l.map wT,m.map wT,(i:Int),(j:Int),())) m.length (Mt l m i) _ _ (fun j hj hb=>by rw[key j hj,fJ hb];rfl) (fun j hj hb=>by rw[key j hj,e7 hb];rfl) (by
   unfold f9
   simp only[aG,h2,decide_eq_false (by omega:¬(m.length:Int)<(m.length:Int)),cond_false]) m.length 0 (by omega)
 have out:=cZ (F:=gA) (fun i=>(l.map wT,m.map wT,(i:Int),())) l.length (Rg l m) (.inl (false,())) (.inr (.inl ()))
  (fun i hi hb=>by
   unfold gA
   simp only[aG,h1,decide_eq_true (by omega:(i:Int)<(l.length:Int)),cond_true,inn i hi,fJ hb,aZ,aO])
  (fun i hi hb=>by
   have wi:wr .i64 ((i:Int)+1)=((i+1:Nat):Int):=by rw[dC (by omega) (by omega)];push_cast;rfl
   unfold gA
   simp only[aG,h1,decide_eq_true (by omega:(i:Int)<(l.length:Int)),cond_true,inn i hi,e7 hb,cond_false,aZ,aO,oH,aQ,wi])
  (by
   unfold gA
   simp only[aG,h1,decide_eq_false (by omega:¬(l.length:Int)<(l.length:Int)),cond_false]) l.length 0 (by omega)
 have out:aM gA (l.map wT,m.map wT,(0:Int),())=_:=out
 unfold qI
 rw[out]
 have hb:bP (∃j,0≤j∧j<l.length∧Rg l m j)=bP (P8 l m):=rfl
 rw[hb]
 generalize bP (P8 l m)=b
 cases b <;> rfl
end
end Go.Eng.Rt
namespace Go.Eng.Rt
open Go.Eng Go.Eng.Tw Go.Eng.Tm Go.Eng.Tg
theorem Ep{p:Z}(hp:Sp p):qH (pt p)=some (true,()):=by
 have v1:=M8 (n:=p.1) (by have:=hp.1;omega)
 have v2:=M8 (n:=p.2) (by have:=hp.2;omega)
 have v3:=M8 (n:=0) (by decide)
 rw[A6.1,A6.2.1,A6.2.2] at v3
 unfold qH
 simp only[v1,v2,v3,aZ,cond_true]
noncomputable def u4(ls:List (List Z))(i k:Nat):Int:=nZ k fun j=>if j=i then 0 else wn (b9 ls j) (cq (nG ls i))
theorem Jt(l:List Z)(p:Q)(h:l.length≤1000):(wn l p).natAbs≤1000:=by
 unfold wn
 cases bP (yE (iV (qs l)) p) with
 | true=>exact Nat.zero_le _
 | false=>have:=SY l p;show (wd (iV (qs l)) p).natAbs≤1000;omega
def V1(ls:List (List Z))(i:Nat):Prop:=¬(0≤u4 ls i ls.length∧u4 ls i ls.length≤1∧0≤u4 ls i ls.length+sA (b9 ls i)∧u4 ls i ls.length+sA (b9 ls i)≤1)
noncomputable def Bj(ls:List (List Z)):Int:=bif bP (∃i,0≤i∧i<ls.length∧yD ls i) then 8 else bif bP (∃i,0≤i∧i<ls.length∧V1 ls i) then 8 else 0
theorem Rp{l:List Z}(h:Bx l):∃x y z,mC (l.map wT,())=some (x,y,z,())∧cI (x,y,z,())=some (sA l,()):=
 ⟨_,_,_,Rh (l:=l) (fun p hp=>by have:=h.2.1 p hp;exact⟨by omega,by omega⟩) h.1,GN _⟩
section
variable {ls:List (List Z)} (hB:YN ls) (hm:ls.length≤1000)
include hB hm
omit hm in
theorem Um{i:Nat}(hi:i<ls.length)(b:Bool):aM eT (ls.map lT,b,(i:Int),(0:Int),())=some (.inr (.inl (ls.map lT,b,(i:Int),()))):=by
 have hb:=hB _ (dD hi)
 have hle:=hb.1
 have hl:T.len? (lT (b9 ls i))=some ((b9 ls i).length:Int):=by
  show (if (9:Nat)<1000000000 then some (lenL ((b9 ls i).map wT)) else none)=_
  rw[if_pos (by decide),aL,List.length_map]
 have lp:=jB (F:=eT) (b9 ls i).length (fun k=>(ls.map lT,b,(i:Int),(k:Int),())) fun k hk=>by
  have wk:wr .i64 ((k:Int)+1)=((k+1:Nat):Int):=by rw[dC (by omega) (by omega)];push_cast;rfl
  obtain⟨c0,c1,c2,c3,c4,c5,c6,c7,c8⟩:=cells (aX (b9 ls i) k)
  have v:=Ep (pH hb (by omega) k)
  have sg:cI (false,([]:List T),([]:List T),())=some (0,()):=by
   have:=GN 0
   rw[Id,P1,P2] at this
   exact this
  unfold eT
  simp -implicitDefEqProofs only[(iW hi).1,aZ,kW,hl,aG,decide_eq_true (by omega:(k:Int)<((b9 ls i).length:Int)),cond_true,S2,IA hk,c0,c1,c2,c3,c4,c5,c6,c7,c8,v,Bool.not_true,cond_false,sg,aS,decide_true,aQ,wk]
 have hout:eT (ls.map lT,b,(i:Int),((b9 ls i).length:Int),())=some (.inr (.inr (.inl (ls.map lT,b,(i:Int),())))):=by
  unfold eT
  simp only[(iW hi).1,aZ,kW,hl,aG,decide_eq_false (by omega:¬((b9 ls i).length:Int)<((b9 ls i).length:Int)),cond_false]
 rw[aW hout] at lp
 exact lp
theorem Nm(hl:∀l∈ls,l.length≤64):aM gB (ls.map lT,false,(0:Int),())=some (.inr (.inl (ls.map lT,false,()))):=by
 have lp:=jB (F:=gB) ls.length (fun k=>(ls.map lT,false,(k:Int),())) fun k hk=>by
  have wk:wr .i64 ((k:Int)+1)=((k+1:Nat):Int):=by rw[dC (by omega) (by omega)];push_cast;rfl
  have hp:=Um hB hk false
  have hlen:=hl _ (dD hk)
  have hl:T.len? (lT (b9 ls k))=some ((b9 ls k).length:Int):=by
   show (if (9:Nat)<1000000000 then some (lenL ((b9 ls k).map wT)) else none)=_
   rw[if_pos (by decide),aL,List.length_map]
  unfold gB
  simp only[aG,mK,decide_eq_true (by omega:(k:Int)<(ls.length:Int)),cond_true,cond_false,(iW hk).1,aZ,kW,hl,decide_eq_false (by omega:¬(64:Int)<((b9 ls k).length:Int)),hp,aO,oH,aQ,wk]
 have hout:gB (ls.map lT,false,(ls.length:Int),())=some (.inr (.inr (.inl (ls.map lT,false,())))):=by
  unfold gB
  simp only[aG,mK,decide_eq_false (by omega:¬(ls.length:Int)<(ls.length:Int)),cond_false]
 rw[aW hout] at lp
 exact lp
theorem Rq{i:Nat}(hi:i<ls.length):aM gC (ls.map lT,(i:Int),(0:Int),()) =
 some (bif bP (∃k,0≤k∧k<i∧P8 (b9 ls i) (b9 ls k)) then .inl (8,()) else .inr (.inl (ls.map lT,(i:Int),()))):=by
 have key:∀k,k<i→gC (ls.map lT,(i:Int),(k:Int),())=some (bif bP (P8 (b9 ls i) (b9 ls k)) then .inr (.inl (8,())) else .inl (ls.map lT,(i:Int),((k+1:Nat):Int),())):=fun k hk=>by
  have wk:wr .i64 ((k:Int)+1)=((k+1:Nat):Int):=by rw[dC (by omega) (by omega)];push_cast;rfl
  have ha:=Nl (hB _ (dD hi)) (hB _ (dD (i:=k) (by omega)))
  unfold gC
  simp only[aG,decide_eq_true (by omega:(k:Int)<(i:Int)),cond_true,(iW hi).1,(iW (ls:=ls) (i:=k) (by omega)).1,aZ,kW,u3,ha,Bool.not_not,aQ,wk]
  generalize bP (P8 (b9 ls i) (b9 ls k))=b
  cases b <;> rfl
 exact cZ (F:=gC) (fun k=>(ls.map lT,(i:Int),(k:Int),())) i (fun k=>P8 (b9 ls i) (b9 ls k)) _ _
  (fun k hk hb=>by rw[key k hk,fJ hb];rfl) (fun k hk hb=>by rw[key k hk,e7 hb];rfl) (by
   unfold gC
   simp only[aG,decide_eq_false (by omega:¬(i:Int)<(i:Int)),cond_false]) i 0 (by omega)
theorem Un:aM gD (ls.map lT,(0:Int),())=some (bif bP (∃i,0≤i∧i<ls.length∧yD ls i) then .inl (8,()) else .inr (.inl (ls.map lT,()))):=by
 have key:∀i,i<ls.length→gD (ls.map lT,(i:Int),())=some (bif bP (yD ls i) then .inr (.inl (8,())) else .inl (ls.map lT,((i+1:Nat):Int),())):=fun i hi=>by
  have wi:wr .i64 ((i:Int)+1)=((i+1:Nat):Int):=by rw[dC (by omega) (by omega)];push_cast;rfl
  have hs:=Js (hB _ (dD hi))
  rw[iL Nk] at hs
  have pp:=Rq hB hm hi
  have hb:bP (yD ls i)=(!(bP (GR (b9 ls i)))||bP (∃k,0≤k∧k<i∧P8 (b9 ls i) (b9 ls k))):=by
   unfold yD
   rw[uG,GQ]
  unfold gD
  simp only[aG,mK,decide_eq_true (by omega:(i:Int)<(ls.length:Int)),cond_true,(iW hi).1,aZ,kW,u3,hs,pp,aQ]
  rw[hb]
  generalize bP (GR (b9 ls i))=x
  generalize bP (∃k,0≤k∧k<i∧P8 (b9 ls i) (b9 ls k))=y
  cases x <;> cases y <;> simp only[Bool.not_true,Bool.not_false,cond_true,cond_false,aZ,aO,oH,wi,Bool.true_or,Bool.false_or]
 exact cZ (F:=gD) (fun i=>(ls.map lT,(i:Int),())) ls.length (yD ls) _ _
  (fun k hk hb=>by rw[key k hk,fJ hb];rfl) (fun k hk hb=>by rw[key k hk,e7 hb];rfl) (by
   unfold gD
   simp only[aG,mK,decide_eq_false (by omega:¬(ls.length:Int)<(ls.length:Int)),cond_false]) ls.length 0 (by omega)
theorem Ju{i:Nat}(hi:i<ls.length)(h0:0<(b9 ls i).length):aM gE (ls.map lT,(i:Int),(0:Int),(0:Int),())=some (.inl (ls.map lT,(i:Int),u4 ls i ls.length,())):=by
 have hbi:=hB _ (dD hi)
 have sp:=pH hbi h0 0
 have g0:bD ((b9 ls i).map wT) 0=some (wT (nG ls i)):=IA h0
 obtain⟨c0,c1,c2,c3,c4,c5,c6,c7,c8⟩:=cells (nG ls i)
 have hw0:∀j,j<ls.length→((fun j=>if j=i then 0 else wn (b9 ls j) (cq (nG ls i))) j:Int).natAbs≤1000:=fun j hj=>by
  show (if j=i then (0:Int) else _).natAbs≤1000
  split
  ·exact Nat.zero_le _
  ·exact Jt _ _ (hB _ (dD hj)).1
 have hs:∀k,k≤ls.length→(u4 ls i k).natAbs≤1000*k:=fun k hk=>by
  induction k with
  | zero=>show (0:Int).natAbs≤_;omega
  | succ k ih=>
   have h1:=ih (by omega)
   have h2:(if k=i then (0:Int) else wn (b9 ls k) (cq (nG ls i))).natAbs≤1000:=hw0 k (by omega)
   unfold u4 at *
   rw[fG,Nat.mul_succ];omega
 have lp:=jB (F:=gE) ls.length (fun k=>(ls.map lT,(i:Int),u4 ls i k,(k:Int),())) fun k hk=>by
  have wk:wr .i64 ((k:Int)+1)=((k+1:Nat):Int):=by rw[dC (by omega) (by omega)];push_cast;rfl
  have hw:=Nd (hB _ (dD hk)) (p:=nG ls i) sp
  have hfst:(bif bP (yE (iV (qs (b9 ls k))) (cq (nG ls i))) then ((0:Int),false,()) else (wd (iV (qs (b9 ls k))) (cq (nG ls i)),true,())).1=wn (b9 ls k) (cq (nG ls i)):=by
   unfold wn;cases bP (yE (iV (qs (b9 ls k))) (cq (nG ls i))) <;> rfl
  have h1:=hs k (by omega)
  have h2:=Jt (b9 ls k) (cq (nG ls i)) (hB _ (dD hk)).1
  have ws:wr .i64 (u4 ls i k+wn (b9 ls k) (cq (nG ls i)))=u4 ls i k+wn (b9 ls k) (cq (nG ls i)):=dC (by omega) (by omega)
  have e2:u4 ls i (k+1)=u4 ls i k+if k=i then 0 else wn (b9 ls k) (cq (nG ls i)):=fG _ _
  unfold gE
  simp -implicitDefEqProofs only[aG,mK,decide_eq_true (by omega:(k:Int)<(ls.length:Int)),cond_true,aS,(iW hk).1,(iW hi).1,aZ,kW,S2,g0,u3,c0,c1,c2,c3,c4,c5,c6,c7,c8,hw,hfst,aQ,ws,wk]
  rw[e2]
  by_cases h1:k=i
  ·rw[decide_eq_true (by omega:(k:Int)=(i:Int)),if_pos h1,Int.add_zero]
   simp only[Bool.not_true,cond_false,aZ,aO,wk]
  ·rw[decide_eq_false (by omega:¬(k:Int)=(i:Int)),if_neg h1]
   simp only[Bool.not_false,cond_true,aZ,aO,wk]
 have hout:gE (ls.map lT,(i:Int),u4 ls i ls.length,(ls.length:Int),())=some (.inr (.inl (ls.map lT,(i:Int),u4 ls i ls.length,()))):=by
  unfold gE
  simp only[aG,mK,decide_eq_false (by omega:¬(ls.length:Int)<(ls.length:Int)),cond_false]
 rw[aW hout] at lp
 exact lp
theorem Jv{i:Nat}(hi:i<ls.length)(h0:0<(b9 ls i).length):gF (ls.map lT,(i:Int),())=some (bif bP (V1 ls i) then .inr (.inl (8,())) else .inl (ls.map lT,((i+1:Nat):Int),())):=by
 have wk:wr .i64 ((i:Int)+1)=((i+1:Nat):Int):=by rw[dC (by omega) (by omega)];push_cast;rfl
 have ar:=Ju hB hm hi h0
 obtain⟨p,q,r,e1,e2⟩:=Rp (hB _ (dD hi))
 have hs1:=M9 (b9 ls i)
 unfold gF
 simp -implicitDefEqProofs only[aG,mK,decide_eq_true (by omega:(i:Int)<(ls.length:Int)),cond_true,ar,aZ,aO,(iW hi).1,kW,u3,e1,e2,aQ,wk]
 unfold V1
 generalize u4 ls i ls.length=o at *
 generalize sA (b9 ls i)=s at *
 by_cases h1:o<0
 ·rw[decide_eq_true h1,fJ (by omega)];rfl
 ·rw[decide_eq_false h1]
  by_cases h2:1<o
  ·rw[decide_eq_true h2,fJ (by omega)];rfl
  ·rw[decide_eq_false h2]
   have ws:wr .i64 (o+s)=o+s:=dC (by omega) (by omega)
   rw[ws]
   by_cases h3:o+s<0
   ·rw[decide_eq_true h3,fJ (by omega)];rfl
   ·rw[decide_eq_false h3]
    by_cases h4:1<o+s
    ·rw[decide_eq_true h4,fJ (by omega)];rfl
    ·rw[decide_eq_false h4,e7 (by omega)];rfl
end
section
variable {ls:List (List Z)} (hB:YN ls)
include hB
theorem Nn(hm:ls.length≤16)(h0:0<ls.length)(hl:∀l∈ls,l.length≤64):iT (ls.map lT,())=some (Bj ls,()):=by
 have v:=Nm hB (by omega) hl
 have a:=Un hB (by omega)
 unfold iT Bj
 simp only[mK,aS,decide_eq_false (by omega:¬(ls.length:Int)=0),cond_false,aG,decide_eq_false (by omega:¬(16:Int)<(ls.length:Int)),v,aZ,aO,oH,a]
 by_cases hA:∃i,0≤i∧i<ls.length∧yD ls i
 ·rw[fJ hA];simp only[cond_true,aZ,aO]
 ·rw[e7 hA]
  have hs:∀i,i<ls.length→0<(b9 ls i).length:=fun i hi=>by
   have hsim:GR (b9 ls i):=Classical.byContradiction fun c=>hA ⟨i,Nat.zero_le _,hi,.inl c⟩
   have:=hsim.1;omega
  have c:=cZ (F:=gF) (fun i=>(ls.map lT,(i:Int),())) ls.length (V1 ls) (.inl (8,())) (.inr (.inl ()))
   (fun k hk hb=>by rw[Jv hB (by omega) hk (hs k hk),fJ hb];rfl) (fun k hk hb=>by rw[Jv hB (by omega) hk (hs k hk),e7 hb];rfl) (by
    unfold gF
    simp only[aG,mK,decide_eq_false (by omega:¬(ls.length:Int)<(ls.length:Int)),cond_false]) ls.length 0 (by omega)
  have c:aM gF (ls.map lT,(0:Int),())=_:=c
  simp only[cond_false,aZ,aO,oH,c]
  generalize bP (∃j,0≤j∧j<ls.length∧V1 ls j)=x
  cases x <;> rfl
def o6(ls:List (List Z))(p:Q):Prop:=∃j,0≤j∧j<ls.length∧yE (iV (qs (b9 ls j))) p
noncomputable def o7(ls:List (List Z))(p:Q)(k:Nat):Int:=nZ k fun j=>wd (iV (qs (b9 ls j))) p
theorem NA(p:Q):∀k,k≤ls.length→(o7 ls p k).natAbs≤1000*k
 | 0,_=>by show (0:Int).natAbs≤_;omega
 | k+1,hk=>by
  have h1:=NA p k (by omega)
  have h2:=SY (b9 ls k) p
  have h3:=(hB _ (dD (i:=k) (by omega))).1
  unfold o7 at *
  rw[fG,Nat.mul_succ];omega
section
variable (hm:ls.length≤1000) {D:Nat} {px py pz:Rat}
include hm
theorem JP(hp:Pp D 32 px py pz):fP (ls.map lT,c3 px (c3 py (c3 pz ())))=some (bif bP (o6 ls (px,py)) then 0 else bif decide (o7 ls (px,py) ls.length=1) then 1 else -1,()):=by
 have key:∀k,k<ls.length→iD ((),o7 ls (px,py) k,ls.map lT,(ls.length:Int),(k:Int),c3 px (c3 py (c3 pz ())))=some (bif bP (yE (iV (qs (b9 ls k))) (px,py)) then .inr (.inl (0,())) else .inl ((),o7 ls (px,py) (k+1),ls.map lT,(ls.length:Int),((k+1:Nat):Int),c3 px (c3 py (c3 pz ())))):=fun k hk=>by
  have wk:wr .i64 ((k:Int)+1)=((k+1:Nat):Int):=by rw[dC (by omega) (by omega)];push_cast;rfl
  have hw:=Je (hB _ (dD hk)) hp
  have h1:=NA hB (px,py) k (by omega)
  have h2:=SY (b9 ls k) (px,py)
  have h3:=(hB _ (dD hk)).1
  have e2:o7 ls (px,py) (k+1)=o7 ls (px,py) k+wd (iV (qs (b9 ls k))) (px,py):=fG _ _
  have ws:wr .i64 (o7 ls (px,py) k+wd (iV (qs (b9 ls k))) (px,py))=o7 ls (px,py) k+wd (iV (qs (b9 ls k))) (px,py):=dC (by omega) (by omega)
  rw[e2]
  unfold iD
  simp -implicitDefEqProofs only[aG,decide_eq_true (by omega:(k:Int)<(ls.length:Int)),cond_true,(iW hk).1,aZ,kW,u3,hw,aQ,wk]
  generalize bP (yE (iV (qs (b9 ls k))) (px,py))=b
  cases b with
  | true=>rfl
  | false=>simp only[cond_false,Bool.not_true,ws]
 have sc:=cZ (F:=iD) (fun k=>((),o7 ls (px,py) k,ls.map lT,(ls.length:Int),(k:Int),c3 px (c3 py (c3 pz ())))) ls.length (fun k=>yE (iV (qs (b9 ls k))) (px,py)) (.inl (0,())) (.inr (.inl (o7 ls (px,py) ls.length,())))
  (fun k hk hb=>by rw[key k hk,fJ hb];rfl) (fun k hk hb=>by rw[key k hk,e7 hb];rfl) (by
   unfold iD
   simp only[aG,decide_eq_false (by omega:¬(ls.length:Int)<(ls.length:Int)),cond_false]) ls.length 0 (by omega)
 have sc:aM iD ((),(0:Int),ls.map lT,(ls.length:Int),(0:Int),c3 px (c3 py (c3 pz ())))=_:=sc
 have hb:bP (∃j,0≤j∧j<ls.length∧yE (iV (qs (b9 ls j))) (px,py))=bP (o6 ls (px,py)):=rfl
 rw[hb] at sc
 unfold fP
 simp only[mK]
 rw[sc]
 cases bP (o6 ls (px,py)) with
 | true=>rfl
 | false=>
  simp only[cond_false,aZ,aO,oH,aS]
  cases decide (o7 ls (px,py) ls.length=1) <;> rfl
theorem No(hp:Pr D px py pz):mU (ls.map lT,c3 px (c3 py (c3 pz ())))=some (bif bP (o6 ls (px,py)) then 0 else bif decide (o7 ls (px,py) ls.length=0) then -1 else 1,()):=by
 have key:∀k,k<ls.length→f8 (ls.map lT,(),o7 ls (px,py) k,(k:Int),c3 px (c3 py (c3 pz ())))=some (bif bP (yE (iV (qs (b9 ls k))) (px,py)) then .inr (.inl (0,false,())) else .inl (ls.map lT,(),o7 ls (px,py) (k+1),((k+1:Nat):Int),c3 px (c3 py (c3 pz ())))):=fun k hk=>by
  have wk:wr .i64 ((k:Int)+1)=((k+1:Nat):Int):=by rw[dC (by omega) (by omega)];push_cast;rfl
  have hw:=Jf (hB _ (dD hk)) hp
  have h1:=NA hB (px,py) k (by omega)
  have h2:=SY (b9 ls k) (px,py)
  have h3:=(hB _ (dD hk)).1
  have e2:o7 ls (px,py) (k+1)=o7 ls (px,py) k+wd (iV (qs (b9 ls k))) (px,py):=fG _ _
  have ws:wr .i64 (o7 ls (px,py) k+wd (iV (qs (b9 ls k))) (px,py))=o7 ls (px,py) k+wd (iV (qs (b9 ls k))) (px,py):=dC (by omega) (by omega)
  rw[e2]
  unfold f8
  simp -implicitDefEqProofs only[aG,mK,decide_eq_true (by omega:(k:Int)<(ls.length:Int)),cond_true,(iW hk).1,aZ,kW,u3,hw,aQ,wk]
  generalize bP (yE (iV (qs (b9 ls k))) (px,py))=b
  cases b with
  | true=>rfl
  | false=>simp only[cond_false,Bool.not_true,ws]
 have sc:=cZ (F:=f8) (fun k=>(ls.map lT,(),o7 ls (px,py) k,(k:Int),c3 px (c3 py (c3 pz ())))) ls.length (fun k=>yE (iV (qs (b9 ls k))) (px,py)) (.inl (0,false,())) (.inr (.inl (o7 ls (px,py) ls.length,())))
  (fun k hk hb=>by rw[key k hk,fJ hb];rfl) (fun k hk hb=>by rw[key k hk,e7 hb];rfl) (by
   unfold f8
   simp only[aG,mK,decide_eq_false (by omega:¬(ls.length:Int)<(ls.length:Int)),cond_false]) ls.length 0 (by omega)
 have sc:aM f8 (ls.map lT,(),(0:Int),(0:Int),c3 px (c3 py (c3 pz ())))=_:=sc
 have hb:bP (∃j,0≤j∧j<ls.length∧yE (iV (qs (b9 ls j))) (px,py))=bP (o6 ls (px,py)):=rfl
 rw[hb] at sc
 unfold mU uW
 rw[sc]
 cases bP (o6 ls (px,py)) with
 | true=>rfl
 | false=>
  simp only[cond_false,aZ,aO,oH,aS,Bool.not_true]
  cases decide (o7 ls (px,py) ls.length=0) <;> rfl
end
end
end Go.Eng.Rt
