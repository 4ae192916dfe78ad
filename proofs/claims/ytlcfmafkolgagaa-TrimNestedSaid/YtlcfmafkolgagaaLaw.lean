/- The functions and the laws of this seat in plain words; each statement names its conditions. -/
import Derived.Test.YtlcfmafkolgagaaEng2
import Derived.Test.YtlcfmafkolgagaaGen2
set_option linter.unusedSimpArgs false
set_option linter.unusedVariables false
namespace Go.Eng.Rt
open Go.Eng
abbrev BB:Nat:=4294967296
def val:List Nat→Nat
 | []=>0
 | a::l=>a+BB*val l
def aU(n:Nat):List Nat:=if h:n=0 then [] else (n%BB)::aU (n/BB)
termination_by n
decreasing_by exact Nat.div_lt_self (Nat.pos_of_ne_zero h) (by decide)
def Lim(l:List Nat):Prop:=∀x∈l,x<BB
theorem dU:aU 0=[]:=by rw[aU];simp
theorem nJ{n:Nat}(h:n≠0):aU n=(n%BB)::aU (n/BB):=by rw[aU];simp[h]
theorem FD{n:Nat}(h:n≠0)(hn:n<BB):aU n=[n]:=by
 rw[nJ h,Nat.mod_eq_of_lt hn,Nat.div_eq_of_lt hn,dU]
theorem Au{n:Nat}(h:BB≤n)(hn:n<BB*BB):aU n=[n%BB,n/BB]:=by
 rw[nJ (by simp only[BB] at h;omega),FD (n:=n/BB)]
 ·have:0<n/BB:=Nat.div_pos h (by decide)
  omega
 ·exact Nat.div_lt_of_lt_mul hn
theorem dH(n:Nat):val (aU n)=n:=by
 induction n using Nat.strongRecOn with
 | _ n ih=>
  by_cases h:n=0
  ·subst h;rw[dU];rfl
  ·rw[nJ h,val,ih _ (Nat.div_lt_self (Nat.pos_of_ne_zero h) (by decide))]
   exact Nat.mod_add_div n BB
theorem eJ(n:Nat):Lim (aU n):=by
 induction n using Nat.strongRecOn with
 | _ n ih=>
  by_cases h:n=0
  ·subst h;rw[dU];intro x hx;cases hx
  ·rw[nJ h]
   intro x hx
   rcases List.mem_cons.1 hx with rfl | hx
   ·exact Nat.mod_lt _ (by decide)
   ·exact ih _ (Nat.div_lt_self (Nat.pos_of_ne_zero h) (by decide)) x hx
theorem Lim.nil:Lim []:=fun x h=>by cases h
theorem Lim.cons{a:Nat}{l:List Nat}(h:a<BB)(hl:Lim l):Lim (a::l):=fun x hx=>by
 rcases List.mem_cons.1 hx with rfl | hx
 ·exact h
 ·exact hl x hx
theorem Lim.head{a:Nat}{l:List Nat}(h:Lim (a::l)):a<BB:=h a (by simp)
theorem Lim.tail{a:Nat}{l:List Nat}(h:Lim (a::l)):Lim l:=fun x hx=>h x (by simp[hx])
theorem Lim.append{l m:List Nat}(h:Lim l)(h':Lim m):Lim (l++m):=fun x hx=>(List.mem_append.1 hx).elim (h x) (h' x)
theorem VV{l:List Nat}(h:Lim l):val l<BB ^ l.length:=by
 induction l with
 | nil=>simp[val]
 | cons a l ih=>
  have h1:=h.head
  have h2:=ih h.tail
  rw[val,List.length_cons,Nat.pow_succ]
  have h3:val l+1≤BB ^ l.length:=h2
  have h4:BB*(val l+1)≤BB*BB ^ l.length:=Nat.mul_le_mul_left _ h3
  have h5:BB*(val l+1)=BB*val l+BB:=by rw[Nat.mul_add];simp
  rw[Nat.mul_comm (BB ^ l.length)]
  omega
def qB(l:List Nat):List Nat:=(l.reverse.dropWhile (·==0)).reverse
theorem zG(l:List Nat):qB (l++[0])=qB l:=by
 unfold qB;simp
theorem CF{l:List Nat}{a:Nat}(h:a≠0):qB (l++[a])=l++[a]:=by
 unfold qB;simp[h]
theorem sF(l m:List Nat):val (l++m)=val l+BB ^ l.length*val m:=by
 induction l with
 | nil=>simp[val]
 | cons a l ih=>
  rw[List.cons_append,val,val,ih,List.length_cons,Nat.pow_succ,Nat.mul_add,Nat.mul_comm (BB ^ l.length) BB,Nat.mul_assoc]
  omega
theorem Ep{n:Nat}(h:n≠0):aU n≠[]:=by rw[nJ h];simp
theorem VW{l:List Nat}{a:Nat}(hl:Lim l)(ha:a<BB)(h0:a≠0):aU (val (l++[a]))=l++[a]:=by
 induction l with
 | nil=>rw[List.nil_append];show aU (a+BB*0)=[a];rw[Nat.mul_zero,Nat.add_zero,FD h0 ha]
 | cons b l ih=>
  have h1:=hl.head
  rw[List.cons_append,val]
  have hp:val (l++[a])≠0:=by
   intro h
   have:=ih hl.tail
   rw[h,dU] at this
   simp at this
  rw[nJ (by simp only[BB];omega),Nat.add_mul_mod_self_left,Nat.mod_eq_of_lt h1,Nat.add_mul_div_left _ _ (by decide),Nat.div_eq_of_lt h1,Nat.zero_add,ih hl.tail]
theorem FE{l:List Nat}(h:Lim l):aU (val l)=qB l:=by
 have key:∀k (l:List Nat),l.length=k→Lim l→aU (val l)=qB l:=by
  intro k
  induction k with
  | zero=>
   intro l hl _
   have:=List.eq_nil_of_length_eq_zero hl
   subst this
   exact dU
  | succ k ih=>
   intro l hl h
   have hne:l≠[]:=by intro e;subst e;simp at hl
   obtain⟨m,a,rfl⟩:∃m a,l=m++[a]:=⟨l.dropLast,l.getLast hne,(List.dropLast_concat_getLast hne).symm⟩
   have hm:Lim m:=fun x hx=>h x (List.mem_append.2 (.inl hx))
   have ha:a<BB:=h a (by simp)
   by_cases h0:a=0
   ·subst h0
    rw[zG,sF,show val [0]=0 from rfl,Nat.mul_zero,Nat.add_zero]
    exact ih m (by simp at hl;exact hl) hm
   ·rw[VW hm ha h0,CF h0]
 exact key _ l rfl h
theorem FG{a b:Nat}(h:aU a=aU b):a=b:=by rw[←dH a,h,dH]
theorem kB{n k:Nat}:(aU n).length≤k↔n<BB ^ k:=by
 constructor
 ·intro h
  have:=VV (eJ n)
  rw[dH] at this
  exact Nat.lt_of_lt_of_le this (Nat.pow_le_pow_right (by decide) h)
 ·intro h
  induction k generalizing n with
  | zero=>
   have:n=0:=by simpa using h
   subst this;simp[dU]
  | succ k ih=>
   by_cases h0:n=0
   ·subst h0;simp[dU]
   ·rw[nJ h0,List.length_cons]
    have:=ih (n:=n/BB) (Nat.div_lt_of_lt_mul (by rw[Nat.mul_comm,←Nat.pow_succ];exact h))
    omega
def eB(n:Nat):T:=.v (.int .u32 (n:Int))
def cN(l:List Nat):List T:=l.map eB
def lm(n:Nat):List T:=cN (aU n)
def dn(d:Nat):List T:=if d=1 then [] else lm d
theorem cY(l:List Nat):(cN l).length=l.length:=by simp[cN]
theorem jN:lm 0=[]:=by rw[lm,dU];rfl
theorem pG{n:Nat}(h:n≠0)(hn:n<BB):lm n=[eB n]:=by rw[lm,FD h hn];rfl
theorem Nn{n:Nat}(h:BB≤n)(hn:n<BB*BB):lm n=[eB (n%BB),eB (n/BB)]:=by rw[lm,Au h hn];rfl
theorem Er{a b:Nat}(h:eB a=eB b):a=b:=by
 unfold eB at h
 injection h with h
 injection h with _ h
 omega
theorem QF{a b:List Nat}(h:cN a=cN b):a=b:=by
 induction a generalizing b with
 | nil=>cases b with
  | nil=>rfl
  | cons y b=>simp[cN] at h
 | cons x a ih=>cases b with
  | nil=>simp[cN] at h
  | cons y b=>
   simp only[cN,List.map_cons,List.cons.injEq] at h
   rw[Er h.1,ih h.2]
theorem KW{a b:Nat}(h:lm a=lm b):a=b:=FG (QF h)
end Go.Eng.Rt
namespace Go.Eng.Rt
open Go.Eng
def aK(q:Rat):Bool:=decide (q.num<0)
def aR(q:Rat):List T:=lm q.num.natAbs
def aW(q:Rat):List T:=dn q.den
def sg(neg:Bool)(n:Nat):Int:=if neg then -(n:Int) else n
theorem VX(neg:Bool)(n:Nat):(sg neg n).natAbs=n:=by cases neg <;> simp[sg]
theorem mB(q:Rat):sg (aK q) q.num.natAbs=q.num:=by
 unfold sg aK
 by_cases h:q.num<0
 ·rw[decide_eq_true h,if_pos rfl];omega
 ·rw[decide_eq_false h];simp;omega
theorem Es{n:Int}{d:Nat}(hd:d≠0):(mkRat n d).den=d/n.natAbs.gcd d:=by
 rw[Rat.mkRat_def,dif_neg hd,Rat.normalize_eq]
theorem Et{n:Int}{d:Nat}(hd:d≠0):(mkRat n d).num=n/(n.natAbs.gcd d:Nat):=by
 rw[Rat.mkRat_def,dif_neg hd,Rat.normalize_eq]
theorem Eu(neg:Bool){n d:Nat}(hd:d≠0):(mkRat (sg neg n) d).num.natAbs=n/n.gcd d:=by
 rw[Et hd,VX]
 unfold sg
 have hg:0<n.gcd d:=Nat.gcd_pos_of_pos_right _ (Nat.pos_of_ne_zero hd)
 cases neg with
 | false=>simp only[Bool.false_eq_true,if_false];rw[←Int.natCast_ediv];exact Int.natAbs_natCast _
 | true=>
  simp only[if_true]
  rw[Int.neg_ediv_of_dvd (Int.natCast_dvd_natCast.2 (Nat.gcd_dvd_left n d)),Int.natAbs_neg,←Int.natCast_ediv];exact Int.natAbs_natCast _
theorem VY(neg:Bool){n d:Nat}(hd:d≠0)(hn:n≠0):aK (mkRat (sg neg n) d)=neg:=by
 unfold aK
 rw[Et hd,VX]
 have hg:0<n.gcd d:=Nat.gcd_pos_of_pos_right _ (Nat.pos_of_ne_zero hd)
 have hq:0<n/n.gcd d:=Nat.div_pos (Nat.le_of_dvd (Nat.pos_of_ne_zero hn) (Nat.gcd_dvd_left n d)) hg
 unfold sg
 cases neg with
 | false=>
  simp only[Bool.false_eq_true,if_false];rw[←Int.natCast_ediv]
  exact decide_eq_false (by omega)
 | true=>
  simp only[if_true]
  rw[Int.neg_ediv_of_dvd (Int.natCast_dvd_natCast.2 (Nat.gcd_dvd_left n d)),←Int.natCast_ediv]
  exact decide_eq_true (by omega)
theorem X5(neg:Bool)(d:Nat):mkRat (sg neg 0) d=0:=by
 cases neg <;> simp[sg,Rat.zero_mkRat]
theorem X6(neg:Bool){n d:Nat}(hd:d≠0):aR (mkRat (sg neg n) d)=lm (n/n.gcd d):=by unfold aR;rw[Eu neg hd]
theorem X7(neg:Bool){n d:Nat}(hd:d≠0):aW (mkRat (sg neg n) d)=dn (d/n.gcd d):=by unfold aW;rw[Es hd,VX]
theorem uZ:aK 0=false:=rfl
theorem vA:aR 0=[]:=jN
theorem vB:aW 0=[]:=rfl
theorem Ev{a b:Nat}(ha:a≠0)(hb:b≠0)(h:dn a=dn b):a=b:=by
 unfold dn at h
 split at h <;> split at h
 ·omega
 ·rw[←jN] at h;exact absurd (KW h).symm hb
 ·rw[←jN] at h;exact absurd (KW h) ha
 ·exact KW h
theorem X8{p q:Rat}(h1:aK p=aK q)(h2:p.num.natAbs=q.num.natAbs)(h3:p.den=q.den):p=q:=by
 have:p.num=q.num:=by rw[←mB p,h1,h2,mB q]
 cases p;cases q
 simp only at this h3
 subst this;subst h3;rfl
theorem QG(p q:Rat):p+q=mkRat (p.num*q.den+q.num*p.den) (p.den*q.den):=by
 rw[Rat.add_def,Rat.mkRat_def,dif_neg (Nat.mul_ne_zero p.den_nz q.den_nz)]
theorem No(p q:Rat):p*q=mkRat (p.num*q.num) (p.den*q.den):=by
 rw[Rat.mul_def,Rat.mkRat_def,dif_neg (Nat.mul_ne_zero p.den_nz q.den_nz)]
theorem jO(a:Bool)(n:Nat)(m:Nat):sg a n*(m:Int)=sg a (n*m):=by
 cases a <;> simp[sg,Int.neg_mul]
theorem Ew(a:Bool)(n m:Nat):sg a n+sg a m=sg a (n+m):=by
 cases a <;> simp[sg] <;> omega
theorem VZ{a b:Bool}(hab:a≠b){n m:Nat}(h:m≤n):sg a n+sg b m=sg a (n-m):=by
 cases a <;> cases b <;> simp[sg] at hab ⊢ <;> omega
theorem S9{p q:Rat}(h:aK p=aK q):p+q=mkRat (sg (aK q) (p.num.natAbs*q.den+q.num.natAbs*p.den)) (p.den*q.den):=by
 rw[QG]
 congr 1
 rw[←Ew,←jO,←jO,mB,←h,mB]
theorem DV{p q:Rat}(h:aK p≠aK q)(hle:q.num.natAbs*p.den≤p.num.natAbs*q.den):p+q=mkRat (sg (aK p) (p.num.natAbs*q.den-q.num.natAbs*p.den)) (p.den*q.den):=by
 rw[QG]
 congr 1
 rw[←VZ h hle,←jO,←jO,mB,mB]
theorem V0(p q:Rat):p*q=mkRat (sg (aK p != aK q) (p.num.natAbs*q.num.natAbs)) (p.den*q.den):=by
 rw[No]
 congr 1
 have h1:=mB p
 have h2:=mB q
 generalize p.num.natAbs=a at *
 generalize q.num.natAbs=b at *
 rw[←h1,←h2]
 cases aK p <;> cases aK q <;> simp[sg,Int.neg_mul,Int.mul_neg]
def Sm(q:Rat):Prop:=q.num.natAbs<2147483648∧q.den<2147483648
theorem Sm.zero:Sm 0:=⟨by decide,by decide⟩
theorem Iy{q:Rat}(h:q.den<BB):aW q=if q.den=1 then [] else [eB q.den]:=by
 unfold aW dn
 split
 ·rfl
 ·rw[pG q.den_nz h]
theorem KX{q:Rat}:q.num.natAbs=0↔q=0:=by
 constructor
 ·intro h;exact Rat.num_eq_zero.1 (by omega)
 ·rintro rfl;rfl
theorem KY{p q:Rat}:p<q↔p.num*q.den<q.num*p.den:=Rat.lt_iff p q
end Go.Eng.Rt
namespace Go.Eng.Rt
open Go.Eng
def En(D k:Nat)(q:Rat):Prop:=∃m:Nat,m≤k∧q=mkRat (m:Int) D
theorem En.add{D a b:Nat}{p q:Rat}(hD:D≠0)(hp:En D a p)(hq:En D b q):En D (a+b) (p+q):=by
 obtain⟨m,hm,rfl⟩:=hp
 obtain⟨n,hn,rfl⟩:=hq
 refine⟨m+n,by omega,?_⟩
 rw[Rat.mkRat_add_mkRat _ _ hD hD,Rat.mkRat_eq_iff (Nat.mul_ne_zero hD hD) hD]
 push_cast
 rw[←Int.add_mul,Int.mul_assoc]
theorem En.zero{D k:Nat}:En D k 0:=⟨0,Nat.zero_le _,by simp[Rat.zero_mkRat]⟩
theorem En.mono{D a b:Nat}{q:Rat}(h:En D a q)(hab:a≤b):En D b q:=by
 obtain⟨m,hm,e⟩:=h;exact⟨m,by omega,e⟩
theorem En.sm{D k:Nat}{q:Rat}(hD:D≠0)(hD':D<2147483648)(hk:k<2147483648)(h:En D k q):Sm q:=by
 obtain⟨m,hm,rfl⟩:=h
 have e:(m:Int)=sg false m:=rfl
 constructor
 ·rw[e,Eu false hD]
  exact Nat.lt_of_le_of_lt (Nat.div_le_self _ _) (by omega)
 ·rw[Es hD]
  exact Nat.lt_of_le_of_lt (Nat.div_le_self _ _) hD'
theorem En.nn{D k:Nat}{q:Rat}(hD:D≠0)(h:En D k q):aK q=false:=by
 obtain⟨m,hm,rfl⟩:=h
 by_cases h0:m=0
 ·subst h0;simp[Rat.zero_mkRat];rfl
 ·exact VY false hD h0
end Go.Eng.Rt
namespace Go.Eng.Rt
open Go.Eng
abbrev dJ:Nat:=18446744073709551616
theorem GR(n:Nat):wr .u32 (n:Int)=((n%BB:Nat):Int):=by
 unfold wr IntKind.wrap
 simp only[IntKind.bits,IntKind.signed,Bool.false_and,Bool.false_eq_true,if_false]
 rw[show ((2:Int) ^ 32)=((BB:Nat):Int) from rfl]
 omega
theorem Qo(n:Nat):wr .u64 (n:Int)=((n%dJ:Nat):Int):=by
 unfold wr IntKind.wrap
 simp only[IntKind.bits,IntKind.signed,Bool.false_and,Bool.false_eq_true,if_false]
 rw[show ((2:Int) ^ 64)=((dJ:Nat):Int) from rfl]
 omega
theorem dM{n:Nat}(h:n<dJ):wr .u64 (n:Int)=(n:Int):=by rw[Qo,Nat.mod_eq_of_lt h]
theorem Ex{n:Nat}(h:n<BB):wr .u32 (n:Int)=(n:Int):=by rw[GR,Nat.mod_eq_of_lt h]
theorem V1{n:Nat}(h:n<4611686018427387904):wr .i64 (n:Int)=(n:Int):=qZ (by omega) (by omega)
theorem dA{n:Int}(h0:-4611686018427387904<n)(h:n<4611686018427387904):wr .i64 n=n:=qZ (by omega) (by omega)
theorem KZ(n:Nat):shrI .u64 (n:Int) 32=((n/BB:Nat):Int):=by
 unfold shrI
 rw[show ((2:Int) ^ (min (Int.toNat 32) (IntKind.bits .u64)))=((BB:Nat):Int) from rfl,Int.fdiv_eq_ediv_of_nonneg _ (by omega)]
 exact(Int.natCast_ediv n BB).symm
theorem Lk(n:Nat):BK .u64 (n:Int) 32=((n*BB:Nat):Int):=by
 unfold BK
 rw[show ((2:Int) ^ (min (Int.toNat 32) (IntKind.bits .u64)))=((BB:Nat):Int) from rfl]
 exact(Int.natCast_mul n BB).symm
theorem QH:nn (32:Int)=some 32:=by unfold nn;rfl
theorem Iz{a b:Nat}(h:a<BB):a ||| (b*BB)=a+b*BB:=by
 rw[Nat.or_comm,Nat.add_comm,show b*BB=b <<< 32 by rw[Nat.shiftLeft_eq]]
 exact(Nat.shiftLeft_add_eq_or_of_lt (by simpa using h) b).symm
theorem Qp{a b:Nat}(ha:a<BB)(hb:b<BB):qV .or .u64 (a:Int) ((b*BB:Nat):Int)=((a+b*BB:Nat):Int):=by
 have hlt:a+b*BB<dJ:=by simp only[BB,dJ] at *;omega
 unfold qV
 have e:∀n:Nat,n<dJ→(BitVec.ofInt 64 (n:Int)).toNat=n:=fun n hn=>by
  rw[BitVec.ofInt_natCast,BitVec.toNat_ofNat]
  exact Nat.mod_eq_of_lt (by simp only[dJ] at hn;omega)
 show IntKind.wrap .u64 (((BitVec.ofInt 64 (a:Int) ||| BitVec.ofInt 64 ((b*BB:Nat):Int)).toNat:Nat):Int)=_
 rw[BitVec.toNat_or,e a (by simp only[BB,dJ] at *;omega),e (b*BB) (by simp only[BB,dJ] at *;omega),Iz ha]
 have:=dM hlt
 unfold wr at this
 exact this
theorem Qq{a b:Nat}(ha:a<BB)(hb:b<BB):qV .or .u64 ((b*BB:Nat):Int) (a:Int)=((a+b*BB:Nat):Int):=by
 rw[←Qp ha hb]
 unfold qV
 simp only[BitVec.or_comm]
theorem fB(l:List Nat)(i:Nat):(cN l)[i]?=(l[i]?).map eB:=by simp[cN]
theorem cO(n:Nat):T.cell (eB n) 0=eB n:=rfl
theorem qC(n:Nat):T.int? .u32 (eB n)=some (n:Int):=by unfold eB;simp
theorem jU(n:Nat):T.anyInt? (eB n)=some (n:Int):=rfl
theorem DW(x:T)(n:Nat)(h:∃m,x=eB m):T.upd 1 x 0 [T.v (.int .u32 (n:Int))]=eB n:=by
 obtain⟨m,rfl⟩:=h
 exact Dj _ _
theorem H5(l:List Nat)(i n:Nat):(cN l).set i (eB n)=cN (l.set i n):=by unfold cN;rw[List.map_set]
theorem V2(a b:List Nat):cN a++cN b=cN (a++b):=by unfold cN;simp
theorem TA(l:List Nat)(k:Nat):(cN l).take k=cN (l.take k):=by unfold cN;simp
theorem X9(n:Nat):List.replicate n (T.v (.int .u32 (0:Int)))=cN (List.replicate n 0):=by unfold cN;simp[eB]
theorem Lim.take{l:List Nat}(h:Lim l)(k:Nat):Lim (l.take k):=fun x hx=>h x (List.mem_of_mem_take hx)
theorem Lim.drop{l:List Nat}(h:Lim l)(k:Nat):Lim (l.drop k):=fun x hx=>h x (List.mem_of_mem_drop hx)
theorem Lim.get{l:List Nat}(h:Lim l){i:Nat}{x:Nat}(hi:l[i]?=some x):x<BB:=h x (List.mem_of_getElem? hi)
theorem Lim.set{l:List Nat}(h:Lim l){x:Nat}(hx:x<BB)(i:Nat):Lim (l.set i x):=fun y hy=>by
 rcases List.mem_or_eq_of_mem_set hy with h1 | h1
 ·exact h y h1
 ·subst h1;exact hx
theorem Lim.rep(n:Nat):Lim (List.replicate n 0):=fun x hx=>by rw[List.eq_of_mem_replicate hx];decide
theorem YA(n:Nat):val (List.replicate n 0)=0:=by
 induction n with
 | zero=>rfl
 | succ n ih=>rw[List.replicate_succ,val,ih,Nat.mul_zero]
theorem QI{l:List Nat}{i x y:Nat}(hi:l[i]?=some y):val (l.set i x)+BB ^ i*y=val l+BB ^ i*x:=by
 induction l generalizing i with
 | nil=>simp at hi
 | cons a l ih=>
  cases i with
  | zero=>
   simp only[List.getElem?_cons_zero,Option.some.injEq] at hi
   subst hi
   simp only[List.set_cons_zero,val,Nat.pow_zero,Nat.one_mul]
   omega
  | succ i=>
   simp only[List.getElem?_cons_succ] at hi
   have:=ih hi
   simp only[List.set_cons_succ,val,Nat.pow_succ]
   rw[Nat.mul_comm (BB ^ i) BB,Nat.mul_assoc,Nat.mul_assoc]
   have h1:BB*(val (l.set i x)+BB ^ i*y)=BB*(val l+BB ^ i*x):=by rw[this]
   rw[Nat.mul_add,Nat.mul_add] at h1
   omega
theorem tY{l:List Nat}{i x:Nat}(hi:l[i]?=some x):val (l.take (i+1))=val (l.take i)+BB ^ i*x:=by
 have hlt:i<l.length:=(List.getElem?_eq_some_iff.1 hi).1
 have hx:l[i]=x:=by rw[List.getElem?_eq_getElem hlt] at hi;exact Option.some.inj hi
 rw[List.take_succ_eq_append_getElem hlt,sF,hx]
 simp only[List.length_take,Nat.min_eq_left (Nat.le_of_lt hlt),val,Nat.mul_zero,Nat.add_zero]
theorem NY(l:List Nat):qB l <+: l:=by
 unfold qB
 have:=List.dropWhile_suffix (l:=l.reverse) (·==0)
 have h2:=List.reverse_prefix.2 this
 simpa using h2
theorem K0(l:List Nat):l.take (qB l).length=qB l:=(List.prefix_iff_eq_take.1 (NY l)).symm
theorem DX(l:List Nat):(qB l).length≤l.length:=(NY l).length_le
theorem K3{l:List Nat}(h:Lim l):cN (qB l)=lm (val l):=by rw[lm,FE h]
theorem zH(n:Nat):(lm n).length=(aU n).length:=by simp[lm,cN]
theorem tE{n:Nat}:(lm n).length=0↔n=0:=by
 rw[zH]
 constructor
 ·intro h
  rcases Nat.eq_zero_or_pos n with h0 | h0
  ·exact h0
  ·rw[nJ (by omega)] at h;simp at h
 ·intro h;subst h;rw[dU];rfl
theorem Ey{n:Nat}:(lm n).length≤1↔n<BB:=by rw[zH,kB];simp
def iA(a b:Nat):Int:=if a<b then -1 else if a=b then 0 else 1
theorem NZ{l:List Nat}{i x:Nat}(hi:l[i]?=some x):val l=val (l.take i)+BB ^ i*(x+BB*val (l.drop (i+1))):=by
 have hlt:i<l.length:=(List.getElem?_eq_some_iff.1 hi).1
 have hx:l[i]=x:=by rw[List.getElem?_eq_getElem hlt] at hi;exact Option.some.inj hi
 have h1:val (l.take i++l.drop i)=val l:=by rw[List.take_append_drop]
 rw[←h1,sF,List.drop_eq_getElem_cons hlt,hx,val,List.length_take,Nat.min_eq_left (Nat.le_of_lt hlt)]
theorem AH{a b:List Nat}(ha:Lim a){i x y:Nat}(hx:a[i]?=some x)(hy:b[i]?=some y)(hxy:x<y)(hd:a.drop (i+1)=b.drop (i+1)):val a<val b:=by
 rw[NZ hx,NZ hy,hd]
 have hlt:i<a.length:=(List.getElem?_eq_some_iff.1 hx).1
 have h1:=VV (ha.take i)
 rw[List.length_take,Nat.min_eq_left (Nat.le_of_lt hlt)] at h1
 have h2:BB ^ i*(x+1+BB*val (b.drop (i+1)))≤BB ^ i*(y+BB*val (b.drop (i+1))):=Nat.mul_le_mul_left _ (by omega)
 rw[show x+1+BB*val (b.drop (i+1))=(x+BB*val (b.drop (i+1)))+1 by omega,Nat.mul_add] at h2
 omega
end Go.Eng.Rt
namespace Go.Eng.Rt
open Go.Eng
abbrev LM:Nat:=1000000
theorem GS(l:List Nat)(hl:l.length<LM):∀n,n≤l.length→aJ gM (cN l,(n:Int),())=some (.inl (cN l,(((qB (l.take n)).length:Nat):Int),())):=by
 intro n
 induction n with
 | zero=>intro _;exact aV (by simp[gM,qB])
 | succ n ih=>
  intro hn
  have hlt:n<l.length:=hn
  have ht:l.take (n+1)=l.take n++[l[n]]:=List.take_succ_eq_append_getElem hlt
  have step:gM (cN l,((n+1:Nat):Int),())=if l[n]=0 then some (.inl (cN l,(n:Int),())) else some (.inr (.inl (cN l,((n+1:Nat):Int),()))):=by
   unfold gM
   simp only[aG,bK]
   rw[decide_eq_true (by omega),show ((n+1:Nat):Int)-1=(n:Int) by omega,V1 (by simp only[LM] at hl;omega),bU,fB,List.getElem?_eq_getElem hlt]
   simp only[cond_true,Option.map_some,aY,cO,qC,aO]
   by_cases h0:l[n]=0
   ·rw[if_pos h0,decide_eq_true (by omega)];rfl
   ·rw[if_neg h0,decide_eq_false (by omega)];rfl
  rw[ht]
  by_cases h0:l[n]=0
  ·rw[if_pos h0] at step
   rw[eN step,ih (by omega),h0,zG]
  ·rw[if_neg h0] at step
   rw[aV step,CF h0]
   simp only[List.length_append,List.length_take,Nat.min_eq_left (Nat.le_of_lt hlt),List.length_cons,List.length_nil]
theorem V3{l:List Nat}(h:Lim l):(lm (val l)).length≤l.length:=by rw[←K3 h,cY];exact DX l
theorem QJ{l:List Nat}(h:Lim l)(hl:l.length<LM):bO (cN l,())=some (lm (val l),()):=by
 unfold bO
 have e:=GS l hl l.length (Nat.le_refl _)
 rw[List.take_length] at e
 simp only[aL,cY,e,aY,aN]
 rw[R8 (by omega) (by omega) (by rw[cY];have:=DX l;omega)]
 simp only[Int.toNat_natCast,Int.toNat_zero,List.drop_zero,aY,TA,K0,K3 h]
 have hlen:=V3 h
 rw[nY (by simp only[List.length_nil];simp only[LM] at hl;omega) (by decide)]
 rfl
theorem DY{n:Nat}(h:(aU n).length<LM):bO (lm n,())=some (lm n,()):=by
 have:=QJ (eJ n) h
 rw[dH] at this
 exact this
theorem oF{n:Nat}(h:n<dJ):(aU n).length<LM:=by
 have:(aU n).length≤2:=kB.2 h
 simp only[LM];omega
theorem Ez{n:Nat}(h:n<dJ):iF ((n:Int),())=some (lm n,()):=by
 unfold iF
 simp only[QH,aY,GR,KZ]
 have hd:n/BB<BB:=Nat.div_lt_of_lt_mul h
 have e:=QJ (l:=[n%BB,n/BB%BB]) (Lim.cons (Nat.mod_lt _ (by decide)) (Lim.cons (Nat.mod_lt _ (by decide)) Lim.nil)) (by simp only[List.length_cons,List.length_nil,LM];omega)
 have hv:val [n%BB,n/BB%BB]=n:=by
  rw[Nat.mod_eq_of_lt hd]
  simp only[val,Nat.mul_zero,Nat.add_zero]
  exact Nat.mod_add_div n BB
 rw[hv] at e
 simp only[cN,List.map_cons,List.map_nil,eB] at e
 rw[e]
 rfl
theorem Ja{l:List Nat}(h:Lim l):cZ (cN l,())=some (if l.length≤2 then (val l:Int) else 0,decide (l.length≤2),()):=by
 match l,h with
 | [],_=>unfold cZ;simp[cN,val]
 | [a],h=>
  have ha:=h.head
  unfold cZ
  simp only[aL,cY,List.length_cons,List.length_nil,aO]
  rw[pW _ (by omega)]
  simp[cN,cO,jU,val,dM (show a<dJ by simp only[BB,dJ] at *;omega)]
 | [a,b],h=>
  have ha:=h.head
  have hb:=h.tail.head
  unfold cZ
  simp only[aL,cY,List.length_cons,List.length_nil,aO]
  rw[pW _ (by omega),pW _ (by omega)]
  have e1:wr .u64 (a:Int)=(a:Int):=dM (by simp only[BB,dJ] at *;omega)
  have e2:wr .u64 (b:Int)=(b:Int):=dM (by simp only[BB,dJ] at *;omega)
  have e3:wr .u64 ((b*BB:Nat):Int)=((b*BB:Nat):Int):=dM (by simp only[BB,dJ] at *;omega)
  have g0:(cN [a,b])[(0:Int).toNat]?=some (eB a):=rfl
  have g1:(cN [a,b])[(1:Int).toNat]?=some (eB b):=rfl
  rw[g0,g1,decide_eq_false (by omega),decide_eq_false (by omega),decide_eq_true (by omega)]
  simp only[cond_false,cond_true,aY,cO,jU,QH,e1,e2,Lk,e3,Qp ha hb]
  rw[if_pos (by omega),decide_eq_true (by omega)]
  simp only[val,Nat.mul_zero,Nat.add_zero]
  rw[Nat.mul_comm b BB]
 | a::b::c::l,h=>
  unfold cZ
  simp only[aL,cY,List.length_cons,aO]
  rw[decide_eq_false (by omega),decide_eq_false (by omega),decide_eq_false (by omega),if_neg (by omega),decide_eq_false (by omega)]
  rfl
theorem V4{a b:List Nat}(ha:Lim a)(hb:Lim b)(hl:a.length=b.length)(hm:a.length<LM):∀n,n≤a.length→a.drop n=b.drop n →
 aJ kV (cN a,cN b,(n:Int)-1,())=some (if val a=val b then .inr (.inl ()) else .inl (iA (val a) (val b),())):=by
 intro n
 induction n with
 | zero=>
  intro _ hd
  have:a=b:=by simpa using hd
  subst this
  rw[if_pos rfl]
  exact aV (by unfold kV;simp only[kT];rw[decide_eq_false (by omega)];rfl)
 | succ n ih=>
  intro hn hd
  have h1:n<a.length:=hn
  have h2:n<b.length:=by omega
  have ga:=List.getElem?_eq_getElem h1
  have gb:=List.getElem?_eq_getElem h2
  have step:kV (cN a,cN b,((n+1:Nat):Int)-1,())=if a[n]<b[n] then some (.inr (.inl (-1,()))) else if b[n]<a[n] then some (.inr (.inl (1,()))) else some (.inl (cN a,cN b,(n:Int)-1,())):=by
   unfold kV
   rw[show ((n+1:Nat):Int)-1=(n:Int) by omega]
   simp only[kT,aG,bK]
   rw[decide_eq_true (by omega),bU,bU,fB,fB,ga,gb,dA (by omega) (by simp only[LM] at hm;omega)]
   simp only[cond_true,Option.map_some,aY,cO,qC]
   by_cases c1:a[n]<b[n]
   ·rw[if_pos c1,decide_eq_true (by omega)];rfl
   ·rw[if_neg c1,decide_eq_false (by omega)]
    by_cases c2:b[n]<a[n]
    ·rw[if_pos c2,decide_eq_true (by omega)];rfl
    ·rw[if_neg c2,decide_eq_false (by omega)];rfl
  by_cases c1:a[n]<b[n]
  ·rw[if_pos c1] at step
   have:=AH ha ga gb c1 hd
   rw[aV step,if_neg (by omega)]
   unfold iA
   rw[if_pos this]
  ·rw[if_neg c1] at step
   by_cases c2:b[n]<a[n]
   ·rw[if_pos c2] at step
    have:=AH hb gb ga c2 hd.symm
    rw[aV step,if_neg (by omega)]
    unfold iA
    rw[if_neg (by omega),if_neg (by omega)]
   ·rw[if_neg c2] at step
    rw[eN step]
    refine ih (by omega) ?_
    rw[List.drop_eq_getElem_cons h1,List.drop_eq_getElem_cons h2,hd,show a[n]=b[n] by omega]
theorem QK{x y:Nat}(h:(aU x).length<(aU y).length):x<y:=by
 have h1:x<BB ^ (aU x).length:=kB.1 (Nat.le_refl _)
 have h2:¬y<BB ^ (aU x).length:=fun hh=>by
  have:=kB.2 hh
  omega
 omega
theorem K4{x y:Nat}(hx:(aU x).length<LM)(hy:(aU y).length<LM):u_ref01_Cmp (lm x,lm y,())=some (iA x y,()):=by
 unfold u_ref01_Cmp
 simp only[aL,zH,aO,aG,bK]
 by_cases hl:(aU x).length=(aU y).length
 ·rw[decide_eq_true (by omega),dA (by omega) (by simp only[LM] at hx;omega)]
  have:=V4 (eJ x) (eJ y) hl hx (aU x).length (Nat.le_refl _) (by rw[List.drop_length,hl,List.drop_length])
  rw[dH,dH] at this
  simp only[lm,Bool.not_true,cond_false,this,aY]
  by_cases he:x=y
  ·subst he;simp[iA]
  ·rw[if_neg he];rfl
 ·rw[decide_eq_false (by omega)]
  simp only[Bool.not_false,cond_true]
  by_cases hc:(aU x).length<(aU y).length
  ·have:=QK hc
   rw[decide_eq_true (by omega)]
   unfold iA
   rw[if_pos this];rfl
  ·have:=QK (x:=y) (y:=x) (by omega)
   rw[decide_eq_false (by omega)]
   unfold iA
   rw[if_neg (by omega),if_neg (by omega)];rfl
theorem Fa{a b o:List Nat}(ha:Lim a)(hb:Lim b)(ho:Lim o){i j x y z c:Nat}(hi:a[i]?=some x)(hj:b[j]?=some y)(hz:o[i+j]?=some z)(hc:c<BB)(hla:a.length<LM)(hlb:b.length<LM):
 fX (cN a,cN b,cN o,(i:Int),(c:Int),(j:Int),())=some (.inl (cN a,cN b,cN (o.set (i+j) ((c+(x*y+z))%BB)),(i:Int),(((c+(x*y+z))/BB:Nat):Int),((j+1:Nat):Int),())):=by
 have hx:=ha.get hi
 have hy:=hb.get hj
 have hzb:=ho.get hz
 have h1:i<a.length:=(List.getElem?_eq_some_iff.1 hi).1
 have h2:j<b.length:=(List.getElem?_eq_some_iff.1 hj).1
 have h3:i+j<o.length:=(List.getElem?_eq_some_iff.1 hz).1
 have hxy:x*y≤(BB-1)*(BB-1):=Nat.mul_le_mul (by omega) (by omega)
 have hbound:(BB-1)*(BB-1)+(BB-1)+(BB-1)<dJ:=by decide
 unfold fX
 simp only[aG,aL,cY,aM,dK]
 rw[decide_eq_true (by omega)]
 simp only[cond_true,bU,fB,hi,hj,Option.map_some,aY,cO,jU]
 rw[show (i:Int)+(j:Int)=((i+j:Nat):Int) by omega,V1 (by simp only[LM] at *;omega),rP (by omega)]
 simp only[aY,pN,fB,hz,Option.map_some,cO,jU,QH]
 rw[dM (n:=x) (by simp only[BB,dJ] at *;omega),dM (n:=y) (by simp only[BB,dJ] at *;omega),dM (n:=z) (by simp only[BB,dJ] at *;omega)]
 rw[show (x:Int)*(y:Int)=((x*y:Nat):Int) by push_cast;rfl,dM (n:=x*y) (by simp only[BB,dJ] at *;omega)]
 rw[show ((x*y:Nat):Int)+(z:Int)=((x*y+z:Nat):Int) by omega,dM (n:=x*y+z) (by simp only[BB,dJ] at *;omega)]
 rw[show (c:Int)+((x*y+z:Nat):Int)=((c+(x*y+z):Nat):Int) by omega,dM (n:=c+(x*y+z)) (by simp only[BB,dJ] at *;omega)]
 rw[GR,KZ,show (j:Int)+1=((j+1:Nat):Int) by omega,V1 (by simp only[LM] at *;omega),DW _ _ ⟨z,rfl⟩,H5]
theorem Av{a b o:List Nat}(ha:Lim a)(hb:Lim b)(ho:Lim o){i x:Nat}(hi:a[i]?=some x)(hlo:o.length=a.length+b.length)(hla:a.length<LM)(hlb:b.length<LM):
 ∀k,k≤b.length→∃(o':List Nat) (c:Nat),aJ fX (cN a,cN b,cN o,(i:Int),(0:Int),(0:Int),())=aJ fX (cN a,cN b,cN o',(i:Int),(c:Int),(k:Int),()) ∧
  o'.length=o.length∧Lim o'∧c<BB∧val o'+BB ^ (i+k)*c=val o+BB ^ i*(x*val (b.take k))∧∀m,i+k≤m→o'[m]?=o[m]?:=by
 intro k
 induction k with
 | zero=>intro _;exact⟨o,0,rfl,rfl,ho,by decide,by simp[val],fun _ _=>rfl⟩
 | succ k ih=>
  intro hk
  obtain⟨o',c,h1,h2,h3,h4,h5,h6⟩:=ih (by omega)
  have hik:i<a.length:=(List.getElem?_eq_some_iff.1 hi).1
  have hj:=List.getElem?_eq_getElem (show k<b.length from hk)
  have hz:=List.getElem?_eq_getElem (show i+k<o'.length by omega)
  have hs:=Fa ha hb h3 hi hj hz h4 hla hlb
  refine⟨_,_,h1.trans (eN hs),by rw[List.length_set,h2],h3.set (Nat.mod_lt _ (by decide)) _,?_,?_,fun m hm=>?_⟩
  ·have hx:=ha.get hi
   have hy:=hb.get hj
   have hzb:=h3.get hz
   have hxy:x*b[k]≤(BB-1)*(BB-1):=Nat.mul_le_mul (by omega) (by omega)
   have hbound:(BB-1)*(BB-1)+(BB-1)+(BB-1)<BB*BB:=by decide
   exact Nat.div_lt_of_lt_mul (by omega)
  ·have hv:=QI (x:=(c+(x*b[k]+o'[i+k]))%BB) hz
   rw[tY hj]
   have hm:=Nat.mod_add_div (c+(x*b[k]+o'[i+k])) BB
   generalize (c+(x*b[k]+o'[i+k]))%BB=r at *
   generalize (c+(x*b[k]+o'[i+k]))/BB=q at *
   generalize o'[i+k]=z at *
   generalize b[k]=y at *
   generalize val (o'.set (i+k) r)=v' at *
   have e1:BB ^ (i+(k+1))*q=BB ^ (i+k)*(BB*q):=by rw[←Nat.add_assoc,Nat.pow_succ,Nat.mul_assoc]
   have e2:BB ^ (i+k)*(r+BB*q)=BB ^ (i+k)*(c+(x*y+z)):=by rw[hm]
   have e3:BB ^ i*(x*(val (b.take k)+BB ^ k*y))=BB ^ i*(x*val (b.take k))+BB ^ (i+k)*(x*y):=by
    rw[Nat.mul_add,Nat.mul_add,Nat.pow_add,Nat.mul_assoc (BB ^ i) (BB ^ k),←Nat.mul_assoc x (BB ^ k) y,Nat.mul_comm x (BB ^ k),Nat.mul_assoc (BB ^ k) x y]
   rw[e1,e3]
   rw[Nat.mul_add,Nat.mul_add,Nat.mul_add] at e2
   omega
  ·rw[List.getElem?_set_ne (by omega)]
   exact h6 m (by omega)
theorem K5{a b o:List Nat}(ha:Lim a)(hb:Lim b)(ho:Lim o){i:Nat}(hi:i<a.length)(hlo:o.length=a.length+b.length)(hla:a.length<LM)(hlb:b.length<LM)(hv:val o=val (a.take i)*val b)(h0:∀m,i+b.length≤m→m<o.length→o[m]?=some 0):
 ∃o',fY (cN a,cN b,cN o,(i:Int),())=some (.inl (cN a,cN b,cN o',((i+1:Nat):Int),()))∧o'.length=o.length∧Lim o'∧val o'=val (a.take (i+1))*val b∧∀m,i+1+b.length≤m→m<o'.length→o'[m]?=some 0:=by
 have gi:=List.getElem?_eq_getElem hi
 obtain⟨o',c,h1,h2,h3,h4,h5,h6⟩:=Av ha hb ho gi hlo hla hlb b.length (Nat.le_refl _)
 have hend:fX (cN a,cN b,cN o',(i:Int),(c:Int),(b.length:Int),())=some (.inr (.inl (cN a,cN b,cN o',(i:Int),(c:Int),()))):=by
  unfold fX
  simp only[aG,aL,cY]
  rw[decide_eq_false (by omega)];rfl
 have hz:o'[i+b.length]?=some 0:=by rw[h6 _ (Nat.le_refl _)];exact h0 _ (Nat.le_refl _) (by omega)
 refine⟨o'.set (i+b.length) c,?_,by rw[List.length_set,h2],h3.set h4 _,?_,fun m hm hlt=>?_⟩
 ·unfold fY
  simp only[aG,aL,cY,aM]
  rw[decide_eq_true (by omega)]
  simp only[cond_true]
  rw[h1.trans (aV hend)]
  simp only[aY,aN,cY]
  rw[show (i:Int)+(b.length:Int)=((i+b.length:Nat):Int) by omega,V1 (by simp only[LM] at *;omega),rP (by omega)]
  simp only[aY,pN,fB,hz,Option.map_some]
  rw[Ex h4,show (i:Int)+1=((i+1:Nat):Int) by omega,V1 (by simp only[LM] at *;omega),DW _ _ ⟨0,rfl⟩,H5]
 ·have e1:=QI (x:=c) hz
  rw[tY gi,Nat.add_mul,←hv]
  rw[List.take_length] at h5
  rw[Nat.mul_assoc]
  omega
 ·rw[List.getElem?_set_ne (by omega),h6 m (by omega)]
  rw[List.length_set,h2] at hlt
  exact h0 m (by omega) hlt
theorem Np{a b:List Nat}(ha:Lim a)(hb:Lim b)(hab:a.length+b.length<LM):u_ref01_Mul (cN a,cN b,())=some (lm (val a*val b),()):=by
 have hla:a.length<LM:=by omega
 have hlb:b.length<LM:=by omega
 have key:∀k,k≤a.length→∃o,aJ fY (cN a,cN b,cN (List.replicate (a.length+b.length) 0),(0:Int),())=aJ fY (cN a,cN b,cN o,(k:Int),()) ∧
  o.length=a.length+b.length∧Lim o∧val o=val (a.take k)*val b∧∀m,k+b.length≤m→m<o.length→o[m]?=some 0:=by
  intro k
  induction k with
  | zero=>
   intro _
   refine⟨_,rfl,by simp,Lim.rep _,by simp[YA,val],fun m _ hm=>?_⟩
   rw[List.getElem?_replicate,if_pos (by simpa using hm)]
  | succ k ih=>
   intro hk
   obtain⟨o,h1,h2,h3,h4,h5⟩:=ih (by omega)
   obtain⟨o',g1,g2,g3,g4,g5⟩:=K5 ha hb h3 (show k<a.length from hk) h2 hla hlb h4 h5
   exact⟨o',h1.trans (eN g1),g2.trans h2,g3,g4,g5⟩
 obtain⟨o,h1,h2,h3,h4,_⟩:=key a.length (Nat.le_refl _)
 have hend:fY (cN a,cN b,cN o,(a.length:Int),())=some (.inr (.inl (cN o,()))):=by
  unfold fY
  simp only[aG,aL,cY]
  rw[decide_eq_false (by omega)];rfl
 unfold u_ref01_Mul
 simp only[aL,cY,aM]
 rw[show (a.length:Int)+(b.length:Int)=((a.length+b.length:Nat):Int) by omega,V1 (by simp only[LM] at *;omega),JJ (by omega) (by omega) (by simp only[LM] at *;omega) (by decide)]
 simp only[aY,Int.toNat_natCast,H0,X9]
 rw[h1.trans (aV hend)]
 simp only[aY,aN]
 rw[QJ h3 (by omega)]
 rw[List.take_length] at h4
 simp only[aY,h4]
theorem Qr{x y:Nat}(h:(aU x).length+(aU y).length<LM):u_ref01_Mul (lm x,lm y,())=some (lm (x*y),()):=by
 have:=Np (eJ x) (eJ y) h
 rw[dH,dH] at this
 exact this
theorem DZ{n:Nat}(h:n<dJ):cZ (lm n,())=some ((n:Int),true,()):=by
 have h2:(aU n).length≤2:=kB.2 h
 have:=Ja (eJ n)
 rw[if_pos h2,decide_eq_true h2,dH] at this
 exact this
theorem Fb(a b:Nat):(a:Int).tdiv (b:Int)=((a/b:Nat):Int):=rfl
theorem Ll(a b:Nat):(a:Int).tmod (b:Int)=((a%b:Nat):Int):=rfl
theorem YB{a b:Nat}(ha:a<dJ)(hb:b<dJ)(h0:b≠0):hO (lm a,lm b,())=some (lm (a/b),lm (a%b),0,()):=by
 unfold hO
 simp only[aL,aO,aG]
 have hbl:(lm b).length≠0:=fun h=>h0 (tE.1 h)
 rw[decide_eq_false (by omega)]
 simp only[cond_false,K4 (oF ha) (oF hb),aY]
 unfold iA
 by_cases hlt:a<b
 ·rw[if_pos hlt,decide_eq_true (by omega)]
  simp only[cond_true,DY (oF ha),aY]
  rw[Nat.div_eq_of_lt hlt,Nat.mod_eq_of_lt hlt,jN]
 ·rw[if_neg hlt]
  have:decide ((if a=b then (0:Int) else 1)<0)=false:=decide_eq_false (by split <;> omega)
  rw[this]
  simp only[cond_false,DZ ha,DZ hb,aY,cond_true,XD,pM,Fb,Ll]
  rw[XE (by omega)]
  have hd:a/b<dJ:=Nat.lt_of_le_of_lt (Nat.div_le_self _ _) ha
  have hm:a%b<dJ:=Nat.lt_of_le_of_lt (Nat.mod_le _ _) ha
  simp only[aY,Fb,Ll,dM hd,Ez hd,Ez hm]
theorem TB{a b:Nat}:aJ kX ((a:Int),(b:Int),())=some (.inl (((a.gcd b:Nat):Int),())):=by
 induction b using Nat.strongRecOn generalizing a with
 | _ b ih=>
  by_cases h0:b=0
  ·subst h0
   exact aV (by unfold kX;simp[Nat.gcd_zero_right])
  ·have step:kX ((a:Int),(b:Int),())=some (.inl ((b:Int),((a%b:Nat):Int),())):=by
    unfold kX
    simp only[aO,pM]
    rw[decide_eq_false (by omega),XE (by omega)]
    rfl
   rw[eN step,ih (a%b) (Nat.mod_lt _ (Nat.pos_of_ne_zero h0)),Nat.gcd_comm a b,Nat.gcd_rec b a,Nat.gcd_comm]
theorem Lm{a b:Nat}(ha:a<dJ)(hb:b<dJ):u_ref01_Gcd (lm a,lm b,())=some (lm (a.gcd b),()):=by
 unfold u_ref01_Gcd
 simp only[DY (oF ha),DY (oF hb),aY]
 by_cases h0:b=0
 ·subst h0
  rw[aV (e:=.inr (.inl (lm a,()))) (by unfold rU;simp[jN])]
  simp[Nat.gcd_zero_right]
 ·have hbl:(lm b).length≠0:=fun h=>h0 (tE.1 h)
  have hg:a.gcd b<dJ:=Nat.lt_of_le_of_lt (Nat.gcd_le_right _ (Nat.pos_of_ne_zero h0)) hb
  rw[aV (e:=.inl (lm (a.gcd b),())) (by
   unfold rU
   simp only[aG,aL]
   rw[decide_eq_true (by omega)]
   simp only[cond_true,DZ ha,DZ hb,aY,TB,aN,Ez hg])]
  rfl
theorem YC{d:Nat}(hd:d<dJ)(h0:d≠0):(lm d).length=1↔d<BB:=by
 constructor
 ·intro h;exact Ey.1 (by omega)
 ·intro h;rw[pG h0 h];rfl
theorem oG(neg:Bool){n d:Nat}(hn:n<dJ)(hd:d<dJ)(h0:d≠0):u_ref02_reduce (neg,lm n,lm d,())=some (aK (mkRat (sg neg n) d),aR (mkRat (sg neg n) d),aW (mkRat (sg neg n) d),()):=by
 unfold u_ref02_reduce
 simp only[DY (oF hn),DY (oF hd),aY,aL,aO]
 by_cases hz:n=0
 ·subst hz
  rw[decide_eq_true (by rw[jN];rfl),X5,uZ,vA,vB]
  rfl
 ·have hnl:(lm n).length≠0:=fun h=>hz (tE.1 h)
  have hg:n.gcd d<dJ:=Nat.lt_of_le_of_lt (Nat.gcd_le_right _ (Nat.pos_of_ne_zero h0)) hd
  have hg0:n.gcd d≠0:=Nat.gcd_ne_zero_right h0
  rw[decide_eq_false (by omega),VY neg h0 hz,X6 neg h0,X7 neg h0]
  have hq0:d/n.gcd d≠0:=by
   have:=Nat.div_pos (Nat.le_of_dvd (Nat.pos_of_ne_zero h0) (Nat.gcd_dvd_right n d)) (Nat.pos_of_ne_zero hg0)
   omega
  have hq:d/n.gcd d<dJ:=Nat.lt_of_le_of_lt (Nat.div_le_self _ _) hd
  have fin:∀(N:List T) (e:Nat),e<dJ→e≠0→(ob (α:=((Bool×List T×List T×Unit×Bool×T×T×Unit)⊕Empty)) (bif (eqI (lenL (lm e)) (1:Int)) then (ob (idxL (lm e) (0:Int)) fun x11=>(ob (T.int? .u32 (T.cell x11 0)) fun x12=>(bif (eqI x12 (1:Int)) then (some (Sum.inl (neg,N,[],(),false,(T.v (.slice none 0 0)),(T.v (.slice none 0 0)),()))) else (some (Sum.inl (neg,N,lm e,(),false,(T.v (.slice none 0 0)),(T.v (.slice none 0 0)),())))))) else (some (Sum.inl (neg,N,lm e,(),false,(T.v (.slice none 0 0)),(T.v (.slice none 0 0)),()))))
   fun q13=>cJ q13 (fun t14=>(some (t14.1,t14.2.1,t14.2.2.1,()))) fun q15=>cU q15)=some (neg,N,dn e,()):=by
   intro N e he he0
   simp only[aL,aO]
   by_cases h1:e<BB
   ·rw[decide_eq_true (by rw[pG he0 h1];rfl)]
    simp only[cond_true]
    rw[pG he0 h1,pW _ (by omega)]
    simp only[Int.toNat_zero,List.getElem?_cons_zero,aY,cO,qC]
    unfold dn
    by_cases h2:e=1
    ·subst h2;rfl
    ·rw[if_neg h2,decide_eq_false (by omega),pG he0 h1];rfl
   ·rw[decide_eq_false (by have:=(YC he he0).1;omega)]
    unfold dn
    rw[if_neg (by simp only[BB] at h1;omega)]
    rfl
  simp only[cond_false,Lm hn hd,aY,aL]
  have tail:=fin (lm (n/n.gcd d)) (d/n.gcd d) hq hq0
  simp only[aL,aO] at tail
  by_cases h1:n.gcd d=1
  ·have e1:lm (n.gcd d)=[eB 1]:=by rw[h1];exact pG (by decide) (by decide)
   rw[e1]
   rw[h1,Nat.div_one,Nat.div_one] at tail ⊢
   simp only[List.length_cons,List.length_nil]
   rw[decide_eq_true (by omega),pW _ (by omega)]
   simp only[Bool.not_true,cond_false,Int.toNat_zero,List.getElem?_cons_zero,aY,cO,qC]
   rw[decide_eq_true (by omega)]
   simp only[Bool.not_true,cond_false,aY,aN]
   exact tail
  ·by_cases h2:n.gcd d<BB
   ·have e1:lm (n.gcd d)=[eB (n.gcd d)]:=pG hg0 h2
    rw[decide_eq_true (by rw[e1];rfl)]
    have e2:idxL (lm (n.gcd d)) 0=some (eB (n.gcd d)):=by rw[e1,pW _ (by omega)];rfl
    simp only[Bool.not_true,cond_false,e2,aY,cO,qC]
    rw[decide_eq_false (by omega)]
    simp only[Bool.not_false,cond_true,YB hn hg hg0,YB hd hg hg0,aY,aN]
    exact tail
   ·rw[decide_eq_false (by have:=(YC hg hg0).1;omega)]
    simp only[Bool.not_false,cond_true,YB hn hg hg0,YB hd hg hg0,aY,aN]
    exact tail
theorem V5{n:Int}(h1:-4611686018427387904<n)(h2:n<4611686018427387904):lN (n,())=some (lm n.natAbs,decide (n<0),()):=by
 unfold lN
 simp only[aG,aM,bK]
 by_cases h:n<0
 ·rw[decide_eq_true h]
  have e:wr .u64 (wr .u64 (wr .i64 (0-wr .i64 (n+1)))+1)=((n.natAbs:Nat):Int):=by
   rw[dA (n:=n+1) (by omega) (by omega),dA (by omega) (by omega),show 0-(n+1)=((n.natAbs-1:Nat):Int) by omega,dM (by simp only[dJ];omega),
    show ((n.natAbs-1:Nat):Int)+1=((n.natAbs:Nat):Int) by omega,dM (by simp only[dJ];omega)]
  simp only[cond_true,e,Ez (n:=n.natAbs) (by simp only[dJ];omega),aY]
 ·rw[decide_eq_false h]
  have e:wr .u64 n=((n.natAbs:Nat):Int):=by
   rw[show n=((n.natAbs:Nat):Int) by omega,dM (by simp only[dJ];omega)];rfl
  simp only[cond_false,e,Ez (n:=n.natAbs) (by simp only[dJ];omega),aY]
def K6(n d:Int):Rat:=mkRat (sg (decide (n<0) != decide (d<0)) n.natAbs) d.natAbs
theorem Jb(a b:Bool):(!(a==b))=(a != b):=rfl
theorem Nq{n d:Int}(h1:-4611686018427387904<n)(h2:n<4611686018427387904)(h3:-4611686018427387904<d)(h4:d<4611686018427387904)(h0:d≠0):
 rB (n,d,())=some (aK (K6 n d),aR (K6 n d),aW (K6 n d),0,()):=by
 unfold rB
 simp only[aO]
 rw[decide_eq_false h0]
 simp only[cond_false,V5 h1 h2,V5 h3 h4,aY,vU,Jb]
 rw[oG _ (by simp only[dJ];omega) (by simp only[dJ];omega) (by omega)]
 rfl
theorem Nr{n d:Int}(h1:-4611686018427387904<n)(h2:n<4611686018427387904)(h3:-4611686018427387904<d)(h4:d<4611686018427387904)(h0:d≠0):
 lO (n,d,())=some (aK (K6 n d),aR (K6 n d),aW (K6 n d),()):=by
 unfold lO
 simp only[Nq h1 h2 h3 h4 h0,aY]
def Fc(q:Rat):Prop:=(aU q.num.natAbs).length<LM∧(aU q.den).length<LM
theorem Sm.fit{q:Rat}(h:Sm q):Fc q:=⟨oF (by have:=h.1;simp only[dJ];omega),oF (by have:=h.2;simp only[dJ];omega)⟩
theorem TC(d:Nat):∃m,dn d=lm m∧(m=d∨m=0):=by
 unfold dn
 split
 ·exact⟨0,jN.symm,.inr rfl⟩
 ·exact⟨d,rfl,.inl rfl⟩
theorem AI{a b:Nat}:iA a b=0↔a=b:=by
 unfold iA
 by_cases h1:a<b
 ·rw[if_pos h1];omega
 ·rw[if_neg h1];split <;> omega
theorem V6{p q:Rat}(hp:Fc p)(hq:Fc q):u_ref02_Same (aK p,aR p,aW p,aK q,aR q,aW q,())=some (decide (p=q),()):=by
 unfold u_ref02_Same
 simp only[vU]
 by_cases hn:aK p=aK q
 ·rw[hn]
  simp only[beq_self_eq_true,cond_true]
  unfold aR
  rw[K4 hp.1 hq.1]
  simp only[aY,aO]
  by_cases h1:p.num.natAbs=q.num.natAbs
  ·rw[decide_eq_true (AI.2 h1)]
   simp only[cond_true]
   obtain⟨m,e1,c1⟩:=TC p.den
   obtain⟨m',e2,c2⟩:=TC q.den
   have l1:(aU m).length<LM:=by rcases c1 with rfl | rfl;exact hp.2;rw[dU];decide
   have l2:(aU m').length<LM:=by rcases c2 with rfl | rfl;exact hq.2;rw[dU];decide
   unfold aW
   rw[e1,e2,K4 l1 l2]
   simp only[aY]
   congr 2
   rw[decide_eq_decide,AI]
   constructor
   ·intro h
    exact X8 hn h1 (Ev p.den_nz q.den_nz (by rw[e1,e2,h]))
   ·intro h
    subst h
    exact KW (e1.symm.trans e2)
  ·rw[decide_eq_false (fun h=>h1 (AI.1 h)),decide_eq_false (fun h=>h1 (by rw[h]))]
   rfl
 ·have hb:(aK p==aK q)=false:=by simpa using hn
  rw[hb,decide_eq_false (fun h=>hn (by rw[h]))]
  rfl
def jA(q:Rat):Int:=if q=0 then 0 else if aK q then -1 else 1
theorem D6{q:Rat}:(aR q).length=0↔q=0:=by unfold aR;rw[tE,KX]
theorem Aw(q:Rat):aR (-q)=aR q∧aW (-q)=aW q∧aK (-q)=(!aK q&&decide (q≠0)):=by
 refine⟨by unfold aR;rw[Rat.neg_num,Int.natAbs_neg],by unfold aW;rw[Rat.neg_den],?_⟩
 unfold aK
 rw[Rat.neg_num]
 have h0:q.num=0↔q=0:=Rat.num_eq_zero
 by_cases h:q=0
 ·subst h;rfl
 ·have:q.num≠0:=fun hh=>h (h0.1 hh)
  rw[decide_eq_true h,Bool.and_true]
  by_cases hl:q.num<0
  ·rw[decide_eq_true hl,decide_eq_false (by omega)];rfl
  ·rw[decide_eq_false hl,decide_eq_true (by omega)];rfl
theorem Qs(q:Rat):u_ref02_Neg (aK q,aR q,aW q,())=some (aK (-q),aR (-q),aW (-q),()):=by
 obtain⟨e1,e2,e3⟩:=Aw q
 unfold u_ref02_Neg
 simp only[aG,aL,e1,e2,e3]
 cases hn:aK q with
 | true=>simp
 | false=>
  simp only[Bool.not_false,cond_true,Bool.true_and]
  congr 3
  apply propext
  have:=D6 (q:=q)
  constructor
  ·intro h hq;have:=this.2 hq;omega
  ·intro h;have:(aR q).length≠0:=fun hh=>h (this.1 hh);omega
end Go.Eng.Rt
namespace Go.Eng.Rt
open Go.Eng
theorem TD(l:List Nat)(hl:l.length<LM):∀n,n≤l.length→aJ sU (cN l,(n:Int),())=some (.inl (cN l,(((qB (l.take n)).length:Nat):Int),())):=
 GS l hl
theorem Nt{l:List Nat}(h:Lim l)(hl:l.length<LM):dQ (cN l,())=some (lm (val l),()):=by
 unfold dQ
 have e:=TD l hl l.length (Nat.le_refl _)
 rw[List.take_length] at e
 simp only[aL,cY,e,aY,aN]
 rw[R8 (by omega) (by omega) (by rw[cY];have:=DX l;omega)]
 simp only[Int.toNat_natCast,Int.toNat_zero,List.drop_zero,aY,TA,K0,K3 h]
theorem QL{n:Nat}(h:(aU n).length<LM):dQ (lm n,())=some (lm n,()):=by
 have:=Nt (eJ n) h
 rw[dH] at this
 exact this
def YD(s:ByteArray)(t:(Int×Unit)):Option (Int×Unit):=
 (ob (α:=((Int×Int×Unit)⊕Empty)) (bif (leI (65536:Int) t.1) then (ob (nn (16:Int)) fun x0=>(some (Sum.inl ((shrI .u32 t.1 x0),(16:Int),())))) else (some (Sum.inl (t.1,(0:Int),())))) fun q1=>cJ q1 (fun t2=>(ob (α:=((Int×Int×Unit)⊕Empty)) (bif (leI (256:Int) t2.1) then (ob (nn (8:Int)) fun x3=>(some (Sum.inl ((shrI .u32 t2.1 x3),(wr .i64 (addI t2.2.1 (8:Int))),())))) else (some (Sum.inl (t2.1,t2.2.1,())))) fun q4=>cJ q4 (fun t5=>(ob (RA s (wr .u8 t5.1)) fun x6=>(some ((wr .i64 (addI t5.2.1 (wr .i64 x6))),())))) fun q7=>cU q7)) fun q8=>cU q8)
def Qt(s:ByteArray):Bool:=(List.range 256).all fun y=>match RA s (y:Int) with
 | some k=>decide (0≤k)&&decide (k≤8)&&(y==0||decide (1≤k))
 | none=>false
theorem Jc:∃s,(∀t,kI t=YD s t)∧Qt s=true:=⟨_,fun _=>rfl,by decide +kernel⟩
theorem Qu(n:Nat):shrI .u32 (n:Int) 16=((n/65536:Nat):Int):=by
 unfold shrI
 rw[show ((2:Int) ^ (min (Int.toNat 16) (IntKind.bits .u32)))=((65536:Nat):Int) from rfl,Int.fdiv_eq_ediv_of_nonneg _ (by omega)]
 exact(Int.natCast_ediv n _).symm
theorem Qv(n:Nat):shrI .u32 (n:Int) 8=((n/256:Nat):Int):=by
 unfold shrI
 rw[show ((2:Int) ^ (min (Int.toNat 8) (IntKind.bits .u32)))=((256:Nat):Int) from rfl,Int.fdiv_eq_ediv_of_nonneg _ (by omega)]
 exact(Int.natCast_ediv n _).symm
theorem Jd{x:Nat}(hx:x<BB):∃k:Nat,kI ((x:Int),())=some ((k:Int),())∧k≤32∧(x≠0→k≠0):=by
 obtain⟨s,hs,ht⟩:=Jc
 have tab:∀y:Nat,y<256→∃k:Nat,RA s (wr .u8 (y:Int))=some (k:Int)∧k≤8∧(y≠0→k≠0):=fun y hy=>by
  have:=List.all_eq_true.1 ht y (List.mem_range.2 hy)
  rw[Tb (by omega) (by omega)]
  cases hi:RA s (y:Int) with
  | none=>rw[hi] at this;cases this
  | some k=>
   rw[hi] at this
   simp only[Bool.and_eq_true,decide_eq_true_eq,Bool.or_eq_true,beq_iff_eq] at this
   obtain⟨k',rfl⟩:=Int.eq_ofNat_of_zero_le this.1.1
   exact⟨k',rfl,by omega,fun h=>by omega⟩
 rw[hs]
 unfold YD
 have n16:nn (16:Int)=some 16:=by unfold nn;rfl
 have n8:nn (8:Int)=some 8:=by unfold nn;rfl
 simp only[kT,aM]
 have last:∀(y c:Nat),y<256→c≤24→∃k:Nat,(ob (RA s (wr .u8 (y:Int))) fun x6=>(some ((wr .i64 ((c:Int)+(wr .i64 x6))),())))=some ((k:Int),())∧k≤32∧(y≠0∨c≠0→k≠0):=fun y c hy hc=>by
  obtain⟨k,h1,h2,h3⟩:=tab y hy
  rw[h1]
  simp only[aY]
  rw[V1 (n:=k) (by omega),show (c:Int)+(k:Int)=((c+k:Nat):Int) by omega,V1 (by omega)]
  exact⟨c+k,rfl,by omega,fun h=>by omega⟩
 by_cases h1:65536≤x
 ·rw[decide_eq_true (by omega)]
  simp only[cond_true,n16,aY,Qu,aN]
  by_cases h2:256≤x/65536
  ·rw[decide_eq_true (by omega)]
   simp only[cond_true,n8,aY,Qv,aN]
   rw[show (16:Int)+8=((24:Nat):Int) from rfl,V1 (by omega)]
   obtain⟨k,e1,e2,e3⟩:=last (x/65536/256) 24 (by simp only[BB] at hx;omega) (by omega)
   exact⟨k,e1,e2,fun _=>e3 (.inr (by omega))⟩
  ·rw[decide_eq_false (by omega)]
   simp only[cond_false,aY,aN]
   obtain⟨k,e1,e2,e3⟩:=last (x/65536) 16 (by omega) (by omega)
   exact⟨k,e1,e2,fun _=>e3 (.inr (by omega))⟩
 ·rw[decide_eq_false (by omega)]
  simp only[cond_false,aY,aN]
  by_cases h2:256≤x
  ·rw[decide_eq_true (by omega)]
   simp only[cond_true,n8,aY,Qv,aN]
   rw[show (0:Int)+8=((8:Nat):Int) from rfl,V1 (by omega)]
   obtain⟨k,e1,e2,e3⟩:=last (x/256) 8 (by omega) (by omega)
   exact⟨k,e1,e2,fun _=>e3 (.inr (by omega))⟩
  ·rw[decide_eq_false (by omega)]
   simp only[cond_false,aY,aN]
   obtain⟨k,e1,e2,e3⟩:=last x 0 (by omega) (by omega)
   exact⟨k,e1,e2,fun h=>e3 (.inl h)⟩
theorem K7{n:Nat}(h:n≠0):∃x,(aU n)[(aU n).length-1]?=some x∧x≠0∧x<BB:=by
 have hne:aU n≠[]:=Ep h
 obtain⟨m,a,e⟩:∃m a,aU n=m++[a]:=⟨(aU n).dropLast,(aU n).getLast hne,(List.dropLast_concat_getLast hne).symm⟩
 have hl:=eJ n
 refine⟨a,by rw[e];simp,?_,hl a (by rw[e];simp)⟩
 intro h0
 subst h0
 have h1:aU (val (aU n))=qB (aU n):=FE hl
 rw[dH,e,zG] at h1
 have h2:=congrArg List.length h1
 have h3:=DX m
 simp at h2
 omega
theorem Nu{n:Nat}(h:(aU n).length<LM):∃k:Nat,fZ (lm n,())=some ((k:Int),())∧(k=0↔n=0):=by
 unfold fZ
 simp only[QL h,aY,aL,aO,bK,dK,aM]
 by_cases h0:n=0
 ·subst h0
  rw[decide_eq_true (by rw[jN];rfl)]
  exact⟨0,rfl,by simp⟩
 ·have hl:(lm n).length≠0:=fun hh=>h0 (tE.1 hh)
  obtain⟨x,h1,h2,h3⟩:=K7 h0
  obtain⟨k,g1,g2,g3⟩:=Jd h3
  rw[decide_eq_false (by omega),dA (by omega) (by rw[zH];simp only[LM] at h;omega)]
  have hll:=zH n
  rw[show ((lm n).length:Int)-1=(((aU n).length-1:Nat):Int) by omega]
  simp only[cond_false,bU]
  unfold lm
  simp only[fB,h1,Option.map_some,aY,cO,qC,g1]
  rw[show (32:Int)*(((aU n).length-1:Nat):Int)=((32*((aU n).length-1):Nat):Int) by push_cast;rfl,V1 (by simp only[LM] at h;omega),
   show ((32*((aU n).length-1):Nat):Int)+(k:Int)=((32*((aU n).length-1)+k:Nat):Int) by omega,V1 (by simp only[LM] at h;omega)]
  exact⟨_,rfl,by constructor <;> intro hh <;> have:=g3 h2 <;> omega⟩
theorem V7{a b:List Nat}(ha:Lim a)(hb:Lim b)(hl:a.length=b.length)(hm:a.length<LM):∀n,n≤a.length→a.drop n=b.drop n →
 aJ iP (cN a,cN b,(n:Int)-1,())=some (if val a=val b then .inr (.inl ()) else .inl (iA (val a) (val b),())):=by
 intro n
 induction n with
 | zero=>
  intro _ hd
  have:a=b:=by simpa using hd
  subst this
  rw[if_pos rfl]
  exact aV (by unfold iP;simp only[kT];rw[decide_eq_false (by omega)];rfl)
 | succ n ih=>
  intro hn hd
  have h1:n<a.length:=hn
  have h2:n<b.length:=by omega
  have ga:=List.getElem?_eq_getElem h1
  have gb:=List.getElem?_eq_getElem h2
  have step:iP (cN a,cN b,((n+1:Nat):Int)-1,())=if a[n]<b[n] then some (.inr (.inl (-1,()))) else if b[n]<a[n] then some (.inr (.inl (1,()))) else some (.inl (cN a,cN b,(n:Int)-1,())):=by
   unfold iP
   rw[show ((n+1:Nat):Int)-1=(n:Int) by omega]
   simp only[kT,aG,bK,aO]
   rw[decide_eq_true (by omega),bU,bU,fB,fB,ga,gb,dA (by omega) (by simp only[LM] at hm;omega)]
   simp only[cond_true,Option.map_some,aY,cO,qC]
   by_cases c1:a[n]<b[n]
   ·rw[if_pos c1,decide_eq_false (by omega),decide_eq_true (by omega)];rfl
   ·rw[if_neg c1]
    by_cases c2:b[n]<a[n]
    ·rw[if_pos c2,decide_eq_false (by omega),decide_eq_false (by omega)];rfl
    ·rw[if_neg c2,decide_eq_true (by omega)];rfl
  by_cases c1:a[n]<b[n]
  ·rw[if_pos c1] at step
   have:=AH ha ga gb c1 hd
   rw[aV step,if_neg (by omega)]
   unfold iA
   rw[if_pos this]
  ·rw[if_neg c1] at step
   by_cases c2:b[n]<a[n]
   ·rw[if_pos c2] at step
    have:=AH hb gb ga c2 hd.symm
    rw[aV step,if_neg (by omega)]
    unfold iA
    rw[if_neg (by omega),if_neg (by omega)]
   ·rw[if_neg c2] at step
    rw[eN step]
    refine ih (by omega) ?_
    rw[List.drop_eq_getElem_cons h1,List.drop_eq_getElem_cons h2,hd,show a[n]=b[n] by omega]
theorem Qw{x y:Nat}(hx:(aU x).length<LM)(hy:(aU y).length<LM):jZ (lm x,lm y,())=some (iA x y,()):=by
 unfold jZ
 simp only[QL hx,QL hy,aY,aL,zH,aO,aG,bK]
 by_cases hl:(aU x).length=(aU y).length
 ·rw[decide_eq_true (by omega),dA (by omega) (by simp only[LM] at hx;omega)]
  have:=V7 (eJ x) (eJ y) hl hx (aU x).length (Nat.le_refl _) (by rw[List.drop_length,hl,List.drop_length])
  rw[dH,dH] at this
  simp only[lm,Bool.not_true,cond_false,this,aY]
  by_cases he:x=y
  ·subst he;simp[iA]
  ·rw[if_neg he];rfl
 ·rw[decide_eq_false (by omega)]
  simp only[Bool.not_false,cond_true]
  by_cases hc:(aU x).length<(aU y).length
  ·have:=QK hc
   rw[decide_eq_true (by omega)]
   unfold iA
   rw[if_pos this];rfl
  ·have:=QK (x:=y) (y:=x) (by omega)
   rw[decide_eq_false (by omega)]
   unfold iA
   rw[if_neg (by omega),if_neg (by omega)];rfl
theorem Nv{n:Nat}(h:n<BB):jQ (lm n,())=some ((n:Int),()):=by
 unfold jQ
 by_cases h0:n=0
 ·subst h0
  rw[jN]
  rw[aV (e:=.inl (0,())) (by simp[jM,dA])]
  rfl
 ·rw[pG h0 h]
  have e:qV .or .u64 (0:Int) (n:Int)=(n:Int):=by
   have:=Qq (a:=n) (b:=0) h (by decide)
   simpa using this
  rw[eN (s':=([eB n],(n:Int),-1,())) (by
   unfold jM
   simp only[kT,aL,bK,List.length_cons,List.length_nil]
   rw[dA (by omega) (by omega),decide_eq_true (by omega),pW _ (by omega),dA (by omega) (by omega)]
   simp only[cond_true,QH,aY]
   have e2:BK .u64 (0:Int) 32=0:=by have:=Lk 0;simpa using this
   have e3:wr .u64 (0:Int)=0:=dM (n:=0) (by decide)
   simp[cO,jU,e2,e3,dM (show n<dJ by simp only[BB,dJ] at *;omega),e])]
  rw[aV (e:=.inl ((n:Int),())) (by simp[jM])]
  rfl
def Tx(q:Rat):Prop:=q.num.natAbs<BB∧q.den<BB
theorem Sm.s1{q:Rat}(h:Sm q):Tx q:=⟨by have:=h.1;simp only[BB];omega,by have:=h.2;simp only[BB];omega⟩
theorem AJ{q:Rat}(h:Tx q)(b:Bool):bV (b,aR q,aW q,())=some ((q.num.natAbs:Int),(q.den:Int),true,()):=by
 obtain⟨h1,h2⟩:=h
 have hd:=q.den_nz
 have l1:(aR q).length≤1:=Ey.2 h1
 unfold bV
 simp only[aG,aL,aO]
 rw[decide_eq_false (by omega)]
 have w:jQ (aR q,())=some ((q.num.natAbs:Int),()):=Nv h1
 rw[Iy h2]
 by_cases hd1:q.den=1
 ·rw[if_pos hd1]
  simp only[List.length_nil]
  rw[decide_eq_false (by omega),decide_eq_false (by omega)]
  simp only[cond_false,aY,aN,w]
  rw[hd1];rfl
 ·rw[if_neg hd1]
  simp only[List.length_cons,List.length_nil]
  rw[decide_eq_false (by omega),decide_eq_true (by omega),pW _ (by omega)]
  simp only[cond_false,cond_true,Int.toNat_zero,List.getElem?_cons_zero,aY,cO,jU,aN,w]
  rw[dM (by simp only[BB,dJ] at *;omega),decide_eq_false (by omega)]
  rfl
theorem Ax(a b:Nat):gA ((a:Int),(b:Int),())=some (((a.gcd b:Nat):Int),()):=by
 unfold gA
 have:aJ oS ((a:Int),(b:Int),())=some (.inl (((a.gcd b:Nat):Int),())):=TB
 rw[this];rfl
theorem QM{α:Type}(l:List α)(a n:Nat):eX l a n=(l.drop a).take n:=by unfold eX;rfl
theorem Qx{L l h:Nat}(h1:l≤h)(h2:h≤L):rI (L:Int) (l:Int) (h:Int) (h:Int)=some (l,h-l):=by
 unfold rI
 rw[if_pos ⟨by omega,by omega,rfl,by omega⟩]
 simp
theorem TE{L l h:Nat}(h1:l≤h)(h2:h≤L):xM (L:Int) (l:Int) (h:Int)=some (l,h-l):=by
 unfold xM
 rw[if_pos ⟨by omega,by omega,by omega⟩]
 simp
theorem Je(a b:Nat):mQ a b=a+b:=by unfold mQ;rfl
theorem Tc:repL 4 (T.v (.int .u32 (0:Int)))=[eB 0,eB 0,eB 0,eB 0]:=by rw[H0];rfl
theorem Nw:mkLen (4:Int) 4 4=some (4,4):=by unfold mkLen;rfl
theorem Td{n:Int}(h:0<n):dL n 0=some 0:=by rw[Dk (by omega) h];rfl
theorem Nx(n:Nat):T.v (.int .u32 (wr .u32 (n:Int)))=eB (n%BB):=by rw[GR];rfl
theorem Qy(n m:Nat):T.upd 1 (eB n) 0 [eB m]=eB m:=Dj _ _
theorem k1:rI 4 0 1 1=some (0,1):=by unfold rI;rfl
theorem k2:rI 4 1 2 2=some (1,1):=by unfold rI;rfl
theorem k3:rI 4 1 3 3=some (1,2):=by unfold rI;rfl
theorem k4:rI 4 0 2 2=some (0,2):=by unfold rI;rfl
theorem k5:rI 4 2 3 3=some (2,1):=by unfold rI;rfl
theorem k6:rI 4 2 4 4=some (2,2):=by unfold rI;rfl
theorem k7:xM 4 1 4=some (1,3):=by unfold xM;rfl
theorem k8:xM 4 2 4=some (2,2):=by unfold xM;rfl
theorem k9:wr .i64 (1+1)=2:=qZ (by omega) (by omega)
theorem Ue:wr .i64 (1+2)=3:=qZ (by omega) (by omega)
theorem Uf:wr .i64 (2+1)=3:=qZ (by omega) (by omega)
theorem Ug:wr .i64 (2+2)=4:=qZ (by omega) (by omega)
theorem Uh:CN 3=3:=by unfold CN;rfl
theorem Ui:CN 2=2:=by unfold CN;rfl
theorem Uj:dL 4 0=some 0:=by unfold dL;rfl
theorem Uk:dL 4 1=some 1:=by unfold dL;rfl
theorem Ul:dL 3 0=some 0:=by unfold dL;rfl
theorem Um:dL 3 1=some 1:=by unfold dL;rfl
theorem Un:dL 2 0=some 0:=by unfold dL;rfl
theorem Uo:dL 2 1=some 1:=by unfold dL;rfl
theorem H6(neg:Bool){n d:Nat}(hn:n<dJ)(hd:d<dJ)(h0:d≠0):
 bG (neg,(n:Int),(d:Int),())=some (aK (mkRat (sg neg n) d),aR (mkRat (sg neg n) d),aW (mkRat (sg neg n) d),()):=by
 unfold bG
 simp only[aO]
 by_cases hz:n=0
 ·subst hz
  rw[decide_eq_true (by omega),X5,uZ,vA,vB]
  rfl
 ·rw[decide_eq_false (by omega)]
  have hg0:n.gcd d≠0:=Nat.gcd_ne_zero_right h0
  have hq1:n/n.gcd d≠0:=by
   have:=Nat.div_pos (Nat.le_of_dvd (Nat.pos_of_ne_zero hz) (Nat.gcd_dvd_left n d)) (Nat.pos_of_ne_zero hg0)
   omega
  have hq2:d/n.gcd d≠0:=by
   have:=Nat.div_pos (Nat.le_of_dvd (Nat.pos_of_ne_zero h0) (Nat.gcd_dvd_right n d)) (Nat.pos_of_ne_zero hg0)
   omega
  have b1:n/n.gcd d<dJ:=Nat.lt_of_le_of_lt (Nat.div_le_self _ _) hn
  have b2:d/n.gcd d<dJ:=Nat.lt_of_le_of_lt (Nat.div_le_self _ _) hd
  rw[VY neg h0 hz,X6 neg h0,X7 neg h0]
  simp only[cond_false,Ax,aY,XE (show ((n.gcd d:Nat):Int)≠0 by omega),Nw,Tc,aL,List.length_cons,List.length_nil,XD,Fb,dM b1,dM b2]
  generalize n/n.gcd d=N at *
  generalize d/n.gcd d=M at *
  clear hn hd hz h0 hg0
  have m1:N%BB<BB:=Nat.mod_lt _ (by decide)
  have m2:M%BB<BB:=Nat.mod_lt _ (by decide)
  have c1:N/BB<BB:=Nat.div_lt_of_lt_mul b1
  have c2:M/BB<BB:=Nat.div_lt_of_lt_mul b2
  rw[Td (by omega)]
  simp only[aY,pN,List.getElem?_cons_zero,QH,KZ,Nx,Qy,List.set_cons_zero,aG,aM]
  have l4:∀a b c d:T,(([a,b,c,d]:List T).length:Int)=4:=fun _ _ _ _=>rfl
  have dm:∀(m:Nat),m<dJ→decide (((m/BB:Nat):Int)=0)=decide (m<BB):=fun m hm=>by
   rw[decide_eq_decide]
   constructor
   ·intro h
    have:m/BB=0:=by omega
    exact(Nat.div_eq_zero_iff.1 this).resolve_left (by decide)
   ·intro h;rw[Nat.div_eq_of_lt h];rfl
  have d1:decide ((1:Int)<(M:Int))=!decide (M=1):=by
   by_cases h:M=1
   ·subst h;rfl
   ·rw[decide_eq_true (by omega),decide_eq_false h];rfl
  rw[dm N b1]
  have r1:N/BB%BB=N/BB:=Nat.mod_eq_of_lt c1
  have r2:M/BB%BB=M/BB:=Nat.mod_eq_of_lt c2
  have two:∀m:Nat,¬m<BB→m<dJ→lm m=[eB (m%BB),eB (m/BB)]:=fun m h1 h2=>Nn (by omega) h2
  unfold dn
  have fN:N<BB→lm N=[eB (N%BB)]:=fun h=>by rw[Nat.mod_eq_of_lt h,pG hq1 h]
  have fM:M<BB→lm M=[eB (M%BB)]:=fun h=>by rw[Nat.mod_eq_of_lt h,pG hq2 h]
  have e1:decide (M=1)=true∨decide (M=1)=false:=by cases decide (M=1) <;> simp
  have e2:decide (N<BB)=true∧lm N=[eB (N%BB)]∨decide (N<BB)=false∧lm N=[eB (N%BB),eB (N/BB)]:=by
   by_cases h:N<BB
   ·exact .inl ⟨decide_eq_true h,fN h⟩
   ·exact .inr ⟨decide_eq_false h,two N h b1⟩
  have e3:decide (M<BB)=true∧lm M=[eB (M%BB)]∨decide (M<BB)=false∧lm M=[eB (M%BB),eB (M/BB)]:=by
   by_cases h:M<BB
   ·exact .inl ⟨decide_eq_true h,fM h⟩
   ·exact .inr ⟨decide_eq_false h,two M h b2⟩
  have e4:(if M=1 then ([]:List T) else lm M)=bif decide (M=1) then [] else lm M:=by
   by_cases h:M=1
   ·rw[if_pos h,decide_eq_true h];rfl
   ·rw[if_neg h,decide_eq_false h];rfl
  rw[e4,d1,dm M b2]
  rcases e1 with h1 | h1 <;> rcases e2 with⟨h2,g2⟩ | ⟨h2,g2⟩ <;> rcases e3 with⟨h3,g3⟩ | ⟨h3,g3⟩
  all_goals simp only[h1,h2,h3,g2,g3,Bool.not_true,Bool.not_false,cond_true,cond_false,k1,k2,k3,k4,k5,k6,k7,k8,k9,Ue,Uf,Ug,Uj,Uk,Ul,Um,Un,Uo,Uh,Ui,aY,l4,pN,List.length_set,List.set_cons_zero,List.set_cons_succ,List.getElem?_cons_zero,List.getElem?_cons_succ,Je,Nat.add_zero,Nat.reduceAdd,Qy,r1,r2,aN,QM,List.drop_zero,List.drop_succ_cons,List.take_succ_cons,List.take_zero]
theorem QN{a b:List Nat}(ha:a.length<LM):aI (cN a,cN b,())=some (decide (a=b),()):=by
 unfold aI
 simp only[aL,cY,aO]
 by_cases hl:a.length=b.length
 ·rw[decide_eq_true (by omega)]
  simp only[Bool.not_true,cond_false]
  have key:∀d i,i+d=a.length→a.take i=b.take i→aJ bN (cN a,cN b,(a.length:Int),(i:Int),())=some (if a=b then .inr (.inl ()) else .inl (false,())):=by
   intro d
   induction d with
   | zero=>
    intro i hi ht
    have:i=a.length:=by omega
    subst this
    rw[List.take_length,hl,List.take_length] at ht
    rw[if_pos ht]
    exact aV (by unfold bN;simp only[aG];rw[decide_eq_false (by omega)];rfl)
   | succ d ih=>
    intro i hi ht
    have h1:i<a.length:=by omega
    have h2:i<b.length:=by omega
    have ga:=List.getElem?_eq_getElem h1
    have gb:=List.getElem?_eq_getElem h2
    have step:bN (cN a,cN b,(a.length:Int),(i:Int),())=if a[i]=b[i] then some (.inl (cN a,cN b,(a.length:Int),((i+1:Nat):Int),())) else some (.inr (.inl (false,()))):=by
     unfold bN
     simp only[aG,aM,aO]
     rw[decide_eq_true (by omega),bU,bU,fB,fB,ga,gb,show (i:Int)+1=((i+1:Nat):Int) by omega,V1 (by simp only[LM] at ha;omega)]
     simp only[cond_true,Option.map_some,aY,cO,qC]
     by_cases h:a[i]=b[i]
     ·rw[if_pos h,decide_eq_true (by omega)];rfl
     ·rw[if_neg h,decide_eq_false (by omega)];rfl
    by_cases h:a[i]=b[i]
    ·rw[if_pos h] at step
     rw[eN step]
     refine ih (i+1) (by omega) ?_
     rw[List.take_succ_eq_append_getElem h1,List.take_succ_eq_append_getElem h2,ht,h]
    ·rw[if_neg h] at step
     rw[aV step,if_neg]
     intro hab
     subst hab
     exact h rfl
  have:=key a.length 0 (by omega) (by simp)
  rw[show ((0:Nat):Int)=0 from rfl] at this
  rw[this]
  by_cases hab:a=b
  ·rw[if_pos hab,decide_eq_true hab];rfl
  ·rw[if_neg hab,decide_eq_false hab];rfl
 ·rw[decide_eq_false (by omega),decide_eq_false (fun h=>hl (by rw[h]))]
  rfl
theorem zI{q:Rat}(h:Fc q):bH (aK q,aR q,aW q,())=some (jA q,()):=by
 unfold bH
 obtain⟨k,h1,h2⟩:=Nu h.1
 have h1':fZ (aR q,())=some ((k:Int),()):=h1
 simp only[h1',aY,aO]
 unfold jA
 by_cases h0:q=0
 ·rw[if_pos h0,decide_eq_true (by have:=h2.2 (KX.2 h0);omega)];rfl
 ·rw[if_neg h0,decide_eq_false (fun hh=>h0 (KX.1 (h2.1 (by omega))))]
  cases aK q <;> rfl
theorem iY(q:Rat):(jA q=0∧q=0)∨(jA q=-1∧q.num<0)∨(jA q=1∧0<q.num):=by
 unfold jA
 by_cases h:q=0
 ·exact .inl ⟨if_pos h,h⟩
 ·have h0:q.num≠0:=fun hh=>h (Rat.num_eq_zero.1 hh)
  rw[if_neg h]
  unfold aK
  by_cases hl:q.num<0
  ·rw[decide_eq_true hl];exact .inr (.inl ⟨rfl,hl⟩)
  ·rw[decide_eq_false hl];exact .inr (.inr ⟨rfl,by omega⟩)
def mC(p q:Rat):Int:=if p<q then -1 else if p=q then 0 else 1
theorem YE{p q:Rat}:(p.num*q.den<q.num*p.den→mC p q=-1)∧(p.num*q.den=q.num*p.den→mC p q=0)∧(q.num*p.den<p.num*q.den→mC p q=1):=by
 refine⟨fun h=>?_,fun h=>?_,fun h=>?_⟩
 ·unfold mC;rw[if_pos (KY.2 h)]
 ·have e:p=q:=by
   rw[←Rat.mkRat_self p,←Rat.mkRat_self q]
   exact(Rat.mkRat_eq_iff p.den_nz q.den_nz).2 h
  unfold mC
  rw[if_neg (fun hh=>by have:=KY.1 hh;omega),if_pos e]
 ·unfold mC
  rw[if_neg (fun hh=>by have:=KY.1 hh;omega),if_neg (fun hh=>by subst hh;omega)]
theorem GT{p q:Rat}(hp:Sm p)(hq:Sm q):bX (aK p,aR p,aW p,aK q,aR q,aW q,())=some (mC p q,()):=by
 have p0:=p.den_nz
 have q0:=q.den_nz
 unfold bX
 simp only[zI hp.fit,zI hq.fit,aY,aO,aG,bK]
 have pd:(0:Int)<p.den:=by omega
 have qd:(0:Int)<q.den:=by omega
 have key:∀s:Int,(s<0→s*q.den<0)∧(0<s→0<s*q.den):=fun s=>⟨fun h=>Int.mul_neg_of_neg_of_pos h qd,fun h=>Int.mul_pos h qd⟩
 have key':∀s:Int,(s<0→s*p.den<0)∧(0<s→0<s*p.den):=fun s=>⟨fun h=>Int.mul_neg_of_neg_of_pos h pd,fun h=>Int.mul_pos h pd⟩
 obtain⟨c1,c2,c3⟩:=YE (p:=p) (q:=q)
 have zp:p=0→p.num*q.den=0:=fun h=>by subst h;simp
 have zq:q=0→q.num*p.den=0:=fun h=>by subst h;simp
 by_cases hs:jA p=jA q
 ·rw[decide_eq_true hs]
  simp only[Bool.not_true,cond_false,AJ hp.s1,AJ hq.s1,aY]
  obtain⟨m1,f1,g1⟩:=TC p.den
  obtain⟨m2,f2,g2⟩:=TC q.den
  have eqd:aI (aW p,aW q,())=some (decide (p.den=q.den),()):=by
   have l1:(aU m1).length<LM:=by rcases g1 with rfl | rfl;exact hp.fit.2;rw[dU];decide
   unfold aW
   rw[f1,f2]
   have:=QN (a:=aU m1) (b:=aU m2) l1
   unfold lm
   rw[this]
   congr 2
   rw[decide_eq_decide]
   constructor
   ·intro h;exact Ev p0 q0 (by rw[f1,f2,FG h])
   ·intro h;rw[h] at f1;exact congrArg aU (KW (f1.symm.trans f2))
  have natc:jZ (aR p,aR q,())=some (iA p.num.natAbs q.num.natAbs,()):=Qw hp.fit.1 hq.fit.1
  have sizes:∀(x y:Int) (a b:Nat),x=sg (aK p) a→y=sg (aK p) b→p.num*q.den=x→q.num*p.den=y→some ((bif aK p then 0-iA a b else iA a b),())=some (mC p q,()):=fun x y a b hx hy e1 e2=>by
   rw[e1,e2] at c1 c2 c3
   congr 2
   unfold iA
   cases hn:aK p with
   | true=>
    rw[hn] at hx hy
    simp only[sg,if_true] at hx hy
    simp only[cond_true]
    by_cases h1:a<b
    ·rw[if_pos h1,c3 (by omega)];rfl
    ·rw[if_neg h1]
     by_cases h2:a=b
     ·rw[if_pos h2,c2 (by omega)];rfl
     ·rw[if_neg h2,c1 (by omega)];rfl
   | false=>
    rw[hn] at hx hy
    simp only[sg,Bool.false_eq_true,if_false] at hx hy
    simp only[cond_false]
    by_cases h1:a<b
    ·rw[if_pos h1,c1 (by omega)]
    ·rw[if_neg h1]
     by_cases h2:a=b
     ·rw[if_pos h2,c2 (by omega)]
     ·rw[if_neg h2,c3 (by omega)]
  have hneg:aK p=aK q:=by
   unfold aK
   rcases iY p with⟨a1,a2⟩ | ⟨a1,a2⟩ | ⟨a1,a2⟩ <;> rcases iY q with⟨b1,b2⟩ | ⟨b1,b2⟩ | ⟨b1,b2⟩ <;> first
    | (rw[a1,b1] at hs;cases hs;done)
    | (subst a2;subst b2;rfl)
    | (rw[decide_eq_true a2,decide_eq_true b2])
    | (rw[decide_eq_false (by omega),decide_eq_false (by omega)])
  have wc:∀a b:Nat,wr .i64 (0-iA a b)=0-iA a b:=fun a b=>by
   have:iA a b=-1∨iA a b=0∨iA a b=1:=by
    unfold iA
    by_cases h1:a<b
    ·rw[if_pos h1];exact .inl rfl
    ·rw[if_neg h1]
     by_cases h2:a=b
     ·rw[if_pos h2];exact .inr (.inl rfl)
     ·rw[if_neg h2];exact .inr (.inr rfl)
   exact dA (by omega) (by omega)
  rw[eqd]
  simp only[aY]
  have hpn:=mB p
  have hqn:=mB q
  by_cases hd:p.den=q.den
  ·rw[decide_eq_true hd]
   simp only[cond_true,natc,aY,aN,wc]
   have pos:∀s:Bool,sg s p.num.natAbs*(q.den:Int)=sg s (p.num.natAbs*q.den):=fun s=>jO s _ _
   have hcm:iA p.num.natAbs q.num.natAbs=iA (p.num.natAbs*q.den) (q.num.natAbs*p.den):=by
    rw[hd]
    unfold iA
    have i1:p.num.natAbs*q.den<q.num.natAbs*q.den↔p.num.natAbs<q.num.natAbs:=Nat.mul_lt_mul_right (Nat.pos_of_ne_zero q0)
    have i2:p.num.natAbs*q.den=q.num.natAbs*q.den↔p.num.natAbs=q.num.natAbs:=Nat.mul_left_inj q0
    simp only[i1,i2]
   rw[hcm]
   have fin:=sizes _ _ (p.num.natAbs*q.den) (q.num.natAbs*p.den) rfl rfl (by rw[←jO,hpn]) (by rw[←jO,hneg,hqn])
   cases hn:aK p <;> rw[hn] at fin <;> exact fin
  ·rw[decide_eq_false hd]
   have bp:=hp.1;have bq:=hq.1;have bpd:=hp.2;have bqd:=hq.2
   have m1:p.num.natAbs*q.den<2147483648*2147483648:=Nat.mul_lt_mul'' bp bqd
   have m2:q.num.natAbs*p.den<2147483648*2147483648:=Nat.mul_lt_mul'' bq bpd
   simp only[cond_false,cond_true,aY,dK]
   rw[show ((p.num.natAbs:Nat):Int)*(q.den:Int)=((p.num.natAbs*q.den:Nat):Int) from(Int.natCast_mul _ _).symm,show ((q.num.natAbs:Nat):Int)*(p.den:Int)=((q.num.natAbs*p.den:Nat):Int) from(Int.natCast_mul _ _).symm,
    dM (by simp only[dJ];omega),dM (by simp only[dJ];omega)]
   have fin:=sizes _ _ (p.num.natAbs*q.den) (q.num.natAbs*p.den) rfl rfl (by rw[←jO,hpn]) (by rw[←jO,hneg,hqn])
   generalize p.num.natAbs*q.den=a at *
   generalize q.num.natAbs*p.den=b at *
   by_cases h1:a<b
   ·rw[decide_eq_true (by omega)]
    have hc:iA a b=-1:=by unfold iA;rw[if_pos h1]
    rw[hc] at fin
    simp only[cond_true,aY,aN]
    rw[dA (n:=0 - -1) (by omega) (by omega)]
    cases hn:aK p <;> rw[hn] at fin <;> exact fin
   ·rw[decide_eq_false (by omega)]
    by_cases h2:b<a
    ·rw[decide_eq_true (by omega)]
     have hc:iA a b=1:=by unfold iA;rw[if_neg h1,if_neg (by omega)]
     rw[hc] at fin
     simp only[cond_false,cond_true,aY,aN]
     rw[dA (n:=0-1) (by omega) (by omega)]
     cases hn:aK p <;> rw[hn] at fin <;> exact fin
    ·rw[decide_eq_false (by omega)]
     have hc:iA a b=0:=AI.2 (by omega)
     rw[hc] at fin
     simp only[cond_false,aY,aN]
     rw[dA (n:=0-0) (by omega) (by omega)]
     cases hn:aK p <;> rw[hn] at fin <;> exact fin
 ·rw[decide_eq_false hs]
  simp only[Bool.not_false,cond_true]
  rcases iY p with⟨a1,a2⟩ | ⟨a1,a2⟩ | ⟨a1,a2⟩ <;> rcases iY q with⟨b1,b2⟩ | ⟨b1,b2⟩ | ⟨b1,b2⟩ <;> rw[a1,b1]
  ·exact absurd (a1.trans b1.symm) hs
  ·have:=(key' _).1 b2
   rw[c3 (by rw[zp a2];exact this)];rfl
  ·have:=(key' _).2 b2
   rw[c1 (by rw[zp a2];exact this)];rfl
  ·have:=(key _).1 a2
   rw[c1 (by rw[zq b2];exact this)];rfl
  ·exact absurd (a1.trans b1.symm) hs
  ·have h1:=(key _).1 a2
   have h2:=(key' _).2 b2
   rw[c1 (by omega)];rfl
  ·have:=(key _).2 a2
   rw[c3 (by rw[zq b2];exact this)];rfl
  ·have h1:=(key _).2 a2
   have h2:=(key' _).1 b2
   rw[c3 (by omega)];rfl
  ·exact absurd (a1.trans b1.symm) hs
theorem Jf(a b:Nat):J5 (a:Int) (b:Int) 0=some (((a+b)%dJ:Nat):Int):=by
 unfold J5
 rw[if_pos ⟨by omega,by omega,by omega,by omega⟩]
 congr 1
theorem Jg{a b:Nat}(h:a+b<dJ):J6 (a:Int) (b:Int) 0=0:=by
 unfold J6
 simp only[dJ] at h
 omega
theorem Ln{p q:Rat}(hp:Sm p)(hq:Sm q)(neg:Bool):iQ (aK p,aR p,aW p,aK q,aR q,aW q,neg,()) =
 (let r:=mkRat (sg (aK p) (p.num.natAbs*q.den)+sg neg (q.num.natAbs*p.den)) (p.den*q.den);some (aK r,aR r,aW r,())):=by
 have p0:=p.den_nz
 have q0:=q.den_nz
 have bp:=hp.1;have bq:=hq.1;have bpd:=hp.2;have bqd:=hq.2
 have m1:p.num.natAbs*q.den<2147483648*2147483648:=Nat.mul_lt_mul'' bp bqd
 have m2:q.num.natAbs*p.den<2147483648*2147483648:=Nat.mul_lt_mul'' bq bpd
 have m3:p.den*q.den<2147483648*2147483648:=Nat.mul_lt_mul'' bpd bqd
 have d0:p.den*q.den≠0:=Nat.mul_ne_zero p0 q0
 unfold iQ
 simp only[AJ hp.s1,AJ hq.s1,aY,cond_true,dK,bK,kT,aO,vU]
 rw[show ((p.num.natAbs:Nat):Int)*(q.den:Int)=((p.num.natAbs*q.den:Nat):Int) from(Int.natCast_mul _ _).symm,show ((q.num.natAbs:Nat):Int)*(p.den:Int)=((q.num.natAbs*p.den:Nat):Int) from(Int.natCast_mul _ _).symm,
  show ((p.den:Nat):Int)*(q.den:Int)=((p.den*q.den:Nat):Int) from(Int.natCast_mul _ _).symm,dM (n:=p.num.natAbs*q.den) (by simp only[dJ];omega),dM (n:=q.num.natAbs*p.den) (by simp only[dJ];omega),dM (n:=p.den*q.den) (by simp only[dJ];omega)]
 generalize p.num.natAbs*q.den=a at *
 generalize q.num.natAbs*p.den=b at *
 generalize p.den*q.den=d at *
 rw[Jf,Jg (by simp only[dJ];omega),Nat.mod_eq_of_lt (by simp only[dJ];omega)]
 simp only[aY]
 by_cases hn:aK p=neg
 ·rw[hn]
  simp only[beq_self_eq_true,cond_true,decide_true]
  rw[H6 neg (by simp only[dJ];omega) (by simp only[dJ];omega) d0]
  simp only[aY,aN,Ew]
 ·have hb:(aK p==neg)=false:=by simpa using hn
  simp only[hb,cond_false,Bool.not_false,cond_true]
  by_cases hle:b≤a
  ·rw[decide_eq_true (by omega),show (a:Int)-(b:Int)=((a-b:Nat):Int) by omega,dM (n:=a-b) (by simp only[dJ];omega),H6 (aK p) (by simp only[dJ];omega) (by simp only[dJ];omega) d0]
   simp only[cond_true,aY,aN,VZ hn hle]
  ·rw[decide_eq_false (by omega),show (b:Int)-(a:Int)=((b-a:Nat):Int) by omega,dM (n:=b-a) (by simp only[dJ];omega),H6 neg (by simp only[dJ];omega) (by simp only[dJ];omega) d0]
   simp only[cond_false,aY,aN]
   rw[Int.add_comm,VZ (Ne.symm hn) (by omega)]
theorem Lo{p q:Rat}(hp:Sm p)(hq:Sm q):gC (aK p,aR p,aW p,aK q,aR q,aW q,())=some (aK (p+q),aR (p+q),aW (p+q),()):=by
 unfold gC
 simp only[Ln hp hq,aY]
 rw[←jO,←jO,mB,mB,←QG]
theorem YF{l:List T}(h:l.length<1000000000):bL (l,())=some (l,()):=by
 have hr:room [] l 4=some l:=by rw[nY (by simp only[List.length_nil];omega) (by decide)];rfl
 unfold bL
 simp only[hr,aY]
 unfold ZQ
 cases l with
 | nil=>exact R6 rfl rfl
 | cons a l=>rfl
theorem Jh{q:Rat}(h:Fc q):(aR q).length<1000000000:=by
 have:=h.1
 unfold aR
 rw[zH]
 simp only[LM] at this;omega
theorem Ji{q:Rat}(h:Fc q):(aW q).length<1000000000:=by
 obtain⟨m,e,c⟩:=TC q.den
 unfold aW
 rw[e,zH]
 rcases c with rfl | rfl
 ·have:=h.2;simp only[LM] at this;omega
 ·rw[dU];decide
end Go.Eng.Rt
namespace Go.Eng.Rt
open Go.Eng
def iL(l:List Nat)(i:Nat):Nat:=l.getD i 0
theorem FH{l:List Nat}(h:Lim l)(i:Nat):iL l i<BB:=by
 unfold iL
 rw[List.getD_eq_getElem?_getD]
 cases hg:l[i]? with
 | none=>decide
 | some x=>exact h.get hg
theorem oH{l:List Nat}{i:Nat}(h:i<l.length):l[i]?=some (iL l i):=by
 unfold iL;rw[List.getD_eq_getElem?_getD,List.getElem?_eq_getElem h];rfl
theorem tF{l:List Nat}{i:Nat}(h:l.length≤i):iL l i=0:=by
 unfold iL;rw[List.getD_eq_getElem?_getD,List.getElem?_eq_none h];rfl
theorem AK(l:List Nat)(i:Nat):val (l.take (i+1))=val (l.take i)+BB ^ i*iL l i:=by
 by_cases h:i<l.length
 ·exact tY (oH h)
 ·rw[tF (by omega),List.take_of_length_le (by omega),List.take_of_length_le (by omega)];simp
theorem K8{a b:List Nat}(ha:Lim a)(hb:Lim b)(hla:a.length<LM)(hlb:b.length<LM){o:List Nat}{c i:Nat}(hc:c<BB)(hi:i<LM)(ho:o.length=i):
 lD (cN a,cN b,cN o,(c:Int),(i:Int),())=if i<a.length∨i<b.length∨c≠0 then
  some (.inl (cN a,cN b,cN (o++[(c+iL a i+iL b i)%BB]),(((c+iL a i+iL b i)/BB:Nat):Int),((i+1:Nat):Int),())) else some (.inr (.inl (cN o,()))):=by
 have xa:=FH ha i
 have xb:=FH hb i
 have hroom:∀n:Nat,room (cN o) [T.v (.int .u32 ((n%BB:Nat):Int))] 4=some (cN (o++[n%BB])):=fun n=>by
  rw[nY (by rw[cY,ho];simp only[List.length_cons,List.length_nil,LM] at *;omega) (by decide)]
  rw[←V2];rfl
 have wi:wr .i64 ((i:Int)+1)=((i+1:Nat):Int):=by rw[show (i:Int)+1=((i+1:Nat):Int) by omega,V1 (by simp only[LM] at *;omega)]
 have w1:wr .u64 ((iL a i:Nat):Int)=((iL a i:Nat):Int):=dM (by simp only[BB,dJ] at *;omega)
 have w2:wr .u64 ((iL b i:Nat):Int)=((iL b i:Nat):Int):=dM (by simp only[BB,dJ] at *;omega)
 have w3:wr .u64 ((c:Int)+((iL a i:Nat):Int))=((c+iL a i:Nat):Int):=by rw[show (c:Int)+((iL a i:Nat):Int)=((c+iL a i:Nat):Int) by omega,dM (by simp only[BB,dJ] at *;omega)]
 have w4:wr .u64 (((c+iL a i:Nat):Int)+((iL b i:Nat):Int))=((c+iL a i+iL b i:Nat):Int):=by rw[show ((c+iL a i:Nat):Int)+((iL b i:Nat):Int)=((c+iL a i+iL b i:Nat):Int) by omega,dM (by simp only[BB,dJ] at *;omega)]
 have w5:wr .u64 ((c:Int)+((iL b i:Nat):Int))=((c+iL b i:Nat):Int):=by rw[show (c:Int)+((iL b i:Nat):Int)=((c+iL b i:Nat):Int) by omega,dM (by simp only[BB,dJ] at *;omega)]
 unfold lD
 simp only[aG,aL,cY,aM,aO]
 by_cases h1:i<a.length <;> by_cases h2:i<b.length
 ·rw[decide_eq_true (show (i:Int)<(a.length:Int) by omega),if_pos (.inl h1)]
  simp only[cond_true,bU,fB,oH h1,oH h2,Option.map_some,aY,cO,jU,aN,w1,w2,w3,w4,cY]
  rw[decide_eq_true (show (i:Int)<(b.length:Int) by omega)]
  simp only[cond_true,bU,fB,oH h1,oH h2,Option.map_some,aY,cO,jU,aN,w1,w2,w3,w4,QH,GR,hroom,KZ,wi]
 ·rw[decide_eq_true (show (i:Int)<(a.length:Int) by omega),if_pos (.inl h1)]
  simp only[cond_true,bU,fB,oH h1,Option.map_some,aY,cO,jU,aN,w1,w3,cY]
  rw[decide_eq_false (show ¬(i:Int)<(b.length:Int) by omega)]
  simp only[cond_false,aY,aN,QH,GR,hroom,KZ,wi,tF (show b.length≤i by omega),Nat.add_zero]
 ·rw[decide_eq_false (show ¬(i:Int)<(a.length:Int) by omega),decide_eq_true (show (i:Int)<(b.length:Int) by omega),if_pos (.inr (.inl h2))]
  simp only[cond_false,cond_true,aY,aN,cY]
  rw[decide_eq_true (show (i:Int)<(b.length:Int) by omega)]
  simp only[cond_true,bU,fB,oH h2,Option.map_some,aY,cO,jU,aN,w2,w5,QH,GR,hroom,KZ,wi,tF (show a.length≤i by omega),Nat.add_zero]
 ·rw[decide_eq_false (show ¬(i:Int)<(a.length:Int) by omega),decide_eq_false (show ¬(i:Int)<(b.length:Int) by omega)]
  by_cases h3:c=0
  ·subst h3
   rw[decide_eq_true (by omega),if_neg (by omega)]
   rfl
  ·rw[decide_eq_false (by omega),if_pos (.inr (.inr h3))]
   simp only[cond_false,cond_true,Bool.not_false,aY,aN,cY]
   rw[decide_eq_false (show ¬(i:Int)<(b.length:Int) by omega)]
   simp only[cond_false,aY,aN,QH,GR,hroom,KZ,wi,tF (show a.length≤i by omega),tF (show b.length≤i by omega),Nat.add_zero]
def Ty(l:List Nat):Prop:=∀x,l.getLast?=some x→x≠0
theorem N0(n:Nat):Ty (aU n):=fun x hx=>by
 by_cases h:n=0
 ·subst h;rw[dU] at hx;cases hx
 ·obtain⟨y,h1,h2,_⟩:=K7 h
  rw[List.getLast?_eq_getElem?] at hx
  rw[hx] at h1
  cases h1
  exact h2
theorem N1{l:List Nat}(h:Lim l)(ht:Ty l):aU (val l)=l:=by
 rw[FE h]
 by_cases hne:l=[]
 ·subst hne;rfl
 ·obtain⟨m,a,rfl⟩:∃m a,l=m++[a]:=⟨l.dropLast,l.getLast hne,(List.dropLast_concat_getLast hne).symm⟩
  exact CF (ht a (by simp))
theorem Lq{x y:Nat}(hx:(aU x).length<100000)(hy:(aU y).length<100000):u_ref01_Add (lm x,lm y,())=some (lm (x+y),()):=by
 have ha:=eJ x
 have hb:=eJ y
 have ta:=N0 x
 have tb:=N0 y
 have va:=dH x
 have vb:=dH y
 unfold lm
 generalize aU x=a at *
 generalize aU y=b at *
 let N:=max a.length b.length
 have key:∀i,i≤N→∃(o:List Nat) (c:Nat),aJ lD (cN a,cN b,cN [],(0:Int),(0:Int),())=aJ lD (cN a,cN b,cN o,(c:Int),(i:Int),()) ∧
  o.length=i∧Lim o∧c<2∧val o+BB ^ i*c=val (a.take i)+val (b.take i)∧(∀x,o.getLast?=some x→i=N→c=0→x≠0):=by
  intro i
  induction i with
  | zero=>intro _;exact⟨[],0,rfl,rfl,Lim.nil,by decide,by simp[val],fun x hx=>by cases hx⟩
  | succ i ih=>
   intro hi
   obtain⟨o,c,h1,h2,h3,h4,h5,_⟩:=ih (by omega)
   have hs:=K8 ha hb (by simp only[LM];omega) (by simp only[LM];omega) (o:=o) (c:=c) (i:=i) (by simp only[BB];omega) (by simp only[LM];omega) h2
   rw[if_pos (by omega)] at hs
   have xa:=FH ha i
   have xb:=FH hb i
   have hm:=Nat.mod_add_div (c+iL a i+iL b i) BB
   refine⟨_,_,h1.trans (eN hs),by rw[List.length_append,h2];rfl,h3.append (Lim.cons (Nat.mod_lt _ (by decide)) Lim.nil),?_,?_,?_⟩
   ·simp only[BB] at *;omega
   ·rw[sF,h2,AK,AK]
    simp only[val,Nat.mul_zero,Nat.add_zero]
    generalize (c+iL a i+iL b i)%BB=r at *
    generalize (c+iL a i+iL b i)/BB=q at *
    have e1:BB ^ (i+1)*q=BB ^ i*(BB*q):=by rw[Nat.pow_succ,Nat.mul_assoc]
    have e2:BB ^ i*(r+BB*q)=BB ^ i*(c+iL a i+iL b i):=by rw[hm]
    rw[e1]
    rw[Nat.mul_add,Nat.mul_add,Nat.mul_add] at e2
    omega
   ·intro z hz hN hq
    simp at hz
    have hsum:c+iL a i+iL b i<BB:=by
     rcases Nat.lt_or_ge (c+iL a i+iL b i) BB with h | h
     ·exact h
     ·have:=Nat.div_pos h (show 0<BB by decide);omega
    rw[Nat.mod_eq_of_lt hsum] at hz
    have hlast:iL a i≠0∨iL b i≠0:=by
     have:a.length=i+1∨b.length=i+1:=by omega
     rcases this with hl | hl
     ·left
      exact ta _ (by rw[List.getLast?_eq_getElem?,hl,Nat.add_sub_cancel,oH (by omega)])
     ·right
      exact tb _ (by rw[List.getLast?_eq_getElem?,hl,Nat.add_sub_cancel,oH (by omega)])
    omega
 obtain⟨o,c,h1,h2,h3,h4,h5,h6⟩:=key N (Nat.le_refl _)
 have hN1:a.length≤N:=Nat.le_max_left _ _
 have hN2:b.length≤N:=Nat.le_max_right _ _
 have hNl:N<100000:=by omega
 rw[List.take_of_length_le hN1,List.take_of_length_le hN2,va,vb] at h5
 have hs:=K8 ha hb (by simp only[LM];omega) (by simp only[LM];omega) (o:=o) (c:=c) (i:=N) (by simp only[BB];omega) (by simp only[LM];omega) h2
 unfold u_ref01_Add
 rw[show ([]:List T)=cN [] from rfl,h1]
 by_cases hc:c=0
 ·subst hc
  rw[if_neg (by omega)] at hs
  rw[aV hs]
  simp only[aY,aN]
  rw[←N1 h3 (fun z hz=>h6 z hz rfl rfl)]
  rw[show val o=x+y by simpa using h5]
 ·rw[if_pos (by omega),tF hN1,tF hN2] at hs
  have c1:c=1:=by omega
  subst c1
  rw[eN hs]
  have hs2:=K8 ha hb (by simp only[LM];omega) (by simp only[LM];omega) (o:=o++[(1+0+0)%BB]) (c:=0) (i:=N+1) (by decide) (by simp only[LM];omega) (by rw[List.length_append,h2];rfl)
  rw[if_neg (by omega)] at hs2
  have e0:((1+0+0)/BB:Nat)=0:=by decide
  rw[e0,aV hs2]
  simp only[aY,aN]
  have e1:(1+0+0)%BB=1:=by decide
  rw[e1]
  have hl:Lim (o++[1]):=h3.append (Lim.cons (by decide) Lim.nil)
  rw[←N1 hl (fun z hz=>by simp at hz;omega)]
  have hv:val (o++[1])=x+y:=by
   rw[sF,h2]
   simp only[val,Nat.mul_zero,Nat.add_zero]
   exact h5
  rw[hv]
theorem V8{a b:List Nat}(ha:Lim a)(hb:Lim b)(hla:a.length<LM)(hlb:b.length<LM){o:List Nat}{c i:Nat}(hc:c≤1)(hi:i<a.length)(ho:o.length=a.length)(hz:o[i]?=some 0):
 ∃c' d,c'≤1∧d<BB∧d+(c+iL b i)=iL a i+BB*c' ∧
  eH (cN a,cN b,cN o,(c:Int),(i:Int),())=some (.inl (cN a,cN b,cN (o.set i d),(c':Int),((i+1:Nat):Int),())):=by
 have xa:=FH ha i
 have xb:=FH hb i
 have wi:wr .i64 ((i:Int)+1)=((i+1:Nat):Int):=by rw[show (i:Int)+1=((i+1:Nat):Int) by omega,V1 (by simp only[LM] at *;omega)]
 have w1:wr .u64 ((iL a i:Nat):Int)=((iL a i:Nat):Int):=dM (by simp only[BB,dJ] at *;omega)
 have w2:wr .u64 ((iL b i:Nat):Int)=((iL b i:Nat):Int):=dM (by simp only[BB,dJ] at *;omega)
 have w3:wr .u64 ((c:Int)+((iL b i:Nat):Int))=((c+iL b i:Nat):Int):=by rw[show (c:Int)+((iL b i:Nat):Int)=((c+iL b i:Nat):Int) by omega,dM (by simp only[BB,dJ] at *;omega)]
 have w4:wr .u64 (((iL a i:Nat):Int)+4294967296)=((iL a i+BB:Nat):Int):=by rw[show ((iL a i:Nat):Int)+4294967296=((iL a i+BB:Nat):Int) by simp only[BB];omega,dM (by simp only[BB,dJ] at *;omega)]
 have first:∀(R:Type) (k:(List T×List T×List T×Int×Int×Unit)→Option R),(ob (α:=((List T×List T×List T×Int×Int×Unit)⊕Empty)) (bif decide ((i:Int)<(b.length:Int)) then (ob ((b[i]?).map eB) fun x2=>(ob (T.anyInt? (T.cell x2 0)) fun x3=>(some (Sum.inl (cN a,cN b,cN o,(i:Int),(wr .u64 ((c:Int)+(wr .u64 x3))),()))))) else (some (Sum.inl (cN a,cN b,cN o,(i:Int),(c:Int),()))))
  fun q4=>cJ q4 k fun q13=>cU q13)=k (cN a,cN b,cN o,(i:Int),((c+iL b i:Nat):Int),()):=fun R k=>by
  by_cases h2:i<b.length
  ·rw[decide_eq_true (by omega)]
   simp only[cond_true,oH h2,Option.map_some,aY,cO,jU,w2,w3,aN]
  ·rw[decide_eq_false (by omega),tF (show b.length≤i by omega)]
   rfl
 have e:eH (cN a,cN b,cN o,(c:Int),(i:Int),())=if iL a i<c+iL b i then some (.inl (cN a,cN b,cN (o.set i (iL a i+BB-(c+iL b i))),(1:Int),((i+1:Nat):Int),()))
  else some (.inl (cN a,cN b,cN (o.set i (iL a i-(c+iL b i))),(0:Int),((i+1:Nat):Int),())):=by
  unfold eH
  simp only[aG,aL,cY,aM,bK]
  rw[decide_eq_true (show (i:Int)<(a.length:Int) by omega)]
  simp only[cond_true,bU,fB]
  rw[first]
  simp only[bU,fB,oH hi,Option.map_some,aY,cO,jU,w1]
  by_cases h3:iL a i<c+iL b i
  ·rw[if_pos h3,decide_eq_true (by omega)]
   simp only[cond_true,aY,aN,w4,cY]
   rw[rP (by omega),show ((iL a i+BB:Nat):Int)-((c+iL b i:Nat):Int)=((iL a i+BB-(c+iL b i):Nat):Int) by simp only[BB] at *;omega,dM (by simp only[BB,dJ] at *;omega),Ex (by simp only[BB] at *;omega)]
   simp only[aY,pN,fB,hz,Option.map_some,wi]
   rw[DW _ _ ⟨0,rfl⟩,H5]
  ·rw[if_neg h3,decide_eq_false (by omega)]
   simp only[cond_false,aY,aN,cY]
   rw[rP (by omega),show ((iL a i:Nat):Int)-((c+iL b i:Nat):Int)=((iL a i-(c+iL b i):Nat):Int) by omega,dM (by simp only[BB,dJ] at *;omega),Ex (by simp only[BB] at *;omega)]
   simp only[aY,pN,fB,hz,Option.map_some,wi]
   rw[DW _ _ ⟨0,rfl⟩,H5]
 by_cases h3:iL a i<c+iL b i
 ·rw[if_pos h3] at e
  exact⟨1,iL a i+BB-(c+iL b i),by omega,by simp only[BB] at *;omega,by simp only[BB] at *;omega,e⟩
 ·rw[if_neg h3] at e
  exact⟨0,iL a i-(c+iL b i),by omega,by simp only[BB] at *;omega,by omega,e⟩
theorem Jj{x y:Nat}(hx:(aU x).length<LM)(hxy:y≤x):u_ref01_minus (lm x,lm y,())=some (lm (x-y),()):=by
 have ha:=eJ x
 have hb:=eJ y
 have va:=dH x
 have vb:=dH y
 have hll:(aU y).length≤(aU x).length:=kB.2 (Nat.lt_of_le_of_lt hxy (kB.1 (Nat.le_refl _)))
 unfold lm
 have fin:∀d,cN (aU d)=lm d:=fun _=>rfl
 rw[fin (x-y)]
 generalize aU x=a at *
 generalize aU y=b at *
 have key:∀i,i≤a.length→∃(o:List Nat) (c:Nat),aJ eH (cN a,cN b,cN (List.replicate a.length 0),(0:Int),(0:Int),())=aJ eH (cN a,cN b,cN o,(c:Int),(i:Int),()) ∧
  o.length=a.length∧Lim o∧c≤1∧val o+val (b.take i)=val (a.take i)+BB ^ i*c∧∀m,i≤m→m<a.length→o[m]?=some 0:=by
  intro i
  induction i with
  | zero=>
   intro _
   refine⟨_,0,rfl,by simp,Lim.rep _,by decide,by simp[val,YA],fun m _ hm=>?_⟩
   rw[List.getElem?_replicate,if_pos hm]
  | succ i ih=>
   intro hi
   obtain⟨o,c,h1,h2,h3,h4,h5,h6⟩:=ih (by omega)
   have hz:=h6 i (Nat.le_refl _) hi
   obtain⟨c',d,g1,g2,g3,g4⟩:=V8 ha hb hx (by omega) h4 hi h2 hz
   refine⟨_,c',h1.trans (eN g4),by rw[List.length_set,h2],h3.set g2 _,g1,?_,fun m hm hlt=>?_⟩
   ·have hv:=QI (x:=d) hz
    rw[AK,AK]
    have e1:BB ^ (i+1)*c'=BB ^ i*(BB*c'):=by rw[Nat.pow_succ,Nat.mul_assoc]
    have e2:BB ^ i*(d+(c+iL b i))=BB ^ i*(iL a i+BB*c'):=by rw[g3]
    rw[e1]
    rw[Nat.mul_add,Nat.mul_add,Nat.mul_add] at e2
    omega
   ·rw[List.getElem?_set_ne (by omega)]
    exact h6 m (by omega) hlt
 obtain⟨o,c,h1,h2,h3,h4,h5,_⟩:=key a.length (Nat.le_refl _)
 rw[List.take_length,List.take_of_length_le hll,va,vb] at h5
 have hvo:=VV h3
 rw[h2] at hvo
 have hval:val o=x-y:=by
  have:c=0∨c=1:=by omega
  rcases this with rfl | rfl
  ·simp at h5;omega
  ·simp at h5;omega
 unfold u_ref01_minus
 simp only[aL,cY]
 rw[JJ (by omega) (by omega) (by simp only[LM] at hx;omega) (by decide)]
 simp only[aY,Int.toNat_natCast,H0,X9]
 rw[h1,aV (e:=.inl (cN o,())) (by
  unfold eH
  simp only[aG,aL,cY]
  rw[decide_eq_false (by omega)];rfl)]
 simp only[aY,aN]
 rw[QJ h3 (by omega),hval]
 rfl
theorem YG{x y:Nat}(hx:(aU x).length<LM)(hxy:y≤x):u_ref01_Sub (lm x,lm y,())=some (lm (x-y),0,()):=by
 have hll:(aU y).length≤(aU x).length:=kB.2 (Nat.lt_of_le_of_lt hxy (kB.1 (Nat.le_refl _)))
 unfold u_ref01_Sub
 rw[K4 hx (by omega)]
 simp only[aY,aG]
 rw[decide_eq_false (by unfold iA;rw[if_neg (by omega)];split <;> omega)]
 simp only[cond_false,Jj hx hxy,aY]
theorem N2(q:Rat):u_ref02_Den (aK q,aR q,aW q,())=some (lm q.den,()):=by
 unfold u_ref02_Den aW dn
 simp only[aL,aO]
 by_cases h:q.den=1
 ·rw[if_pos h,h,pG (by decide) (by decide)]
  rfl
 ·rw[if_neg h,decide_eq_false (fun hh=>q.den_nz (tE.1 (by omega)))]
  rfl
theorem nK{n:Nat}(h:n<dJ):(aU n).length≤2:=kB.2 h
theorem mO{x y:Nat}(hx:x<dJ)(hy:y<dJ):u_ref01_Mul (lm x,lm y,())=some (lm (x*y),()):=
 Qr (by have h1:=nK hx;have h2:=nK hy;simp only[LM];omega)
theorem TF{q:Rat}(h:Sm q):q.num.natAbs<dJ∧q.den<dJ:=by
 obtain⟨h1,h2⟩:=h;simp only[dJ];omega
theorem dW{q:Rat}:((aR q).length:Int)=0↔q=0:=by
 rw[←D6];omega
theorem QO{p q:Rat}(hp:Sm p)(hq:Sm q):u_ref02_Add (aK p,aR p,aW p,aK q,aR q,aW q,())=some (aK (p+q),aR (p+q),aW (p+q),()):=by
 obtain⟨p1,p2⟩:=TF hp
 obtain⟨q1,q2⟩:=TF hq
 have bp:=hp.1;have bq:=hq.1;have bpd:=hp.2;have bqd:=hq.2
 have m1:p.num.natAbs*q.den<2147483648*2147483648:=Nat.mul_lt_mul'' bp bqd
 have m2:q.num.natAbs*p.den<2147483648*2147483648:=Nat.mul_lt_mul'' bq bpd
 have m3:p.den*q.den<2147483648*2147483648:=Nat.mul_lt_mul'' bpd bqd
 have d0:p.den*q.den≠0:=Nat.mul_ne_zero p.den_nz q.den_nz
 unfold u_ref02_Add
 simp only[aL,aO]
 by_cases hp0:p=0
 ·rw[decide_eq_true (dW.2 hp0)]
  rw[hp0,Rat.zero_add]
  rfl
 rw[decide_eq_false (fun h=>hp0 (dW.1 h))]
 by_cases hq0:q=0
 ·rw[decide_eq_true (dW.2 hq0)]
  rw[hq0,Rat.add_zero]
  rfl
 rw[decide_eq_false (fun h=>hq0 (dW.1 h))]
 have e1:u_ref01_Mul (aR p,lm q.den,())=some (lm (p.num.natAbs*q.den),()):=mO p1 q2
 have e2:u_ref01_Mul (aR q,lm p.den,())=some (lm (q.num.natAbs*p.den),()):=mO q1 p2
 simp only[cond_false,N2,aY,e1,e2,mO p2 q2,vU]
 have l1:=nK (n:=p.num.natAbs*q.den) (by simp only[dJ];omega)
 have l2:=nK (n:=q.num.natAbs*p.den) (by simp only[dJ];omega)
 by_cases hn:aK p=aK q
 ·rw[show (aK p==aK q)=true by simpa using hn]
  simp only[cond_true]
  rw[Lq (by omega) (by omega)]
  simp only[aY]
  rw[oG _ (by simp only[dJ];omega) (by simp only[dJ];omega) d0]
  simp only[aY]
  rw[hn,←S9 hn]
 ·rw[show (aK p==aK q)=false by simpa using hn]
  simp only[cond_false]
  rw[K4 (by simp only[LM];omega) (by simp only[LM];omega)]
  simp only[aY,aG]
  by_cases hlt:p.num.natAbs*q.den<q.num.natAbs*p.den
  ·rw[decide_eq_true (by unfold iA;rw[if_pos hlt];omega)]
   simp only[cond_true]
   rw[YG (by simp only[LM];omega) (by omega)]
   simp only[aY]
   rw[oG _ (by simp only[dJ];omega) (by simp only[dJ];omega) d0]
   simp only[aY]
   have:=DV (p:=q) (q:=p) (Ne.symm hn) (by omega)
   rw[Rat.add_comm,this,Nat.mul_comm p.den]
  ·rw[decide_eq_false (by unfold iA;rw[if_neg hlt];split <;> omega)]
   simp only[cond_false]
   rw[YG (by simp only[LM];omega) (by omega)]
   simp only[aY]
   rw[oG _ (by simp only[dJ];omega) (by simp only[dJ];omega) d0]
   simp only[aY]
   rw[←DV hn (by omega)]
theorem Sm.neg{q:Rat}(h:Sm q):Sm (-q):=by
 unfold Sm at *
 rw[Rat.neg_num,Int.natAbs_neg,Rat.neg_den]
 exact h
def zJ(p q:Rat):Rat:=if 0<mC q p then q else p
theorem TG{n:Int}(h1:-4611686018427387904<n)(h2:n<4611686018427387904):aB (n,())=some (aK (n:Rat),aR (n:Rat),aW (n:Rat),()):=by
 unfold aB
 simp only[V5 h1 h2,aY]
 rfl
theorem K9{p q:Rat}(hp:Sm p)(hq:Sm q):cD (aK p,aR p,aW p,aK q,aR q,aW q,())=some (aK (p-q),aR (p-q),aW (p-q),()):=by
 unfold cD
 simp only[Ln hp hq,aY]
 have e:sg (!aK q) (q.num.natAbs*p.den)=(-q).num*((p.den:Nat):Int):=by
  have key:∀(b:Bool) (n:Nat),sg (!b) n=-(sg b n):=fun b n=>by cases b <;> simp[sg]
  rw[←jO,Rat.neg_num,key,mB]
 rw[e,←jO,mB,Rat.sub_eq_add_neg,QG,Rat.neg_den]
theorem BJ{p q:Rat}(hp:Sm p)(hq:Sm q):bF (aK p,aR p,aW p,aK q,aR q,aW q,())=some (aK (p*q),aR (p*q),aW (p*q),()):=by
 have bp:=hp.1;have bq:=hq.1;have bpd:=hp.2;have bqd:=hq.2
 have m1:p.num.natAbs*q.num.natAbs<2147483648*2147483648:=Nat.mul_lt_mul'' bp bq
 have m3:p.den*q.den<2147483648*2147483648:=Nat.mul_lt_mul'' bpd bqd
 unfold bF
 simp only[aL,aO]
 by_cases hp0:p=0
 ·rw[decide_eq_true (dW.2 hp0)]
  rw[hp0,Rat.zero_mul,uZ,vA,vB]
  rfl
 rw[decide_eq_false (fun h=>hp0 (dW.1 h))]
 by_cases hq0:q=0
 ·rw[decide_eq_true (dW.2 hq0)]
  rw[hq0,Rat.mul_zero,uZ,vA,vB]
  rfl
 rw[decide_eq_false (fun h=>hq0 (dW.1 h))]
 simp only[cond_false,AJ hp.s1,AJ hq.s1,aY,cond_true,dK,vU,Jb]
 rw[show ((p.num.natAbs:Nat):Int)*((q.num.natAbs:Nat):Int)=((p.num.natAbs*q.num.natAbs:Nat):Int) from(Int.natCast_mul _ _).symm,show ((p.den:Nat):Int)*(q.den:Int)=((p.den*q.den:Nat):Int) from(Int.natCast_mul _ _).symm,
  dM (n:=p.num.natAbs*q.num.natAbs) (by simp only[dJ];omega),dM (n:=p.den*q.den) (by simp only[dJ];omega),H6 _ (by simp only[dJ];omega) (by simp only[dJ];omega) (Nat.mul_ne_zero p.den_nz q.den_nz),←V0]
 rfl
theorem zK{q:Rat}(h:Fc q):dT (aK q,aR q,aW q,())=some (aK q,aR q,aW q,()):=by
 unfold dT
 simp only[YF (Jh h),YF (Ji h),aY]
theorem Qz{p q:Rat}(hp:Sm p)(hq:Sm q):lA (aK p,aR p,aW p,aK q,aR q,aW q,())=some (aK (zJ p q),aR (zJ p q),aW (zJ p q),()):=by
 unfold lA zJ
 simp only[GT hq hp,aY,aG]
 by_cases h:0<mC q p
 ·rw[if_pos h,decide_eq_true h]
  simp only[cond_true,aY,aN,zK hq.fit]
 ·rw[if_neg h,decide_eq_false h]
  simp only[cond_false,aY,aN,zK hp.fit]
end Go.Eng.Rt
namespace Go.Eng.Tw
def Fr(D k:Nat)(q:Rat):Prop:=0<D∧∃m:Int,m.natAbs≤k∧q*(D:Rat)=(m:Rat)
theorem Fr.mono{D k l:Nat}{q:Rat}(h:Fr D k q)(hl:k≤l):Fr D l q:=by
 obtain⟨h0,m,h1,h2⟩:=h
 exact⟨h0,m,Nat.le_trans h1 hl,h2⟩
theorem Fr.int(n:Int):Fr 1 n.natAbs (n:Rat):=⟨by decide,n,Nat.le_refl _,by grind⟩
theorem Fr.zero{D:Nat}(h:0<D):Fr D 0 0:=⟨h,0,Nat.le_refl _,by grind⟩
theorem Fr.add{D k l:Nat}{p q:Rat}(h:Fr D k p)(h':Fr D l q):Fr D (k+l) (p+q):=by
 obtain⟨h0,m,h1,h2⟩:=h
 obtain⟨_,m',h1',h2'⟩:=h'
 exact⟨h0,m+m',by omega,by rw[Rat.add_mul,h2,h2',Rat.intCast_add]⟩
theorem Fr.neg{D k:Nat}{p:Rat}(h:Fr D k p):Fr D k (-p):=by
 obtain⟨h0,m,h1,h2⟩:=h
 exact⟨h0,-m,by omega,by rw[Rat.neg_mul,h2,Rat.intCast_neg]⟩
theorem Fr.sub{D k l:Nat}{p q:Rat}(h:Fr D k p)(h':Fr D l q):Fr D (k+l) (p-q):=by
 rw[Rat.sub_eq_add_neg];exact h.add h'.neg
theorem Fr.mul{D E k l:Nat}{p q:Rat}(h:Fr D k p)(h':Fr E l q):Fr (D*E) (k*l) (p*q):=by
 obtain⟨h0,m,h1,h2⟩:=h
 obtain⟨h0',m',h1',h2'⟩:=h'
 refine⟨Nat.mul_pos h0 h0',m*m',by rw[Int.natAbs_mul];exact Nat.mul_le_mul h1 h1',?_⟩
 rw[Rat.natCast_mul,Rat.intCast_mul,←h2,←h2']
 grind
theorem Fr.up{D k:Nat}{p:Rat}(E:Nat)(hE:0<E)(h:Fr D k p):Fr (D*E) (k*E) p:=by
 have:=h.mul (Fr.int (E:Int):Fr 1 _ _)
 obtain⟨h0,m,h1,h2⟩:=h
 refine⟨Nat.mul_pos h0 hE,m*E,by rw[Int.natAbs_mul,Int.natAbs_natCast];exact Nat.mul_le_mul_right _ h1,?_⟩
 rw[Rat.natCast_mul,Rat.intCast_mul,←h2,Rat.intCast_natCast]
 grind
theorem Ra{D:Nat}{q:Rat}{m:Int}(h0:0<D)(h:q*(D:Rat)=(m:Rat)):q=mkRat m D:=by
 have hD:(D:Rat)≠0:=by
  intro e
  have:((D:Int):Rat)=((0:Int):Rat):=by rw[Rat.intCast_natCast];exact e
  have:=Rat.intCast_inj.1 this
  omega
 have h2:mkRat m D*(D:Rat)=(m:Rat):=by
  rw[Rat.mkRat_eq_div,Rat.div_mul_cancel hD]
 grind
theorem Jk{n:Int}{d:Nat}(hd:d≠0):(mkRat n d).num.natAbs≤n.natAbs∧(mkRat n d).den≤d:=by
 rw[Rat.mkRat_def,dif_neg hd,Rat.normalize_eq]
 refine⟨?_,Nat.div_le_self _ _⟩
 show (n/((n.natAbs.gcd d:Nat):Int)).natAbs≤_
 have h1:((n.natAbs.gcd d:Nat):Int) ∣ n:=Int.dvd_trans (Int.natCast_dvd_natCast.2 (Nat.gcd_dvd_left n.natAbs d)) (Int.natAbs_dvd.2 (Int.dvd_refl n))
 obtain⟨c,hc⟩:=h1
 have hg:0<n.natAbs.gcd d:=Nat.gcd_pos_of_pos_right _ (Nat.pos_of_ne_zero hd)
 have h2:n/((n.natAbs.gcd d:Nat):Int)=c:=by
  have e:=Int.mul_ediv_cancel_left c (show ((n.natAbs.gcd d:Nat):Int)≠0 by omega)
  rw[←hc] at e
  exact e
 rw[h2]
 have h3:n.natAbs=n.natAbs.gcd d*c.natAbs:=by
  have:=congrArg Int.natAbs hc
  rw[Int.natAbs_mul,Int.natAbs_natCast] at this
  exact this
 have h4:=Nat.mul_le_mul_right c.natAbs hg
 omega
theorem Fr.bnd{D k:Nat}{q:Rat}(h:Fr D k q):q.num.natAbs≤k∧q.den≤D:=by
 obtain⟨h0,m,h1,h2⟩:=h
 rw[Ra h0 h2]
 have:=Jk (n:=m) (d:=D) (by omega)
 omega
theorem Fr.of_mul{D N k:Nat}{q r:Rat}(hN:0<N)(h:Fr D k r)(e:(N:Rat)*q=r):Fr (D*N) k q:=by
 obtain⟨h0,m,h1,h2⟩:=h
 refine⟨Nat.mul_pos h0 hN,m,h1,?_⟩
 rw[Rat.natCast_mul,←h2,←e]
 grind
theorem Fr.imul{D k l:Nat}{n:Int}{q:Rat}(hn:n.natAbs≤l)(h:Fr D k q):Fr D (l*k) ((n:Rat)*q):=by
 have:=(Fr.int n).mul h
 rw[Nat.one_mul] at this
 exact this.mono (Nat.mul_le_mul_right _ hn)
theorem Fr.ofInt{D l:Nat}{n:Int}(hD:0<D)(hn:n.natAbs≤l):Fr D (l*D) (n:Rat):=by
 have:=(Fr.int n).up D hD
 rw[Nat.one_mul] at this
 exact this.mono (Nat.mul_le_mul_right _ hn)
theorem Fr.mk{n:Int}{D:Nat}(hD:0<D):Fr D n.natAbs (mkRat n D):=by
 refine⟨hD,n,Nat.le_refl _,?_⟩
 have hD':(D:Rat)≠0:=by
  intro e
  have:((D:Int):Rat)=((0:Int):Rat):=by rw[Rat.intCast_natCast];exact e
  have:=Rat.intCast_inj.1 this
  omega
 rw[Rat.mkRat_eq_div,Rat.div_mul_cancel hD']
end Go.Eng.Tw
namespace Go.Eng.Tw
theorem V9{a:Rat}(h:a≤0):0≤-a:=by grind
theorem lE{n u:Rat}(hn:0<n)(h:0≤n*u):0≤u:=by
 rcases Rat.le_total (a:=0) (b:=u) with h1 | h1
 ·exact h1
 ·by_cases e:u=0
  ·grind
  ·have h2:0 < -u:=by grind
   have:=Rat.mul_pos hn h2
   grind
theorem N3(a:Rat):0≤a*a:=by
 rcases Rat.le_total (a:=0) (b:=a) with h | h
 ·exact Rat.mul_nonneg h h
 ·have:=Rat.mul_nonneg (V9 h) (V9 h)
  grind
theorem Rb{a:Rat}(h:a*a=0):a=0:=by
 rcases Rat.mul_eq_zero.1 h with h | h <;> exact h
theorem QP{a b:Rat}(h:a*a+b*b=0):a=0∧b=0:=by
 have h1:=N3 a
 have h2:=N3 b
 have e1:a*a=0:=by grind
 have e2:b*b=0:=by grind
 exact⟨Rb e1,Rb e2⟩
def Bt(d u:Rat):Prop:=(0≤u∧u≤d)∨(d≤u∧u≤0)
theorem QQ{d u:Rat}(h:Bt d u):0≤u*d∧0≤(d-u)*d:=by
 rcases h with⟨h1,h2⟩ | ⟨h1,h2⟩
 ·exact⟨Rat.mul_nonneg h1 (by grind),Rat.mul_nonneg (by grind) (by grind)⟩
 ·have a1:=Rat.mul_nonneg (V9 h2) (show (0:Rat)≤-d by grind)
  have a2:=Rat.mul_nonneg (show (0:Rat)≤-(d-u) by grind) (show (0:Rat)≤-d by grind)
  exact⟨by grind,by grind⟩
theorem Rc{d u:Rat}(h:Bt d u)(h0:u*d=0):u=0:=by
 rcases Rat.mul_eq_zero.1 h0 with e | e
 ·exact e
 ·subst e
  rcases h with⟨h1,h2⟩ | ⟨h1,h2⟩ <;> grind
theorem Re{d u:Rat}(h:Bt d u)(h0:(d-u)*d=0):u=d:=by
 rcases Rat.mul_eq_zero.1 h0 with e | e
 ·grind
 ·subst e
  rcases h with⟨h1,h2⟩ | ⟨h1,h2⟩ <;> grind
theorem YH{d u x n:Rat}(hn:0<n)(hx:0≤x)(hxn:x≤n)(h:n*u=x*d):Bt d u:=by
 rcases Rat.le_total (a:=0) (b:=d) with hd | hd
 ·left
  have a1:=Rat.mul_nonneg hx hd
  have a2:=Rat.mul_nonneg (show (0:Rat)≤n-x by grind) hd
  have b1:0≤n*u:=by grind
  have b2:0≤n*(d-u):=by grind
  exact⟨lE hn b1,by have:=lE hn b2;grind⟩
 ·right
  have a1:=Rat.mul_nonneg hx (show (0:Rat)≤-d by grind)
  have a2:=Rat.mul_nonneg (show (0:Rat)≤n-x by grind) (show (0:Rat)≤-d by grind)
  have b1:0≤n*(-u):=by grind
  have b2:0≤n*(u-d):=by grind
  exact⟨by have:=lE hn b2;grind,by have:=lE hn b1;grind⟩
def Jl(dx dy ux uy:Rat):Rat:=
 if ux*dx+uy*dy≤0 then ux*ux+uy*uy
 else if dx*dx+dy*dy≤ux*dx+uy*dy then (ux-dx)*(ux-dx)+(uy-dy)*(uy-dy)
 else (ux-(ux*dx+uy*dy)/(dx*dx+dy*dy)*dx)*(ux-(ux*dx+uy*dy)/(dx*dx+dy*dy)*dx)+(uy-(ux*dx+uy*dy)/(dx*dx+dy*dy)*dy)*(uy-(ux*dx+uy*dy)/(dx*dx+dy*dy)*dy)
theorem qFd(dx dy ux uy:Rat):Jl dx dy ux uy=0↔dx*uy-dy*ux=0∧Bt dx ux∧Bt dy uy:=by
 unfold Jl
 have n0:=N3 dx
 have n1:=N3 dy
 by_cases h1:ux*dx+uy*dy≤0
 ·rw[if_pos h1]
  constructor
  ·intro h
   obtain⟨e1,e2⟩:=QP h
   subst e1;subst e2
   refine⟨by grind,?_,?_⟩
   ·rcases Rat.le_total (a:=0) (b:=dx) with h | h
    ·exact .inl ⟨Rat.le_refl,h⟩
    ·exact .inr ⟨h,Rat.le_refl⟩
   ·rcases Rat.le_total (a:=0) (b:=dy) with h | h
    ·exact .inl ⟨Rat.le_refl,h⟩
    ·exact .inr ⟨h,Rat.le_refl⟩
  ·rintro ⟨hc,b1,b2⟩
   have m1:=(QQ b1).1
   have m2:=(QQ b2).1
   have e1:=Rc b1 (by grind)
   have e2:=Rc b2 (by grind)
   subst e1;subst e2
   grind
 ·rw[if_neg h1]
  by_cases h2:dx*dx+dy*dy≤ux*dx+uy*dy
  ·rw[if_pos h2]
   constructor
   ·intro h
    obtain⟨e1,e2⟩:=QP h
    have f1:ux=dx:=by grind
    have f2:uy=dy:=by grind
    subst f1;subst f2
    refine⟨by grind,?_,?_⟩
    ·rcases Rat.le_total (a:=0) (b:=ux) with h | h
     ·exact .inl ⟨h,Rat.le_refl⟩
     ·exact .inr ⟨Rat.le_refl,h⟩
    ·rcases Rat.le_total (a:=0) (b:=uy) with h | h
     ·exact .inl ⟨h,Rat.le_refl⟩
     ·exact .inr ⟨Rat.le_refl,h⟩
   ·rintro ⟨hc,b1,b2⟩
    have m1:=(QQ b1).2
    have m2:=(QQ b2).2
    have e1:=Re b1 (by grind)
    have e2:=Re b2 (by grind)
    subst e1;subst e2
    grind
  ·rw[if_neg h2]
   obtain⟨x,hx⟩:∃x,x=ux*dx+uy*dy:=⟨_,rfl⟩
   obtain⟨n,hn⟩:∃n,n=dx*dx+dy*dy:=⟨_,rfl⟩
   rw[←hx,←hn] at h2 ⊢
   rw[←hx] at h1
   have x0:0≤x:=by grind
   have n0:0<n:=by grind
   have nz:n≠0:=by grind
   obtain⟨t,ht⟩:∃t,t=x/n:=⟨_,rfl⟩
   have htn:t*n=x:=by rw[ht,Rat.div_mul_cancel nz]
   rw[←ht]
   have k1:n*(ux-t*dx)=-(dy*(dx*uy-dy*ux)):=by grind
   have k2:n*(uy-t*dy)=dx*(dx*uy-dy*ux):=by grind
   constructor
   ·intro h
    obtain⟨e1,e2⟩:=QP h
    refine⟨?_,YH n0 x0 (by grind) (by grind),YH n0 x0 (by grind) (by grind)⟩
    grind
   ·rintro ⟨hc,_,_⟩
    rw[hc] at k1 k2
    have e1:ux-t*dx=0:=by
     rcases Rat.mul_eq_zero.1 (show n*(ux-t*dx)=0 by grind) with e | e
     ·exact absurd e nz
     ·exact e
    have e2:uy-t*dy=0:=by
     rcases Rat.mul_eq_zero.1 (show n*(uy-t*dy)=0 by grind) with e | e
     ·exact absurd e nz
     ·exact e
    rw[e1,e2]
    grind
end Go.Eng.Tw
namespace Go.Eng.Rt
open Go.Eng Go.Eng.Tw
theorem FI(q:Rat):u_ref02_Sign (aK q,aR q,aW q,())=some (jA q,()):=by
 unfold u_ref02_Sign jA
 simp only[aL,aO]
 by_cases h:q=0
 ·rw[if_pos h,decide_eq_true (by have:=D6.2 h;omega)];rfl
 ·rw[if_neg h,decide_eq_false (fun hh=>h (D6.1 (by omega)))]
  cases aK q <;> rfl
theorem qN{p q:Rat}(hp:Sm p)(hq:Sm q):u_ref02_Mul (aK p,aR p,aW p,aK q,aR q,aW q,())=some (aK (p*q),aR (p*q),aW (p*q),()):=by
 obtain⟨p1,p2⟩:=TF hp
 obtain⟨q1,q2⟩:=TF hq
 have bp:=hp.1;have bq:=hq.1;have bpd:=hp.2;have bqd:=hq.2
 have m1:p.num.natAbs*q.num.natAbs<2147483648*2147483648:=Nat.mul_lt_mul'' bp bq
 have m3:p.den*q.den<2147483648*2147483648:=Nat.mul_lt_mul'' bpd bqd
 unfold u_ref02_Mul
 have e1:u_ref01_Mul (aR p,aR q,())=some (lm (p.num.natAbs*q.num.natAbs),()):=mO p1 q1
 simp only[e1,N2,aY,mO p2 q2,vU,Jb]
 rw[oG _ (by simp only[dJ];omega) (by simp only[dJ];omega) (Nat.mul_ne_zero p.den_nz q.den_nz),←V0]
 rfl
theorem FJ{p q:Rat}(hp:Sm p)(hq:Sm q):u_ref02_Sub (aK p,aR p,aW p,aK q,aR q,aW q,())=some (aK (p-q),aR (p-q),aW (p-q),()):=by
 unfold u_ref02_Sub
 simp only[Qs,aY,QO hp hq.neg]
 rw[Rat.sub_eq_add_neg]
theorem Ny{p q:Rat}(hp:Sm p)(hq:Sm q):u_ref02_Cmp (aK p,aR p,aW p,aK q,aR q,aW q,())=some (mC p q,()):=by
 obtain⟨p1,p2⟩:=TF hp
 obtain⟨q1,q2⟩:=TF hq
 have bp:=hp.1;have bq:=hq.1;have bpd:=hp.2;have bqd:=hq.2
 have m1:p.num.natAbs*q.den<2147483648*2147483648:=Nat.mul_lt_mul'' bp bqd
 have m2:q.num.natAbs*p.den<2147483648*2147483648:=Nat.mul_lt_mul'' bq bpd
 have l1:=nK (n:=p.num.natAbs*q.den) (by simp only[dJ];omega)
 have l2:=nK (n:=q.num.natAbs*p.den) (by simp only[dJ];omega)
 have e1:u_ref01_Mul (aR p,lm q.den,())=some (lm (p.num.natAbs*q.den),()):=mO p1 q2
 have e2:u_ref01_Mul (aR q,lm p.den,())=some (lm (q.num.natAbs*p.den),()):=mO q1 p2
 have hprog:=GT hp hq
 unfold bX at hprog
 unfold u_ref02_Cmp
 simp only[FI,aY,aO,aG,bK]
 simp only[zI hp.fit,zI hq.fit,aY,aO,aG] at hprog
 by_cases hs:jA p=jA q
 ·rw[decide_eq_true hs]
  simp only[Bool.not_true,cond_false,N2,aY,e1,e2]
  rw[K4 (by simp only[LM];omega) (by simp only[LM];omega)]
  simp only[aY]
  obtain⟨c1,c2,c3⟩:=YE (p:=p) (q:=q)
  have hneg:aK p=aK q:=by
   unfold aK
   rcases iY p with⟨a1,a2⟩ | ⟨a1,a2⟩ | ⟨a1,a2⟩ <;> rcases iY q with⟨b1,b2⟩ | ⟨b1,b2⟩ | ⟨b1,b2⟩ <;> first
    | (rw[a1,b1] at hs;cases hs;done)
    | (subst a2;subst b2;rfl)
    | (rw[decide_eq_true a2,decide_eq_true b2])
    | (rw[decide_eq_false (by omega),decide_eq_false (by omega)])
  have hx:p.num*(q.den:Int)=sg (aK p) (p.num.natAbs*q.den):=by rw[←jO,mB]
  have hy:q.num*(p.den:Int)=sg (aK p) (q.num.natAbs*p.den):=by rw[←jO,hneg,mB]
  rw[hx,hy] at c1 c2 c3
  generalize p.num.natAbs*q.den=a at *
  generalize q.num.natAbs*p.den=b at *
  unfold iA
  cases hn:aK p with
  | true=>
   rw[hn] at c1 c2 c3
   simp only[sg,if_true] at c1 c2 c3
   simp only[cond_true]
   by_cases h1:a<b
   ·rw[if_pos h1,c3 (by omega),dA (by omega) (by omega)];rfl
   ·rw[if_neg h1]
    by_cases h2:a=b
    ·rw[if_pos h2,c2 (by omega),dA (by omega) (by omega)];rfl
    ·rw[if_neg h2,c1 (by omega),dA (by omega) (by omega)];rfl
  | false=>
   rw[hn] at c1 c2 c3
   simp only[sg,Bool.false_eq_true,if_false] at c1 c2 c3
   simp only[cond_false]
   by_cases h1:a<b
   ·rw[if_pos h1,c1 (by omega)]
   ·rw[if_neg h1]
    by_cases h2:a=b
    ·rw[if_pos h2,c2 (by omega)]
    ·rw[if_neg h2,c3 (by omega)]
 ·rw[decide_eq_false hs] at hprog ⊢
  exact hprog
theorem Jm{p q:Rat}(m1:p.num.natAbs*q.den<4611686018427387904)(m2:q.num.natAbs*p.den<4611686018427387904)(m3:p.den*q.den<4611686018427387904):u_ref02_Add (aK p,aR p,aW p,aK q,aR q,aW q,())=some (aK (p+q),aR (p+q),aW (p+q),()):=by
 have pd:=p.den_pos
 have qd:=q.den_pos
 have p1:p.num.natAbs<dJ:=by have:=Nat.le_mul_of_pos_right p.num.natAbs qd;simp only[dJ];omega
 have q1:q.num.natAbs<dJ:=by have:=Nat.le_mul_of_pos_right q.num.natAbs pd;simp only[dJ];omega
 have p2:p.den<dJ:=by have:=Nat.le_mul_of_pos_right p.den qd;simp only[dJ];omega
 have q2:q.den<dJ:=by have:=Nat.le_mul_of_pos_left q.den pd;simp only[dJ];omega
 have d0:p.den*q.den≠0:=Nat.mul_ne_zero p.den_nz q.den_nz
 unfold u_ref02_Add
 simp only[aL,aO]
 by_cases hp0:p=0
 ·rw[decide_eq_true (dW.2 hp0)]
  rw[hp0,Rat.zero_add]
  rfl
 rw[decide_eq_false (fun h=>hp0 (dW.1 h))]
 by_cases hq0:q=0
 ·rw[decide_eq_true (dW.2 hq0)]
  rw[hq0,Rat.add_zero]
  rfl
 rw[decide_eq_false (fun h=>hq0 (dW.1 h))]
 have e1:u_ref01_Mul (aR p,lm q.den,())=some (lm (p.num.natAbs*q.den),()):=mO p1 q2
 have e2:u_ref01_Mul (aR q,lm p.den,())=some (lm (q.num.natAbs*p.den),()):=mO q1 p2
 simp only[cond_false,N2,aY,e1,e2,mO p2 q2,vU]
 have l1:=nK (n:=p.num.natAbs*q.den) (by simp only[dJ];omega)
 have l2:=nK (n:=q.num.natAbs*p.den) (by simp only[dJ];omega)
 by_cases hn:aK p=aK q
 ·rw[show (aK p==aK q)=true by simpa using hn]
  simp only[cond_true]
  rw[Lq (by omega) (by omega)]
  simp only[aY]
  rw[oG _ (by simp only[dJ];omega) (by simp only[dJ];omega) d0]
  simp only[aY]
  rw[hn,←S9 hn]
 ·rw[show (aK p==aK q)=false by simpa using hn]
  simp only[cond_false]
  rw[K4 (by simp only[LM];omega) (by simp only[LM];omega)]
  simp only[aY,aG]
  by_cases hlt:p.num.natAbs*q.den<q.num.natAbs*p.den
  ·rw[decide_eq_true (by unfold iA;rw[if_pos hlt];omega)]
   simp only[cond_true]
   rw[YG (by simp only[LM];omega) (by omega)]
   simp only[aY]
   rw[oG _ (by simp only[dJ];omega) (by simp only[dJ];omega) d0]
   simp only[aY]
   have:=DV (p:=q) (q:=p) (Ne.symm hn) (by omega)
   rw[Rat.add_comm,this,Nat.mul_comm p.den]
  ·rw[decide_eq_false (by unfold iA;rw[if_neg hlt];split <;> omega)]
   simp only[cond_false]
   rw[YG (by simp only[LM];omega) (by omega)]
   simp only[aY]
   rw[oG _ (by simp only[dJ];omega) (by simp only[dJ];omega) d0]
   simp only[aY]
   rw[←DV hn (by omega)]
theorem Nz{p q:Rat}(h:q≠0):p/q=mkRat (sg (aK p != aK q) (p.num.natAbs*q.den)) (p.den*q.num.natAbs):=by
 have hn:q.num≠0:=fun e=>h (Rat.num_eq_zero.1 e)
 have h1:(q⁻¹).num.natAbs=q.den:=by
  rw[Rat.num_inv,Int.natAbs_mul,Int.natAbs_natCast,Int.natAbs_sign_of_ne_zero hn,Nat.one_mul]
 have h2:(q⁻¹).den=q.num.natAbs:=by rw[Rat.den_inv,if_neg hn]
 have h3:aK q⁻¹=aK q:=by
  unfold aK
  rw[Rat.num_inv]
  have hd:(0:Int)<q.den:=by have:=q.den_pos;omega
  congr 1
  rcases Int.lt_trichotomy q.num 0 with e | e | e
  ·rw[Int.sign_eq_neg_one_of_neg e];simp only[eq_iff_iff];constructor <;> intro <;> omega
  ·exact absurd e hn
  ·rw[Int.sign_eq_one_of_pos e];simp only[eq_iff_iff];constructor <;> intro <;> omega
 rw[Rat.div_def,V0,h1,h2,h3]
theorem Oa{p q:Rat}(hp:Sm p)(hq:Sm q)(h:q≠0):u_ref02_Over (aK p,aR p,aW p,aK q,aR q,aW q,())=some (aK (p/q),aR (p/q),aW (p/q),()):=by
 obtain⟨p1,p2⟩:=TF hp
 obtain⟨q1,q2⟩:=TF hq
 have bp:=hp.1;have bq:=hq.1;have bpd:=hp.2;have bqd:=hq.2
 have m1:p.num.natAbs*q.den<2147483648*2147483648:=Nat.mul_lt_mul'' bp bqd
 have m3:p.den*q.num.natAbs<2147483648*2147483648:=Nat.mul_lt_mul'' bpd bq
 have hn:q.num.natAbs≠0:=fun e=>h (Rat.num_eq_zero.1 (by omega))
 have e1:u_ref01_Mul (aR p,lm q.den,())=some (lm (p.num.natAbs*q.den),()):=mO p1 q2
 have e2:u_ref01_Mul (lm p.den,aR q,())=some (lm (p.den*q.num.natAbs),()):=mO p2 q1
 unfold u_ref02_Over u_ref02_Quo
 simp only[aL,aO]
 rw[decide_eq_false (fun e=>h (dW.1 e))]
 simp only[cond_false,N2,aY,e1,e2,vU,Jb]
 rw[oG _ (by simp only[dJ];omega) (by simp only[dJ];omega) (Nat.mul_ne_zero p.den_nz hn),Nz h]
 rfl
def zL(p q:Rat):Rat:=if mC q p<0 then q else p
theorem Rf{p q:Rat}(hp:Sm p)(hq:Sm q):kZ (aK p,aR p,aW p,aK q,aR q,aW q,())=some (aK (zL p q),aR (zL p q),aW (zL p q),()):=by
 unfold kZ zL
 simp only[GT hq hp,aY,aG]
 by_cases h:mC q p<0
 ·rw[if_pos h,decide_eq_true h]
  simp only[cond_true,aY,aN,zK hq.fit]
 ·rw[if_neg h,decide_eq_false h]
  simp only[cond_false,aY,aN,zK hp.fit]
theorem oI{p q:Rat}:mC p q≤0↔p≤q:=by
 unfold mC
 by_cases h:p<q
 ·rw[if_pos h];constructor
  ·intro;exact Rat.le_of_lt h
  ·intro;omega
 ·rw[if_neg h]
  by_cases e:p=q
  ·rw[if_pos e,e];constructor
   ·intro;exact Rat.le_refl
   ·intro;omega
  ·rw[if_neg e]
   constructor
   ·intro h2;omega
   ·intro h2;exact absurd (by grind) e
theorem QR{p q:Rat}:mC p q<0↔p<q:=by
 unfold mC
 by_cases h:p<q
 ·rw[if_pos h];constructor <;> intro <;> first | exact h | omega
 ·rw[if_neg h]
  by_cases e:p=q
  ·rw[if_pos e];constructor
   ·intro;omega
   ·intro h2;exact absurd h2 h
  ·rw[if_neg e]
   constructor
   ·intro h2;omega
   ·intro h2;exact absurd h2 h
theorem Jn{p q:Rat}:0<mC p q↔q<p:=by
 have:=oI (p:=p) (q:=q)
 constructor
 ·intro h
  have:¬p≤q:=fun e=>by have:=this.2 e;omega
  grind
 ·intro h
  have:¬mC p q≤0:=fun e=>by have:=this.1 e;grind
  omega
end Go.Eng.Rt
namespace Go.Eng.Rt
open Go.Eng Go.Eng.Tw
abbrev c3{β:Type}(q:Rat)(r:β):Bool×List T×List T×β:=(aK q,aR q,aW q,r)
theorem Fe:aK 0=false:=rfl
theorem N4:aR 0=[]:=by
 show cN (aU 0)=[]
 unfold aU
 rfl
theorem N5:aW 0=[]:=by
 show dn 1=[]
 exact if_pos rfl
theorem z3{β:Type}(r:β):c3 0 r=(false,([]:List T),([]:List T),r):=by
 show (aK 0,aR 0,aW 0,r)=_
 rw[N4,N5];rfl
theorem ED:Sm 0:=⟨by decide,by decide⟩
def Bd(k D:Nat)(q:Rat):Prop:=q.num.natAbs≤k∧q.den≤D
theorem Bd.sm{k D:Nat}{q:Rat}(h:Bd k D q)(hk:k<2147483648)(hD:D<2147483648):Sm q:=⟨Nat.lt_of_le_of_lt h.1 hk,Nat.lt_of_le_of_lt h.2 hD⟩
theorem jV{D k l E:Nat}{q:Rat}(h:Fr D k q)(hk:k≤l)(hD:D≤E):Bd l E q:=⟨Nat.le_trans h.bnd.1 hk,Nat.le_trans h.bnd.2 hD⟩
theorem eQ{n:Int}{k:Nat}(h:n.natAbs≤k)(hk:k<2147483648):Sm (n:Rat):=⟨by rw[Rat.num_intCast];omega,by rw[Rat.den_intCast];decide⟩
theorem Fr.muli{D k l:Nat}{n:Int}{q:Rat}(hn:n.natAbs≤l)(h:Fr D k q):Fr D (l*k) (q*(n:Rat)):=by
 rw[Rat.mul_comm];exact h.imul hn
theorem Jo(q:Rat):u_ref02_Add (false,[],[],c3 q ())=some (c3 q ()):=by
 unfold u_ref02_Add
 simp only[aL,aO,List.length_nil]
 rfl
theorem Jp(q:Rat):u_ref02_Add (c3 q (c3 0 ()))=some (c3 q ()):=by
 unfold u_ref02_Add
 simp only[aL,aO]
 by_cases h:q=0
 ·rw[decide_eq_true (dW.2 h),h];rfl
 ·rw[decide_eq_false (fun e=>h (dW.1 e)),decide_eq_true (dW.2 rfl)];rfl
theorem Ff{a b c d e f:Rat}(ha:Sm a)(hb:Sm b)(hc:Sm c)(hd:Sm d)(he:Sm e)(hf:Sm f):u_ref04_Sub (c3 a (c3 b (c3 c (c3 d (c3 e (c3 f ()))))))=some (c3 (a-d) (c3 (b-e) (c3 (c-f) ()))):=by
 unfold u_ref04_Sub
 simp only[FJ ha hd,FJ hb he,FJ hc hf,aY,aN]
theorem QS{a b d e:Rat}(ha:Sm a)(hb:Sm b)(hd:Sm d)(he:Sm e):u_ref04_Sub (c3 a (c3 b (c3 0 (c3 d (c3 e (c3 0 ()))))))=some (c3 (a-d) (c3 (b-e) (c3 0 ()))):=by
 have:=Ff ha hb ED hd he ED
 rw[Rat.sub_self] at this
 exact this
theorem Ob{a b d e:Rat}(ha:Sm a)(hb:Sm b)(hd:Sm d)(he:Sm e):u_ref04_Add (c3 a (c3 b (c3 0 (c3 d (c3 e (c3 0 ()))))))=some (c3 (a+d) (c3 (b+e) (c3 0 ()))):=by
 have h:=QO ED ED
 rw[Rat.add_zero] at h
 unfold u_ref04_Add
 simp only[QO ha hd,QO hb he,h,aY,aN]
theorem Fg{t a b:Rat}(ht:Sm t)(ha:Sm a)(hb:Sm b):u_ref04_Scale (c3 t (c3 a (c3 b (c3 0 ()))))=some (c3 (t*a) (c3 (t*b) (c3 0 ()))):=by
 have h:=qN ht ED
 rw[Rat.mul_zero] at h
 unfold u_ref04_Scale
 simp only[qN ht ha,qN ht hb,h,aY,aN]
theorem LA{a b d e:Rat}{k l D E:Nat}(ha:Sm a)(hb:Sm b)(hd:Sm d)(he:Sm e)(h1:Bd k D (a*d))(h2:Bd l E (b*e))(c1:k*E<4611686018427387904)(c2:l*D<4611686018427387904)(c4:D*E<4611686018427387904):
 u_ref04_Dot (c3 a (c3 b (c3 0 (c3 d (c3 e (c3 0 ()))))))=some (c3 (a*d+b*e) ()):=by
 have h:=qN ED ED
 rw[Rat.mul_zero] at h
 have hs:=Jm (p:=a*d) (q:=b*e) (Nat.lt_of_le_of_lt (Nat.mul_le_mul h1.1 h2.2) c1) (Nat.lt_of_le_of_lt (Nat.mul_le_mul h2.1 h1.2) c2) (Nat.lt_of_le_of_lt (Nat.mul_le_mul h1.2 h2.2) c4)
 unfold u_ref04_Dot
 simp only[qN ha hd,qN hb he,h,aY,aN,Jo,hs,Jp]
theorem TH{q:Rat}:q.num<0↔q<0:=by
 rw[Rat.lt_iff]
 have:(0:Rat).num=0:=rfl
 have h2:(0:Rat).den=1:=rfl
 rw[this,h2]
 omega
theorem TI{q:Rat}:0<q.num↔0<q:=by
 rw[Rat.lt_iff]
 have:(0:Rat).num=0:=rfl
 have h2:(0:Rat).den=1:=rfl
 rw[this,h2]
 omega
theorem YI{q:Rat}:jA q≤0↔q≤0:=by
 rcases iY q with⟨h1,h2⟩ | ⟨h1,h2⟩ | ⟨h1,h2⟩
 ·rw[h1,h2];exact⟨fun _=>Rat.le_refl,fun _=>Int.le_refl _⟩
 ·rw[h1];exact⟨fun _=>Rat.le_of_lt (TH.1 h2),fun _=>by decide⟩
 ·rw[h1];exact⟨fun h=>absurd h (by decide),fun h=>by have:=TI.1 h2;grind⟩
theorem D7{q:Rat}:jA q=0↔q=0:=by
 rcases iY q with⟨h1,h2⟩ | ⟨h1,h2⟩ | ⟨h1,h2⟩
 ·rw[h1,h2];exact⟨fun _=>rfl,fun _=>rfl⟩
 ·rw[h1];exact⟨fun h=>absurd h (by decide),fun h=>by rw[h] at h2;exact absurd h2 (by decide)⟩
 ·rw[h1];exact⟨fun h=>absurd h (by decide),fun h=>by rw[h] at h2;exact absurd h2 (by decide)⟩
theorem Ay{ax ay dx dy:Int}{px py:Rat}{D:Nat}(hD:D≤8)(ha:ax.natAbs≤32)(hb:ay.natAbs≤32)(hdx:dx.natAbs≤20)(hdy:dy.natAbs≤20){kk:Nat}(hk:kk+32*D≤276)(hpx:Fr D kk px)(hpy:Fr D kk py):
 u_ref04_Segment (c3 (ax:Rat) (c3 (ay:Rat) (c3 0 (c3 ((ax+dx:Int):Rat) (c3 ((ay+dy:Int):Rat) (c3 0 (c3 px (c3 py (c3 0 ())))))))))=some (c3 (Jl dx dy (px-ax) (py-ay)) ()):=by
 have D0:=hpx.1
 have sax:Sm (ax:Rat):=eQ ha (by decide)
 have say:Sm (ay:Rat):=eQ hb (by decide)
 have sbx:Sm ((ax+dx:Int):Rat):=eQ (k:=52) (by omega) (by decide)
 have sby:Sm ((ay+dy:Int):Rat):=eQ (k:=52) (by omega) (by decide)
 have sdx:Sm (dx:Rat):=eQ hdx (by decide)
 have sdy:Sm (dy:Rat):=eQ hdy (by decide)
 have spx:Sm px:=(jV hpx (Nat.le_refl _) hD).sm (by omega) (by decide)
 have spy:Sm py:=(jV hpy (Nat.le_refl _) hD).sm (by omega) (by decide)
 have ebx:((ax+dx:Int):Rat)-(ax:Rat)=(dx:Rat):=by rw[Rat.intCast_add];grind
 have eby:((ay+dy:Int):Rat)-(ay:Rat)=(dy:Rat):=by rw[Rat.intCast_add];grind
 obtain⟨ux,hux⟩:∃ux,ux=px-(ax:Rat):=⟨_,rfl⟩
 obtain⟨uy,huy⟩:∃uy,uy=py-(ay:Rat):=⟨_,rfl⟩
 have fux:Fr D 276 ux:=by rw[hux];exact(hpx.sub (Fr.ofInt D0 ha)).mono (by omega)
 have fuy:Fr D 276 uy:=by rw[huy];exact(hpy.sub (Fr.ofInt D0 hb)).mono (by omega)
 have sux:Sm ux:=(jV fux (Nat.le_refl _) hD).sm (by decide) (by decide)
 have suy:Sm uy:=(jV fuy (Nat.le_refl _) hD).sm (by decide) (by decide)
 have q1:=QS sbx sby sax say
 rw[ebx,eby] at q1
 have q2:=QS spx spy sax say
 rw[←hux,←huy] at q2
 have fx1:Fr D 5520 (ux*(dx:Rat)):=(Fr.muli hdx fux)
 have fx2:Fr D 5520 (uy*(dy:Rat)):=(Fr.muli hdy fuy)
 have q3:=LA sux suy sdx sdy (jV fx1 (Nat.le_refl _) hD) (jV fx2 (Nat.le_refl _) hD) (by decide) (by decide) (by decide)
 have fn1:Fr 1 400 ((dx:Rat)*(dx:Rat)):=(Fr.muli hdx (Fr.mono (Fr.int dx) hdx))
 have fn2:Fr 1 400 ((dy:Rat)*(dy:Rat)):=(Fr.muli hdy (Fr.mono (Fr.int dy) hdy))
 have q4:=LA sdx sdy sdx sdy (jV fn1 (Nat.le_refl _) (Nat.le_refl _)) (jV fn2 (Nat.le_refl _) (Nat.le_refl _)) (by decide) (by decide) (by decide)
 have fx:=(fx1.add fx2)
 have fn:=(fn1.add fn2)
 have sx:=(jV fx (Nat.le_refl _) hD).sm (by decide) (by decide)
 have sn:=(jV fn (Nat.le_refl _) (Nat.le_refl 1)).sm (by decide) (by decide)
 rw[←hux,←huy]
 unfold u_ref04_Segment Jl
 simp only[q1,q2,q3,q4,aY,FI,kT]
 by_cases h1:ux*(dx:Rat)+uy*(dy:Rat)≤0
 ·rw[decide_eq_true (YI.2 h1),if_pos h1]
  have gx:Bd 76176 64 (ux*ux):=jV (fux.mul fux) (by decide) (Nat.mul_le_mul hD hD)
  have gy:Bd 76176 64 (uy*uy):=jV (fuy.mul fuy) (by decide) (Nat.mul_le_mul hD hD)
  have q5:=LA sux suy sux suy gx gy (by decide) (by decide) (by decide)
  simp only[cond_true,q5,aY]
 ·rw[decide_eq_false (fun e=>h1 (YI.1 e)),if_neg h1]
  simp only[cond_false,Ny sx sn,aY]
  by_cases h2:(dx:Rat)*(dx:Rat)+(dy:Rat)*(dy:Rat)≤ux*(dx:Rat)+uy*(dy:Rat)
  ·have h2':0≤mC (ux*(dx:Rat)+uy*(dy:Rat)) ((dx:Rat)*(dx:Rat)+(dy:Rat)*(dy:Rat)):=by
    have:=QR (p:=ux*(dx:Rat)+uy*(dy:Rat)) (q:=(dx:Rat)*(dx:Rat)+(dy:Rat)*(dy:Rat))
    have hn:¬(ux*(dx:Rat)+uy*(dy:Rat)<(dx:Rat)*(dx:Rat)+(dy:Rat)*(dy:Rat)):=by grind
    have:¬_:=fun e=>hn (this.1 e)
    omega
   rw[decide_eq_true h2',if_pos h2]
   have e1:px-((ax+dx:Int):Rat)=ux-dx:=by rw[hux,Rat.intCast_add];grind
   have e2:py-((ay+dy:Int):Rat)=uy-dy:=by rw[huy,Rat.intCast_add];grind
   have q5:=QS spx spy sbx sby
   rw[e1,e2] at q5
   have gx0:Fr D 436 (ux-dx):=(fux.sub (Fr.ofInt D0 hdx)).mono (by omega)
   have gy0:Fr D 436 (uy-dy):=(fuy.sub (Fr.ofInt D0 hdy)).mono (by omega)
   have s1:=(jV gx0 (Nat.le_refl _) hD).sm (by decide) (by decide)
   have s2:=(jV gy0 (Nat.le_refl _) hD).sm (by decide) (by decide)
   have q6:=LA s1 s2 s1 s2 (jV (gx0.mul gx0) (Nat.le_refl _) (Nat.mul_le_mul hD hD)) (jV (gy0.mul gy0) (Nat.le_refl _) (Nat.mul_le_mul hD hD)) (by decide) (by decide) (by decide)
   simp only[cond_true,q5,q6,aY]
  ·have h2':¬0≤mC (ux*(dx:Rat)+uy*(dy:Rat)) ((dx:Rat)*(dx:Rat)+(dy:Rat)*(dy:Rat)):=by
    have:=QR (p:=ux*(dx:Rat)+uy*(dy:Rat)) (q:=(dx:Rat)*(dx:Rat)+(dy:Rat)*(dy:Rat))
    have:=this.2 (by grind)
    omega
   rw[decide_eq_false h2',if_neg h2]
   simp only[cond_false]
   obtain⟨N,hN⟩:∃N:Nat,((dx*dx+dy*dy:Int))=(N:Int):=⟨(dx*dx+dy*dy).toNat,by
    have a1:0≤dx*dx:=by rw[←Int.natAbs_mul_self];exact Int.natCast_nonneg _
    have a2:0≤dy*dy:=by rw[←Int.natAbs_mul_self];exact Int.natCast_nonneg _
    omega⟩
   have hNr:(dx:Rat)*(dx:Rat)+(dy:Rat)*(dy:Rat)=(N:Rat):=by
    rw[←Rat.intCast_mul,←Rat.intCast_mul,←Rat.intCast_add,hN,Rat.intCast_natCast]
   have hN1:N≤800:=by
    have a1:=Nat.mul_le_mul hdx hdx
    have a2:=Nat.mul_le_mul hdy hdy
    have b1:=Int.natAbs_mul_self (a:=dx)
    have b2:=Int.natAbs_mul_self (a:=dy)
    omega
   obtain⟨x,hx⟩:∃x,x=ux*(dx:Rat)+uy*(dy:Rat):=⟨_,rfl⟩
   rw[hNr] at h2 sn ⊢
   rw[←hx] at h1 h2 sx fx ⊢
   have hN0:N≠0:=by
    intro e
    subst e
    have:((0:Nat):Rat)=0:=rfl
    rw[this] at h2
    grind
   have nz:(N:Rat)≠0:=by
    intro e
    have:((N:Int):Rat)=((0:Int):Rat):=by rw[Rat.intCast_natCast];exact e
    have:=Rat.intCast_inj.1 this
    omega
   obtain⟨t,ht⟩:∃t,t=x/(N:Rat):=⟨_,rfl⟩
   have htn:(N:Rat)*t=x:=by rw[ht,Rat.mul_comm,Rat.div_mul_cancel nz]
   have hDN:D*N≤6400:=Nat.mul_le_mul hD hN1
   have DN0:0<D*N:=Nat.mul_pos D0 (Nat.pos_of_ne_zero hN0)
   have ft:Fr (D*N) 11040 t:=Fr.of_mul (Nat.pos_of_ne_zero hN0) fx htn
   have st:=(jV ft (Nat.le_refl _) hDN).sm (by decide) (by decide)
   have q5:=Oa sx sn nz
   rw[←ht] at q5 ⊢
   have q6:=Fg st sdx sdy
   have f1:Fr (D*N) 220800 (t*(dx:Rat)):=Fr.muli hdx ft
   have f2:Fr (D*N) 220800 (t*(dy:Rat)):=Fr.muli hdy ft
   have s1:=(jV f1 (Nat.le_refl _) hDN).sm (by decide) (by decide)
   have s2:=(jV f2 (Nat.le_refl _) hDN).sm (by decide) (by decide)
   have q7:=Ob sax say s1 s2
   have f3:Fr (D*N) 425600 ((ax:Rat)+t*(dx:Rat)):=((Fr.ofInt DN0 ha).add f1).mono (by omega)
   have f4:Fr (D*N) 425600 ((ay:Rat)+t*(dy:Rat)):=((Fr.ofInt DN0 hb).add f2).mono (by omega)
   have s3:=(jV f3 (Nat.le_refl _) hDN).sm (by decide) (by decide)
   have s4:=(jV f4 (Nat.le_refl _) hDN).sm (by decide) (by decide)
   have q8:=QS spx spy s3 s4
   have e1:px-((ax:Rat)+t*(dx:Rat))=ux-t*dx:=by rw[hux];grind
   have e2:py-((ay:Rat)+t*(dy:Rat))=uy-t*dy:=by rw[huy];grind
   rw[e1,e2] at q8
   have fc:Fr D 11040 ((dx:Rat)*uy-(dy:Rat)*ux):=((fuy.imul hdx).sub (fux.imul hdy))
   have k1:(N:Rat)*(ux-t*dx)=-((dy:Rat)*((dx:Rat)*uy-(dy:Rat)*ux)):=by grind
   have k2:(N:Rat)*(uy-t*dy)=(dx:Rat)*((dx:Rat)*uy-(dy:Rat)*ux):=by grind
   have g1:Fr (D*N) 220800 (ux-t*dx):=Fr.of_mul (Nat.pos_of_ne_zero hN0) (fc.imul hdy).neg k1
   have g2:Fr (D*N) 220800 (uy-t*dy):=Fr.of_mul (Nat.pos_of_ne_zero hN0) (fc.imul hdx) k2
   have s5:=(jV g1 (Nat.le_refl _) hDN).sm (by decide) (by decide)
   have s6:=(jV g2 (Nat.le_refl _) hDN).sm (by decide) (by decide)
   have q9:=LA s5 s6 s5 s6 (jV (g1.mul g1) (Nat.le_refl _) (Nat.mul_le_mul hDN hDN)) (jV (g2.mul g2) (Nat.le_refl _) (Nat.mul_le_mul hDN hDN)) (by decide) (by decide) (by decide)
   simp only[q5,q6,q7,q8,q9,aY]
end Go.Eng.Rt
namespace Go.Eng.Tm
def MS(p q:Int×Int):Int:=p.1*q.2-q.1*p.2
def CG:List (Int×Int)→Int
 | a::b::l=>MS a b+CG (b::l)
 | _=>0
def eL:List (Int×Int)→Int
 | []=>0
 | p::l=>CG (p::l++[p])
theorem TJ:∀(u:List (Int×Int)) (a:Int×Int) (v:List (Int×Int)),CG (u++a::v)=CG (u++[a])+CG (a::v)
 | [],a,v=>by simp[CG]
 | [x],a,v=>by simp[CG]
 | x::y::u,a,v=>by
  have h:=TJ (y::u) a v
  simp only[List.cons_append,CG] at h ⊢
  omega
theorem N6(l:List (Int×Int))(a b:Int×Int):CG (l++[a,b])=CG (l++[a])+MS a b:=by
 rw[TJ l a [b]]
 simp[CG]
def qT(l:List (Int×Int))(i:Nat):Int×Int:=l.getD i (0,0)
def sJ(l:List (Int×Int)):Nat→Int
 | 0=>0
 | i+1=>sJ l i+MS (qT l i) (qT l ((i+1)%l.length))
theorem N7{l:List (Int×Int)}:∀{i:Nat},i<l.length→sJ l i=CG (l.take (i+1))
 | 0,h=>by
  cases l with
  | nil=>simp at h
  | cons a l=>simp[sJ,CG]
 | i+1,h=>by
  have ih:=N7 (l:=l) (i:=i) (by omega)
  simp only[sJ]
  rw[ih,Nat.mod_eq_of_lt h]
  have ha:l[i]?=some (qT l i):=by unfold qT;rw[List.getD_eq_getElem?_getD,List.getElem?_eq_getElem (by omega)];rfl
  have hb:l[i+1]?=some (qT l (i+1)):=by unfold qT;rw[List.getD_eq_getElem?_getD,List.getElem?_eq_getElem h];rfl
  rw[List.take_add_one (i:=i+1),hb,List.take_add_one (i:=i),ha]
  simp only[Option.toList_some,List.append_assoc,List.cons_append,List.nil_append]
  rw[N6]
theorem FK(l:List (Int×Int)):sJ l l.length=eL l:=by
 cases l with
 | nil=>rfl
 | cons p l=>
  have h:=N7 (l:=p::l) (i:=l.length) (by simp)
  have e:sJ (p::l) (p::l).length=sJ (p::l) l.length+MS (qT (p::l) l.length) (qT (p::l) ((l.length+1)%(l.length+1))):=rfl
  rw[e,h,Nat.mod_self]
  have ht:(p::l).take (l.length+1)=p::l:=List.take_of_length_le (by simp)
  rw[ht]
  show CG (p::l)+MS (qT (p::l) l.length) p=CG (p::l++[p])
  have hlast:p::l=(p::l).dropLast++[qT (p::l) l.length]:=by
   have h1:=List.dropLast_concat_getLast (l:=p::l) (by simp)
   have h2:(p::l).getLast (by simp)=qT (p::l) l.length:=by
    unfold qT
    rw[List.getD_eq_getElem?_getD,List.getLast_eq_getElem]
    simp
   rw[h2] at h1
   exact h1.symm
  generalize qT (p::l) l.length=z at *
  have e2:p::l++[p]=(p::l).dropLast++[z,p]:=by
   conv=>lhs;rw[hlast]
   simp
  rw[e2,N6,←hlast]
end Go.Eng.Tm
namespace Go.Eng.Rt
open Go.Eng Go.Eng.Tm
def wT(p:Int×Int):T:=.agg [.v (.bool (aK (p.1:Rat))),.sl 1 (aR (p.1:Rat)),.sl 1 (aW (p.1:Rat)),.v (.bool (aK (p.2:Rat))),.sl 1 (aR (p.2:Rat)),.sl 1 (aW (p.2:Rat)),.v (.bool false),.sl 1 [],.sl 1 []]
def Oc(p:Int×Int):Prop:=p.1.natAbs<100∧p.2.natAbs<100
theorem tZ{n:Int}(h:n.natAbs<2147483648):Sm (n:Rat):=⟨by rw[Rat.num_intCast];exact h,by rw[Rat.den_intCast];decide⟩
theorem WA{l:List (Int×Int)}(hl:l.length<1000000){i:Nat}(hi:i<l.length){p q:Int×Int}(hp:l[i]?=some p)(hq:l[(i+1)%l.length]?=some q):
 cP (l.map wT,(i:Int),())=some (aK (p.1:Rat),aR (p.1:Rat),aW (p.1:Rat),aK (p.2:Rat),aR (p.2:Rat),aW (p.2:Rat),false,[],[],aK (q.1:Rat),aR (q.1:Rat),aW (q.1:Rat),aK (q.2:Rat),aR (q.2:Rat),aW (q.2:Rat),false,[],[],()):=by
 have wi:wr .i64 ((i:Int)+1)=((i+1:Nat):Int):=by rw[dA (by omega) (by omega)];push_cast;rfl
 have hgp:(l.map wT)[i]?=some (wT p):=by simp[hp]
 have hgq:(l.map wT)[(i+1)%l.length]?=some (wT q):=by simp[hq]
 have hpl:((l.map wT).length:Int)=(l.length:Int):=by rw[List.length_map]
 have hnz:nz (l.length:Int)=some (l.length:Int):=by unfold nz;rw[if_neg (by omega)]
 have hmod:((i+1:Nat):Int).tmod (l.length:Int)=(((i+1)%l.length:Nat):Int):=rfl
 have cs:∀p,T.bool? (T.cell (wT p) 0)=some (aK (p.1:Rat))∧T.sl? 1 (T.cell (wT p) 1)=some (aR (p.1:Rat))∧T.sl? 1 (T.cell (wT p) 2)=some (aW (p.1:Rat)) ∧
  T.bool? (T.cell (wT p) 3)=some (aK (p.2:Rat))∧T.sl? 1 (T.cell (wT p) 4)=some (aR (p.2:Rat))∧T.sl? 1 (T.cell (wT p) 5)=some (aW (p.2:Rat)) ∧
  T.bool? (T.cell (wT p) 6)=some false∧T.sl? 1 (T.cell (wT p) 7)=some []∧T.sl? 1 (T.cell (wT p) 8)=some []:=fun p=>⟨rfl,tP _ _,tP _ _,rfl,tP _ _,tP _ _,rfl,tP _ _,tP _ _⟩
 obtain⟨a0,a1,a2,a3,a4,a5,a6,a7,a8⟩:=cs p
 obtain⟨b0,b1,b2,b3,b4,b5,b6,b7,b8⟩:=cs q
 unfold cP
 simp only[aL,hpl,hnz,aM,wi,pM,hmod,bU,hgp,hgq,aY,a0,a1,a2,a3,a4,a5,a6,a7,a8,b0,b1,b2,b3,b4,b5,b6,b7,b8]
theorem N8{p q:Int×Int}(hp:Oc p)(hq:Oc q):(MS p q).natAbs≤20000:=by
 have h1:(p.1*q.2).natAbs≤10000:=by
  rw[Int.natAbs_mul]
  exact Nat.mul_le_mul (show _≤100 from Nat.le_of_lt hp.1) (show _≤100 from Nat.le_of_lt hq.2)
 have h2:(q.1*p.2).natAbs≤10000:=by
  rw[Int.natAbs_mul]
  exact Nat.mul_le_mul (show _≤100 from Nat.le_of_lt hq.1) (show _≤100 from Nat.le_of_lt hp.2)
 unfold MS
 omega
theorem CH{l:List (Int×Int)}{i:Nat}(h:i<l.length):l[i]?=some (qT l i)∧qT l i∈l:=by
 have e:l[i]?=some (qT l i):=by unfold qT;rw[List.getD_eq_getElem?_getD,List.getElem?_eq_getElem h];rfl
 exact⟨e,List.mem_of_getElem? e⟩
theorem CI{l:List (Int×Int)}(hl:∀p∈l,Oc p):∀{i:Nat},i≤l.length→(sJ l i).natAbs≤20000*i
 | 0,_=>by simp[sJ]
 | i+1,h=>by
  have ih:=CI hl (i:=i) (by omega)
  have hc:=N8 (hl _ (CH (l:=l) (i:=i) (by omega)).2) (hl _ (CH (l:=l) (i:=(i+1)%l.length) (Nat.mod_lt _ (by omega))).2)
  simp only[sJ]
  omega
def AS(l:List (Int×Int))(i:Nat):(List T×Unit×Unit×Int×Int×Bool×T×T×Bool×List T×List T×Unit):=
 (l.map wT,(),(),(l.length:Int),(i:Int),false,.v (.slice none 0 0),.v (.slice none 0 0),aK (sJ l i:Rat),aR (sJ l i:Rat),aW (sJ l i:Rat),())
theorem Az{l:List (Int×Int)}(hl:∀p∈l,Oc p)(hn:l.length≤1000){i:Nat}(hi:i<l.length):iT (AS l i)=some (.inl (AS l (i+1))):=by
 obtain⟨e1,m1⟩:=CH hi
 obtain⟨e2,m2⟩:=CH (l:=l) (i:=(i+1)%l.length) (Nat.mod_lt _ (by omega))
 have hb:=CI hl (i:=i) (by omega)
 have hc:=N8 (hl _ m1) (hl _ m2)
 have wi:wr .i64 ((i:Int)+1)=((i+1:Nat):Int):=by rw[dA (by omega) (by omega)];push_cast;rfl
 have hlt:decide ((i:Int)<(l.length:Int))=true:=decide_eq_true (by omega)
 have hed:=WA (l:=l) (by omega) hi e1 e2
 have hs:sJ l (i+1)=sJ l i+MS (qT l i) (qT l ((i+1)%l.length)):=rfl
 generalize qT l i=p at *
 generalize qT l ((i+1)%l.length)=q at *
 have sp:=hl _ m1
 have sq:=hl _ m2
 have sm:∀{n:Int},n.natAbs<100→Sm (n:Rat):=fun h=>tZ (by omega)
 have k1:(p.1*q.2).natAbs≤10000:=by
  rw[Int.natAbs_mul]
  exact Nat.mul_le_mul (show _≤100 from Nat.le_of_lt sp.1) (show _≤100 from Nat.le_of_lt sq.2)
 have k2:(q.1*p.2).natAbs≤10000:=by
  rw[Int.natAbs_mul]
  exact Nat.mul_le_mul (show _≤100 from Nat.le_of_lt sq.1) (show _≤100 from Nat.le_of_lt sp.2)
 have f1:=BJ (sm sp.1) (sm sq.2)
 have f2:=BJ (sm sq.1) (sm sp.2)
 rw[←Rat.intCast_mul] at f1 f2
 have f3:=K9 (tZ (n:=p.1*q.2) (by omega)) (tZ (n:=q.1*p.2) (by omega))
 rw[←Rat.intCast_sub] at f3
 have f4:=Lo (tZ (n:=sJ l i) (by omega)) (tZ (n:=MS p q) (by omega))
 rw[←Rat.intCast_add,←hs] at f4
 unfold MS at f4
 unfold iT
 conv=>lhs;unfold AS
 simp only[aG,hlt,cond_true,hed,aY,f1,f2,f3,f4,aM,wi]
 rfl
theorem QT{l:List (Int×Int)}(hl:∀p∈l,Oc p)(hn:l.length≤1000):cB (l.map wT,())=some (aK (eL l:Rat),aR (eL l:Rat),aW (eL l:Rat),()):=by
 have h:=gK (F:=iT) l.length (AS l) fun i hi=>Az hl hn hi
 have hpl:((l.map wT).length:Int)=(l.length:Int):=by rw[List.length_map]
 have fold:(l.map wT,(),(),(l.length:Int),(0:Int),false,T.v (Value.slice none 0 0),T.v (Value.slice none 0 0),false,([]:List T),([]:List T),())=AS l 0:=by
  have e:((sJ l 0:Int):Rat)=0:=rfl
  unfold AS
  rw[e,uZ,vA,vB];rfl
 have hout:aJ iT (AS l l.length)=some (.inl ((),(),false,T.v (Value.slice none 0 0),T.v (Value.slice none 0 0),aK (sJ l l.length:Rat),aR (sJ l l.length:Rat),aW (sJ l l.length:Rat),())):=by
  refine aV ?_
  have hlt:decide ((l.length:Int)<(l.length:Int))=false:=decide_eq_false (by omega)
  unfold iT AS
  simp only[aG,hlt,cond_false]
 rw[←FK]
 unfold cB
 simp only[aL,hpl,fold,h,hout,aY,aN]
end Go.Eng.Rt
namespace Go.Eng.Rt
open Go.Eng Go.Eng.Tw Go.Eng.Tm
theorem QU{a b c d e f:Rat}(ha:Sm a)(hb:Sm b)(hc:Sm c)(hd:Sm d)(he:Sm e)(hf:Sm f):fA (c3 a (c3 b (c3 c (c3 d (c3 e (c3 f ()))))))=some (c3 (a-d) (c3 (b-e) (c3 (c-f) ()))):=by
 unfold fA kL
 simp only[K9 ha hd,K9 hb he,K9 hc hf,aY,aN]
theorem Jq(q:Rat):q-0=q:=by grind
theorem Rg(q:Rat):0*q=0:=Rat.zero_mul q
section
variable {ax ay dx dy:Int} {px py pz:Rat} {D:Nat} (hD:D≤8) (ha:ax.natAbs≤32) (hb:ay.natAbs≤32) (hdx:dx.natAbs≤20) (hdy:dy.natAbs≤20) (hpx:Fr D 32 px) (hpy:Fr D 32 py) (hpz:Fr 2 32 pz)
include hD ha hb hdx hdy hpx hpy hpz
theorem GU:bC (c3 (ax:Rat) (c3 (ay:Rat) (c3 0 (c3 ((ax+dx:Int):Rat) (c3 ((ay+dy:Int):Rat) (c3 0 (c3 px (c3 py (c3 pz ())))))))))=some (jA ((dx:Rat)*(py-ay)-(dy:Rat)*(px-ax)),()) ∧
 u_ref04_Orient2 (c3 (ax:Rat) (c3 (ay:Rat) (c3 0 (c3 ((ax+dx:Int):Rat) (c3 ((ay+dy:Int):Rat) (c3 0 (c3 px (c3 py (c3 pz ())))))))))=some (jA ((dx:Rat)*(py-ay)-(dy:Rat)*(px-ax)),()):=by
 have D0:=hpx.1
 have sax:Sm (ax:Rat):=eQ ha (by decide)
 have say:Sm (ay:Rat):=eQ hb (by decide)
 have sbx:Sm ((ax+dx:Int):Rat):=eQ (k:=52) (by omega) (by decide)
 have sby:Sm ((ay+dy:Int):Rat):=eQ (k:=52) (by omega) (by decide)
 have sdx:Sm (dx:Rat):=eQ hdx (by decide)
 have sdy:Sm (dy:Rat):=eQ hdy (by decide)
 have spx:Sm px:=(jV hpx (Nat.le_refl _) hD).sm (by decide) (by decide)
 have spy:Sm py:=(jV hpy (Nat.le_refl _) hD).sm (by decide) (by decide)
 have spz:Sm pz:=(jV hpz (Nat.le_refl _) (Nat.le_refl 2)).sm (by decide) (by decide)
 have ebx:((ax+dx:Int):Rat)-(ax:Rat)=(dx:Rat):=by rw[Rat.intCast_add];grind
 have eby:((ay+dy:Int):Rat)-(ay:Rat)=(dy:Rat):=by rw[Rat.intCast_add];grind
 obtain⟨ux,hux⟩:∃ux,ux=px-(ax:Rat):=⟨_,rfl⟩
 obtain⟨uy,huy⟩:∃uy,uy=py-(ay:Rat):=⟨_,rfl⟩
 have fux:Fr D 288 ux:=by rw[hux];exact(hpx.sub (Fr.ofInt D0 ha)).mono (by omega)
 have fuy:Fr D 288 uy:=by rw[huy];exact(hpy.sub (Fr.ofInt D0 hb)).mono (by omega)
 have sux:Sm ux:=(jV fux (Nat.le_refl _) hD).sm (by decide) (by decide)
 have suy:Sm uy:=(jV fuy (Nat.le_refl _) hD).sm (by decide) (by decide)
 have f1:Fr D 5760 ((dx:Rat)*uy):=fuy.imul hdx
 have f2:Fr D 5760 ((dy:Rat)*ux):=fux.imul hdy
 have s1:=(jV f1 (Nat.le_refl _) hD).sm (by decide) (by decide)
 have s2:=(jV f2 (Nat.le_refl _) hD).sm (by decide) (by decide)
 have sc:=(jV (f1.sub f2) (Nat.le_refl _) hD).sm (by decide) (by decide)
 have f3:Fr 2 640 ((dx:Rat)*pz):=hpz.imul hdx
 have f4:Fr 2 640 ((dy:Rat)*pz):=hpz.imul hdy
 have s3:=(jV f3 (Nat.le_refl _) (Nat.le_refl 2)).sm (by decide) (by decide)
 have s4:=(jV f4 (Nat.le_refl _) (Nat.le_refl 2)).sm (by decide) (by decide)
 rw[←hux,←huy]
 constructor
 ·have q1:=QU sbx sby ED sax say ED
  have q2:=QU spx spy spz sax say ED
  rw[ebx,eby,Jq] at q1
  rw[←hux,←huy,Jq] at q2
  have m1:=BJ ED suy
  have m2:=BJ ED sux
  rw[Rg] at m1 m2
  unfold bC lB
  simp only[q1,q2,aY,BJ sdx suy,BJ sdy sux,BJ sdx spz,BJ sdy spz,m1,m2,K9 s1 s2,K9 s4 ED,K9 ED s3,aN,zI sc.fit]
 ·have q1:=Ff sbx sby ED sax say ED
  have q2:=Ff spx spy spz sax say ED
  rw[ebx,eby,Jq] at q1
  rw[←hux,←huy,Jq] at q2
  have m1:=qN ED suy
  have m2:=qN ED sux
  rw[Rg] at m1 m2
  unfold u_ref04_Orient2 u_ref04_Cross
  simp only[q1,q2,aY,qN sdx suy,qN sdy sux,qN sdx spz,qN sdy spz,m1,m2,FJ s1 s2,FJ s4 ED,FJ ED s3,aN,FI]
end
theorem Jr{a b:Rat}(ha:Sm a)(hb:Sm b):Sm (zL a b):=by unfold zL;split <;> assumption
theorem Js{a b:Rat}(ha:Sm a)(hb:Sm b):Sm (zJ a b):=by unfold zJ;split <;> assumption
theorem N9{a b x:Rat}(ha:Sm a)(hb:Sm b)(hx:Sm x):iR (c3 a (c3 b (c3 x ())))=some (decide (zL a b≤x∧x≤zJ a b),()):=by
 unfold iR
 simp only[Rf ha hb,Qz ha hb,GT (Jr ha hb) hx,GT hx (Js ha hb),aY,kT]
 by_cases h1:zL a b≤x
 ·rw[decide_eq_true (oI.2 h1)]
  by_cases h2:x≤zJ a b
  ·rw[decide_eq_true (oI.2 h2),decide_eq_true ⟨h1,h2⟩];rfl
  ·rw[decide_eq_false (show ¬mC x (zJ a b)≤0 from fun e=>h2 (oI.1 e)),decide_eq_false (show ¬(zL a b≤x∧x≤zJ a b) from fun e=>h2 e.2)];rfl
 ·rw[decide_eq_false (show ¬mC (zL a b) x≤0 from fun e=>h1 (oI.1 e)),decide_eq_false (show ¬(zL a b≤x∧x≤zJ a b) from fun e=>h1 e.1)];rfl
theorem YJ{a x:Rat}{d b:Rat}(hb:b=a+d):(zL a b≤x∧x≤zJ a b)↔Bt d (x-a):=by
 unfold zL zJ Bt
 simp only[QR,Jn]
 by_cases h1:b<a
 ·rw[if_pos h1,if_neg (show ¬a<b by grind)]
  constructor
  ·intro h;right;grind
  ·rintro (h | h) <;> grind
 ·rw[if_neg h1]
  by_cases h2:a<b
  ·rw[if_pos h2]
   constructor
   ·intro h;left;grind
   ·rintro (h | h) <;> grind
  ·rw[if_neg h2]
   constructor
   ·intro h;left;grind
   ·rintro (h | h) <;> grind
def Od(dx dy ux uy:Rat):Prop:=dx*uy-dy*ux=0∧Bt dx ux∧Bt dy uy
open Classical in
noncomputable def Br(dx dy ux uy:Rat):Bool:=decide (Od dx dy ux uy)
open Classical in
theorem Fh{dx dy ux uy:Rat}(h:Od dx dy ux uy):Br dx dy ux uy=true:=by unfold Br;exact decide_eq_true h
open Classical in
theorem TK{dx dy ux uy:Rat}(h:¬Od dx dy ux uy):Br dx dy ux uy=false:=by unfold Br;exact decide_eq_false h
section
variable {ax ay dx dy:Int} {px py pz:Rat} {D:Nat} (hD:D≤8) (ha:ax.natAbs≤32) (hb:ay.natAbs≤32) (hdx:dx.natAbs≤20) (hdy:dy.natAbs≤20) (hpx:Fr D 32 px) (hpy:Fr D 32 py) (hpz:Fr 2 32 pz)
include hD ha hb hdx hdy hpx hpy hpz
theorem Te:iS (c3 (ax:Rat) (c3 (ay:Rat) (c3 0 (c3 ((ax+dx:Int):Rat) (c3 ((ay+dy:Int):Rat) (c3 0 (c3 px (c3 py (c3 pz ())))))))))=some (Br dx dy (px-ax) (py-ay),()):=by
 have sax:Sm (ax:Rat):=eQ ha (by decide)
 have say:Sm (ay:Rat):=eQ hb (by decide)
 have sbx:Sm ((ax+dx:Int):Rat):=eQ (k:=52) (by omega) (by decide)
 have sby:Sm ((ay+dy:Int):Rat):=eQ (k:=52) (by omega) (by decide)
 have spx:Sm px:=(jV hpx (Nat.le_refl _) hD).sm (by decide) (by decide)
 have spy:Sm py:=(jV hpy (Nat.le_refl _) hD).sm (by decide) (by decide)
 unfold iS
 simp only[(GU hD ha hb hdx hdy hpx hpy hpz).1,aY,aO,N9 sax sbx spx,N9 say sby spy]
 have b1:=YJ (a:=(ax:Rat)) (x:=px) (d:=(dx:Rat)) (b:=((ax+dx:Int):Rat)) (Rat.intCast_add ..)
 have b2:=YJ (a:=(ay:Rat)) (x:=py) (d:=(dy:Rat)) (b:=((ay+dy:Int):Rat)) (Rat.intCast_add ..)
 have d1:∀{a b x:Rat} {d:Rat},((zL a b≤x∧x≤zJ a b)↔Bt d (x-a))→Bt d (x-a)→decide (zL a b≤x∧x≤zJ a b)=true:=fun h h'=>decide_eq_true (h.2 h')
 have d2:∀{a b x:Rat} {d:Rat},((zL a b≤x∧x≤zJ a b)↔Bt d (x-a))→¬Bt d (x-a)→decide (zL a b≤x∧x≤zJ a b)=false:=fun h h'=>decide_eq_false fun e=>h' (h.1 e)
 by_cases h0:(dx:Rat)*(py-ay)-(dy:Rat)*(px-ax)=0
 ·rw[decide_eq_true (D7.2 h0)]
  by_cases h1:Bt (dx:Rat) (px-ax)
  ·rw[d1 b1 h1]
   by_cases h2:Bt (dy:Rat) (py-ay)
   ·rw[d1 b2 h2,Fh ⟨h0,h1,h2⟩];rfl
   ·rw[d2 b2 h2,TK fun e=>h2 e.2.2];rfl
  ·rw[d2 b1 h1,TK fun e=>h1 e.2.1];rfl
 ·rw[decide_eq_false (fun e=>h0 (D7.1 e)),TK fun e=>h0 e.1];rfl
end
theorem Tf{ax ay dx dy:Int}{px py pz:Rat}{D:Nat}(hD:D≤8)(ha:ax.natAbs≤32)(hb:ay.natAbs≤32)(hdx:dx.natAbs≤20)(hdy:dy.natAbs≤20){kk:Nat}(hk:kk+32*D≤276)(hpx:Fr D kk px)(hpy:Fr D kk py):
 u_ref21_on (c3 (ax:Rat) (c3 (ay:Rat) (c3 0 (c3 ((ax+dx:Int):Rat) (c3 ((ay+dy:Int):Rat) (c3 0 (c3 px (c3 py (c3 pz ())))))))))=some (Br dx dy (px-ax) (py-ay),()):=by
 have hs:=Ay hD ha hb hdx hdy hk hpx hpy
 have hf:∀a b c:Rat,u_ref21_flat (c3 a (c3 b (c3 c ())))=some (c3 a (c3 b (c3 0 ()))):=fun a b c=>by
  unfold u_ref21_flat
  show some (aK a,aR a,aW a,aK b,aR b,aW b,false,[],[],())=some (aK a,aR a,aW a,aK b,aR b,aW b,aK 0,aR 0,aW 0,())
  rw[N4,N5];rfl
 unfold u_ref21_on
 simp only[hf,hs,aY,FI,aO]
 by_cases h:Od (dx:Rat) dy (px-ax) (py-ay)
 ·rw[Fh h,decide_eq_true (D7.2 ((qFd ..).2 h))]
 ·rw[TK h,decide_eq_false fun e=>h ((qFd ..).1 (D7.1 e))]
end Go.Eng.Rt
namespace Go.Eng.Rt
open Go.Eng Go.Eng.Tw Go.Eng.Tm
def Bx(l:List (Int×Int)):Prop:=l.length≤1000∧(∀p∈l,p.1.natAbs≤32∧p.2.natAbs≤32)∧∀p∈l,∀q∈l,(q.1-p.1).natAbs≤20∧(q.2-p.2).natAbs≤20
def Pp(D k:Nat)(px py pz:Rat):Prop:=D≤8∧Fr D k px∧Fr D k py∧Fr 2 k pz
def Pr(D:Nat)(px py pz:Rat):Prop:=Pp D 32 px py pz∧∃k,k+32*D≤276∧Fr D k px∧Fr D k py
abbrev lit{β:Type}(p q:Int×Int)(r:β):Bool×List T×List T×Bool×List T×List T×Bool×List T×List T×Bool×List T×List T×Bool×List T×List T×Bool×List T×List T×β:=(aK (p.1:Rat),aR (p.1:Rat),aW (p.1:Rat),aK (p.2:Rat),aR (p.2:Rat),aW (p.2:Rat),false,[],[],aK (q.1:Rat),aR (q.1:Rat),aW (q.1:Rat),aK (q.2:Rat),aR (q.2:Rat),aW (q.2:Rat),false,[],[],r)
theorem Fi{β:Type}(p q:Int×Int)(r:β):c3 (p.1:Rat) (c3 (p.2:Rat) (c3 0 (c3 ((p.1+(q.1-p.1):Int):Rat) (c3 ((p.2+(q.2-p.2):Int):Rat) (c3 0 r)))))=lit p q r:=by
 have e1:p.1+(q.1-p.1)=q.1:=by omega
 have e2:p.2+(q.2-p.2)=q.2:=by omega
 rw[z3,e1,e2,z3]
theorem cells(p:Int×Int):T.bool? (T.cell (wT p) 0)=some (aK (p.1:Rat))∧T.sl? 1 (T.cell (wT p) 1)=some (aR (p.1:Rat))∧T.sl? 1 (T.cell (wT p) 2)=some (aW (p.1:Rat)) ∧
 T.bool? (T.cell (wT p) 3)=some (aK (p.2:Rat))∧T.sl? 1 (T.cell (wT p) 4)=some (aR (p.2:Rat))∧T.sl? 1 (T.cell (wT p) 5)=some (aW (p.2:Rat)) ∧
 T.bool? (T.cell (wT p) 6)=some false∧T.sl? 1 (T.cell (wT p) 7)=some []∧T.sl? 1 (T.cell (wT p) 8)=some []:=⟨rfl,tP _ _,tP _ _,rfl,tP _ _,tP _ _,rfl,tP _ _,tP _ _⟩
def sE(p q:Int×Int)(px py:Rat):Int:=jA (((q.1-p.1:Int):Rat)*(py-p.2)-((q.2-p.2:Int):Rat)*(px-p.1))
theorem QV{p q:Int×Int}(h1:p.1.natAbs≤32)(h2:p.2.natAbs≤32)(h3:(q.1-p.1).natAbs≤20)(h4:(q.2-p.2).natAbs≤20){D:Nat}{px py pz:Rat}(hp:Pp D 32 px py pz):
 iS (lit p q (c3 px (c3 py (c3 pz ()))))=some (Br ((q.1-p.1:Int):Rat) ((q.2-p.2:Int):Rat) (px-p.1) (py-p.2),())∧bC (lit p q (c3 px (c3 py (c3 pz ()))))=some (sE p q px py,())∧u_ref04_Orient2 (lit p q (c3 px (c3 py (c3 pz ()))))=some (sE p q px py,()):=by
 obtain⟨hD,f1,f2,f3⟩:=hp
 have a1:=Te hD h1 h2 h3 h4 f1 f2 f3
 have a2:=GU hD h1 h2 h3 h4 f1 f2 f3
 rw[Fi] at a1 a2
 exact⟨a1,a2.1,a2.2⟩
theorem Oe{p q:Int×Int}(h1:p.1.natAbs≤32)(h2:p.2.natAbs≤32)(h3:(q.1-p.1).natAbs≤20)(h4:(q.2-p.2).natAbs≤20){D:Nat}{px py pz:Rat}(hp:Pr D px py pz):
 u_ref21_on (lit p q (c3 px (c3 py (c3 pz ()))))=some (Br ((q.1-p.1:Int):Rat) ((q.2-p.2:Int):Rat) (px-p.1) (py-p.2),()):=by
 obtain⟨⟨hD,_⟩,k,hk,f1,f2⟩:=hp
 have a1:=Tf (pz:=pz) hD h1 h2 h3 h4 hk f1 f2
 rw[Fi] at a1
 exact a1
theorem Pr.up{D:Nat}{px py pz:Rat}(h:Pr D px py pz):Pp D 32 px py pz:=h.1
theorem Pr.of{D:Nat}{px py pz:Rat}(h:Pp D 20 px py pz):Pr D px py pz:=⟨⟨h.1,h.2.1.mono (by decide),h.2.2.1.mono (by decide),h.2.2.2.mono (by decide)⟩,20,by have:=h.1;omega,h.2.1,h.2.2.1⟩
def PS(l:List (Int×Int))(px py pz:Rat)(i:Nat)(n:Int):List T×Unit×Int×Int×Int×Bool×List T×List T×Bool×List T×List T×Bool×List T×List T×Unit:=(l.map wT,(),n,(l.length:Int),(i:Int),c3 px (c3 py (c3 pz ())))
def Rh(f g:Bool)(s n:Int):Int:=bif f then (bif g then n else bif decide (0<s) then wr .i64 (n+1) else n) else (bif g then (bif decide (s<0) then wr .i64 (n-1) else n) else n)
section
variable {l:List (Int×Int)} (hB:Bx l) {D:Nat} {px py pz:Rat} {i:Nat} (hi:i<l.length) (n:Int)
include hB hi
theorem Lr(hp:Pp D 32 px py pz):eT (PS l px py pz i n)=(bif Br (((qT l ((i+1)%l.length)).1-(qT l i).1:Int):Rat) (((qT l ((i+1)%l.length)).2-(qT l i).2:Int):Rat) (px-(qT l i).1) (py-(qT l i).2) then some (.inr (.inl (0,false,()))) else some (.inl (PS l px py pz (i+1) (Rh (decide (mC ((qT l i).2:Rat) py≤0)) (decide (mC ((qT l ((i+1)%l.length)).2:Rat) py≤0)) (sE (qT l i) (qT l ((i+1)%l.length)) px py) n)))):=by
 obtain⟨b1,b2,b3⟩:=hB
 have hj:(i+1)%l.length<l.length:=Nat.mod_lt _ (by omega)
 obtain⟨g1,m1⟩:=CH hi
 obtain⟨g2,m2⟩:=CH hj
 obtain⟨p,hpe⟩:∃p,p=qT l i:=⟨_,rfl⟩
 obtain⟨q,hqe⟩:∃q,q=qT l ((i+1)%l.length):=⟨_,rfl⟩
 rw[←hpe] at g1 m1
 rw[←hqe] at g2 m2
 rw[←hpe,←hqe]
 have c1:=b2 p m1
 have c2:=b2 q m2
 have c5:=b3 p m1 q m2
 have sy:Sm py:=(jV hp.2.2.1 (Nat.le_refl _) hp.1).sm (by decide) (by decide)
 have wi:wr .i64 ((i:Int)+1)=((i+1:Nat):Int):=by rw[dA (by omega) (by omega)];push_cast;rfl
 have hlt:decide ((i:Int)<(l.length:Int))=true:=decide_eq_true (by omega)
 obtain⟨e1,e2,_⟩:=QV (q:=q) c1.1 c1.2 c5.1 c5.2 hp
 have he:=WA (by omega) hi g1 g2
 have k1:=GT (eQ c1.2 (by decide)) sy
 have k2:=GT (eQ c2.2 (by decide)) sy
 unfold eT PS Rh
 simp -implicitDefEqProofs only[aG,kT,aM,bK,hlt,cond_true,he,aY,e1,k1,k2,e2]
 generalize Br ((q.1-p.1:Int):Rat) ((q.2-p.2:Int):Rat) (px-p.1) (py-p.2)=b
 generalize sE p q px py=s
 generalize decide (mC (p.2:Rat) py≤0)=f
 generalize decide (mC (q.2:Rat) py≤0)=g
 generalize decide (0<s)=h1
 generalize decide (s<0)=h2
 cases b with
 | true=>simp -implicitDefEqProofs only[cond_true,aY,aN]
 | false=>cases f <;> cases g <;> cases h1 <;> cases h2 <;> simp -implicitDefEqProofs only[cond_true,cond_false,Bool.not_true,Bool.not_false,aY,aN,qQ,wi]
end
end Go.Eng.Rt
namespace Go.Eng.Tg
open Go.Eng.Tw
abbrev Q:=Rat×Rat
def cr(a b p:Q):Rat:=(b.1-a.1)*(p.2-a.2)-(b.2-a.2)*(p.1-a.1)
def On(a b p:Q):Prop:=cr a b p=0∧Bt (b.1-a.1) (p.1-a.1)∧Bt (b.2-a.2) (p.2-a.2)
def jE(a b c d:Q):Prop:=On a b c∨On a b d∨On c d a∨On c d b∨(cr a b c*cr a b d<0∧cr c d a*cr c d b<0)
def mE(a b:Q)(t:Rat):Q:=(a.1+t*(b.1-a.1),a.2+t*(b.2-a.2))
theorem wG(a b x y:Q)(t:Rat):cr a b (mE x y t)=(1-t)*cr a b x+t*cr a b y:=by
 unfold cr mE;grind
theorem H7(a b p:Q):cr b a p=-cr a b p:=by unfold cr;grind
theorem Jt(a b:Q):cr a b a=0:=by unfold cr;grind
theorem Ls{d t:Rat}(h0:0≤t)(h1:t≤1):Bt d (t*d):=by
 rcases Rat.le_total (a:=0) (b:=d) with hd | hd
 ·left
  have a1:=Rat.mul_nonneg h0 hd
  have a2:=Rat.mul_nonneg (show (0:Rat)≤1-t by grind) hd
  exact⟨a1,by grind⟩
 ·right
  have a1:=Rat.mul_nonneg h0 (show (0:Rat)≤-d by grind)
  have a2:=Rat.mul_nonneg (show (0:Rat)≤1-t by grind) (show (0:Rat)≤-d by grind)
  exact⟨by grind,by grind⟩
theorem qO{a b:Q}{t:Rat}(h0:0≤t)(h1:t≤1):On a b (mE a b t):=by
 refine⟨by unfold cr mE;grind,?_,?_⟩
 ·have:=Ls (d:=b.1-a.1) h0 h1
  have e:(mE a b t).1-a.1=t*(b.1-a.1):=by unfold mE;grind
  rw[e];exact this
 ·have:=Ls (d:=b.2-a.2) h0 h1
  have e:(mE a b t).2-a.2=t*(b.2-a.2):=by unfold mE;grind
  rw[e];exact this
theorem qD{a b:Q}(h1:a.1=b.1)(h2:a.2=b.2):a=b:=Prod.ext h1 h2
theorem wH{n d:Rat}(hd:d≠0):∃t,t*d=n:=⟨n/d,Rat.div_mul_cancel hd⟩
theorem tG{a b:Rat}(h:a*b=0)(ha:a≠0):b=0:=by
 rcases Rat.mul_eq_zero.1 h with h | h
 ·exact absurd h ha
 ·exact h
theorem Fj{c d p:Q}(hne:c≠d)(h:cr c d p=0):∃t,p=mE c d t:=by
 unfold cr at h
 by_cases h1:d.1-c.1=0
 ·have h2:d.2-c.2≠0:=fun e=>hne (qD (by grind) (by grind))
  obtain⟨t,ht⟩:=wH (n:=p.2-c.2) h2
  refine⟨t,qD ?_ ?_⟩
  ·show p.1=c.1+t*(d.1-c.1)
   rw[h1] at h ⊢
   have:(d.2-c.2)*(p.1-c.1)=0:=by grind
   have:=tG this h2
   grind
  ·show p.2=c.2+t*(d.2-c.2)
   grind
 ·obtain⟨t,ht⟩:=wH (n:=p.1-c.1) h1
  refine⟨t,qD ?_ ?_⟩
  ·show p.1=c.1+t*(d.1-c.1)
   grind
  ·show p.2=c.2+t*(d.2-c.2)
   have:(d.1-c.1)*(p.2-c.2-t*(d.2-c.2))=0:=by grind
   have:=tG this h1
   grind
theorem Fk{d t:Rat}(hd:d≠0)(h:Bt d (t*d)):0≤t∧t≤1:=by
 rcases h with⟨h1,h2⟩ | ⟨h1,h2⟩
 ·have hd0:0<d:=by grind
  refine⟨lE hd0 (by grind),?_⟩
  have:=lE (n:=d) (u:=1-t) hd0 (by grind)
  grind
 ·have hd0:0 < -d:=by grind
  refine⟨lE hd0 (by grind),?_⟩
  have:=lE (n:=-d) (u:=1-t) hd0 (by grind)
  grind
theorem LB{a b z:Q}(hne:a≠b)(h:On a b z):∃t,0≤t∧t≤1∧z=mE a b t:=by
 obtain⟨h0,h1,h2⟩:=h
 obtain⟨t,rfl⟩:=Fj hne h0
 have e1:(mE a b t).1-a.1=t*(b.1-a.1):=by unfold mE;grind
 have e2:(mE a b t).2-a.2=t*(b.2-a.2):=by unfold mE;grind
 rw[e1] at h1
 rw[e2] at h2
 by_cases hx:b.1-a.1=0
 ·have hy:b.2-a.2≠0:=fun e=>hne (qD (by grind) (by grind))
  obtain⟨g1,g2⟩:=Fk hy h2
  exact⟨t,g1,g2,rfl⟩
 ·obtain⟨g1,g2⟩:=Fk hx h1
  exact⟨t,g1,g2,rfl⟩
theorem H8{a b p:Q}(h:On a b p):On b a p:=by
 obtain⟨h0,h1,h2⟩:=h
 refine⟨by rw[H7,h0];grind,?_,?_⟩
 ·unfold Bt at *;grind
 ·unfold Bt at *;grind
theorem TL{a b c d:Q}(h:jE a b c d):jE b a c d:=by
 rcases h with h | h | h | h | h
 ·exact .inl (H8 h)
 ·exact .inr (.inl (H8 h))
 ·exact .inr (.inr (.inr (.inl h)))
 ·exact .inr (.inr (.inl h))
 ·refine .inr (.inr (.inr (.inr ⟨?_,?_⟩)))
  ·rw[H7 a b c,H7 a b d];grind
  ·grind
theorem CJ{a b c d:Q}(h:jE a b c d):jE c d a b:=by
 rcases h with h | h | h | h | h
 ·exact .inr (.inr (.inl h))
 ·exact .inr (.inr (.inr (.inl h)))
 ·exact .inl h
 ·exact .inr (.inl h)
 ·exact .inr (.inr (.inr (.inr ⟨h.2,h.1⟩)))
theorem neg_mul{a b:Rat}(ha:0<a)(hb:b<0):a*b<0:=by
 have:=Rat.mul_pos ha (show (0:Rat) < -b by grind)
 grind
theorem Lt{A B t:Rat}(h0:0≤t)(h1:t≤1)(h:(1-t)*A+t*B=0):A*B<0∨(A=0∧(t=0∨B=0))∨(B=0∧(t=1∨A=0)):=by
 have u0:(0:Rat)≤1-t:=by grind
 by_cases ha:A=0
 ·right;left
  subst ha
  have:t*B=0:=by grind
  exact⟨rfl,Rat.mul_eq_zero.1 this⟩
 by_cases hb:B=0
 ·right;right
  subst hb
  have:(1-t)*A=0:=by grind
  rcases Rat.mul_eq_zero.1 this with h | h
  ·exact⟨rfl,.inl (by grind)⟩
  ·exact⟨rfl,.inr h⟩
 left
 rcases Rat.le_total (a:=0) (b:=A) with pa | pa
 ·have pa':0<A:=by grind
  rcases Rat.le_total (a:=0) (b:=B) with pb | pb
  ·exfalso
   have m1:=Rat.mul_nonneg u0 pa
   have m2:=Rat.mul_nonneg h0 pb
   have z1:(1-t)*A=0:=by grind
   have z2:t*B=0:=by grind
   rcases Rat.mul_eq_zero.1 z1 with z | z
   ·rcases Rat.mul_eq_zero.1 z2 with y | y
    ·grind
    ·exact hb y
   ·exact ha z
  ·exact neg_mul pa' (by grind)
 ·have pa':0 < -A:=by grind
  rcases Rat.le_total (a:=0) (b:=B) with pb | pb
  ·have:=neg_mul (show 0<B by grind) (show A<0 by grind)
   grind
  ·exfalso
   have m1:=Rat.mul_nonneg u0 (show 0≤-A by grind)
   have m2:=Rat.mul_nonneg h0 (show 0≤-B by grind)
   have z1:(1-t)*A=0:=by grind
   have z2:t*B=0:=by grind
   rcases Rat.mul_eq_zero.1 z1 with z | z
   ·rcases Rat.mul_eq_zero.1 z2 with y | y
    ·grind
    ·exact hb y
   ·exact ha z
theorem Ba(a b:Q):mE a b 0=a:=by unfold mE;exact qD (by show a.1+0*_=a.1;grind) (by show a.2+0*_=a.2;grind)
theorem Bb(a b:Q):mE a b 1=b:=by unfold mE;exact qD (by show a.1+1*(b.1-a.1)=b.1;grind) (by show a.2+1*(b.2-a.2)=b.2;grind)
theorem YK(c d:Q)(x y t:Rat):mE (mE c d x) (mE c d y) t=mE c d (x+t*(y-x)):=by
 unfold mE
 exact qD (by dsimp only;grind) (by dsimp only;grind)
theorem wI{a b c d z:Q}(hab:a≠b)(hcd:c≠d)(ha:cr c d a=0)(hb:cr c d b=0)(h1:On a b z)(h2:On c d z):jE a b c d:=by
 obtain⟨x,rfl⟩:=Fj hcd ha
 obtain⟨y,rfl⟩:=Fj hcd hb
 obtain⟨t,t0,t1,ht⟩:=LB hab h1
 obtain⟨s,s0,s1,hs⟩:=LB hcd h2
 rw[YK] at ht
 have e:s=x+t*(y-x):=by
  rw[hs] at ht
  have e1:c.1+s*(d.1-c.1)=c.1+(x+t*(y-x))*(d.1-c.1):=congrArg Prod.fst ht
  have e2:c.2+s*(d.2-c.2)=c.2+(x+t*(y-x))*(d.2-c.2):=congrArg Prod.snd ht
  by_cases hx:d.1-c.1=0
  ·have hy:d.2-c.2≠0:=fun e=>hcd (qD (by grind) (by grind))
   have:=tG (show (d.2-c.2)*(s-(x+t*(y-x)))=0 by grind) hy
   grind
  ·have:=tG (show (d.1-c.1)*(s-(x+t*(y-x)))=0 by grind) hx
   grind
 by_cases hx:0≤x∧x≤1
 ·exact .inr (.inr (.inl (qO hx.1 hx.2)))
 by_cases hy:0≤y∧y≤1
 ·exact .inr (.inr (.inr (.inl (qO hy.1 hy.2))))
 have key:∃r,0≤r∧r≤1∧x+r*(y-x)=0:=by
  have hne:y-x≠0:=by
   intro h
   have:s=x:=by rw[e,h];grind
   exact hx ⟨by grind,by grind⟩
  obtain⟨r,hr⟩:=wH (n:=-x) hne
  refine⟨r,?_,?_,by grind⟩
  ·rcases Rat.le_total (a:=0) (b:=y-x) with p | p
   ·have:0<y-x:=by grind
    refine lE this ?_
    have q:=Rat.mul_nonneg t0 p
    have q2:=Rat.mul_nonneg (show (0:Rat)≤1-t by grind) p
    have:¬(0≤x∧x≤1):=hx
    have:x<0:=by
     rcases Rat.le_total (a:=0) (b:=x) with w | w
     ·exfalso;apply hx;exact⟨w,by grind⟩
     ·by_cases w0:x=0
      ·exfalso;apply hx;subst w0;exact⟨Rat.le_refl,by grind⟩
      ·grind
    grind
   ·have p':0<x-y:=by grind
    have q:=Rat.mul_nonneg t0 (show 0≤x-y by grind)
    have q2:=Rat.mul_nonneg (show (0:Rat)≤1-t by grind) (show 0≤x-y by grind)
    have:1<x:=by
     rcases Rat.le_total (a:=x) (b:=1) with w | w
     ·exfalso;apply hx;exact⟨by grind,w⟩
     ·by_cases w0:x=1
      ·exfalso;apply hx;subst w0;exact⟨by grind,Rat.le_refl⟩
      ·grind
    exact lE p' (by grind)
  ·rcases Rat.le_total (a:=0) (b:=y-x) with p | p
   ·have p':0<y-x:=by grind
    have q:=Rat.mul_nonneg t0 p
    have q2:=Rat.mul_nonneg (show (0:Rat)≤1-t by grind) p
    have:0≤y:=by
     rcases Rat.le_total (a:=0) (b:=y) with w | w
     ·exact w
     ·exfalso;apply hy;exact⟨by grind,by grind⟩
    have:=lE (n:=y-x) (u:=1-r) p' (by grind)
    grind
   ·have p':0<x-y:=by grind
    have q:=Rat.mul_nonneg t0 (show 0≤x-y by grind)
    have q2:=Rat.mul_nonneg (show (0:Rat)≤1-t by grind) (show 0≤x-y by grind)
    have:y≤0:=by
     rcases Rat.le_total (a:=y) (b:=0) with w | w
     ·exact w
     ·exfalso;apply hy;exact⟨w,by grind⟩
    have:=lE (n:=x-y) (u:=1-r) p' (by grind)
    grind
 obtain⟨r,r0,r1,hr⟩:=key
 refine .inl ?_
 have:=qO (a:=mE c d x) (b:=mE c d y) r0 r1
 rw[YK,hr,Ba] at this
 exact this
theorem TM{a b c d z:Q}(hab:a≠b)(hcd:c≠d)(h1:On a b z)(h2:On c d z):jE a b c d:=by
 obtain⟨t,t0,t1,ht⟩:=LB hab h1
 obtain⟨s,s0,s1,hs⟩:=LB hcd h2
 have e1:(1-t)*cr c d a+t*cr c d b=0:=by rw[←wG,←ht];exact h2.1
 have e2:(1-s)*cr a b c+s*cr a b d=0:=by rw[←wG,←hs];exact h1.1
 rcases Lt t0 t1 e1 with g | ⟨ga,g⟩ | ⟨gb,g⟩
 ·rcases Lt s0 s1 e2 with k | ⟨ka,k⟩ | ⟨kb,k⟩
  ·exact .inr (.inr (.inr (.inr ⟨k,g⟩)))
  ·rcases k with k | k
   ·subst k;rw[Ba] at hs;subst hs;exact .inl h1
   ·exact CJ (wI hcd hab ka k h2 h1)
  ·rcases k with k | k
   ·subst k;rw[Bb] at hs;subst hs;exact .inr (.inl h1)
   ·exact CJ (wI hcd hab k kb h2 h1)
 ·rcases g with g | g
  ·subst g;rw[Ba] at ht;subst ht;exact .inr (.inr (.inl h2))
  ·exact wI hab hcd ga g h1 h2
 ·rcases g with g | g
  ·subst g;rw[Bb] at ht;subst ht;exact .inr (.inr (.inr (.inl h2)))
  ·exact wI hab hcd g gb h1 h2
end Go.Eng.Tg
namespace Go.Eng.Tg
open Go.Eng.Tw
abbrev Ed:=Q×Q
structure Gd (E:List Ed):Prop where
 cvx:∀e∈E,∀f∈E,0≤cr e.1 e.2 f.1
 clo:∀e∈E,∃f∈E,f.1=e.2
 nz:∀e∈E,e.1≠e.2
 up1:∀e∈E,∀f∈E,∀y,e.1.2≤y→y<e.2.2→f.1.2≤y→y<f.2.2→e=f
 dn1:∀e∈E,∀f∈E,∀y,e.2.2≤y→y<e.1.2→f.2.2≤y→y<f.1.2→e=f
 nd:E.Nodup
 top:∃e∈E,∃f∈E,e.1.2<e.2.2∧f.2.2<f.1.2∧(∀g∈E,g.1.2≤e.2.2)∧f.1.2=e.2.2∧((e.2=f.1∧0<cr e.1 e.2 f.2)∨((e.2,f.1)∈E∧f.1.1<e.2.1))
 bot:∃e∈E,∃f∈E,e.2.2<e.1.2∧f.1.2<f.2.2∧(∀g∈E,e.2.2≤g.1.2)∧f.1.2=e.2.2∧((e.2=f.1∧0<cr e.1 e.2 f.2)∨((e.2,f.1)∈E∧e.2.1<f.1.1))
 str:∀y,(∃g∈E,g.1.2≤y)→(∃g∈E,y<g.1.2)→(∃e∈E,e.1.2≤y∧y<e.2.2)∧∃e∈E,e.2.2≤y∧y<e.1.2
def W(E:List Ed)(z:Q):Prop:=∀e∈E,0≤cr e.1 e.2 z
def H(E:List Ed)(z:Q):Prop:=∀e∈E,0<cr e.1 e.2 z
def EE(E:List Ed)(z:Q):Prop:=∃e∈E,On e.1 e.2 z
theorem H.w{E:List Ed}{z:Q}(h:H E z):W E z:=fun e he=>Rat.le_of_lt (h e he)
theorem H.off{E:List Ed}{z:Q}(h:H E z):¬EE E z:=fun⟨e,he,ho⟩=>by
 have:=h e he
 rw[ho.1] at this
 exact absurd this (by decide)
variable {E:List Ed}
theorem Gd.cvx2(h:Gd E){e f:Ed}(he:e∈E)(hf:f∈E):0≤cr e.1 e.2 f.2:=by
 obtain⟨g,hg,e2⟩:=h.clo f hf
 rw[←e2];exact h.cvx e he g hg
theorem Fl{e:Ed}{y:Rat}(h1:e.1.2≤y)(h2:y<e.2.2):∃t,0≤t∧t<1∧(mE e.1 e.2 t).2=y:=by
 obtain⟨t,ht⟩:=wH (n:=y-e.1.2) (d:=e.2.2-e.1.2) (by grind)
 refine⟨t,lE (n:=e.2.2-e.1.2) (by grind) (by grind),?_,by unfold mE;grind⟩
 rcases Rat.le_total (a:=1) (b:=t) with h | h
 ·exfalso
  have:=Rat.mul_nonneg (show 0≤t-1 by grind) (show 0≤e.2.2-e.1.2 by grind)
  grind
 ·by_cases e1:t=1
  ·subst e1;grind
  ·grind
theorem Of{e:Ed}{y:Rat}(h1:e.2.2≤y)(h2:y<e.1.2):∃t,0<t∧t≤1∧(mE e.1 e.2 t).2=y:=by
 obtain⟨t,t0,t1,ht⟩:=Fl (e:=(e.2,e.1)) h1 h2
 refine⟨1-t,by grind,by grind,?_⟩
 unfold mE at *
 dsimp only at *
 grind
theorem WB(a b:Q){z u:Q}(h:u.2=z.2)(hu:cr a b u=0):cr a b z=(b.2-a.2)*(u.1-z.1):=by unfold cr at *;grind
theorem LC(a b:Q)(t:Rat):cr a b (mE a b t)=0:=by unfold cr mE;grind
theorem Fm{a b x y:Q}{t:Rat}(h0:0≤t)(h1:t≤1)(hx:0≤cr a b x)(hy:0≤cr a b y):0≤cr a b (mE x y t):=by
 rw[wG]
 have m1:=Rat.mul_nonneg (show 0≤1-t by grind) hx
 have m2:=Rat.mul_nonneg h0 hy
 grind
structure Lv (E:List Ed) (z:Q) (e f:Ed) (u d:Q):Prop where
 he:e∈E
 hf:f∈E
 u1:e.1.2≤z.2
 u2:z.2<e.2.2
 d1:f.2.2≤z.2
 d2:z.2<f.1.2
 hu:∃t,0≤t∧t<1∧u=mE e.1 e.2 t
 hd:∃t,0<t∧t≤1∧d=mE f.1 f.2 t
 yu:u.2=z.2
 yd:d.2=z.2
theorem Fo{e f:Ed}{z:Q}(he:e∈E)(hf:f∈E)(u1:e.1.2≤z.2)(u2:z.2<e.2.2)(d1:f.2.2≤z.2)(d2:z.2<f.1.2):∃u d,Lv E z e f u d:=by
 obtain⟨t,t0,t1,ht⟩:=Fl u1 u2
 obtain⟨s,s0,s1,hs⟩:=Of d1 d2
 exact⟨_,_,he,hf,u1,u2,d1,d2,⟨t,t0,t1,rfl⟩,⟨s,s0,s1,rfl⟩,ht,hs⟩
section
variable {z u d:Q} {e f:Ed}
theorem Lv.cu(h:Lv E z e f u d):cr e.1 e.2 z=(e.2.2-e.1.2)*(u.1-z.1):=by
 obtain⟨t,_,_,rfl⟩:=h.hu
 exact WB _ _ h.yu (LC _ _ _)
theorem Lv.cd(h:Lv E z e f u d):cr f.1 f.2 z=(f.1.2-f.2.2)*(z.1-d.1):=by
 obtain⟨t,_,_,rfl⟩:=h.hd
 have:=WB f.1 f.2 h.yd (LC _ _ _)
 grind
theorem Lv.onu(h:Lv E z e f u d):On e.1 e.2 u:=by
 obtain⟨t,t0,t1,rfl⟩:=h.hu
 exact qO t0 (Rat.le_of_lt t1)
theorem Lv.ond(h:Lv E z e f u d):On f.1 f.2 d:=by
 obtain⟨t,t0,t1,rfl⟩:=h.hd
 exact qO (Rat.le_of_lt t0) t1
theorem Lv.wu(h:Lv E z e f u d)(hG:Gd E):W E u:=fun g hg=>by
 obtain⟨t,t0,t1,rfl⟩:=h.hu
 exact Fm t0 (Rat.le_of_lt t1) (hG.cvx g hg e h.he) (hG.cvx2 hg h.he)
theorem Lv.wd(h:Lv E z e f u d)(hG:Gd E):W E d:=fun g hg=>by
 obtain⟨t,t0,t1,rfl⟩:=h.hd
 exact Fm (Rat.le_of_lt t0) t1 (hG.cvx g hg f h.hf) (hG.cvx2 hg h.hf)
theorem Lv.pu(h:Lv E z e f u d):(0<cr e.1 e.2 z↔z.1<u.1)∧(cr e.1 e.2 z<0↔u.1<z.1):=by
 have a:=h.cu
 have b:0<e.2.2-e.1.2:=by have:=h.u1;have:=h.u2;grind
 rw[a]
 constructor
 ·constructor
  ·intro hp
   rcases Rat.le_total (a:=u.1) (b:=z.1) with g | g
   ·exfalso
    have:=Rat.mul_nonneg (Rat.le_of_lt b) (show 0≤z.1-u.1 by grind)
    grind
   ·by_cases e1:z.1=u.1
    ·rw[e1] at hp;exfalso;grind
    ·grind
  ·intro hp;exact Rat.mul_pos b (by grind)
 ·constructor
  ·intro hp
   rcases Rat.le_total (a:=u.1) (b:=z.1) with g | g
   ·by_cases e1:z.1=u.1
    ·rw[e1] at hp;exfalso;grind
    ·grind
   ·exfalso
    have:=Rat.mul_nonneg (Rat.le_of_lt b) (show 0≤u.1-z.1 by grind)
    grind
  ·intro hp;exact neg_mul b (by grind)
theorem Lv.pd(h:Lv E z e f u d):(0<cr f.1 f.2 z↔d.1<z.1)∧(cr f.1 f.2 z<0↔z.1<d.1):=by
 have a:=h.cd
 have b:0<f.1.2-f.2.2:=by have:=h.d1;have:=h.d2;grind
 rw[a]
 constructor
 ·constructor
  ·intro hp
   rcases Rat.le_total (a:=z.1) (b:=d.1) with g | g
   ·exfalso
    have:=Rat.mul_nonneg (Rat.le_of_lt b) (show 0≤d.1-z.1 by grind)
    grind
   ·by_cases e1:z.1=d.1
    ·rw[e1] at hp;exfalso;grind
    ·grind
  ·intro hp;exact Rat.mul_pos b (by grind)
 ·constructor
  ·intro hp
   rcases Rat.le_total (a:=z.1) (b:=d.1) with g | g
   ·by_cases e1:z.1=d.1
    ·rw[e1] at hp;exfalso;grind
    ·grind
   ·exfalso
    have:=Rat.mul_nonneg (Rat.le_of_lt b) (show 0≤z.1-d.1 by grind)
    grind
  ·intro hp;exact neg_mul b (by grind)
theorem Lv.zu(h:Lv E z e f u d)(h0:cr e.1 e.2 z=0):z=u:=by
 have a:=h.cu
 have b:e.2.2-e.1.2≠0:=by have:=h.u1;have:=h.u2;grind
 rw[h0] at a
 have:=tG a.symm b
 exact qD (by grind) h.yu.symm
theorem Lv.zd(h:Lv E z e f u d)(h0:cr f.1 f.2 z=0):z=d:=by
 have a:=h.cd
 have b:f.1.2-f.2.2≠0:=by have:=h.d1;have:=h.d2;grind
 rw[h0] at a
 have:=tG a.symm b
 exact qD (by grind) h.yd.symm
theorem Lv.ord(h:Lv E z e f u d)(hG:Gd E):d.1≤u.1:=by
 have h1:=h.wd hG e h.he
 obtain⟨t,t0,t1,ht⟩:=h.hu
 have h2:=WB e.1 e.2 (z:=d) (u:=u) (by rw[h.yu,h.yd]) (by rw[ht];exact LC _ _ _)
 have b:0<e.2.2-e.1.2:=by have:=h.u1;have:=h.u2;grind
 rw[h2] at h1
 have:=lE b h1
 grind
theorem Lv.inH(h:Lv E z e f u d)(hG:Gd E)(h1:d.1<z.1)(h2:z.1<u.1)(hoff:¬EE E z):H E z:=by
 intro g hg
 have wu:=h.wu hG g hg
 have wd:=h.wd hG g hg
 obtain⟨t,ht⟩:=wH (n:=z.1-d.1) (d:=u.1-d.1) (by grind)
 have hz:z=mE d u t:=by
  unfold mE
  refine qD (by dsimp only;grind) ?_
  dsimp only
  rw[h.yd,h.yu];grind
 have pos:0<u.1-d.1:=by grind
 have t0:0<t:=by
  rcases Rat.le_total (a:=t) (b:=0) with g | g
  ·have:=Rat.mul_nonneg (show 0≤-t by grind) (Rat.le_of_lt pos);grind
  ·by_cases e1:t=0
   ·subst e1;grind
   ·grind
 have t1:0<1-t:=by
  rcases Rat.le_total (a:=1) (b:=t) with g | g
  ·have:=Rat.mul_nonneg (show 0≤t-1 by grind) (Rat.le_of_lt pos);grind
  ·by_cases e1:t=1
   ·subst e1;grind
   ·grind
 have hc:=wG g.1 g.2 d u t
 rw[←hz] at hc
 have m1:=Rat.mul_nonneg (Rat.le_of_lt t1) wd
 have m2:=Rat.mul_nonneg (Rat.le_of_lt t0) wu
 by_cases h0:cr g.1 g.2 z=0
 ·exfalso
  have z1:(1-t)*cr g.1 g.2 d=0:=by grind
  have z2:t*cr g.1 g.2 u=0:=by grind
  have y1:=tG z1 (by grind)
  have y2:=tG z2 (by grind)
  have lv:g.2.2-g.1.2=0:=by
   have:(u.1-d.1)*(g.2.2-g.1.2)=0:=by
    have a1:=h.yu
    have a2:=h.yd
    unfold cr at y1 y2
    grind
   exact tG this (by grind)
  have nx:g.2.1-g.1.1≠0:=fun e0=>hG.nz g hg (qD (by grind) (by grind))
  have zy:z.2=g.1.2:=by
   have:(g.2.1-g.1.1)*(z.2-g.1.2)=0:=by unfold cr at h0;rw[lv] at h0;grind
   have:=tG this nx
   grind
  have all:∀w∈E,0≤(g.2.1-g.1.1)*(w.1.2-z.2):=fun w hw=>by
   have:=hG.cvx g hg w hw
   unfold cr at this
   rw[lv,Rat.zero_mul] at this
   rw[zy]
   grind
  rcases Rat.le_total (a:=0) (b:=g.2.1-g.1.1) with s | s
  ·have s':0<g.2.1-g.1.1:=by grind
   have low:∀w∈E,z.2≤w.1.2:=fun w hw=>by have:=lE s' (all w hw);grind
   obtain⟨e',he',f',hf',b1,b2,b3,b4,b5⟩:=hG.bot
   have q1:=b3 g hg
   have q2:z.2≤e'.2.2:=by rw[←b4];exact low f' hf'
   have ze:e'.2.2=z.2:=by grind
   have ef:=hG.dn1 e' he' f h.hf z.2 (by grind) (by grind) h.d1 h.d2
   have fe:=hG.up1 f' hf' e h.he z.2 (by grind) (by grind) h.u1 h.u2
   subst ef;subst fe
   have dd:d=e'.2:=by
    obtain⟨s1,s2,s3,s4⟩:=h.hd
    have a:(mE e'.1 e'.2 s1).2=e'.2.2:=by rw[←s4,h.yd,ze]
    have:(e'.1.2-e'.2.2)*(1-s1)=0:=by unfold mE at a;dsimp only at a;grind
    have:=tG this (by grind)
    have:s1=1:=by grind
    rw[s4,this,Bb]
   have uu:u=f'.1:=by
    obtain⟨s1,s2,s3,s4⟩:=h.hu
    have a:(mE f'.1 f'.2 s1).2=f'.1.2:=by rw[←s4,h.yu,b4,ze]
    have:(f'.2.2-f'.1.2)*s1=0:=by unfold mE at a;dsimp only at a;grind
    have:=tG this (by grind)
    rw[s4,this,Ba]
   rcases b5 with⟨b5,_⟩ | ⟨b5,_⟩
   ·rw[dd,uu,b5] at pos;grind
   ·refine hoff ⟨_,b5,?_⟩
    dsimp only
    rw[←dd,←uu,hz]
    exact qO (by grind) (by grind)
  ·have s':0<g.1.1-g.2.1:=by grind
   obtain⟨w,hw,e2⟩:=hG.clo e h.he
   have:=all w hw
   rw[e2] at this
   have q:=lE (n:=g.1.1-g.2.1) (u:=z.2-e.2.2) s' (by grind)
   have:=h.u2
   grind
 ·grind
end
theorem Gd.core(hG:Gd E){z:Q}(hw:W E z)(hoff:¬EE E z):∃e f u d,Lv E z e f u d∧d.1<z.1∧z.1<u.1:=by
 by_cases h1:∃g∈E,g.1.2≤z.2
 ·by_cases h2:∃g∈E,z.2<g.1.2
  ·obtain⟨⟨e,he,u1,u2⟩,f,hf,d1,d2⟩:=hG.str z.2 h1 h2
   obtain⟨u,d,hl⟩:=Fo he hf u1 u2 d1 d2
   refine⟨e,f,u,d,hl,hl.pd.1.1 ?_,hl.pu.1.1 ?_⟩
   ·have:=hw f hf
    by_cases h0:cr f.1 f.2 z=0
    ·exfalso
     have:=hl.zd h0
     exact hoff ⟨f,hf,by rw[this];exact hl.ond⟩
    ·grind
   ·have:=hw e he
    by_cases h0:cr e.1 e.2 z=0
    ·exfalso
     have:=hl.zu h0
     exact hoff ⟨e,he,by rw[this];exact hl.onu⟩
    ·grind
  ·-- above all
   exfalso
   have hall:∀g∈E,g.1.2≤z.2:=fun g hg=>by
    rcases Rat.le_total (a:=g.1.2) (b:=z.2) with q | q
    ·exact q
    ·by_cases e1:g.1.2=z.2
     ·grind
     ·exact absurd ⟨g,hg,by grind⟩ h2
   obtain⟨e,he,f,hf,a1,a2,a3,a4,a5⟩:=hG.top
   have we:=hw e he
   have wf:=hw f hf
   have zt:e.2.2≤z.2:=by rw[←a4];exact hall f hf
   rcases a5 with⟨a5,a6⟩ | ⟨a5,a6⟩
   ·-- one top
    rw[←a5] at wf a2
    obtain⟨f1,f2⟩:=f
    dsimp only at *
    subst a5
    have id:(e.2.2-e.1.2)*cr e.2 f2 z+(e.2.2-f2.2)*cr e.1 e.2 z=-((z.2-e.2.2)*cr e.1 e.2 f2):=by unfold cr;grind
    have m1:=Rat.mul_nonneg (show 0≤e.2.2-e.1.2 by grind) wf
    have m2:=Rat.mul_nonneg (show 0≤e.2.2-f2.2 by grind) we
    have m3:=Rat.mul_nonneg (show 0≤z.2-e.2.2 by grind) (Rat.le_of_lt a6)
    have z1:(e.2.2-e.1.2)*cr e.2 f2 z=0:=by grind
    have z2:(e.2.2-f2.2)*cr e.1 e.2 z=0:=by grind
    have z3:(z.2-e.2.2)*cr e.1 e.2 f2=0:=by grind
    have y2:=tG z2 (by grind)
    have zy:z.2=e.2.2:=by
     rcases Rat.mul_eq_zero.1 z3 with q | q
     ·grind
     ·rw[q] at a6;exact absurd a6 (by decide)
    have zx:z.1=e.2.1:=by
     have:(e.2.2-e.1.2)*(e.2.1-z.1)=0:=by unfold cr at y2;grind
     have:=tG this (by grind)
     grind
    refine hoff ⟨e,he,?_⟩
    rw[qD zx zy]
    have:=qO (a:=e.1) (b:=e.2) (t:=1) (by decide) (by decide)
    rw[Bb] at this
    exact this
   ·-- a level top
    have wg:=hw _ a5
    dsimp only at wg
    have zy:z.2=e.2.2:=by
     have:0≤(e.2.1-f.1.1)*(e.2.2-z.2):=by unfold cr at wg;rw[a4] at wg;grind
     have:=lE (n:=e.2.1-f.1.1) (by grind) this
     grind
    have x1:z.1≤e.2.1:=by
     have:0≤(e.2.2-e.1.2)*(e.2.1-z.1):=by have w:=we;unfold cr at w;rw[zy] at w;grind
     have:=lE (n:=e.2.2-e.1.2) (by grind) this
     grind
    have x2:f.1.1≤z.1:=by
     have:0≤(f.1.2-f.2.2)*(z.1-f.1.1):=by have w:=wf;unfold cr at w;rw[zy,←a4,Rat.sub_self,Rat.mul_zero] at w;grind
     have:=lE (n:=f.1.2-f.2.2) (by grind) this
     grind
    refine hoff ⟨_,a5,?_⟩
    dsimp only
    refine⟨by unfold cr;grind,.inr ⟨by grind,by grind⟩,?_⟩
    have e1:f.1.2-e.2.2=0:=by grind
    have e2:z.2-e.2.2=0:=by grind
    rw[e1,e2]
    exact .inl ⟨Rat.le_refl,Rat.le_refl⟩
 ·-- below all
  exfalso
  have hall:∀g∈E,z.2<g.1.2:=fun g hg=>by
   rcases Rat.le_total (a:=g.1.2) (b:=z.2) with q | q
   ·exact absurd ⟨g,hg,q⟩ h1
   ·by_cases e1:g.1.2=z.2
    ·exact absurd ⟨g,hg,by grind⟩ h1
    ·grind
  obtain⟨e,he,f,hf,a1,a2,a3,a4,a5⟩:=hG.bot
  have we:=hw e he
  have wf:=hw f hf
  have zt:z.2<e.2.2:=by rw[←a4];exact hall f hf
  rcases a5 with⟨a5,a6⟩ | ⟨a5,a6⟩
  ·rw[←a5] at wf a2
   obtain⟨f1,f2⟩:=f
   dsimp only at *
   subst a5
   have id:(e.1.2-e.2.2)*cr e.2 f2 z+(f2.2-e.2.2)*cr e.1 e.2 z=-((e.2.2-z.2)*cr e.1 e.2 f2):=by unfold cr;grind
   have m1:=Rat.mul_nonneg (show 0≤e.1.2-e.2.2 by grind) wf
   have m2:=Rat.mul_nonneg (show 0≤f2.2-e.2.2 by grind) we
   have m3:=Rat.mul_pos (show 0<e.2.2-z.2 by grind) a6
   grind
  ·have wg:=hw _ a5
   dsimp only at wg
   have:(f.1.1-e.2.1)*(z.2-e.2.2)<0:=neg_mul (by grind) (by grind)
   unfold cr at wg
   rw[a4] at wg
   grind
theorem Gd.w_cases(hG:Gd E){z:Q}(hw:W E z):EE E z∨H E z:=by
 by_cases ho:EE E z
 ·exact .inl ho
 ·obtain⟨e,f,u,d,hl,h1,h2⟩:=hG.core hw ho
  exact .inr (hl.inH hG h1 h2 ho)
end Go.Eng.Tg
namespace Go.Eng.Tg
open Go.Eng.Tw
variable {E F:List Ed}
open Classical in
noncomputable def we(p:Q)(e:Ed):Int:=
 if e.1.2≤p.2∧p.2<e.2.2∧0<cr e.1 e.2 p then 1 else if e.2.2≤p.2∧p.2<e.1.2∧cr e.1 e.2 p<0 then -1 else 0
noncomputable def wd(E:List Ed)(p:Q):Int:=(E.map (we p)).sum
theorem D8(p:Q):∀{l:List Ed},(∀e∈l,we p e=0)→(l.map (we p)).sum=0
 | [],_=>rfl
 | a::l,h=>by
  rw[List.map_cons,List.sum_cons,h a (List.mem_cons_self ..),D8 p fun e he=>h e (List.mem_cons_of_mem _ he)];rfl
theorem QW(p:Q):∀{l:List Ed} {a:Ed},l.Nodup→a∈l→(∀e∈l,e≠a→we p e=0)→(l.map (we p)).sum=we p a
 | [],a,_,ha,_=>by cases ha
 | b::l,a,hn,ha,h=>by
  rw[List.nodup_cons] at hn
  rw[List.map_cons,List.sum_cons]
  by_cases hb:b=a
  ·subst hb
   rw[D8 p fun e he=>h e (List.mem_cons_of_mem _ he) fun e0=>hn.1 (e0▸he)];omega
  ·rcases List.mem_cons.1 ha with ha | ha
   ·exact absurd ha.symm hb
   ·rw[h b (List.mem_cons_self ..) hb,QW p hn.2 ha fun e he=>h e (List.mem_cons_of_mem _ he)];omega
theorem YL(p:Q):∀{l:List Ed} {a b:Ed},l.Nodup→a∈l→b∈l→a≠b→(∀e∈l,e≠a→e≠b→we p e=0)→(l.map (we p)).sum=we p a+we p b
 | [],a,_,_,ha,_,_,_=>by cases ha
 | c::l,a,b,hn,ha,hb,hab,h=>by
  rw[List.nodup_cons] at hn
  rw[List.map_cons,List.sum_cons]
  by_cases hc:c=a
  ·subst hc
   rcases List.mem_cons.1 hb with hb | hb
   ·exact absurd hb.symm hab
   ·rw[QW p hn.2 hb fun e he e1=>h e (List.mem_cons_of_mem _ he) (fun e0=>hn.1 (e0▸he)) e1]
  ·by_cases hc2:c=b
   ·subst hc2
    rcases List.mem_cons.1 ha with ha | ha
    ·exact absurd ha hab
    ·rw[QW p hn.2 ha fun e he e1=>h e (List.mem_cons_of_mem _ he) e1 (fun e0=>hn.1 (e0▸he))];omega
   ·rcases List.mem_cons.1 ha with ha | ha
    ·exact absurd ha.symm hc
    ·rcases List.mem_cons.1 hb with hb | hb
     ·exact absurd hb.symm hc2
     ·rw[h c (List.mem_cons_self ..) hc hc2,YL p hn.2 ha hb hab fun e he=>h e (List.mem_cons_of_mem _ he)];omega
theorem FL{a b:Rat}(h:¬a≤b):b<a:=by grind
theorem OA{a b:Rat}(h:¬a<b):b≤a:=by grind
theorem Gd.wind(hG:Gd E){p:Q}(ho:¬EE E p):(H E p→wd E p=1)∧(¬H E p→wd E p=0):=by
 by_cases h1:∃g∈E,g.1.2≤p.2
 ·by_cases h2:∃g∈E,p.2<g.1.2
  ·obtain⟨⟨e,he,u1,u2⟩,f,hf,d1,d2⟩:=hG.str p.2 h1 h2
   obtain⟨u,d,hl⟩:=Fo he hf u1 u2 d1 d2
   have hne:e≠f:=fun e0=>by subst e0;grind
   have hsum:wd E p=we p e+we p f:=YL p hG.nd he hf hne fun g hg g1 g2=>by
    unfold we
    rw[if_neg fun⟨a,b,_⟩=>g1 (hG.up1 g hg e he p.2 a b u1 u2),if_neg fun⟨a,b,_⟩=>g2 (hG.dn1 g hg f hf p.2 a b d1 d2)]
   have n1:¬p.2<f.2.2:=by grind
   have n2:¬p.2<e.1.2:=by grind
   have hwe:we p e=if 0<cr e.1 e.2 p then 1 else 0:=by
    unfold we
    by_cases c:0<cr e.1 e.2 p
    ·rw[if_pos ⟨u1,u2,c⟩,if_pos c]
    ·rw[if_neg fun h=>c h.2.2,if_neg fun h=>n2 h.2.1,if_neg c]
   have hwf:we p f=if cr f.1 f.2 p<0 then -1 else 0:=by
    unfold we
    rw[if_neg fun h=>n1 h.2.1]
    by_cases c:cr f.1 f.2 p<0
    ·rw[if_pos ⟨d1,d2,c⟩,if_pos c]
    ·rw[if_neg fun h=>c h.2.2,if_neg c]
   rw[hsum,hwe,hwf]
   constructor
   ·intro hH
    rw[if_pos (hH e he),if_neg (by have:=hH f hf;grind)];rfl
   ·intro hH
    have c1:cr e.1 e.2 p≠0:=fun h0=>ho ⟨e,he,by rw[hl.zu h0];exact hl.onu⟩
    have c2:cr f.1 f.2 p≠0:=fun h0=>ho ⟨f,hf,by rw[hl.zd h0];exact hl.ond⟩
    by_cases c:0<cr e.1 e.2 p
    ·rw[if_pos c]
     by_cases c':cr f.1 f.2 p<0
     ·rw[if_pos c'];rfl
     ·exfalso
      exact hH (hl.inH hG (hl.pd.1.1 (by grind)) (hl.pu.1.1 c) ho)
    ·rw[if_neg c]
     by_cases c':cr f.1 f.2 p<0
     ·exfalso
      have a1:=hl.pu.2.1 (by grind)
      have a2:=hl.pd.2.1 c'
      have a3:=hl.ord hG
      grind
     ·rw[if_neg c'];rfl
  ·have hall:∀g∈E,g.1.2≤p.2:=fun g hg=>OA fun c=>h2 ⟨g,hg,c⟩
   have h0:wd E p=0:=D8 p fun e he=>by
    obtain⟨f,hf,e2⟩:=hG.clo e he
    have a1:=hall e he
    have a2:=hall f hf
    rw[e2] at a2
    unfold we
    rw[if_neg (by grind),if_neg (by grind)]
   refine⟨fun hH=>?_,fun _=>h0⟩
   obtain⟨e,f,u,d,hl,_,_⟩:=hG.core hH.w ho
   have:=hall f hl.hf
   have:=hl.d2
   grind
 ·have hall:∀g∈E,p.2<g.1.2:=fun g hg=>FL fun c=>h1 ⟨g,hg,c⟩
  have h0:wd E p=0:=D8 p fun e he=>by
   obtain⟨f,hf,e2⟩:=hG.clo e he
   have a1:=hall e he
   have a2:=hall f hf
   rw[e2] at a2
   unfold we
   rw[if_neg (by grind),if_neg (by grind)]
  refine⟨fun hH=>?_,fun _=>h0⟩
  obtain⟨e,f,u,d,hl,_,_⟩:=hG.core hH.w ho
  have:=hall e hl.he
  have:=hl.u1
  grind
theorem YM{α:Type}(m:α→Rat):∀(l:List α),l≠[]→∃a∈l,∀b∈l,m a≤m b
 | [],h=>absurd rfl h
 | [a],_=>⟨a,List.mem_cons_self ..,fun b hb=>by rw[List.mem_singleton.1 hb];exact Rat.le_refl⟩
 | a::b::l,_=>by
  obtain⟨c,hc,h⟩:=YM m (b::l) (by simp)
  rcases Rat.le_total (a:=m a) (b:=m c) with q | q
  ·exact⟨a,List.mem_cons_self ..,fun d hd=>by
    rcases List.mem_cons.1 hd with hd | hd
    ·rw[hd];exact Rat.le_refl
    ·exact Rat.le_trans q (h d hd)⟩
  ·exact⟨c,List.mem_cons_of_mem _ hc,fun d hd=>by
    rcases List.mem_cons.1 hd with hd | hd
    ·rw[hd];exact q
    ·exact h d hd⟩
theorem Gd.exit(hG:Gd E){x y:Q}(hx:H E x)(hy:¬H E y):∃t e,0<t∧t≤1∧e∈E∧On e.1 e.2 (mE x y t):=by
 have hne:∃e∈E,cr e.1 e.2 y≤0:=by
  apply Classical.byContradiction
  intro hc
  exact hy fun e he=>FL fun c=>hc ⟨e,he,c⟩
 open Classical in
 obtain⟨e0,he0,hmin⟩:=YM (fun e:Ed=>cr e.1 e.2 x/(cr e.1 e.2 x-cr e.1 e.2 y)) (E.filter fun e=>decide (cr e.1 e.2 y≤0)) (by
  intro hc
  obtain⟨e,he,h⟩:=hne
  have:e∈E.filter fun e=>decide (cr e.1 e.2 y≤0):=List.mem_filter.2 ⟨he,decide_eq_true h⟩
  rw[hc] at this
  cases this)
 obtain⟨he0',hd⟩:=List.mem_filter.1 he0
 have h0:=of_decide_eq_true hd
 have p0:=hx e0 he0'
 obtain⟨t,ht⟩:∃t,t=cr e0.1 e0.2 x/(cr e0.1 e0.2 x-cr e0.1 e0.2 y):=⟨_,rfl⟩
 have htm:t*(cr e0.1 e0.2 x-cr e0.1 e0.2 y)=cr e0.1 e0.2 x:=by rw[ht];exact Rat.div_mul_cancel (by grind)
 have t0:0<t:=by
  rcases Rat.le_total (a:=t) (b:=0) with q | q
  ·exfalso
   have:=Rat.mul_nonneg (show 0≤-t by grind) (show 0≤cr e0.1 e0.2 x-cr e0.1 e0.2 y by grind)
   grind
  ·by_cases e1:t=0
   ·rw[e1] at htm;grind
   ·grind
 have t1:t≤1:=by
  rcases Rat.le_total (a:=t) (b:=1) with q | q
  ·exact q
  ·have:=Rat.mul_nonneg (show 0≤t-1 by grind) (show 0≤cr e0.1 e0.2 x-cr e0.1 e0.2 y by grind)
   by_cases e1:t=1
   ·rw[e1];exact Rat.le_refl
   ·exfalso
    have:=Rat.mul_pos (show 0<t-1 by grind) (show 0<cr e0.1 e0.2 x-cr e0.1 e0.2 y by grind)
    grind
 have hW:W E (mE x y t):=fun e he=>by
  rw[wG]
  have px:=hx e he
  by_cases c:cr e.1 e.2 y≤0
  ·have:=hmin e (List.mem_filter.2 ⟨he,decide_eq_true c⟩)
   rw[←ht] at this
   have hm:cr e.1 e.2 x/(cr e.1 e.2 x-cr e.1 e.2 y)*(cr e.1 e.2 x-cr e.1 e.2 y)=cr e.1 e.2 x:=Rat.div_mul_cancel (by grind)
   have:=Rat.mul_nonneg (show 0≤cr e.1 e.2 x/(cr e.1 e.2 x-cr e.1 e.2 y)-t by grind) (show 0≤cr e.1 e.2 x-cr e.1 e.2 y by grind)
   grind
  ·have m1:=Rat.mul_nonneg (show 0≤1-t by grind) (Rat.le_of_lt px)
   have m2:=Rat.mul_nonneg (Rat.le_of_lt t0) (show 0≤cr e.1 e.2 y by grind)
   grind
 rcases hG.w_cases hW with⟨e,he,ho⟩ | hH
 ·exact⟨t,e,t0,t1,he,ho⟩
 ·exfalso
  have:=hH e0 he0'
  rw[wG] at this
  grind
def Apart(E F:List Ed):Prop:=∀e∈E,∀f∈F,¬jE e.1 e.2 f.1 f.2
theorem Apart.symm(h:Apart E F):Apart F E:=fun f hf e he hm=>h e he f hf (CJ hm)
theorem Th(hF:Gd F)(hA:Apart E F)(hE:Gd E){e:Ed}(he:e∈E)(h:H F e.1):H F e.2:=by
 apply Classical.byContradiction
 intro hc
 obtain⟨t,f,t0,t1,hf,ho⟩:=hF.exit h hc
 exact hA e he f hf (TM (hE.nz e he) (hF.nz f hf) (qO (Rat.le_of_lt t0) t1) ho)
def Ju(E:List Ed):Prop:=∀P:Q→Prop,(∀e∈E,P e.1→P e.2)→∀e∈E,∀f∈E,P e.1→P f.1
theorem LD(hF:Gd F)(hA:Apart E F)(hE:Gd E)(hC:Ju E){e:Ed}(he:e∈E)(h:H F e.1):∀f∈E,H F f.1:=
 fun f hf=>hC (H F) (fun g hg=>Th hF hA hE hg) e he f hf h
theorem Lu(hE:Gd E)(hF:Gd F)(h:∀e∈E,H F e.1){p:Q}(hp:H E p):H F p:=by
 obtain⟨e,f,u,d,hl,h1,h2⟩:=hE.core hp.w hp.off
 have pm:∀{x y:Q} {t:Rat},0≤t→t≤1→H F x→H F y→H F (mE x y t):=fun {x y t} t0 t1 hx hy g hg=>by
  rw[wG]
  have m1:=hx g hg
  have m2:=hy g hg
  have n1:=Rat.mul_nonneg (show 0≤1-t by grind) (Rat.le_of_lt m1)
  have n2:=Rat.mul_nonneg t0 (Rat.le_of_lt m2)
  by_cases e1:t=0
  ·subst e1;grind
  ·have:=Rat.mul_pos (show 0<t by grind) m2
   grind
 have h2':∀g∈E,H F g.2:=fun g hg=>by
  obtain⟨k,hk,e2⟩:=hE.clo g hg
  rw[←e2];exact h k hk
 have hu:H F u:=by
  obtain⟨t,t0,t1,e1⟩:=hl.hu
  rw[e1];exact pm t0 (Rat.le_of_lt t1) (h e hl.he) (h2' e hl.he)
 have hd:H F d:=by
  obtain⟨t,t0,t1,e1⟩:=hl.hd
  rw[e1];exact pm (Rat.le_of_lt t0) t1 (h f hl.hf) (h2' f hl.hf)
 obtain⟨t,ht⟩:=wH (n:=p.1-d.1) (d:=u.1-d.1) (by grind)
 have hz:p=mE d u t:=by
  unfold mE
  refine qD (by dsimp only;grind) ?_
  dsimp only
  rw[hl.yd,hl.yu];grind
 have pos:0<u.1-d.1:=by grind
 have t0:0≤t:=lE pos (by grind)
 have t1:t≤1:=by have:=lE (u:=1-t) pos (by grind);grind
 rw[hz]
 exact pm t0 t1 hd hu
theorem nested(hE:Gd E)(hF:Gd F)(hA:Apart E F)(cE:Ju E)(cF:Ju F){p:Q}(h1:H E p)(h2:H F p):(∀e∈E,H F e.1)∨∀f∈F,H E f.1:=by
 apply Classical.byContradiction
 intro hc
 have c1:∀e∈E,¬H F e.1:=fun e he h=>hc (.inl (LD hF hA hE cE he h))
 have c2:∀f∈F,¬H E f.1:=fun f hf h=>hc (.inr (LD hE hA.symm hF cF hf h))
 obtain⟨e0,he0,_⟩:=hE.top
 obtain⟨t,f,t0,t1,hf,ho⟩:=hF.exit h2 (c1 e0 he0)
 by_cases e1:t=1
 ·subst e1
  rw[Bb] at ho
  exact hA e0 he0 f hf (.inr (.inr (.inl ho)))
 ·have hz:H E (mE p e0.1 t):=fun g hg=>by
   rw[wG]
   have m1:=Rat.mul_pos (show 0<1-t by grind) (h1 g hg)
   have m2:=Rat.mul_nonneg (Rat.le_of_lt t0) (hE.cvx g hg e0 he0)
   grind
  obtain⟨s,g,s0,s1,hg,ho2⟩:=hE.exit hz (c2 f hf)
  obtain⟨r,r0,r1,er⟩:=LB (hF.nz f hf) ho
  have e2:mE (mE p e0.1 t) f.1 s=mE f.1 f.2 (r*(1-s)):=by
   rw[er]
   unfold mE
   exact qD (by dsimp only;grind) (by dsimp only;grind)
  have b0:0≤r*(1-s):=Rat.mul_nonneg r0 (by grind)
  have b1:r*(1-s)≤1:=by
   have:=Rat.mul_nonneg r0 (Rat.le_of_lt s0)
   grind
  exact hA g hg f hf (TM (hE.nz g hg) (hF.nz f hf) ho2 (by rw[e2];exact qO b0 b1))
theorem Gd.less(hG:Gd E){p:Q}(h:H E p):∃e∈E,p.1<e.1.1:=by
 obtain⟨e,f,u,d,hl,h1,h2⟩:=hG.core h.w h.off
 obtain⟨t,t0,t1,e1⟩:=hl.hu
 have hu:u.1=e.1.1+t*(e.2.1-e.1.1):=by rw[e1];rfl
 by_cases c:p.1<e.1.1
 ·exact⟨e,hl.he,c⟩
 ·obtain⟨g,hg,e2⟩:=hG.clo e hl.he
  refine⟨g,hg,?_⟩
  rw[e2]
  have:0<e.2.1-e.1.1:=by
   rcases Rat.le_total (a:=e.2.1-e.1.1) (b:=0) with q | q
   ·exfalso
    have:=Rat.mul_nonneg t0 (show 0≤-(e.2.1-e.1.1) by grind)
    grind
   ·by_cases e3:e.2.1-e.1.1=0
    ·rw[e3] at hu;grind
    ·grind
  have:=Rat.mul_nonneg (show 0≤1-t by grind) (Rat.le_of_lt this)
  grind
end Go.Eng.Tg
namespace Go.Eng.Tg
open Go.Eng.Tw
def jW{α:Type}[Inhabited α](l:List α):List (α×α):=(List.range l.length).map fun i=>(l.getD i default,l.getD ((i+1)%l.length) default)
def sw{α:Type}(E:List (α×α)):List (α×α):=E.map fun e=>(e.2,e.1)
theorem wJ{α:Type}{E:List (α×α)}{e:α×α}:e∈sw E↔(e.2,e.1)∈E:=by
 unfold sw
 constructor
 ·intro h
  obtain⟨f,hf,rfl⟩:=List.mem_map.1 h
  exact hf
 ·intro h
  exact List.mem_map.2 ⟨_,h,rfl⟩
theorem oJ{α:Type}[Inhabited α]{l:List α}{e:α×α}:e∈jW l↔∃i,i<l.length∧e=(l.getD i default,l.getD ((i+1)%l.length) default):=by
 unfold jW
 constructor
 ·intro h
  obtain⟨i,hi,rfl⟩:=List.mem_map.1 h
  exact⟨i,List.mem_range.1 hi,rfl⟩
 ·rintro ⟨i,hi,rfl⟩
  exact List.mem_map.2 ⟨i,List.mem_range.2 hi,rfl⟩
theorem LE{l:List Q}(P:Q→Prop)(h:∀e∈jW l,P e.1→P e.2){i:Nat}(hi:i<l.length)(hp:P (l.getD i default)):∀k,P (l.getD ((i+k)%l.length) default)
 | 0=>by rw[Nat.add_zero,Nat.mod_eq_of_lt hi];exact hp
 | k+1=>by
  have ih:=LE P h hi hp k
  have hlt:(i+k)%l.length<l.length:=Nat.mod_lt _ (by omega)
  have:=h _ (oJ.2 ⟨_,hlt,rfl⟩) ih
  dsimp only at this
  rw[Nat.mod_add_mod] at this
  exact this
theorem YN(l:List Q):Ju (jW l):=fun P h e he f hf hp=>by
 obtain⟨i,hi,rfl⟩:=oJ.1 he
 obtain⟨j,hj,rfl⟩:=oJ.1 hf
 have:=LE P h hi hp (j+(l.length-i))
 have e1:(i+(j+(l.length-i)))%l.length=j:=by
  rw[show i+(j+(l.length-i))=j+l.length by omega,Nat.add_mod_right,Nat.mod_eq_of_lt hj]
 rw[e1] at this
 exact this
theorem Fp(l:List Q):Ju (sw (jW l)):=fun P h e he f hf hp=>by
 apply Classical.byContradiction
 intro hc
 obtain⟨i,hi,ei⟩:=oJ.1 (wJ.1 he)
 obtain⟨j,hj,ej⟩:=oJ.1 (wJ.1 hf)
 have hfw:∀g∈jW l,¬P g.1→¬P g.2:=fun g hg hn hp2=>hn (h (g.2,g.1) (wJ.2 hg) hp2)
 have e1:e.1=l.getD ((i+1)%l.length) default:=congrArg Prod.snd ei
 have e2:f.1=l.getD ((j+1)%l.length) default:=congrArg Prod.snd ej
 have hjl:(j+1)%l.length<l.length:=Nat.mod_lt _ (by omega)
 have hil:(i+1)%l.length<l.length:=Nat.mod_lt _ (by omega)
 have:=LE (fun q=>¬P q) hfw hjl (by rw[←e2];exact hc) ((i+1)%l.length+(l.length-(j+1)%l.length))
 rw[show (j+1)%l.length+((i+1)%l.length+(l.length-(j+1)%l.length))=(i+1)%l.length+l.length by omega,Nat.add_mod_right,Nat.mod_eq_of_lt hil,←e1] at this
 exact this hp
theorem Jv{l:List Q}{e:Ed}(he:e∈jW l):∃f∈jW l,f.1=e.2:=by
 obtain⟨i,hi,rfl⟩:=oJ.1 he
 exact⟨_,oJ.2 ⟨(i+1)%l.length,Nat.mod_lt _ (by omega),rfl⟩,rfl⟩
theorem Fq{l:List Q}{e:Ed}(he:e∈sw (jW l)):∃f∈sw (jW l),f.1=e.2:=by
 obtain⟨i,hi,ei⟩:=oJ.1 (wJ.1 he)
 have e2:e.2=l.getD i default:=congrArg Prod.fst ei
 refine⟨(l.getD i default,l.getD ((i+(l.length-1))%l.length) default),wJ.2 (oJ.2 ⟨(i+(l.length-1))%l.length,Nat.mod_lt _ (by omega),?_⟩),e2.symm⟩
 rw[Nat.mod_add_mod,show i+(l.length-1)+1=i+l.length by omega,Nat.add_mod_right,Nat.mod_eq_of_lt hi]
theorem Og{E:List Ed}(hC:Ju E)(y:Rat)(h1:∃g∈E,g.1.2≤y)(h2:∃g∈E,y<g.1.2):(∃e∈E,e.1.2≤y∧y<e.2.2)∧∃e∈E,e.2.2≤y∧y<e.1.2:=by
 obtain⟨g,hg,hy⟩:=h1
 obtain⟨k,hk,hz⟩:=h2
 constructor
 ·apply Classical.byContradiction
  intro hc
  have:=hC (fun q=>q.2≤y) (fun e he h=>OA fun c=>hc ⟨e,he,h,c⟩) g hg k hk hy
  grind
 ·apply Classical.byContradiction
  intro hc
  have:=hC (fun q=>y<q.2) (fun e he h=>FL fun c=>hc ⟨e,he,c,h⟩) k hk g hg hz
  grind
abbrev Z:=Int×Int
abbrev Jw:=Z×Z
def YO(a b p:Z):Int:=(b.1-a.1)*(p.2-a.2)-(b.2-a.2)*(p.1-a.1)
def le(a b:Int):Bool:=decide (a≤b)
def lt(a b:Int):Bool:=decide (a<b)
def Bc(a b:Z):Bool:=decide (a.1=b.1)&&decide (a.2=b.2)
def Fs(E:List Jw)(e:Jw):Bool:=E.any fun f=>Bc e.1 f.1&&Bc e.2 f.2
def Ss(a b c d:Int):Bool:=le b c||le d a||le b a||le d c
def QX:List Jw→Bool
 | []=>true
 | e::l=>!(Fs l e)&&QX l
def YP(E:List Jw):Bool:=
 (E.all fun e=>E.all fun f=>le 0 (YO e.1 e.2 f.1))&&(E.all fun e=>!(Bc e.1 e.2)) &&
 (E.all fun e=>E.all fun f=>(Bc e.1 f.1&&Bc e.2 f.2)||Ss e.1.2 e.2.2 f.1.2 f.2.2)&&(E.all fun e=>E.all fun f=>(Bc e.1 f.1&&Bc e.2 f.2)||Ss e.2.2 e.1.2 f.2.2 f.1.2)&&QX E &&
 (E.any fun e=>lt e.1.2 e.2.2&&E.all (fun g=>le g.1.2 e.2.2)&&E.any fun f=>lt f.2.2 f.1.2&&decide (f.1.2=e.2.2)&&((Bc e.2 f.1&&lt 0 (YO e.1 e.2 f.2))||(Fs E (e.2,f.1)&&lt f.1.1 e.2.1))) &&
 (E.any fun e=>lt e.2.2 e.1.2&&E.all (fun g=>le e.2.2 g.1.2)&&E.any fun f=>lt f.1.2 f.2.2&&decide (f.1.2=e.2.2)&&((Bc e.2 f.1&&lt 0 (YO e.1 e.2 f.2))||(Fs E (e.2,f.1)&&lt e.2.1 f.1.1)))
theorem TN{a b:Int}:le a b=true↔a≤b:=by unfold le;exact decide_eq_true_iff
theorem Ft{a b:Int}:lt a b=true↔a<b:=by unfold lt;exact decide_eq_true_iff
theorem xB{a b:Z}:Bc a b=true↔a=b:=by
 unfold Bc
 rw[Bool.and_eq_true,decide_eq_true_iff,decide_eq_true_iff]
 exact⟨fun h=>Prod.ext h.1 h.2,fun h=>by rw[h];exact⟨rfl,rfl⟩⟩
theorem WC{E:List Jw}{e:Jw}:Fs E e=true↔e∈E:=by
 unfold Fs
 rw[List.any_eq_true]
 constructor
 ·rintro ⟨f,hf,h⟩
  rw[Bool.and_eq_true,xB,xB] at h
  rwa[Prod.ext h.1 h.2]
 ·intro h
  exact⟨e,h,by rw[Bool.and_eq_true,xB,xB];exact⟨rfl,rfl⟩⟩
theorem TO:∀{E:List Jw},QX E=true→E.Nodup
 | [],_=>List.nodup_nil
 | e::l,h=>by
  unfold QX at h
  rw[Bool.and_eq_true,Bool.not_eq_true'] at h
  rw[List.nodup_cons]
  exact⟨fun hm=>by rw[WC.2 hm] at h;exact absurd h.1 (by decide),TO h.2⟩
def pl(x y r:Int)(p:Z):Q:=(((x+r*p.1:Int):Rat),((y+r*p.2:Int):Rat))
def Qb(x y r:Int)(e:Jw):Ed:=(pl x y r e.1,pl x y r e.2)
theorem GV(x y r:Int)(a b p:Z):cr (pl x y r a) (pl x y r b) (pl x y r p)=((r*r*YO a b p:Int):Rat):=by
 unfold cr pl YO
 dsimp only
 simp only[←Rat.intCast_sub,←Rat.intCast_mul]
 exact congrArg _ (by grind)
theorem vC{a b:Int}:(a:Rat)≤(b:Rat)↔a≤b:=Rat.intCast_le_intCast
theorem zM{a b:Int}:(a:Rat)<(b:Rat)↔a<b:=Rat.intCast_lt_intCast
theorem Jx{r a b c:Int}(hr:0<r):c+r*a≤c+r*b↔a≤b:=by
 constructor
 ·intro h
  have:r*a≤r*b:=by omega
  exact Int.le_of_mul_le_mul_left this hr
 ·intro h
  have:=Int.mul_le_mul_of_nonneg_left h (Int.le_of_lt hr)
  omega
theorem YQ{r a b c:Int}(hr:0<r):c+r*a<c+r*b↔a<b:=by
 constructor
 ·intro h
  have:r*a<r*b:=by omega
  exact Int.lt_of_mul_lt_mul_left this (Int.le_of_lt hr)
 ·intro h
  have:=Int.mul_lt_mul_of_pos_left h hr
  omega
section
variable {x y r:Int} (hr:0<r)
include hr
theorem MT{p q:Z}:(pl x y r p).2≤(pl x y r q).2↔p.2≤q.2:=by unfold pl;rw[vC];exact Jx hr
theorem Jy{p q:Z}:(pl x y r p).2<(pl x y r q).2↔p.2<q.2:=by unfold pl;rw[zM];exact YQ hr
theorem Ri{p q:Z}:(pl x y r p).1<(pl x y r q).1↔p.1<q.1:=by unfold pl;rw[zM];exact YQ hr
theorem Lw{a b p:Z}:0<cr (pl x y r a) (pl x y r b) (pl x y r p)↔0<YO a b p:=by
 rw[GV,show (0:Rat)=((0:Int):Rat) from rfl,zM]
 have h2:0<r*r:=Int.mul_pos hr hr
 constructor
 ·intro h
  have:(r*r)*0<(r*r)*YO a b p:=by rw[Int.mul_zero];exact h
  exact Int.lt_of_mul_lt_mul_left this (Int.le_of_lt h2)
 ·intro h;exact Int.mul_pos h2 h
theorem Ti{a b p:Z}(h:0≤YO a b p):0≤cr (pl x y r a) (pl x y r b) (pl x y r p):=by
 rw[GV,show (0:Rat)=((0:Int):Rat) from rfl,vC]
 exact Int.mul_nonneg (Int.le_of_lt (Int.mul_pos hr hr)) h
theorem WD{p q:Z}(h:pl x y r p=pl x y r q):p=q:=by
 have h1:x+r*p.1=x+r*q.1:=Rat.intCast_inj.1 (congrArg Prod.fst h)
 have h2:y+r*p.2=y+r*q.2:=Rat.intCast_inj.1 (congrArg Prod.snd h)
 exact Prod.ext (Int.eq_of_mul_eq_mul_left (Int.ne_of_gt hr) (by omega)) (Int.eq_of_mul_eq_mul_left (Int.ne_of_gt hr) (by omega))
theorem Lx{E:List Jw}(h:YP E=true)(hC:Ju (E.map (Qb x y r)))(hc:∀e∈E.map (Qb x y r),∃f∈E.map (Qb x y r),f.1=e.2):Gd (E.map (Qb x y r)):=by
 unfold YP at h
 simp only[Bool.and_eq_true] at h
 obtain⟨⟨⟨⟨⟨⟨g1,g2⟩,g3⟩,g4⟩,g5⟩,g6⟩,g7⟩:=h
 rw[List.all_eq_true] at g1 g2 g3 g4
 rw[List.any_eq_true] at g6 g7
 have dj:∀{a b c d:Int} {A B C D y:Rat},Ss a b c d=true→(B≤C↔b≤c)→(D≤A↔d≤a)→(B≤A↔b≤a)→(D≤C↔d≤c)→A≤y→y<B→C≤y→y<D→False:=fun hd h1 h2 h3 h4 a1 a2 a3 a4=>by
  unfold Ss at hd
  simp only[Bool.or_eq_true,TN] at hd
  rcases hd with((q | q) | q) | q
  ·have:=h1.2 q;grind
  ·have:=h2.2 q;grind
  ·have:=h3.2 q;grind
  ·have:=h4.2 q;grind
 refine⟨?_,hc,?_,?_,?_,?_,?_,?_,Og hC⟩
 ·rintro e0 he0 f0 hf0
  obtain⟨e,he,rfl⟩:=List.mem_map.1 he0
  obtain⟨f,hf,rfl⟩:=List.mem_map.1 hf0
  have:=g1 e he
  rw[List.all_eq_true] at this
  exact Ti hr (TN.1 (this f hf))
 ·rintro e0 he0 h0
  obtain⟨e,he,rfl⟩:=List.mem_map.1 he0
  have:=g2 e he
  rw[Bool.not_eq_true'] at this
  rw[xB.2 (WD hr h0)] at this
  exact absurd this (by decide)
 ·rintro e0 he0 f0 hf0 z h1 h2 h3 h4
  obtain⟨e,he,rfl⟩:=List.mem_map.1 he0
  obtain⟨f,hf,rfl⟩:=List.mem_map.1 hf0
  have:=g3 e he
  rw[List.all_eq_true] at this
  have:=this f hf
  rw[Bool.or_eq_true,Bool.and_eq_true,xB,xB] at this
  rcases this with⟨q1,q2⟩ | q
  ·rw[Prod.ext q1 q2]
  ·exact(dj q (MT hr) (MT hr) (MT hr) (MT hr) h1 h2 h3 h4).elim
 ·rintro e0 he0 f0 hf0 z h1 h2 h3 h4
  obtain⟨e,he,rfl⟩:=List.mem_map.1 he0
  obtain⟨f,hf,rfl⟩:=List.mem_map.1 hf0
  have:=g4 e he
  rw[List.all_eq_true] at this
  have:=this f hf
  rw[Bool.or_eq_true,Bool.and_eq_true,xB,xB] at this
  rcases this with⟨q1,q2⟩ | q
  ·rw[Prod.ext q1 q2]
  ·exact(dj q (MT hr) (MT hr) (MT hr) (MT hr) h1 h2 h3 h4).elim
 ·have:=TO g5
  rw[List.Nodup,List.pairwise_map]
  exact List.Pairwise.imp (fun hne h0=>hne (Prod.ext (WD hr (congrArg Prod.fst h0)) (WD hr (congrArg Prod.snd h0)))) this
 ·obtain⟨e,he,q⟩:=g6
  simp only[Bool.and_eq_true,List.all_eq_true,List.any_eq_true,Ft,TN,Bool.or_eq_true,xB,WC,decide_eq_true_iff] at q
  obtain⟨⟨q1,q2⟩,f,hf,⟨q3,q4⟩,q5⟩:=q
  refine⟨_,List.mem_map.2 ⟨e,he,rfl⟩,_,List.mem_map.2 ⟨f,hf,rfl⟩,(Jy hr).2 q1,(Jy hr).2 q3,fun g0 hg0=>?_,?_,?_⟩
  ·obtain⟨g,hg,rfl⟩:=List.mem_map.1 hg0
   exact(MT hr).2 (q2 g hg)
  ·show (((y+r*f.1.2:Int)):Rat)=((y+r*e.2.2:Int):Rat)
   rw[q4]
  ·rcases q5 with⟨p1,p2⟩ | ⟨p1,p2⟩
   ·exact .inl ⟨congrArg (pl x y r) p1,(Lw hr).2 p2⟩
   ·exact .inr ⟨List.mem_map.2 ⟨_,p1,rfl⟩,(Ri hr).2 p2⟩
 ·obtain⟨e,he,q⟩:=g7
  simp only[Bool.and_eq_true,List.all_eq_true,List.any_eq_true,Ft,TN,Bool.or_eq_true,xB,WC,decide_eq_true_iff] at q
  obtain⟨⟨q1,q2⟩,f,hf,⟨q3,q4⟩,q5⟩:=q
  refine⟨_,List.mem_map.2 ⟨e,he,rfl⟩,_,List.mem_map.2 ⟨f,hf,rfl⟩,(Jy hr).2 q1,(Jy hr).2 q3,fun g0 hg0=>?_,?_,?_⟩
  ·obtain⟨g,hg,rfl⟩:=List.mem_map.1 hg0
   exact(MT hr).2 (q2 g hg)
  ·show (((y+r*f.1.2:Int)):Rat)=((y+r*e.2.2:Int):Rat)
   rw[q4]
  ·rcases q5 with⟨p1,p2⟩ | ⟨p1,p2⟩
   ·exact .inl ⟨congrArg (pl x y r) p1,(Lw hr).2 p2⟩
   ·exact .inr ⟨List.mem_map.2 ⟨_,p1,rfl⟩,(Ri hr).2 p2⟩
end
end Go.Eng.Tg
namespace Go.Eng.Tg
open Go.Eng.Tw
def LF(a b c:Q):Prop:=cr a b c=0∧0<(a.1-b.1)*(c.1-b.1)+(a.2-b.2)*(c.2-b.2)
def aQ{α:Type}[Inhabited α](l:List α)(i:Nat):α:=l.getD (i%l.length) default
def Oh(L:List Q):Prop:=3≤L.length∧∀i<L.length,aQ L i≠aQ L (i+1)∧¬LF (aQ L i) (aQ L (i+1)) (aQ L (i+2)) ∧
 ∀j,i+2≤j→j<L.length→(0<i∨j<L.length-1)→¬jE (aQ L i) (aQ L (i+1)) (aQ L j) (aQ L (j+1))
def Su(d u:Int):Bool:=(le 0 u&&le u d)||(le d u&&le u 0)
def Qc(a b p:Z):Bool:=decide (YO a b p=0)&&Su (b.1-a.1) (p.1-a.1)&&Su (b.2-a.2) (p.2-a.2)
def YR(a b c d:Z):Bool:=Qc a b c||Qc a b d||Qc c d a||Qc c d b||(lt (YO a b c*YO a b d) 0&&lt (YO c d a*YO c d b) 0)
def YS(a b c:Z):Bool:=decide (YO a b c=0)&&lt 0 ((a.1-b.1)*(c.1-b.1)+(a.2-b.2)*(c.2-b.2))
def Oi(s:List Z):Bool:=Nat.ble 3 s.length&&(List.range s.length).all fun i=>!(Bc (aQ s i) (aQ s (i+1)))&&!(YS (aQ s i) (aQ s (i+1)) (aQ s (i+2))) &&
 (List.range s.length).all fun j=>Nat.blt j (i+2)||!(Nat.blt 0 i||Nat.blt j (s.length-1))||!(YR (aQ s i) (aQ s (i+1)) (aQ s j) (aQ s (j+1)))
theorem uA{α β:Type}[Inhabited α][Inhabited β](f:α→β){l:List α}(h:0<l.length)(i:Nat):aQ (l.map f) i=f (aQ l i):=by
 unfold aQ
 rw[List.length_map]
 have hi:i%l.length<l.length:=Nat.mod_lt _ h
 rw[List.getD_eq_getElem?_getD,List.getD_eq_getElem?_getD,List.getElem?_map,List.getElem?_eq_getElem hi]
 rfl
section
variable {x y r:Int} (hr:0<r)
include hr
omit hr in
theorem Be{a:Int}:(a:Rat)<0↔a<0:=by rw[show (0:Rat)=((0:Int):Rat) from rfl,zM]
omit hr in
theorem Ly{c a p b:Int}(hr:0<r)(h:Su (b-a) (p-a)=true):Bt (((c+r*b:Int):Rat)-((c+r*a:Int):Rat)) (((c+r*p:Int):Rat)-((c+r*a:Int):Rat)):=by
 have e1:((c+r*b:Int):Rat)-((c+r*a:Int):Rat)=((r*(b-a):Int):Rat):=by rw[←Rat.intCast_sub];exact congrArg _ (by grind)
 have e2:((c+r*p:Int):Rat)-((c+r*a:Int):Rat)=((r*(p-a):Int):Rat):=by rw[←Rat.intCast_sub];exact congrArg _ (by grind)
 rw[e1,e2]
 unfold Su at h
 rw[Bool.or_eq_true,Bool.and_eq_true,Bool.and_eq_true,TN,TN,TN,TN] at h
 have r0:=Int.le_of_lt hr
 rcases h with⟨h1,h2⟩ | ⟨h1,h2⟩
 ·left
  exact⟨by rw[show (0:Rat)=((0:Int):Rat) from rfl,vC];exact Int.mul_nonneg r0 h1,vC.2 (Int.mul_le_mul_of_nonneg_left h2 r0)⟩
 ·right
  exact⟨vC.2 (Int.mul_le_mul_of_nonneg_left h1 r0),by rw[show (0:Rat)=((0:Int):Rat) from rfl,vC];have:=Int.mul_le_mul_of_nonneg_left h2 r0;rw[Int.mul_zero] at this;exact this⟩
theorem YT{a b p:Z}(h:Qc a b p=true):On (pl x y r a) (pl x y r b) (pl x y r p):=by
 unfold Qc at h
 rw[Bool.and_eq_true,Bool.and_eq_true,decide_eq_true_iff] at h
 obtain⟨⟨h1,h2⟩,h3⟩:=h
 refine⟨by rw[GV,h1,Int.mul_zero];rfl,Ly hr h2,Ly hr h3⟩
theorem Rj{a b:Int}(h:a*b<0):((r*r*a:Int):Rat)*((r*r*b:Int):Rat)<0:=by
 rw[←Rat.intCast_mul,Be]
 have h2:0<r*r:=Int.mul_pos hr hr
 have:r*r*a*(r*r*b)=(r*r)*((r*r)*(a*b)):=by grind
 rw[this]
 exact Int.mul_neg_of_pos_of_neg h2 (Int.mul_neg_of_pos_of_neg h2 h)
theorem Jz{a b c d:Z}(h:YR a b c d=true):jE (pl x y r a) (pl x y r b) (pl x y r c) (pl x y r d):=by
 unfold YR at h
 simp only[Bool.or_eq_true,Bool.and_eq_true,Ft] at h
 rcases h with(((h | h) | h) | h) | ⟨h1,h2⟩
 ·exact .inl (YT hr h)
 ·exact .inr (.inl (YT hr h))
 ·exact .inr (.inr (.inl (YT hr h)))
 ·exact .inr (.inr (.inr (.inl (YT hr h))))
 ·refine .inr (.inr (.inr (.inr ⟨?_,?_⟩)))
  ·rw[GV,GV];exact Rj hr h1
  ·rw[GV,GV];exact Rj hr h2
theorem Ka{a b c:Z}(h:YS a b c=true):LF (pl x y r a) (pl x y r b) (pl x y r c):=by
 unfold YS at h
 rw[Bool.and_eq_true,decide_eq_true_iff,Ft] at h
 refine⟨by rw[GV,h.1,Int.mul_zero];rfl,?_⟩
 have e:((pl x y r a).1-(pl x y r b).1)*((pl x y r c).1-(pl x y r b).1)+((pl x y r a).2-(pl x y r b).2)*((pl x y r c).2-(pl x y r b).2)=((r*r*((a.1-b.1)*(c.1-b.1)+(a.2-b.2)*(c.2-b.2)):Int):Rat):=by
  unfold pl
  dsimp only
  simp only[←Rat.intCast_sub,←Rat.intCast_mul,←Rat.intCast_add]
  exact congrArg _ (by grind)
 rw[e,show (0:Rat)=((0:Int):Rat) from rfl,zM]
 exact Int.mul_pos (Int.mul_pos hr hr) h.2
theorem Oj{s:List Z}(h:Oh (s.map (pl x y r))):Oi s=true:=by
 obtain⟨h3,h⟩:=h
 rw[List.length_map] at h3 h
 have h0:0<s.length:=by omega
 unfold Oi
 rw[Bool.and_eq_true]
 refine⟨Nat.ble_eq_true_of_le h3,?_⟩
 rw[List.all_eq_true]
 intro i hi
 obtain⟨g1,g2,g3⟩:=h i (List.mem_range.1 hi)
 rw[uA _ h0,uA _ h0] at g1 g2
 rw[uA _ h0] at g2
 rw[Bool.and_eq_true,Bool.and_eq_true,Bool.not_eq_true',Bool.not_eq_true']
 refine⟨⟨?_,?_⟩,?_⟩
 ·cases hc:Bc (aQ s i) (aQ s (i+1)) with
  | false=>rfl
  | true=>rw[xB.1 hc] at g1;exact absurd rfl g1
 ·cases hc:YS (aQ s i) (aQ s (i+1)) (aQ s (i+2)) with
  | false=>rfl
  | true=>exact absurd (Ka hr hc) g2
 ·rw[List.all_eq_true]
  intro j hj
  have hjl:=List.mem_range.1 hj
  cases c1:Nat.blt j (i+2) with
  | true=>rfl
  | false=>
   cases c2:(Nat.blt 0 i||Nat.blt j (s.length-1)) with
   | false=>rfl
   | true=>
    cases c3:YR (aQ s i) (aQ s (i+1)) (aQ s j) (aQ s (j+1)) with
    | false=>rfl
    | true=>
     exfalso
     have a1:i+2≤j:=by
      by_cases c:i+2≤j
      ·exact c
      ·have:Nat.blt j (i+2)=true:=by simp only[Nat.blt_eq];omega
       rw[this] at c1;cases c1
     have a2:0<i∨j<s.length-1:=by
      rw[Bool.or_eq_true,Nat.blt_eq,Nat.blt_eq] at c2
      exact c2
     have:=g3 j a1 hjl a2
     rw[uA _ h0,uA _ h0,uA _ h0,uA _ h0] at this
     exact this (Jz hr c3)
end
def Sv(s:List Z):Int:=((jW s).map fun e=>e.1.1*e.2.2-e.2.1*e.1.2).sum
def TP(s:List Z):Bool:=(YP (jW s)&&lt 0 (Sv s))||(YP (sw (jW s))&&lt (Sv s) 0)||!(Oi s)
def Bf:List Z→List (List Z)
 | []=>[[]]
 | a::l=>Bf l++(Bf l).map (a::·)
def Rk:List Z→List Z
 | a::b::l=>b::a::l
 | l=>l
def Bg:List Z:=[(2,0),(2,1),(1,2),(-1,2),(-2,0),(-2,-1),(0,-2),(1,-1)]
def Fu:List Z:=[(-1,-1),(1,-1),(1,1),(-1,1)]
def TQ:List Z:=[(-1,-1),(-1,1),(1,1),(1,-1)]
def tri:List Z:=[(0,0),(3,1),(1,4)]
theorem LG:∀{s l:List Z},s.Sublist l→s∈Bf l
 | _,_,.slnil=>List.mem_cons_self ..
 | _,_,.cons _ h=>List.mem_append.2 (.inl (LG h))
 | _,_,.cons_cons _ h=>List.mem_append.2 (.inr (List.mem_map.2 ⟨_,LG h,rfl⟩))
theorem Ok:((Bf Bg).all fun s=>TP s&&TP (Rk s))=true:=by decide +kernel
theorem Ol:((Bf Bg.reverse).all fun s=>TP s&&TP (Rk s))=true:=by decide +kernel
theorem Om:((List.range 4).all fun k=>TP (Fu.drop k++Fu.take k)&&TP (TQ.drop k++TQ.take k))=true:=by decide +kernel
theorem Rl:TP tri=true:=by decide +kernel
end Go.Eng.Tg
namespace Go.Eng.Tg
open Go.Eng.Tw
variable {E F:List Ed}
theorem Rm{p:Q}:EE (sw E) p↔EE E p:=by
 constructor
 ·rintro ⟨e,he,h⟩
  exact⟨_,wJ.1 he,H8 h⟩
 ·rintro ⟨e,he,h⟩
  exact⟨(e.2,e.1),wJ.2 he,H8 h⟩
theorem Rn(p:Q)(e:Ed):we p (e.2,e.1)=-we p e:=by
 unfold we
 dsimp only
 rw[H7 e.1 e.2 p]
 by_cases h1:e.1.2≤p.2∧p.2<e.2.2
 ·rw[if_neg (by rintro ⟨a,b,_⟩;grind),if_neg (c:=e.2.2≤p.2∧_) (by rintro ⟨a,b,_⟩;grind)]
  by_cases h2:0<cr e.1 e.2 p
  ·rw[if_pos ⟨h1.1,h1.2,by grind⟩,if_pos ⟨h1.1,h1.2,h2⟩]
  ·rw[if_neg (by rintro ⟨_,_,h⟩;grind),if_neg fun h=>h2 h.2.2];rfl
 ·rw[if_neg (c:=e.1.2≤p.2∧p.2<e.2.2∧-cr e.1 e.2 p<0) fun h=>h1 ⟨h.1,h.2.1⟩,if_neg (c:=e.1.2≤p.2∧p.2<e.2.2∧0<cr e.1 e.2 p) fun h=>h1 ⟨h.1,h.2.1⟩]
  by_cases h2:e.2.2≤p.2∧p.2<e.1.2
  ·by_cases h3:cr e.1 e.2 p<0
   ·rw[if_pos ⟨h2.1,h2.2,by grind⟩,if_pos ⟨h2.1,h2.2,h3⟩];rfl
   ·rw[if_neg (by rintro ⟨_,_,h⟩;grind),if_neg fun h=>h3 h.2.2];rfl
  ·rw[if_neg fun h=>h2 ⟨h.1,h.2.1⟩,if_neg fun h=>h2 ⟨h.1,h.2.1⟩];rfl
theorem Lz(p:Q):∀E:List Ed,wd (sw E) p=-wd E p
 | []=>rfl
 | e::l=>by
  have ih:=Lz p l
  unfold wd sw at *
  rw[List.map_cons,List.map_cons,List.map_cons,List.sum_cons,List.sum_cons,ih,Rn];omega
theorem TR(h:Apart E F):Apart (sw E) F:=fun e he f hf hm=>h _ (wJ.1 he) f hf (TL hm)
structure Lp (L:List Q) (s:Int) (G:List Ed):Prop where
 gd:Gd G
 con:Ju G
 dir:(s=1∧G=jW L)∨(s=-1∧G=sw (jW L))
section
variable {L:List Q} {s:Int} {G:List Ed}
theorem Lp.on(h:Lp L s G){p:Q}:EE (jW L) p↔EE G p:=by
 rcases h.dir with⟨_,e⟩ | ⟨_,e⟩
 ·rw[e]
 ·rw[e,Rm]
open Classical in
theorem Lp.wind(h:Lp L s G){p:Q}(ho:¬EE (jW L) p):wd (jW L) p=if H G p then s else 0:=by
 have hw:=h.gd.wind (p:=p) fun c=>ho (h.on.2 c)
 rcases h.dir with⟨es,e⟩ | ⟨es,e⟩
 ·rw[es]
  by_cases hH:H G p
  ·rw[if_pos hH,←e];exact hw.1 hH
  ·rw[if_neg hH,←e];exact hw.2 hH
 ·rw[es]
  have h2:wd G p=-wd (jW L) p:=by rw[e];exact Lz p _
  by_cases hH:H G p
  ·rw[if_pos hH];have:=hw.1 hH;omega
  ·rw[if_neg hH];have:=hw.2 hH;omega
theorem LH{i:Nat}(h0:0<L.length):(aQ L i,aQ L (i+1))∈jW L:=by
 refine oJ.2 ⟨i%L.length,Nat.mod_lt _ h0,?_⟩
 unfold aQ
 rw[Nat.mod_add_mod]
theorem Lp.at(h:Lp L s G)(h0:0<L.length)(i:Nat):∃e∈G,e.1=aQ L i:=by
 rcases h.dir with⟨_,e⟩ | ⟨_,e⟩
 ·exact⟨(aQ L i,aQ L (i+1)),by rw[e];exact LH h0,rfl⟩
 ·obtain⟨f,hf,e2⟩:=Fq (l:=L) (e:=(aQ L (i+1),aQ L i)) (wJ.2 (LH h0))
  exact⟨f,by rw[e];exact hf,e2⟩
theorem Lp.sg(h:Lp L s G):s=1∨s=-1:=h.dir.imp And.left And.left
theorem Lp.apart{M:List Q}{t:Int}{K:List Ed}(h:Lp L s G)(k:Lp M t K)(ha:Apart (jW L) (jW M)):Apart G K:=by
 have h1:Apart G (jW M):=by
  rcases h.dir with⟨_,e⟩ | ⟨_,e⟩
  ·rw[e];exact ha
  ·rw[e];exact TR ha
 rcases k.dir with⟨_,e⟩ | ⟨_,e⟩
 ·rw[e];exact h1
 ·rw[e];exact(TR h1.symm).symm
end
def iH(m:Nat)(f:Nat→Int):Int:=((List.range m).map f).sum
theorem dX(m:Nat)(f:Nat→Int):iH (m+1) f=iH m f+f m:=by
 unfold iH
 rw[List.range_succ,List.map_append,List.sum_append];simp
theorem mV{m:Nat}{f g:Nat→Int}(h:∀j,j<m→f j=g j):iH m f=iH m g:=by
 unfold iH
 exact congrArg List.sum (List.map_congr_left fun j hj=>h j (List.mem_range.1 hj))
theorem Bh{m:Nat}{f:Nat→Int}(h:∀j,j<m→f j=0):iH m f=0:=by
 induction m with
 | zero=>rfl
 | succ m ih=>rw[dX,ih fun j hj=>h j (by omega),h m (by omega)];rfl
theorem QY{f:Nat→Int}{i:Nat}:∀{m:Nat},i<m→iH m f=iH m (fun j=>if j=i then 0 else f j)+f i
 | 0,h=>by omega
 | m+1,h=>by
  rw[dX,dX]
  by_cases hm:i=m
  ·subst hm
   rw[if_pos rfl,mV (m:=i) (f:=fun j=>if j=i then 0 else f j) (g:=f) fun j hj=>by show (if j=i then 0 else f j)=f j;rw[if_neg (by omega)]];omega
  ·rw[if_neg (fun e=>hm e.symm),QY (f:=f) (i:=i) (m:=m) (by omega)];omega
structure Ns (m:Nat) (G:Nat→List Ed) (v:Nat→Q):Prop where
 gd:∀i,i<m→Gd (G i)
 con:∀i,i<m→Ju (G i)
 ap:∀i,i<m→∀j,j<m→i≠j→Apart (G i) (G j)
 on:∀i,i<m→∃e∈G i,e.1=v i
open Classical in
noncomputable def ad(G:Nat→List Ed)(s:Nat→Int)(p:Q)(j:Nat):Int:=if H (G j) p then s j else 0
section
variable {m:Nat} {G:Nat→List Ed} {v:Nat→Q} (hN:Ns m G v)
include hN
theorem Fv{p:Q}(h:∃i,i<m∧H (G i) p):∃i,i<m∧H (G i) p∧∀j,j<m→j≠i→(H (G j) p↔H (G j) (v i)):=by
 have hmx:∀i,i<m→∃e∈G i,∀f∈G i,f.1.1≤e.1.1:=fun i hi=>by
  obtain⟨e0,he0,_⟩:=(hN.gd i hi).top
  obtain⟨e,he,hl⟩:=YM (fun e:Ed=>-e.1.1) (G i) (by intro c;rw[c] at he0;cases he0)
  exact⟨e,he,fun f hf=>by have:=hl f hf;grind⟩
 have hM:∃M:Nat→Rat,∀i,i<m→(∃e∈G i,e.1.1=M i)∧∀f∈G i,f.1.1≤M i:=by
  refine⟨fun i=>if hi:i<m then (Classical.choose (hmx i hi)).1.1 else 0,fun i hi=>?_⟩
  have:=Classical.choose_spec (hmx i hi)
  dsimp only
  rw[dif_pos hi]
  exact⟨⟨_,this.1,rfl⟩,this.2⟩
 obtain⟨M,hM⟩:=hM
 obtain⟨i0,hi0,hp0⟩:=h
 open Classical in
 obtain⟨i,hi,hmin⟩:=YM M ((List.range m).filter fun i=>decide (H (G i) p)) (by
  intro c
  have:i0∈(List.range m).filter fun i=>decide (H (G i) p):=List.mem_filter.2 ⟨List.mem_range.2 hi0,decide_eq_true hp0⟩
  rw[c] at this
  cases this)
 obtain⟨him,hip⟩:=List.mem_filter.1 hi
 have him:=List.mem_range.1 him
 have hip:=of_decide_eq_true hip
 refine⟨i,him,hip,fun j hj hne=>?_⟩
 have ha:=hN.ap i him j hj (Ne.symm hne)
 obtain⟨e,he,ev⟩:=hN.on i him
 constructor
 ·intro hjp
  rcases nested (hN.gd i him) (hN.gd j hj) ha (hN.con i him) (hN.con j hj) hip hjp with h | h
  ·rw[←ev];exact h e he
  ·exfalso
   obtain⟨⟨f,hf,ef⟩,_⟩:=hM j hj
   obtain⟨g,hg,hlt⟩:=(hN.gd i him).less (h f hf)
   have h1:=(hM i him).2 g hg
   have h2:=hmin j (List.mem_filter.2 ⟨List.mem_range.2 hj,decide_eq_true hjp⟩)
   grind
 ·intro hjv
  rw[←ev] at hjv
  exact Lu (hN.gd i him) (hN.gd j hj) (LD (hN.gd j hj) ha (hN.gd i him) (hN.con i him) he hjv) hip
theorem Fw{s:Nat→Int}(hc:∀i,i<m→∀n,n=iH m (fun j=>if j=i then 0 else ad G s (v i) j)→n+s i=0∨n+s i=1)(p:Q):iH m (ad G s p)=0∨iH m (ad G s p)=1:=by
 by_cases h:∃i,i<m∧H (G i) p
 ·obtain⟨i,hi,hip,hj⟩:=Fv hN h
  have e1:ad G s p i=s i:=by unfold ad;rw[if_pos hip]
  rw[QY hi,e1]
  refine hc i hi _ (mV fun j hjm=>?_)
  by_cases hji:j=i
  ·rw[if_pos hji,if_pos hji]
  ·rw[if_neg hji,if_neg hji]
   unfold ad
   by_cases c:H (G j) p
   ·rw[if_pos c,if_pos ((hj j hjm hji).1 c)]
   ·rw[if_neg c,if_neg fun c'=>c ((hj j hjm hji).2 c')]
 ·left
  exact Bh fun j hj=>by unfold ad;rw[if_neg fun c=>h ⟨j,hj,c⟩]
end
end Go.Eng.Tg
namespace Go.Eng.Rt
open Go.Eng Go.Eng.Tw Go.Eng.Tm Go.Eng.Tg
def cq(p:Z):Q:=((p.1:Rat),(p.2:Rat))
open Classical in
noncomputable def bP(P:Prop):Bool:=decide P
open Classical in
theorem iI{P:Prop}(h:P):bP P=true:=by unfold bP;exact decide_eq_true h
open Classical in
theorem fR{P:Prop}(h:¬P):bP P=false:=by unfold bP;exact decide_eq_false h
open Classical in
theorem Oo{P:Prop}:bP P=true↔P:=by unfold bP;exact decide_eq_true_iff
theorem jX{P R:Prop}(h:P↔R):bP P=bP R:=by rw[propext h]
theorem zN{P:Prop}[Decidable P]:decide P=bP P:=by
 by_cases h:P
 ·rw[decide_eq_true h,iI h]
 ·rw[decide_eq_false h,fR h]
theorem tH{P R:Prop}:bP (P∨R)=(bP P||bP R):=by
 by_cases h:P
 ·rw[iI h,iI (.inl h)];rfl
 ·rw[fR h]
  by_cases h':R
  ·rw[iI h',iI (.inr h')];rfl
  ·rw[fR h',fR (fun c=>c.elim h h')];rfl
theorem zO{P R:Prop}:bP (P∧R)=(bP P&&bP R):=by
 by_cases h:P
 ·rw[iI h]
  by_cases h':R
  ·rw[iI h',iI ⟨h,h'⟩];rfl
  ·rw[fR h',fR fun c=>h' c.2];rfl
 ·rw[fR h,fR fun c=>h c.1];rfl
theorem FM{P:Prop}:bP (¬P)=!(bP P):=by
 by_cases h:P
 ·rw[iI h,fR fun c=>c h];rfl
 ·rw[fR h,iI h];rfl
abbrev pt(p:Z):Bool×List T×List T×Bool×List T×List T×Bool×List T×List T×Unit:=(aK (p.1:Rat),aR (p.1:Rat),aW (p.1:Rat),aK (p.2:Rat),aR (p.2:Rat),aW (p.2:Rat),false,[],[],())
theorem TS(p:Z):c3 (p.1:Rat) (c3 (p.2:Rat) (c3 0 ()))=pt p:=by rw[z3]
def Sp(p:Z):Prop:=p.1.natAbs≤32∧p.2.natAbs≤32
def Se(p q:Z):Prop:=Sp p∧(q.1-p.1).natAbs≤20∧(q.2-p.2).natAbs≤20
theorem TT{p:Z}(h:Sp p):Pr 1 (p.1:Rat) (p.2:Rat) 0:=
 ⟨⟨by decide,(Fr.int _).mono h.1,(Fr.int _).mono h.2,(Fr.zero (by decide)).mono (by decide)⟩,32,by decide,(Fr.int _).mono h.1,(Fr.int _).mono h.2⟩
theorem Kb(a b:Z)(px py:Rat):((b.1-a.1:Int):Rat)*(py-a.2)-((b.2-a.2:Int):Rat)*(px-a.1)=cr (cq a) (cq b) (px,py):=by
 unfold cr cq;dsimp only;rw[Rat.intCast_sub,Rat.intCast_sub]
theorem Oq(a b:Z)(px py:Rat):Br ((b.1-a.1:Int):Rat) ((b.2-a.2:Int):Rat) (px-a.1) (py-a.2)=bP (On (cq a) (cq b) (px,py)):=by
 have h:Od ((b.1-a.1:Int):Rat) ((b.2-a.2:Int):Rat) (px-a.1) (py-a.2)↔On (cq a) (cq b) (px,py):=by
  unfold Od On
  rw[Kb]
  unfold cq
  dsimp only
  rw[Rat.intCast_sub,Rat.intCast_sub]
 by_cases hc:Od ((b.1-a.1:Int):Rat) ((b.2-a.2:Int):Rat) (px-a.1) (py-a.2)
 ·rw[Fh hc,iI (h.1 hc)]
 ·rw[TK hc,fR fun c=>hc (h.2 c)]
theorem Ro{a b:Z}(h:Se a b){D:Nat}{px py pz:Rat}(hp:Pp D 32 px py pz):iS (lit a b (c3 px (c3 py (c3 pz ()))))=some (bP (On (cq a) (cq b) (px,py)),()):=by
 rw[(QV h.1.1 h.1.2 h.2.1 h.2.2 hp).1,Oq]
theorem Rp{a b:Z}(h:Se a b){D:Nat}{px py pz:Rat}(hp:Pp D 32 px py pz):bC (lit a b (c3 px (c3 py (c3 pz ()))))=some (jA (cr (cq a) (cq b) (px,py)),()):=by
 rw[(QV h.1.1 h.1.2 h.2.1 h.2.2 hp).2.1];unfold sE;rw[Kb]
theorem Rq{a b:Z}(h:Se a b){D:Nat}{px py pz:Rat}(hp:Pr D px py pz):u_ref21_on (lit a b (c3 px (c3 py (c3 pz ()))))=some (bP (On (cq a) (cq b) (px,py)),()):=by
 rw[Oe h.1.1 h.1.2 h.2.1 h.2.2 hp,Oq]
theorem Rr{a b:Z}(h:Se a b){D:Nat}{px py pz:Rat}(hp:Pp D 32 px py pz):u_ref04_Orient2 (lit a b (c3 px (c3 py (c3 pz ()))))=some (jA (cr (cq a) (cq b) (px,py)),()):=by
 rw[(QV h.1.1 h.1.2 h.2.1 h.2.2 hp).2.2];unfold sE;rw[Kb]
theorem YU{a b c:Z}(h:Se a b)(hc:Sp c):iS (lit a b (pt c))=some (bP (On (cq a) (cq b) (cq c)),()):=by
 have:=Ro h (TT hc).up;rw[TS] at this;exact this
theorem TU{a b c:Z}(h:Se a b)(hc:Sp c):bC (lit a b (pt c))=some (jA (cr (cq a) (cq b) (cq c)),()):=by
 have:=Rp h (TT hc).up;rw[TS] at this;exact this
theorem OB{a b c:Z}(h:Se a b)(hc:Sp c):u_ref21_on (lit a b (pt c))=some (bP (On (cq a) (cq b) (cq c)),()):=by
 have:=Rq h (TT hc);rw[TS] at this;exact this
theorem YV{a b c:Z}(h:Se a b)(hc:Sp c):u_ref04_Orient2 (lit a b (pt c))=some (jA (cr (cq a) (cq b) (cq c)),()):=by
 have:=Rr h (TT hc).up;rw[TS] at this;exact this
theorem TV(x y:Rat):wr .i64 (jA x*jA y)=jA x*jA y:=by
 rcases iY x with⟨h,_⟩ | ⟨h,_⟩ | ⟨h,_⟩ <;> rcases iY y with⟨k,_⟩ | ⟨k,_⟩ | ⟨k,_⟩ <;> rw[h,k] <;> exact dA (by decide) (by decide)
theorem nL(x:Rat):(jA x=0∧x=0)∨(jA x=-1∧x<0)∨(jA x=1∧0<x):=by
 rcases iY x with⟨h,k⟩ | ⟨h,k⟩ | ⟨h,k⟩
 ·exact .inl ⟨h,k⟩
 ·exact .inr (.inl ⟨h,TH.1 k⟩)
 ·exact .inr (.inr ⟨h,TI.1 k⟩)
theorem Kc(x y:Rat):jA x*jA y<0↔x*y<0:=by
 rcases nL x with⟨h,hx⟩ | ⟨h,hx⟩ | ⟨h,hx⟩ <;> rcases nL y with⟨k,hy⟩ | ⟨k,hy⟩ | ⟨k,hy⟩ <;> rw[h,k]
 ·rw[hx];exact⟨fun c=>absurd c (by decide),fun c=>absurd c (by grind)⟩
 ·rw[hx];exact⟨fun c=>absurd c (by decide),fun c=>absurd c (by grind)⟩
 ·rw[hx];exact⟨fun c=>absurd c (by decide),fun c=>absurd c (by grind)⟩
 ·rw[hy];exact⟨fun c=>absurd c (by decide),fun c=>absurd c (by grind)⟩
 ·exact⟨fun c=>absurd c (by decide),fun c=>absurd c (by have:=Rat.mul_pos (show 0 < -x by grind) (show 0 < -y by grind);grind)⟩
 ·exact⟨fun _=>by have:=neg_mul hy hx;grind,fun _=>by decide⟩
 ·rw[hy];exact⟨fun c=>absurd c (by decide),fun c=>absurd c (by grind)⟩
 ·exact⟨fun _=>neg_mul hx hy,fun _=>by decide⟩
 ·exact⟨fun c=>absurd c (by decide),fun c=>absurd c (by have:=Rat.mul_pos hx hy;grind)⟩
theorem Ma(x y:Rat):decide (jA x*jA y<0)=bP (x*y<0):=by rw[zN];exact jX (Kc x y)
section
variable {a b c d:Z} (h1:Se a b) (h2:Se c d) (hb:Sp b) (hd:Sp d)
include h1 h2 hb hd
theorem Fx:nG (lit a b (lit c d ()))=some (bP (jE (cq a) (cq b) (cq c) (cq d)),()):=by
 have e1:=YU h1 h2.1
 have e2:=YU h1 hd
 have e3:=YU h2 h1.1
 have e4:=YU h2 hb
 have f1:=TU h1 h2.1
 have f2:=TU h1 hd
 have f3:=TU h2 h1.1
 have f4:=TU h2 hb
 unfold nG
 simp -implicitDefEqProofs only[e1,e2,e3,e4,f1,f2,f3,f4,aY,aG,dK,TV,Ma]
 unfold jE
 rw[tH,tH,tH,tH,zO]
 generalize bP (On (cq a) (cq b) (cq c))=b1
 generalize bP (On (cq a) (cq b) (cq d))=b2
 generalize bP (On (cq c) (cq d) (cq a))=b3
 generalize bP (On (cq c) (cq d) (cq b))=b4
 generalize bP (cr (cq a) (cq b) (cq c)*cr (cq a) (cq b) (cq d)<0)=b5
 generalize bP (cr (cq c) (cq d) (cq a)*cr (cq c) (cq d) (cq b)<0)=b6
 cases b1 <;> cases b2 <;> cases b3 <;> cases b4 <;> cases b5 <;> rfl
theorem Fy:u_ref21_meet (lit a b (lit c d ()))=some (bP (jE (cq a) (cq b) (cq c) (cq d)),()):=by
 have e1:=OB h1 h2.1
 have e2:=OB h1 hd
 have e3:=OB h2 h1.1
 have e4:=OB h2 hb
 have f1:=YV h1 h2.1
 have f2:=YV h1 hd
 have f3:=YV h2 h1.1
 have f4:=YV h2 hb
 unfold u_ref21_meet
 simp -implicitDefEqProofs only[e1,e2,e3,e4,f1,f2,f3,f4,aY,aG,dK,TV,Ma]
 unfold jE
 rw[tH,tH,tH,tH,zO]
 generalize bP (On (cq a) (cq b) (cq c))=b1
 generalize bP (On (cq a) (cq b) (cq d))=b2
 generalize bP (On (cq c) (cq d) (cq a))=b3
 generalize bP (On (cq c) (cq d) (cq b))=b4
 generalize bP (cr (cq a) (cq b) (cq c)*cr (cq a) (cq b) (cq d)<0)=b5
 generalize bP (cr (cq c) (cq d) (cq a)*cr (cq c) (cq d) (cq b)<0)=b6
 cases b1 <;> cases b2 <;> cases b3 <;> cases b4 <;> cases b5 <;> rfl
end
end Go.Eng.Rt
namespace Go.Eng.Rt
open Go.Eng Go.Eng.Tw Go.Eng.Tm Go.Eng.Tg
theorem AL{S E:Type}{F:S→Option (S⊕E)}(st:Nat→S)(n:Nat)(bad:Nat→Prop)(hit out:E)(h1:∀k,k<n→bad k→F (st k)=some (.inr hit))(h2:∀k,k<n→¬bad k→F (st k)=some (.inl (st (k+1))))
 (h3:∀k,n≤k→F (st k)=some (.inr out)):∀(d k:Nat),n≤k+d→aJ F (st k)=some (bif bP (∃j,k≤j∧j<n∧bad j) then hit else out)
 | 0,k,h=>by
  rw[aV (h3 k (by omega)),fR (by rintro ⟨j,a,b,_⟩;omega)];rfl
 | d+1,k,h=>by
  by_cases hk:k<n
  ·by_cases hb:bad k
   ·rw[aV (h1 k hk hb),iI ⟨k,Nat.le_refl _,hk,hb⟩];rfl
   ·rw[eN (h2 k hk hb),AL st n bad hit out h1 h2 h3 d (k+1) (by omega)]
    have:(∃j,k+1≤j∧j<n∧bad j)↔∃j,k≤j∧j<n∧bad j:=by
     constructor
     ·rintro ⟨j,a,b,c⟩;exact⟨j,by omega,b,c⟩
     ·rintro ⟨j,a,b,c⟩
      refine⟨j,?_,b,c⟩
      by_cases e:j=k
      ·subst e;exact absurd c hb
      ·omega
    rw[jX this]
  ·rw[aV (h3 k (by omega)),fR (by rintro ⟨j,a,b,_⟩;omega)];rfl
theorem LI{p q:Z}(h:cq p=cq q):p=q:=Prod.ext (Rat.intCast_inj.1 (congrArg Prod.fst h)) (Rat.intCast_inj.1 (congrArg Prod.snd h))
theorem WE{l:List Z}{i:Nat}(h:i<l.length):aQ l i=qT l i:=by unfold aQ qT;rw[Nat.mod_eq_of_lt h];rfl
theorem QZ{l:List Z}{i:Nat}(h:i<l.length):aQ l (i+1)=qT l ((i+1)%l.length):=by unfold aQ qT;rfl
theorem zP{l:List Z}(h:0<l.length)(i:Nat):aQ l i∈l∧l[i%l.length]?=some (aQ l i):=by
 have hl:=Nat.mod_lt i h
 have:=CH hl
 have e:qT l (i%l.length)=aQ l i:=rfl
 rw[e] at this
 exact⟨this.2,this.1⟩
theorem qU{l:List Z}(hB:Bx l)(h:0<l.length)(i:Nat):Sp (aQ l i):=hB.2.1 _ (zP h i).1
theorem xC{l:List Z}(hB:Bx l)(h:0<l.length)(i j:Nat):Se (aQ l i) (aQ l j):=⟨qU hB h i,hB.2.2 _ (zP h i).1 _ (zP h j).1⟩
theorem D9{l:List Z}(hB:Bx l){i:Nat}(hi:i<l.length):cP (l.map wT,(i:Int),())=some (lit (aQ l i) (aQ l (i+1)) ()):=by
 have h0:0<l.length:=by omega
 refine WA (by have:=hB.1;omega) hi ?_ (zP h0 (i+1)).2
 have:=(zP h0 i).2
 rwa[Nat.mod_eq_of_lt hi] at this
theorem LJ{n m:Int}:(aK (n:Rat)=aK (m:Rat)∧aR (n:Rat)=aR (m:Rat))↔n=m:=by
 constructor
 ·rintro ⟨h1,h2⟩
  have h3:(n:Rat).num.natAbs=(m:Rat).num.natAbs:=FG (QF h2)
  exact Rat.intCast_inj.1 (X8 h1 h3 (by rw[Rat.den_intCast,Rat.den_intCast]))
 ·rintro rfl;exact⟨rfl,rfl⟩
theorem zQ(n:Int):aW (n:Rat)=[]:=by unfold aW;rw[Rat.den_intCast];exact if_pos rfl
theorem YW{n m:Int}(hn:n.natAbs<1000000):jS (aK (n:Rat),aR (n:Rat),aW (n:Rat),aK (m:Rat),aR (m:Rat),aW (m:Rat),())=some (decide (n=m),()):=by
 have hl:(aU n.natAbs).length<LM:=(tZ (n:=n) (by omega)).fit.1 |> fun h=>by rw[Rat.num_intCast] at h;exact h
 have e1:aI (aR (n:Rat),aR (m:Rat),())=some (decide (aU n.natAbs=aU m.natAbs),()):=by
  have:=QN (a:=aU n.natAbs) (b:=aU m.natAbs) hl
  show aI (cN (aU (n:Rat).num.natAbs),cN (aU (m:Rat).num.natAbs),())=_
  rw[Rat.num_intCast,Rat.num_intCast];exact this
 have e2:aI (([]:List T),([]:List T),())=some (true,()):=by
  have:=QN (a:=[]) (b:=[]) (by decide)
  exact this
 unfold jS
 rw[zQ,zQ]
 simp only[e1,e2,aY,vU]
 have hnum:aR (n:Rat)=aR (m:Rat)↔aU n.natAbs=aU m.natAbs:=by
  constructor
  ·intro h
   have:=QF h
   rw[Rat.num_intCast,Rat.num_intCast] at this
   exact this
  ·intro h
   show cN (aU (n:Rat).num.natAbs)=cN (aU (m:Rat).num.natAbs)
   rw[Rat.num_intCast,Rat.num_intCast,h]
 by_cases h1:aK (n:Rat)=aK (m:Rat)
 ·rw[h1]
  simp only[beq_self_eq_true,cond_true]
  by_cases h2:aU n.natAbs=aU m.natAbs
  ·rw[decide_eq_true h2,decide_eq_true (LJ.1 ⟨h1,hnum.2 h2⟩)];rfl
  ·rw[decide_eq_false h2,decide_eq_false (fun e=>h2 (hnum.1 (LJ.2 e).2))];rfl
 ·have:(aK (n:Rat)==aK (m:Rat))=false:=by simpa using h1
  rw[this,decide_eq_false (fun e=>h1 (LJ.2 e).1)];rfl
section
variable {a b c:Z} (h1:Se a b) (h2:Se b c) (hc:Sp c)
include h1 h2 hc
theorem Fz:j0 (lit a b (pt c))=some (bP (LF (cq a) (cq b) (cq c)),()):=by
 have ha:=h1.1
 have hb:=h2.1
 have sa1:=eQ ha.1 (by decide)
 have sa2:=eQ ha.2 (by decide)
 have sb1:=eQ hb.1 (by decide)
 have sb2:=eQ hb.2 (by decide)
 have sc1:=eQ hc.1 (by decide)
 have sc2:=eQ hc.2 (by decide)
 have q1:=QU sa1 sa2 ED sb1 sb2 ED
 have q2:=QU sc1 sc2 ED sb1 sb2 ED
 obtain⟨_,b1,b2⟩:=h1
 obtain⟨_,b3,b4⟩:=h2
 have n1:(a.1:Rat)-b.1=((a.1-b.1:Int):Rat):=(Rat.intCast_sub ..).symm
 have n2:(a.2:Rat)-b.2=((a.2-b.2:Int):Rat):=(Rat.intCast_sub ..).symm
 have n3:(c.1:Rat)-b.1=((c.1-b.1:Int):Rat):=(Rat.intCast_sub ..).symm
 have n4:(c.2:Rat)-b.2=((c.2-b.2:Int):Rat):=(Rat.intCast_sub ..).symm
 have d1:Sm ((a.1-b.1:Int):Rat):=eQ (k:=20) (by omega) (by decide)
 have d2:Sm ((a.2-b.2:Int):Rat):=eQ (k:=20) (by omega) (by decide)
 have d3:Sm ((c.1-b.1:Int):Rat):=eQ (k:=20) (by omega) (by decide)
 have d4:Sm ((c.2-b.2:Int):Rat):=eQ (k:=20) (by omega) (by decide)
 rw[n1,n2,Rat.sub_self,z3,z3] at q1
 rw[n3,n4,Rat.sub_self,z3,z3] at q2
 have m1:=BJ d1 d3
 have m2:=BJ d2 d4
 rw[←Rat.intCast_mul] at m1 m2
 have k1:((a.1-b.1)*(c.1-b.1)).natAbs≤400:=by rw[Int.natAbs_mul];exact Nat.mul_le_mul (show (a.1-b.1).natAbs≤20 by omega) (show (c.1-b.1).natAbs≤20 by omega)
 have k2:((a.2-b.2)*(c.2-b.2)).natAbs≤400:=by rw[Int.natAbs_mul];exact Nat.mul_le_mul (show (a.2-b.2).natAbs≤20 by omega) (show (c.2-b.2).natAbs≤20 by omega)
 have s1:Sm (((a.1-b.1)*(c.1-b.1):Int):Rat):=eQ k1 (by decide)
 have s2:Sm (((a.2-b.2)*(c.2-b.2):Int):Rat):=eQ k2 (by decide)
 have a1:=Lo s1 s2
 rw[←Rat.intCast_add] at a1
 have s3:Sm (((a.1-b.1)*(c.1-b.1)+(a.2-b.2)*(c.2-b.2):Int):Rat):=eQ (k:=800) (by omega) (by decide)
 have g1:=zI s3.fit
 have o1:=TU (a:=a) (b:=b) ⟨ha,b1,b2⟩ hc
 unfold j0
 simp -implicitDefEqProofs only[q1,q2,m1,m2,a1,g1,o1,aY,aO,aG]
 have hf:LF (cq a) (cq b) (cq c)↔jA (cr (cq a) (cq b) (cq c))=0∧0<jA (((a.1-b.1)*(c.1-b.1)+(a.2-b.2)*(c.2-b.2):Int):Rat):=by
  unfold LF
  have e:((cq a).1-(cq b).1)*((cq c).1-(cq b).1)+((cq a).2-(cq b).2)*((cq c).2-(cq b).2)=(((a.1-b.1)*(c.1-b.1)+(a.2-b.2)*(c.2-b.2):Int):Rat):=by
   unfold cq;dsimp only;rw[Rat.intCast_add,Rat.intCast_mul,Rat.intCast_mul,n1.symm,n2.symm,n3.symm,n4.symm]
  rw[e,D7]
  refine and_congr Iff.rfl ?_
  rcases nL (((a.1-b.1)*(c.1-b.1)+(a.2-b.2)*(c.2-b.2):Int):Rat) with⟨h,k⟩ | ⟨h,k⟩ | ⟨h,k⟩
  ·rw[h,k];exact⟨fun c=>absurd c (by decide),fun c=>absurd c (by decide)⟩
  ·rw[h];exact⟨fun c=>absurd c (by grind),fun c=>absurd c (by decide)⟩
  ·rw[h];exact⟨fun _=>by decide,fun _=>k⟩
 rw[jX hf,zO,zN,zN]
 generalize bP (jA (cr (cq a) (cq b) (cq c))=0)=x
 generalize bP (0<jA (((a.1-b.1)*(c.1-b.1)+(a.2-b.2)*(c.2-b.2):Int):Rat))=y
 cases x <;> cases y <;> rfl
end
def iB(l:List Z)(i j:Nat):Prop:=jE (cq (aQ l i)) (cq (aQ l (i+1))) (cq (aQ l j)) (cq (aQ l (j+1)))
def Q0(l:List Z)(i:Nat):Prop:=∃j,i+2≤j∧j<(if 0<i then l.length else l.length-1)∧iB l i j
def HS(l:List Z)(i:Nat):Prop:=aQ l i=aQ l (i+1)∨LF (cq (aQ l i)) (cq (aQ l (i+1))) (cq (aQ l (i+2)))∨Q0 l i
def SI(l:List Z)(i j:Nat):List T×Int×Unit×Unit×Int×Int×Int×Bool×List T×List T×Bool×List T×List T×Bool×List T×List T×Bool×List T×List T×Bool×List T×List T×Bool×List T×List T×Unit:=(l.map wT,(i:Int),(),(),(j:Int),(l.length:Int),(i:Int),lit (aQ l i) (aQ l (i+1)) ())
section
variable {l:List Z} (hB:Bx l)
include hB
theorem Bi{i:Nat}(hi:i<l.length)(k:Nat):aJ fH (SI l i k)=some (bif bP (∃j,k≤j∧j<(if 0<i then l.length else l.length-1)∧iB l i j) then .inl (false,()) else .inr (.inl (l.map wT,(l.length:Int),(i:Int),()))):=by
 have h0:0<l.length:=by omega
 have hle:=hB.1
 have hn:(if 0<i then l.length else l.length-1)≤l.length:=by split <;> omega
 have hlen:lenL (l.map wT)=(l.length:Int):=by rw[aL,List.length_map]
 have key:∀j,j<(if 0<i then l.length else l.length-1)→fH (SI l i j)=some (bif bP (iB l i j) then .inr (.inl (false,())) else .inl (SI l i (j+1))):=fun j hj=>by
  have hjl:j<l.length:=by omega
  have e1:=D9 hB hjl
  have m:=Fx (xC hB h0 i (i+1)) (xC hB h0 j (j+1)) (qU hB h0 (i+1)) (qU hB h0 (j+1))
  have wj:wr .i64 ((j:Int)+1)=((j+1:Nat):Int):=by rw[dA (by omega) (by omega)];push_cast;rfl
  have wn:wr .i64 ((l.length:Int)-1)=((l.length-1:Nat):Int):=by rw[dA (by omega) (by omega)];omega
  have d1:decide ((j:Int)<(l.length:Int))=true:=decide_eq_true (by omega)
  have hm:bP (iB l i j)=bP (jE (cq (aQ l i)) (cq (aQ l (i+1))) (cq (aQ l j)) (cq (aQ l (j+1)))):=rfl
  unfold fH SI
  by_cases hi0:0<i
  ·have d2:decide ((0:Int)<(i:Int))=true:=decide_eq_true (by omega)
   simp -implicitDefEqProofs only[aG,hlen,d1,d2,cond_true,e1,aY,m,wj,aM,hm]
   cases bP (jE (cq (aQ l i)) (cq (aQ l (i+1))) (cq (aQ l j)) (cq (aQ l (j+1)))) <;> rfl
  ·have d2:decide ((0:Int)<(i:Int))=false:=decide_eq_false (by omega)
   rw[if_neg hi0] at hj
   have d3:decide ((j:Int)<((l.length-1:Nat):Int))=true:=decide_eq_true (by omega)
   simp -implicitDefEqProofs only[aG,hlen,d1,d2,d3,cond_true,cond_false,e1,aY,m,wj,wn,aM,bK,hm]
   cases bP (jE (cq (aQ l i)) (cq (aQ l (i+1))) (cq (aQ l j)) (cq (aQ l (j+1)))) <;> rfl
 refine AL (SI l i) (if 0<i then l.length else l.length-1) (iB l i) _ _ (fun j hj hb=>by rw[key j hj,iI hb];rfl) (fun j hj hb=>by rw[key j hj,fR hb];rfl) (fun j hj=>?_) l.length k (by omega)
 have wn:wr .i64 ((l.length:Int)-1)=((l.length-1:Nat):Int):=by rw[dA (by omega) (by omega)];omega
 unfold fH SI
 by_cases hjl:j<l.length
 ·have d1:decide ((j:Int)<(l.length:Int))=true:=decide_eq_true (by omega)
  by_cases hi0:0<i
  ·rw[if_pos hi0] at hj;omega
  ·rw[if_neg hi0] at hj
   have d2:decide ((0:Int)<(i:Int))=false:=decide_eq_false (by omega)
   have d3:decide ((j:Int)<((l.length-1:Nat):Int))=false:=decide_eq_false (by omega)
   simp -implicitDefEqProofs only[aG,hlen,d1,d2,d3,cond_true,cond_false,wn,bK]
 ·have d1:decide ((j:Int)<(l.length:Int))=false:=decide_eq_false (by omega)
  simp -implicitDefEqProofs only[aG,hlen,d1,cond_false]
theorem Ga:pO (l.map wT,())=some (bP (3≤l.length∧¬∃i,i<l.length∧HS l i),()):=by
 have hle:=hB.1
 have hlen:lenL (l.map wT)=(l.length:Int):=by rw[aL,List.length_map]
 unfold pO
 simp only[hlen,aG]
 by_cases h3:l.length<3
 ·rw[decide_eq_true (by omega:(l.length:Int)<3),fR (by omega)];rfl
 ·rw[decide_eq_false (by omega:¬(l.length:Int)<3),cond_false]
  have h0:0<l.length:=by omega
  have key:∀i,i<l.length→fI (l.map wT,(l.length:Int),(i:Int),())=some (bif bP (HS l i) then .inr (.inl (false,())) else .inl (l.map wT,(l.length:Int),((i+1:Nat):Int),())):=fun i hi=>by
   have e1:=D9 hB hi
   have hi1:(i+1)%l.length<l.length:=Nat.mod_lt _ h0
   have e2:=D9 hB hi1
   have a1:aQ l ((i+1)%l.length)=aQ l (i+1):=by unfold aQ;rw[Nat.mod_mod]
   have a2:aQ l ((i+1)%l.length+1)=aQ l (i+2):=by unfold aQ;rw[Nat.mod_add_mod]
   rw[a1,a2] at e2
   have wi:wr .i64 ((i:Int)+1)=((i+1:Nat):Int):=by rw[dA (by omega) (by omega)];push_cast;rfl
   have wi2:wr .i64 ((i:Int)+2)=((i+2:Nat):Int):=by rw[dA (by omega) (by omega)];push_cast;rfl
   have hnz:nz (l.length:Int)=some (l.length:Int):=by unfold nz;rw[if_neg (by omega)]
   have hmod:((i+1:Nat):Int).tmod (l.length:Int)=(((i+1)%l.length:Nat):Int):=rfl
   have d1:decide ((i:Int)<(l.length:Int))=true:=decide_eq_true (by omega)
   have sp:=qU hB h0
   have s1:=YW (n:=(aQ l i).1) (m:=(aQ l (i+1)).1) (by have:=(sp i).1;omega)
   have s2:=YW (n:=(aQ l i).2) (m:=(aQ l (i+1)).2) (by have:=(sp i).2;omega)
   have f:=Fz (xC hB h0 i (i+1)) (xC hB h0 (i+1) (i+2)) (sp (i+2))
   have lp:=Bi hB hi (i+2)
   unfold SI at lp
   have hbj:bP (Q0 l i)=bP (∃j,i+2≤j∧j<(if 0<i then l.length else l.length-1)∧iB l i j):=rfl
   rw[←hbj] at lp
   unfold fI
   simp -implicitDefEqProofs only[aG,d1,cond_true,e1,aY,s1,s2,hlen,hnz,wi,wi2,aM,pM,hmod,e2,f,lp]
   have hB':bP (HS l i)=(bP (aQ l i=aQ l (i+1))||(bP (LF (cq (aQ l i)) (cq (aQ l (i+1))) (cq (aQ l (i+2))))||bP (Q0 l i))):=by unfold HS;rw[tH,tH]
   have hE:bP (aQ l i=aQ l (i+1))=(decide ((aQ l i).1=(aQ l (i+1)).1)&&decide ((aQ l i).2=(aQ l (i+1)).2)):=by
    rw[zN,zN,←zO]
    exact jX ⟨fun h=>by rw[h];exact⟨rfl,rfl⟩,fun h=>Prod.ext h.1 h.2⟩
   rw[hB',hE]
   generalize decide ((aQ l i).1=(aQ l (i+1)).1)=x1
   generalize decide ((aQ l i).2=(aQ l (i+1)).2)=x2
   generalize bP (LF (cq (aQ l i)) (cq (aQ l (i+1))) (cq (aQ l (i+2))))=x3
   generalize bP (Q0 l i)=x4
   cases x1 <;> cases x2 <;> cases x3 <;> cases x4 <;> simp -implicitDefEqProofs only[cond_true,cond_false,aY,aN,qQ,Bool.or_true,Bool.or_false,Bool.true_or,Bool.false_or,Bool.and_true,Bool.and_false,Bool.true_and,Bool.false_and,wi]
  have:=AL (F:=fI) (fun i=>(l.map wT,(l.length:Int),(i:Int),())) l.length (HS l) (.inl (false,())) (.inr (.inl ())) (fun i hi hb=>by rw[key i hi,iI hb];rfl) (fun i hi hb=>by rw[key i hi,fR hb];rfl) (fun i hi=>by
   unfold fI
   simp only[aG,decide_eq_false (by omega:¬(i:Int)<(l.length:Int)),cond_false]) l.length 0 (by omega)
  have:aJ fI (l.map wT,(l.length:Int),(0:Int),())=_:=this
  rw[this]
  have hb:bP (3≤l.length∧¬∃i,i<l.length∧HS l i)=!(bP (∃j,0≤j∧j<l.length∧HS l j)):=by
   rw[←FM]
   refine jX ⟨fun h c=>h.2 (c.imp fun j hj=>hj.2),fun h=>⟨by omega,fun c=>h (c.imp fun j hj=>⟨Nat.zero_le _,hj⟩)⟩⟩
  rw[hb]
  generalize bP (∃j,0≤j∧j<l.length∧HS l j)=x
  cases x <;> rfl
end
end Go.Eng.Rt
namespace Go.Eng.Rt
open Go.Eng Go.Eng.Tw Go.Eng.Tm Go.Eng.Tg
theorem dV{S E:Type}{F:S→Option (S⊕E)}(st:Nat→S)(n:Nat)(bad:Nat→Prop)(hit out:E)(h1:∀k,k<n→bad k→F (st k)=some (.inr hit))(h2:∀k,k<n→¬bad k→F (st k)=some (.inl (st (k+1))))
 (h3:F (st n)=some (.inr out)):∀(d k:Nat),k+d=n→aJ F (st k)=some (bif bP (∃j,k≤j∧j<n∧bad j) then hit else out)
 | 0,k,h=>by
  have:k=n:=by omega
  subst this
  rw[aV h3,fR (by rintro ⟨j,a,b,_⟩;omega)];rfl
 | d+1,k,h=>by
  by_cases hb:bad k
  ·rw[aV (h1 k (by omega) hb),iI ⟨k,Nat.le_refl _,by omega,hb⟩];rfl
  ·rw[eN (h2 k (by omega) hb),dV st n bad hit out h1 h2 h3 d (k+1) (by omega)]
   have:(∃j,k+1≤j∧j<n∧bad j)↔∃j,k≤j∧j<n∧bad j:=by
    constructor
    ·rintro ⟨j,a,b,c⟩;exact⟨j,by omega,b,c⟩
    ·rintro ⟨j,a,b,c⟩
     refine⟨j,?_,b,c⟩
     by_cases e:j=k
     ·subst e;exact absurd c hb
     ·omega
   rw[jX this]
def qs(l:List Z):List Q:=l.map cq
theorem kF(l:List Z):(qs l).length=l.length:=List.length_map ..
theorem lY{l:List Z}(h:0<l.length)(i:Nat):aQ (qs l) i=cq (aQ l i):=uA cq h i
theorem FN{l:List Z}{e:Ed}:e∈jW (qs l)↔∃i,i<l.length∧e=(cq (aQ l i),cq (aQ l (i+1))):=by
 rw[oJ,kF]
 refine exists_congr fun i=>and_congr_right fun hi=>?_
 have h0:0<l.length:=by omega
 have e1:(qs l).getD i default=cq (aQ l i):=by rw[←lY h0];unfold aQ;rw[kF,Nat.mod_eq_of_lt hi]
 have e2:(qs l).getD ((i+1)%l.length) default=cq (aQ l (i+1)):=by rw[←lY h0];unfold aQ;rw[kF]
 rw[e1,e2]
theorem Kd{l:List Z}:jW (qs l)=(List.range l.length).map fun i=>(cq (aQ l i),cq (aQ l (i+1))):=by
 unfold jW
 rw[kF]
 refine List.map_congr_left fun i hi=>?_
 have hi:=List.mem_range.1 hi
 have h0:0<l.length:=by omega
 have e1:(qs l).getD i default=cq (aQ l i):=by rw[←lY h0];unfold aQ;rw[kF,Nat.mod_eq_of_lt hi]
 have e2:(qs l).getD ((i+1)%l.length) default=cq (aQ l (i+1)):=by rw[←lY h0];unfold aQ;rw[kF]
 rw[e1,e2]
noncomputable def wE(l:List Z)(p:Q)(i:Nat):Int:=we p (cq (aQ l i),cq (aQ l (i+1)))
theorem WF(l:List Z)(p:Q):wd (jW (qs l)) p=iH l.length (wE l p):=by
 unfold wd iH
 rw[Kd,List.map_map]
 rfl
theorem Gb(p:Q)(e:Ed):-1≤we p e∧we p e≤1:=by
 unfold we
 split
 ·exact⟨by decide,by decide⟩
 ·split <;> exact⟨by decide,by decide⟩
theorem Q1(f:Nat→Int)(h:∀i,-1≤f i∧f i≤1):∀n:Nat,-(n:Int)≤iH n f∧iH n f≤n
 | 0=>by
  have:iH 0 f=0:=rfl
  rw[this];omega
 | n+1=>by
  have:=Q1 f h n
  have:=h n
  rw[dX];omega
theorem Gc(l:List Z)(p:Q):(wd (jW (qs l)) p).natAbs≤l.length:=by
 rw[WF]
 have:=Q1 (wE l p) (fun i=>Gb _ _) l.length
 omega
def Tj(l:List Z)(p:Q)(i:Nat):Prop:=On (cq (aQ l i)) (cq (aQ l (i+1))) p
theorem Ot{l:List Z}{p:Q}:EE (jW (qs l)) p↔∃j,0≤j∧j<l.length∧Tj l p j:=by
 constructor
 ·rintro ⟨e,he,h⟩
  obtain⟨i,hi,rfl⟩:=FN.1 he
  exact⟨i,Nat.zero_le _,hi,h⟩
 ·rintro ⟨i,_,hi,h⟩
  exact⟨_,FN.2 ⟨i,hi,rfl⟩,h⟩
theorem Ou{a b p:Q}{n:Int}(hn:n.natAbs≤1000000):Rh (decide (mC a.2 p.2≤0)) (decide (mC b.2 p.2≤0)) (jA (cr a b p)) n=n+we p (a,b):=by
 have w1:wr .i64 (n+1)=n+1:=dA (by omega) (by omega)
 have w2:wr .i64 (n-1)=n-1:=dA (by omega) (by omega)
 unfold Rh we
 dsimp only
 by_cases ha:a.2≤p.2
 ·rw[decide_eq_true (oI.2 ha)]
  by_cases hb:b.2≤p.2
  ·rw[decide_eq_true (oI.2 hb),if_neg (by rintro ⟨_,h,_⟩;grind),if_neg (by rintro ⟨_,h,_⟩;grind)]
   show n=_;omega
  ·rw[decide_eq_false (fun c=>hb (oI.1 c))]
   rcases nL (cr a b p) with⟨h,k⟩ | ⟨h,k⟩ | ⟨h,k⟩
   ·rw[h,if_neg (by rintro ⟨_,_,h⟩;grind),if_neg (by rintro ⟨_,h,_⟩;grind)];show n=_;omega
   ·rw[h,if_neg (by rintro ⟨_,_,h⟩;grind),if_neg (by rintro ⟨_,h,_⟩;grind)];show n=_;omega
   ·rw[h,if_pos ⟨ha,by grind,k⟩];show wr .i64 (n+1)=_;rw[w1]
 ·rw[decide_eq_false (fun c=>ha (oI.1 c))]
  by_cases hb:b.2≤p.2
  ·rw[decide_eq_true (oI.2 hb),if_neg (fun h=>ha h.1)]
   rcases nL (cr a b p) with⟨h,k⟩ | ⟨h,k⟩ | ⟨h,k⟩
   ·rw[h,if_neg (by rintro ⟨_,_,h⟩;grind)];show n=_;omega
   ·rw[h,if_pos ⟨hb,by grind,k⟩];show wr .i64 (n-1)=_;rw[w2];omega
   ·rw[h,if_neg (by rintro ⟨_,_,h⟩;grind)];show n=_;omega
  ·rw[decide_eq_false (fun c=>hb (oI.1 c)),if_neg (fun h=>ha h.1),if_neg (fun h=>hb h.1)]
   show n=_;omega
section
variable {l:List Z} (hB:Bx l) {D:Nat} {px py pz:Rat}
include hB
theorem Ov{i:Nat}(hi:i<l.length):Rh (decide (mC ((qT l i).2:Rat) py≤0)) (decide (mC ((qT l ((i+1)%l.length)).2:Rat) py≤0)) (sE (qT l i) (qT l ((i+1)%l.length)) px py) (iH i (wE l (px,py)))=iH (i+1) (wE l (px,py)):=by
 have h1:=Q1 (wE l (px,py)) (fun i=>Gb _ _) i
 have hle:=hB.1
 rw[←WE hi,←QZ hi,dX]
 unfold sE
 rw[Kb]
 exact Ou (a:=cq (aQ l i)) (b:=cq (aQ l (i+1))) (p:=(px,py)) (by omega)
omit hB in
theorem Mb{i:Nat}(hi:i<l.length):Br (((qT l ((i+1)%l.length)).1-(qT l i).1:Int):Rat) (((qT l ((i+1)%l.length)).2-(qT l i).2:Int):Rat) (px-(qT l i).1) (py-(qT l i).2)=bP (Tj l (px,py) i):=by
 rw[←WE hi,←QZ hi,Oq];rfl
theorem Ge(hp:Pp D 32 px py pz):iU (l.map wT,c3 px (c3 py (c3 pz ())))=some (bif bP (EE (jW (qs l)) (px,py)) then (0,false,()) else (wd (jW (qs l)) (px,py),true,())):=by
 have hpl:((l.map wT).length:Int)=(l.length:Int):=by rw[List.length_map]
 have h:=dV (F:=eT) (fun i=>PS l px py pz i (iH i (wE l (px,py)))) l.length (Tj l (px,py)) (.inl (0,false,())) (.inr (.inl (wd (jW (qs l)) (px,py),())))
  (fun i hi hb=>by rw[Lr hB hi _ hp,Mb hi,iI hb];rfl)
  (fun i hi hb=>by rw[Lr hB hi _ hp,Mb hi,fR hb,Ov hB hi];rfl)
  (by
   unfold eT PS
   rw[WF]
   simp only[aG,decide_eq_false (by omega:¬(l.length:Int)<(l.length:Int)),cond_false]) l.length 0 (by omega)
 have h:aJ eT (l.map wT,(),(0:Int),(l.length:Int),(0:Int),c3 px (c3 py (c3 pz ())))=_:=h
 rw[←jX Ot] at h
 unfold iU
 simp only[aL,hpl]
 rw[h]
 generalize bP (EE (jW (qs l)) (px,py))=b
 cases b <;> rfl
end
theorem Ke{l:List Z}(hB:Bx l){p:Z}(hp:Sp p):iU (l.map wT,pt p)=some (bif bP (EE (jW (qs l)) (cq p)) then (0,false,()) else (wd (jW (qs l)) (cq p),true,())):=by
 have:=Ge hB (TT hp).up;rw[TS] at this;exact this
def Mt(l m:List Z)(i j:Nat):Prop:=jE (cq (aQ l i)) (cq (aQ l (i+1))) (cq (aQ m j)) (cq (aQ m (j+1)))
def Ow(l m:List Z)(i:Nat):Prop:=∃j,0≤j∧j<m.length∧Mt l m i j
def OC(l m:List Z):Prop:=∃i,0≤i∧i<l.length∧Ow l m i
theorem FO{l m:List Z}:¬OC l m↔Apart (jW (qs l)) (jW (qs m)):=by
 constructor
 ·intro h e he f hf hm
  obtain⟨i,hi,rfl⟩:=FN.1 he
  obtain⟨j,hj,rfl⟩:=FN.1 hf
  exact h ⟨i,Nat.zero_le _,hi,j,Nat.zero_le _,hj,hm⟩
 ·rintro h ⟨i,_,hi,j,_,hj,hm⟩
  exact h _ (FN.2 ⟨i,hi,rfl⟩) _ (FN.2 ⟨j,hj,rfl⟩) hm
section
variable {l m:List Z} (hl:Bx l) (hm:Bx m)
include hl hm
theorem Kf:rD (l.map wT,m.map wT,())=some (!(bP (OC l m)),()):=by
 have b1:=hl.1
 have b2:=hm.1
 have h1:lenL (l.map wT)=(l.length:Int):=by rw[aL,List.length_map]
 have h2:lenL (m.map wT)=(m.length:Int):=by rw[aL,List.length_map]
 have inn:∀i,i<l.length→aJ gO (l.map wT,m.map wT,(i:Int),(l.length:Int),(i:Int),(m.length:Int),(0:Int),())=some (bif bP (Ow l m i) then .inl (false,()) else .inr (.inl (l.map wT,m.map wT,(l.length:Int),(i:Int),()))):=fun i hi=>by
  have key:∀j,j<m.length→gO (l.map wT,m.map wT,(i:Int),(l.length:Int),(i:Int),(m.length:Int),(j:Int),())=some (bif bP (Mt l m i j) then .inr (.inl (false,())) else .inl (l.map wT,m.map wT,(i:Int),(l.length:Int),(i:Int),(m.length:Int),((j+1:Nat):Int),())):=fun j hj=>by
   have e1:=D9 hl hi
   have e2:=D9 hm hj
   have mt:=Fx (xC hl (by omega) i (i+1)) (xC hm (by omega) j (j+1)) (qU hl (by omega) (i+1)) (qU hm (by omega) (j+1))
   have wj:wr .i64 ((j:Int)+1)=((j+1:Nat):Int):=by rw[dA (by omega) (by omega)];push_cast;rfl
   have hb:bP (Mt l m i j)=bP (jE (cq (aQ l i)) (cq (aQ l (i+1))) (cq (aQ m j)) (cq (aQ m (j+1)))):=rfl
   unfold gO
   simp -implicitDefEqProofs only[aG,decide_eq_true (by omega:(j:Int)<(m.length:Int)),cond_true,e1,e2,aY,mt,wj,aM,hb]
   generalize bP (jE (cq (aQ l i)) (cq (aQ l (i+1))) (cq (aQ m j)) (cq (aQ m (j+1))))=b
   cases b <;> rfl
  exact dV (F:=gO) (fun j=>(l.map wT,m.map wT,(i:Int),(l.length:Int),(i:Int),(m.length:Int),(j:Int),())) m.length (Mt l m i) _ _ (fun j hj hb=>by rw[key j hj,iI hb];rfl) (fun j hj hb=>by rw[key j hj,fR hb];rfl) (by
   unfold gO
   simp only[aG,decide_eq_false (by omega:¬(m.length:Int)<(m.length:Int)),cond_false]) m.length 0 (by omega)
 have out:=dV (F:=gP) (fun i=>(l.map wT,m.map wT,(l.length:Int),(i:Int),())) l.length (Ow l m) (.inl (false,())) (.inr (.inl ()))
  (fun i hi hb=>by
   unfold gP
   simp only[aG,decide_eq_true (by omega:(i:Int)<(l.length:Int)),cond_true,h2,inn i hi,iI hb,aY,aN])
  (fun i hi hb=>by
   have wi:wr .i64 ((i:Int)+1)=((i+1:Nat):Int):=by rw[dA (by omega) (by omega)];push_cast;rfl
   unfold gP
   simp only[aG,decide_eq_true (by omega:(i:Int)<(l.length:Int)),cond_true,h2,inn i hi,fR hb,cond_false,aY,aN,qQ,aM,wi])
  (by
   unfold gP
   simp only[aG,decide_eq_false (by omega:¬(l.length:Int)<(l.length:Int)),cond_false]) l.length 0 (by omega)
 have out:aJ gP (l.map wT,m.map wT,(l.length:Int),(0:Int),())=_:=out
 unfold rD
 simp only[h1]
 rw[out]
 have hb:bP (∃j,0≤j∧j<l.length∧Ow l m j)=bP (OC l m):=rfl
 rw[hb]
 generalize bP (OC l m)=b
 cases b <;> rfl
end
end Go.Eng.Rt
namespace Go.Eng
theorem YX(a:Int){b:Int}(h:0<b):-b<a.tmod b:=by
 rcases Int.lt_or_le a 0 with ha | ha
 ·have h1:(-(-a)).tmod b=-((-a).tmod b):=Int.neg_tmod (-a) b
  rw[Int.neg_neg] at h1
  have h2:(-a).tmod b<b:=by rw[Int.tmod_eq_emod_of_nonneg (by omega)];exact Int.emod_lt_of_pos _ h
  omega
 ·have:0≤a.tmod b:=by rw[Int.tmod_eq_emod_of_nonneg ha];exact Int.emod_nonneg _ (by omega)
  omega
theorem YY(a:Int){b:Int}(h:0<b):a.tmod b<b:=by
 rcases Int.lt_or_le a 0 with ha | ha
 ·have h1:(-(-a)).tmod b=-((-a).tmod b):=Int.neg_tmod (-a) b
  rw[Int.neg_neg] at h1
  have h2:0≤(-a).tmod b:=by rw[Int.tmod_eq_emod_of_nonneg (by omega)];exact Int.emod_nonneg _ (by omega)
  omega
 ·rw[Int.tmod_eq_emod_of_nonneg ha];exact Int.emod_lt_of_pos _ h
def Bj(a n:Int):Int:=if a.tmod n<0 then a.tmod n+n else a.tmod n
theorem Kg(a:Int){n:Int}(h:0<n):0≤Bj a n:=by
 unfold Bj
 have:=YX a h
 split <;> omega
theorem Kh(a:Int){n:Int}(h:0<n):Bj a n<n:=by
 unfold Bj
 have:=YY a h
 split <;> omega
theorem Rs(a:Int){n:Int}(h1:0<n)(h2:n≤4611686018427387904):hJ (a,n,())=some (Bj a n,()):=by
 unfold hJ Bj
 have:=YX a h1
 have:=YY a h1
 rw[XE (show n≠0 by omega)]
 simp only[aY,pM,aG,aM]
 by_cases h:a.tmod n<0
 ·rw[decide_eq_true h,if_pos h,qZ (by omega) (by omega)];rfl
 ·rw[decide_eq_false h,if_neg h];rfl
def Bk(z:Int):T:=.v (.int .i64 z)
def jP(L:List T)(a:Int):Prop:=∃zs:List Int,L=zs.map Bk∧zs.length≤1000000∧0≤a∧a≤zs.length
theorem mW{L:List T}{a:Int}(h:jP L a){n:Int}(h1:0<n)(h2:n≤4611686018427387904):
 ∃v a',aE ((),n,L,a,())=some (v,L,a',())∧0≤v∧v<n∧jP L a':=by
 obtain⟨zs,rfl,hz,ha0,ha1⟩:=h
 unfold aE
 simp only[kT,aL,List.length_map,aM,bK]
 by_cases hc:(zs.length:Int)≤a
 ·rw[decide_eq_true hc]
  exact⟨0,a,rfl,Int.le_refl _,h1,zs,rfl,hz,ha0,ha1⟩
 ·rw[decide_eq_false hc]
  obtain⟨i,rfl⟩:=Int.eq_ofNat_of_zero_le ha0
  have hi:i<zs.length:=by omega
  rw[qZ (n:=(i:Int)+1) (by omega) (by omega),qZ (n:=(i:Int)+1-1) (by omega) (by omega),Int.add_sub_cancel,bU,List.getElem?_map,List.getElem?_eq_getElem hi]
  simp only[cond_false,Option.map_some,aY,Bk,Di,Qk,Rs _ h1 h2]
  exact⟨_,_,rfl,Kg _ h1,Kh _ h1,zs,rfl,hz,by omega,by omega⟩
theorem YZ(L:List T):cK (L,())=some (decide (L.length≤500),()):=by
 unfold cK
 simp only[kT,aL]
 congr 2
 rw[Bool.eq_iff_iff];simp;omega
theorem Gf(L:List T):gF (L,())=some (L,0,()):=rfl
end Go.Eng
namespace Go.Eng.Rt
open Go.Eng Go.Eng.Tm
def DS(L:List T)(a x y r:Int)(turn:Bool)(i:Int)(l:List T):(Unit×Int×Int×Int×Unit×List T×Bool×Int×List T×Int×Int×Int×Int×Int×Int×Int×Int×Int×Int×Int×Int×Int×Int×Int×Int×Int×Unit):=
 ((),x,y,r,(),l,turn,i,L,a,2,0,2,1,1,2,-1,2,-2,0,-2,-1,0,-2,1,-1,())
def Tz(x y:Int)(ps:List (Int×Int)):Prop:=∀p∈ps,(p.1-x).natAbs≤10∧(p.2-y).natAbs≤10
end Go.Eng.Rt
namespace Go.Eng.Rt
open Go.Eng Go.Eng.Tw Go.Eng.Tm
theorem TW{l:List (Int×Int)}(hl:∀p∈l,Oc p):(eL l).natAbs≤20000*l.length:=by
 rw[←FK];exact CI hl (Nat.le_refl _)
end Go.Eng.Rt
namespace Go.Eng.Rt
open Go.Eng Go.Eng.Tm
theorem Ox(a0 a1 a2 a3 a4 a5 a6 a7 a8 b0 b1 b2 b3 b4 b5 b6 b7 b8:T):T.upd 9 (.agg [a0,a1,a2,a3,a4,a5,a6,a7,a8]) 0 [b0,b1,b2,b3,b4,b5,b6,b7,b8]=.agg [b0,b1,b2,b3,b4,b5,b6,b7,b8]:=by
 unfold T.upd;rfl
theorem YZ(L:List T):cK (L,())=some (decide (L.length≤500),()):=by
 unfold cK
 simp only[kT,aL]
 congr 2
 rw[Bool.eq_iff_iff];simp;omega
theorem Gf(L:List T):gF (L,())=some (L,0,()):=rfl
def lT(l:List (Int×Int)):T:=.sl 9 (l.map wT)
def HU(ls:List (List (Int×Int))):Prop:=∀l∈ls,Bx l
end Go.Eng.Rt
namespace Go.Eng.Rt
open Go.Eng Go.Eng.Tw Go.Eng.Tm
theorem zR{x y:Int}(hx:x.natAbs≤100)(hy:y.natAbs≤100):aH (x,y,())=some (aK (x:Rat),aR (x:Rat),aW (x:Rat),aK (y:Rat),aR (y:Rat),aW (y:Rat),false,[],[],()):=by
 unfold aH
 simp only[TG (n:=x) (by omega) (by omega),TG (n:=y) (by omega) (by omega),aY]
theorem WG(x y:Int):T.agg [T.v (.bool (aK (x:Rat))),.sl 1 (aR (x:Rat)),.sl 1 (aW (x:Rat)),.v (.bool (aK (y:Rat))),.sl 1 (aR (y:Rat)),.sl 1 (aW (y:Rat)),.v (.bool false),.sl 1 [],.sl 1 []]=wT (x,y):=rfl
theorem Oy(p:Int×Int)(x y:Int):T.upd 9 (wT p) 0 [.v (.bool (aK (x:Rat))),.sl 1 (aR (x:Rat)),.sl 1 (aW (x:Rat)),.v (.bool (aK (y:Rat))),.sl 1 (aR (y:Rat)),.sl 1 (aW (y:Rat)),.v (.bool false),.sl 1 [],.sl 1 []]=wT (x,y):=Ox ..
theorem Gg(a b c d:T):lenL [a,b,c,d]=4:=by rw[aL];rfl
theorem Oz:dL 4 3=some 3:=by unfold dL;rfl
theorem Pa:dL 4 1=some 1:=by unfold dL;rfl
theorem Tk(a b c d:T):iC [a,b,c,d] 3=some d:=by rw[pN];rfl
theorem Tl(a b c d:T):iC [a,b,c,d] 1=some b:=by rw[pN];rfl
theorem GW(a b c d x:T):[a,b,c,d].set 1 x=[a,x,c,d]:=rfl
theorem Pb(a b c d x:T):[a,b,c,d].set 3 x=[a,b,c,x]:=rfl
theorem w0(p:Int×Int):T.bool? (T.cell (wT p) 0)=some (aK (p.1:Rat)):=(cells p).1
theorem w1(p:Int×Int):T.sl? 1 (T.cell (wT p) 1)=some (aR (p.1:Rat)):=(cells p).2.1
theorem w2(p:Int×Int):T.sl? 1 (T.cell (wT p) 2)=some (aW (p.1:Rat)):=(cells p).2.2.1
theorem w3(p:Int×Int):T.bool? (T.cell (wT p) 3)=some (aK (p.2:Rat)):=(cells p).2.2.2.1
theorem w4(p:Int×Int):T.sl? 1 (T.cell (wT p) 4)=some (aR (p.2:Rat)):=(cells p).2.2.2.2.1
theorem w5(p:Int×Int):T.sl? 1 (T.cell (wT p) 5)=some (aW (p.2:Rat)):=(cells p).2.2.2.2.2.1
theorem w6(p:Int×Int):T.bool? (T.cell (wT p) 6)=some false:=(cells p).2.2.2.2.2.2.1
theorem w7(p:Int×Int):T.sl? 1 (T.cell (wT p) 7)=some []:=(cells p).2.2.2.2.2.2.2.1
theorem w8(p:Int×Int):T.sl? 1 (T.cell (wT p) 8)=some []:=(cells p).2.2.2.2.2.2.2.2
end Go.Eng.Rt
namespace Go.Eng.Rt
open Go.Eng Go.Eng.Tw Go.Eng.Tm Go.Eng.Tg
theorem Q2{n:Nat}(hn:n<1000000)(h:n≠0):lm n=[eB n]:=pG h (by unfold BB;omega)
theorem TX{n:Nat}(hn:n<1000000):gN (lm n,())=some (true,()):=by
 unfold gN
 by_cases h:n=0
 ·subst h;rw[jN];simp only[aL,List.length_nil,aO];rfl
 ·rw[Q2 hn h]
  have e:lenL [eB n]=1:=by rw[aL];rfl
  have w:wr .i64 ((1:Int)-1)=((0:Nat):Int):=by rw[dA (by decide) (by decide)];rfl
  have g:T.int? .u32 (T.cell (eB n) 0)=some (n:Int):=rfl
  simp only[e,aO,bK,w,bU]
  have hx:[eB n][0]?=some (eB n):=rfl
  simp only[hx,aY,g,decide_eq_false (show ¬(n:Int)=0 by omega)]
  rfl
theorem TY{n:Nat}(hn:n<1000000):u_ref01_Valid (lm n,())=some (true,()):=by
 unfold u_ref01_Valid
 by_cases h:n=0
 ·subst h;rw[jN];simp only[aL,List.length_nil,aO];rfl
 ·rw[Q2 hn h]
  have e:lenL [eB n]=1:=by rw[aL];rfl
  have w:wr .i64 ((1:Int)-1)=((0:Nat):Int):=by rw[dA (by decide) (by decide)];rfl
  have g:T.int? .u32 (T.cell (eB n) 0)=some (n:Int):=rfl
  simp only[e,aO,bK,w,bU]
  have hx:[eB n][0]?=some (eB n):=rfl
  simp only[hx,aY,g,decide_eq_false (show ¬(n:Int)=0 by omega)]
  rfl
theorem Q3(n:Int):aR (n:Rat)=lm n.natAbs:=by unfold aR;rw[Rat.num_intCast]
theorem Gh{n:Int}(hn:n.natAbs<1000000):lR (aK (n:Rat),aR (n:Rat),aW (n:Rat),())=some (true,()):=by
 have e0:gN (([]:List T),())=some (true,()):=by have:=TX (n:=0) (by decide);rwa[jN] at this
 have l0:lenL ([]:List T)=0:=by rw[aL];rfl
 unfold lR
 rw[zQ,Q3]
 simp only[TX hn,e0,aY,Bool.not_true,cond_false,l0,aO]
 by_cases h:n=0
 ·subst h
  have:lenL (lm (0:Int).natAbs)=0:=by rw[show (0:Int).natAbs=0 from rfl,jN,l0]
  rw[this,show aK ((0:Int):Rat)=false from rfl];simp
 ·have:lenL (lm n.natAbs)≠0:=by rw[aL];intro c;exact h (by have:=tE.1 (by omega:(lm n.natAbs).length=0);omega)
  rw[decide_eq_false this];rfl
theorem LK{n:Int}(hn:n.natAbs<1000000):u_ref02_Valid (aK (n:Rat),aR (n:Rat),aW (n:Rat),())=some (true,()):=by
 have e0:u_ref01_Valid (([]:List T),())=some (true,()):=by have:=TY (n:=0) (by decide);rwa[jN] at this
 have l0:lenL ([]:List T)=0:=by rw[aL];rfl
 have hD:=N2 (n:Rat)
 rw[zQ,Q3,Rat.den_intCast] at hD
 have hG:u_ref01_Gcd (lm n.natAbs,lm 1,())=some (lm 1,()):=by
  have:=Lm (a:=n.natAbs) (b:=1) (by unfold dJ;omega) (by decide)
  rwa[Nat.gcd_one_right] at this
 have h1:lm 1=[eB 1]:=Q2 (by decide) (by decide)
 unfold u_ref02_Valid
 rw[zQ,Q3]
 simp only[TY hn,e0,aY,Bool.not_true,cond_false,l0,aO,hD,hG]
 have e1:lenL (lm 1)=1:=by rw[h1,aL];rfl
 have i1:idxL (lm 1) 0=some (eB 1):=by rw[h1,show (0:Int)=((0:Nat):Int) from rfl,bU];rfl
 have g:T.int? .u32 (T.cell (eB 1) 0)=some 1:=rfl
 simp only[e1,i1,aY,g]
 by_cases h:n=0
 ·subst h
  have:lenL (lm (0:Int).natAbs)=0:=by rw[show (0:Int).natAbs=0 from rfl,jN,l0]
  have hng:aK ((0:Int):Rat)=false:=rfl
  rw[this,hng];simp[aG]
 ·have:lenL (lm n.natAbs)≠0:=by rw[aL];intro c;exact h (by have:=tE.1 (by omega:(lm n.natAbs).length=0);omega)
  rw[decide_eq_false this];simp[aG]
theorem AM:aK ((0:Int):Rat)=false∧aR ((0:Int):Rat)=[]∧aW ((0:Int):Rat)=[]:=⟨rfl,N4,N5⟩
abbrev oK(n:Int):T:=.agg [.v (.bool (aK (n:Rat))),.sl 1 (aR (n:Rat)),.sl 1 (aW (n:Rat))]
theorem Pc{p:Z}(hp:Sp p):bQ ([oK p.1,oK p.2,T.agg [(T.v (.bool false)),(T.sl 1 []),(T.sl 1 [])]],(),())=some (false,()):=by
 have hz:T.agg [(T.v (.bool false)),(T.sl 1 []),(T.sl 1 [])]=oK 0:=by unfold oK;rw[AM.1,AM.2.1,AM.2.2]
 rw[hz]
 have key:∀(L:List T) (k:Nat) (n:Int),n.natAbs<1000000→L[k]?=some (oK n)→(k:Int)<(L.length:Int)→L.length<1000 →
  aS (L,(),(L.length:Int),(k:Int),())=some (.inl (L,(),(L.length:Int),((k+1:Nat):Int),())):=fun L k n hn hk hlt hL=>by
  have wk:wr .i64 ((k:Int)+1)=((k+1:Nat):Int):=by rw[dA (by omega) (by omega)];push_cast;rfl
  have v:=Gh hn
  have c0:T.bool? (T.cell (oK n) 0)=some (aK (n:Rat)):=rfl
  have c1:T.sl? 1 (T.cell (oK n) 1)=some (aR (n:Rat)):=tP _ _
  have c2:T.sl? 1 (T.cell (oK n) 2)=some (aW (n:Rat)):=tP _ _
  unfold aS rZ
  simp -implicitDefEqProofs only[aG,decide_eq_true hlt,cond_true,bU,hk,aY,c0,c1,c2,v,Bool.not_true,cond_false,aM,wk]
 have h:=gK (F:=aS) 3 (fun k=>([oK p.1,oK p.2,oK 0],(),(3:Int),(k:Int),())) fun k hk=>by
  have h1:=hp.1
  have h2:=hp.2
  match k,hk with
  | 0,_=>exact key [oK p.1,oK p.2,oK 0] 0 p.1 (by omega) rfl (by simp only[List.length_cons,List.length_nil];omega) (by simp only[List.length_cons,List.length_nil];omega)
  | 1,_=>exact key [oK p.1,oK p.2,oK 0] 1 p.2 (by omega) rfl (by simp only[List.length_cons,List.length_nil];omega) (by simp only[List.length_cons,List.length_nil];omega)
  | 2,_=>exact key [oK p.1,oK p.2,oK 0] 2 0 (by decide) rfl (by simp only[List.length_cons,List.length_nil];omega) (by simp only[List.length_cons,List.length_nil];omega)
 have hout:aJ aS ([oK p.1,oK p.2,oK 0],(),(3:Int),((3:Nat):Int),())=some (.inr (.inl ())):=aV (by
  unfold aS
  simp only[aG,decide_eq_false (by omega:¬((3:Nat):Int)<3),cond_false])
 rw[hout] at h
 have h:aJ aS ([oK p.1,oK p.2,oK 0],(),(3:Int),(0:Int),())=some (.inr (.inl ())):=h
 have l3:lenL [oK p.1,oK p.2,oK 0]=3:=by rw[aL];rfl
 unfold bQ cR
 simp only[l3]
 rw[h]
 simp only[aY,aN,qQ,kT]
 rfl
theorem GX(l:List (Int×Int)):T.sl? 9 (T.cell (lT l) 0)=some (l.map wT):=tP 9 _
theorem Ru(l:List (Int×Int)):T.rw? 9 (T.cell (lT l) 0)=some (l.map wT):=Ql (by decide) (GX l)
theorem CK(l:List (Int×Int)):T.sl? 9 (lT l)=some (l.map wT):=by unfold lT T.sl?;exact if_pos rfl
theorem Gi(l:List (Int×Int)):T.rw? 9 (lT l)=some (l.map wT):=Ql (by decide) (CK l)
theorem pP(l:List Z):T.cell (lT l) 0=lT l:=by unfold T.cell lT;rfl
theorem oL(ls:List (List Z)):lenL (ls.map lT)=(ls.length:Int):=by rw[aL,List.length_map]
def bJ(ls:List (List Z))(i:Nat):List Z:=ls.getD i []
theorem iZ{ls:List (List Z)}{i:Nat}(h:i<ls.length):idxL (ls.map lT) (i:Int)=some (lT (bJ ls i))∧bJ ls i∈ls:=by
 have e:ls[i]?=some (bJ ls i):=by unfold bJ;rw[List.getD_eq_getElem?_getD,List.getElem?_eq_getElem h];rfl
 exact⟨by rw[bU,List.getElem?_map,e];rfl,List.mem_of_getElem? e⟩
theorem Rv{l:List Z}(hB:Bx l)(A B:List T)(n i:Int):aJ gQ (A,B,n,i,lT l,(l.length:Int),(0:Int),())=some (.inr (.inl (A,B,n,i,()))):=by
 have hle:=hB.1
 have h:=gK (F:=gQ) l.length (fun k=>(A,B,n,i,lT l,(l.length:Int),(k:Int),())) fun k hk=>by
  have g:=(zP (l:=l) (by omega) k).2
  rw[Nat.mod_eq_of_lt hk] at g
  have gi:idxL (l.map wT) (k:Int)=some (wT (aQ l k)):=by rw[bU,List.getElem?_map,g];rfl
  have wk:wr .i64 ((k:Int)+1)=((k+1:Nat):Int):=by rw[dA (by omega) (by omega)];push_cast;rfl
  obtain⟨c0,c1,c2,c3,c4,c5,c6,c7,c8⟩:=cells (aQ l k)
  have cf:=Pc (qU hB (by omega) k)
  have sg:bH (false,([]:List T),([]:List T),())=some (0,()):=by
   have:=zI ED.fit
   rw[Fe,N4,N5] at this
   exact this
  unfold gQ
  simp -implicitDefEqProofs only[aG,decide_eq_true (by omega:(k:Int)<(l.length:Int)),cond_true,Gi,gi,aY,c0,c1,c2,c3,c4,c5,c6,c7,c8,cf,cond_false,sg,aO,decide_true,Bool.not_true,aM,wk]
 have hout:gQ (A,B,n,i,lT l,(l.length:Int),(l.length:Int),())=some (.inr (.inr (.inl (A,B,n,i,())))):=by
  unfold gQ
  simp only[aG,decide_eq_false (by omega:¬(l.length:Int)<(l.length:Int)),cond_false]
 rw[aV hout] at h
 exact h
end Go.Eng.Rt
namespace Go.Eng.Rt
open Go.Eng Go.Eng.Tw Go.Eng.Tm Go.Eng.Tg
theorem cT{ls:List (List Z)}{i:Nat}(h:i<ls.length):bJ ls i∈ls:=(iZ h).2
theorem Rw{ls:List (List Z)}(hm:ls.length≤1000)(h:∀l∈ls,l.length≤64):bB (ls.map lT,(),())=some (false,()):=by
 have lp:=gK (F:=aP) ls.length (fun k=>(ls.map lT,(),(ls.length:Int),(k:Int),())) fun k hk=>by
  have wk:wr .i64 ((k:Int)+1)=((k+1:Nat):Int):=by rw[dA (by omega) (by omega)];push_cast;rfl
  have hl:=h _ (cT hk)
  have ll:lenL ((bJ ls k).map wT)=((bJ ls k).length:Int):=by rw[aL,List.length_map]
  unfold aP sC
  simp only[aG,decide_eq_true (by omega:(k:Int)<(ls.length:Int)),cond_true,(iZ hk).1,aY,GX,ll,decide_eq_false (by omega:¬(64:Int)<((bJ ls k).length:Int)),cond_false,aM,wk]
 have hout:aJ aP (ls.map lT,(),(ls.length:Int),(ls.length:Int),())=some (.inr (.inl ())):=aV (by
  unfold aP
  simp only[aG,decide_eq_false (by omega:¬(ls.length:Int)<(ls.length:Int)),cond_false])
 rw[hout] at lp
 have lp:aJ aP (ls.map lT,(),(ls.length:Int),(0:Int),())=some (.inr (.inl ())):=lp
 unfold bB cA
 simp only[oL]
 rw[lp]
 simp only[aY,aN,qQ,kT]
 rfl
theorem Tn(a b:Int):Hf false a b=min a b:=by unfold Hf;rfl
theorem To(a b:Int):Hf true a b=max a b:=by unfold Hf;rfl
noncomputable def wn(l:List Z)(p:Q):Int:=bif bP (EE (jW (qs l)) p) then 0 else wd (jW (qs l)) p
def oM(ls:List (List Z))(i:Nat):Z:=aQ (bJ ls i) 0
def Ki(ls:List (List Z))(i j:Nat):Prop:=j≠i∧wn (bJ ls j) (cq (oM ls i))≠0
noncomputable def xD(ls:List (List Z))(i k:Nat):List Nat:=(List.range k).filter fun j=>bP (Ki ls i j)
theorem TZ(ls:List (List Z))(i k:Nat):xD ls i (k+1)=xD ls i k++(bif bP (Ki ls i k) then [k] else []):=by
 unfold xD
 rw[List.range_succ,List.filter_append,List.filter_cons]
 cases bP (Ki ls i k) <;> rfl
theorem H9(ls:List (List Z))(i k:Nat):(xD ls i k).length≤k:=by
 unfold xD
 have:=List.length_filter_le (fun j=>bP (Ki ls i j)) (List.range k)
 rw[List.length_range] at this
 exact this
theorem Q4{ls:List (List Z)}{i k j:Nat}(h:j∈xD ls i k):j<k∧Ki ls i j:=by
 unfold xD at h
 rw[List.mem_filter,List.mem_range] at h
 exact⟨h.1,Oo.1 h.2⟩
def pH(n:Nat):T:=.v (.int .i64 (n:Int))
def sA(l:List Z):Int:=jA (eL l:Rat)
theorem LL(l:List Z):-1≤sA l∧sA l≤1:=by
 unfold sA
 rcases nL (eL l:Rat) with⟨h,_⟩ | ⟨h,_⟩ | ⟨h,_⟩ <;> rw[h] <;> decide
section
variable {ls:List (List Z)} (hB:HU ls) (hm:ls.length≤1000)
include hB hm
theorem T0{i:Nat}(hi:i<ls.length)(h0:0<(bJ ls i).length):kA (ls.map lT,(i:Int),())=some ((xD ls i ls.length).map pH,()):=by
 have hbi:=hB _ (cT hi)
 have sp:=qU hbi h0 0
 have g0:idxL ((bJ ls i).map wT) 0=some (wT (oM ls i)):=by
  have:=(zP h0 0).2
  rw[Nat.zero_mod] at this
  rw[show (0:Int)=((0:Nat):Int) from rfl,bU,List.getElem?_map,this];rfl
 obtain⟨c0,c1,c2,c3,c4,c5,c6,c7,c8⟩:=cells (oM ls i)
 have lp:=gK (F:=fJ) ls.length (fun k=>(ls.map lT,(i:Int),(xD ls i k).map pH,ls.map lT,(ls.length:Int),(k:Int),())) fun k hk=>by
  have wk:wr .i64 ((k:Int)+1)=((k+1:Nat):Int):=by rw[dA (by omega) (by omega)];push_cast;rfl
  have hw:=Ke (hB _ (cT hk)) (p:=oM ls i) sp
  have hfst:(bif bP (EE (jW (qs (bJ ls k))) (cq (oM ls i))) then ((0:Int),false,()) else (wd (jW (qs (bJ ls k))) (cq (oM ls i)),true,())).1=wn (bJ ls k) (cq (oM ls i)):=by
   unfold wn;cases bP (EE (jW (qs (bJ ls k))) (cq (oM ls i))) <;> rfl
  have hr:=nY (l:=(xD ls i k).map pH) (m:=[pH k]) (b:=8) (by have:=H9 ls i k;simp only[List.length_map,List.length_cons,List.length_nil];omega) (by decide)
  have hr':room ((xD ls i k).map pH) [T.v (.int .i64 (k:Int))] 8=some ((xD ls i k).map pH++[pH k]):=hr
  unfold fJ
  simp -implicitDefEqProofs only[aG,decide_eq_true (by omega:(k:Int)<(ls.length:Int)),cond_true,(iZ hk).1,(iZ hi).1,aY,Ru,g0,GX,c0,c1,c2,c3,c4,c5,c6,c7,c8,hw,hfst,aO,hr']
  have e2:xD ls i (k+1)=xD ls i k++(bif bP (Ki ls i k) then [k] else []):=TZ ls i k
  by_cases h1:k=i
  ·have hrel:bP (Ki ls i k)=false:=fR fun c=>c.1 h1
   rw[decide_eq_true (by omega:(k:Int)=(i:Int)),e2,hrel]
   simp only[Bool.not_true,cond_false,aY,aN,aM,wk,List.append_nil]
  ·rw[decide_eq_false (by omega:¬(k:Int)=(i:Int))]
   by_cases h2:wn (bJ ls k) (cq (oM ls i))=0
   ·have hrel:bP (Ki ls i k)=false:=fR fun c=>c.2 h2
    rw[decide_eq_true h2,e2,hrel]
    simp only[Bool.not_true,Bool.not_false,cond_true,cond_false,aY,aN,aM,wk,List.append_nil]
   ·have hrel:bP (Ki ls i k)=true:=iI ⟨h1,h2⟩
    rw[decide_eq_false h2,e2,hrel,cond_true]
    simp only[Bool.not_false,cond_true,aY,aN,aM,wk,List.map_append,List.map_cons,List.map_nil]
 have hout:fJ (ls.map lT,(i:Int),(xD ls i ls.length).map pH,ls.map lT,(ls.length:Int),(ls.length:Int),())=some (.inr (.inl ((xD ls i ls.length).map pH,()))):=by
  unfold fJ
  simp only[aG,decide_eq_false (by omega:¬(ls.length:Int)<(ls.length:Int)),cond_false]
 rw[aV hout] at lp
 have lp:aJ fJ (ls.map lT,(i:Int),([]:List T),ls.map lT,(ls.length:Int),(0:Int),())=some (.inl ((xD ls i ls.length).map pH,())):=lp
 unfold kA
 simp only[oL]
 rw[lp]
 simp only[aY,aN]
noncomputable def outs(ls:List (List Z))(i:Nat):Int:=((xD ls i ls.length).map fun j=>sA (bJ ls j)).sum
omit hB hm in
theorem WH(f:Nat→Int)(hf:∀i,-1≤f i∧f i≤1):∀L:List Nat,-(L.length:Int)≤(L.map f).sum∧(L.map f).sum≤L.length
 | []=>by simp
 | a::L=>by
  have:=WH f hf L
  have:=hf a
  rw[List.map_cons,List.sum_cons,List.length_cons];omega
omit hB hm in
theorem Gj(i:Nat):(outs ls i).natAbs≤ls.length:=by
 unfold outs
 have h1:=WH (fun j=>sA (bJ ls j)) (fun j=>LL _) (xD ls i ls.length)
 have h2:=H9 ls i ls.length
 omega
omit hB hm in
theorem Gk{l:List Z}(h:Bx l):∃x y z,cB (l.map wT,())=some (x,y,z,())∧bH (x,y,z,())=some (sA l,()):=by
 have e:=QT (l:=l) (fun p hp=>by have:=h.2.1 p hp;exact⟨by omega,by omega⟩) h.1
 have hb:=TW (l:=l) (fun p hp=>by have:=h.2.1 p hp;exact⟨by omega,by omega⟩)
 have h2:=h.1
 exact⟨_,_,_,e,zI (tZ (n:=eL l) (by omega)).fit⟩
omit hm in
theorem Gl(x:T)(m i:Int)(A:List T)(L:List Nat)(hL:∀j∈L,j<ls.length)(hl:L.length≤1000):
 aJ gU (ls.map lT,x,(0:Int),A,m,i,L.map pH,(L.length:Int),(0:Int),())=some (.inl (ls.map lT,x,(L.map fun j=>sA (bJ ls j)).sum,A,m,i,())):=by
 have lp:=gK (F:=gU) L.length (fun k=>(ls.map lT,x,((L.take k).map fun j=>sA (bJ ls j)).sum,A,m,i,L.map pH,(L.length:Int),(k:Int),()) ) fun k hk=>by
  have wk:wr .i64 ((k:Int)+1)=((k+1:Nat):Int):=by rw[dA (by omega) (by omega)];push_cast;rfl
  have hlk:lenL (L.map pH)=(L.length:Int):=by rw[aL,List.length_map]
  have hj:=hL _ (List.getElem_mem hk)
  have g:idxL (L.map pH) (k:Int)=some (pH L[k]):=by rw[bU,List.getElem?_map,List.getElem?_eq_getElem hk];rfl
  have a:T.anyInt? (T.cell (pH L[k]) 0)=some (L[k]:Int):=rfl
  obtain⟨p,q,r,e1,e2⟩:=Gk (hB _ (cT hj))
  have hs:=WH (fun j=>sA (bJ ls j)) (fun j=>LL _) (L.take k)
  have ht:(L.take k).length≤k:=List.length_take_le ..
  have hs1:=LL (bJ ls L[k])
  have ws:wr .i64 (((L.take k).map fun j=>sA (bJ ls j)).sum+sA (bJ ls L[k]))=((L.take (k+1)).map fun j=>sA (bJ ls j)).sum:=by
   rw[dA (by omega) (by omega),List.take_add_one,List.getElem?_eq_getElem hk,List.map_append,List.sum_append]
   simp
  unfold gU
  simp -implicitDefEqProofs only[aG,decide_eq_true (by omega:(k:Int)<(L.length:Int)),cond_true,g,aY,a,(iZ hj).1,GX,e1,e2,aM,ws,wk]
 have hout:gU (ls.map lT,x,((L.take L.length).map fun j=>sA (bJ ls j)).sum,A,m,i,L.map pH,(L.length:Int),(L.length:Int),())=some (.inr (.inl (ls.map lT,x,(L.map fun j=>sA (bJ ls j)).sum,A,m,i,()))):=by
  unfold gU
  simp only[aG,decide_eq_false (by omega:¬(L.length:Int)<(L.length:Int)),cond_false,List.take_length]
 rw[aV hout] at lp
 exact lp
def zS(ls:List (List Z))(i:Nat):Prop:=¬((outs ls i+sA (bJ ls i)=0∧outs ls i=1)∨(outs ls i+sA (bJ ls i)=1∧outs ls i=0))
def HV(l:List Z):Prop:=3≤l.length∧¬∃i,i<l.length∧HS l i
def zT(ls:List (List Z))(i:Nat):Prop:=¬HV (bJ ls i)∨∃k,0≤k∧k<i∧OC (bJ ls i) (bJ ls k)
theorem Gm{i:Nat}(hi:i<ls.length)(h0:0<(bJ ls i).length):gV (ls.map lT,ls.map lT,(ls.length:Int),(i:Int),())=some (bif bP (zS ls i) then .inr (.inl (8,())) else .inl (ls.map lT,ls.map lT,(ls.length:Int),((i+1:Nat):Int),())):=by
 have wk:wr .i64 ((i:Int)+1)=((i+1:Nat):Int):=by rw[dA (by omega) (by omega)];push_cast;rfl
 have ar:=T0 hB hm hi h0
 have hla:lenL ((xD ls i ls.length).map pH)=((xD ls i ls.length).length:Int):=by rw[aL,List.length_map]
 have sl:=Gl hB (lT (bJ ls i)) (ls.length:Int) (i:Int) (ls.map lT) (xD ls i ls.length) (fun j hj=>(Q4 hj).1) (by have:=H9 ls i ls.length;omega)
 have sl:_=some (Sum.inl (ls.map lT,lT (bJ ls i),outs ls i,ls.map lT,(ls.length:Int),(i:Int),())):=sl
 obtain⟨p,q,r,e1,e2⟩:=Gk (hB _ (cT hi))
 have hs1:=LL (bJ ls i)
 have hs2:=Gj (ls:=ls) i
 have ws:wr .i64 (outs ls i+sA (bJ ls i))=outs ls i+sA (bJ ls i):=dA (by omega) (by omega)
 have hc:T.cell (lT (bJ ls i)) 0=lT (bJ ls i):=pP _
 unfold gV
 simp -implicitDefEqProofs only[aG,decide_eq_true (by omega:(i:Int)<(ls.length:Int)),cond_true,(iZ hi).1,aY,ar,hla,hc,sl,aN,CK,e1,e2,aM,ws,aO,Tn,To,wk]
 unfold zS
 generalize outs ls i=o at *
 generalize sA (bJ ls i)=s at *
 by_cases h:(o+s=0∧o=1)∨(o+s=1∧o=0)
 ·rw[fR (fun c=>c h)]
  have e1:min (o+s) o=0:=by omega
  have e2:max (o+s) o=1:=by omega
  rw[decide_eq_true e1,decide_eq_true e2];rfl
 ·rw[iI h]
  by_cases e1:min (o+s) o=0
  ·have e2:¬max (o+s) o=1:=by omega
   rw[decide_eq_true e1,decide_eq_false e2];rfl
  ·rw[decide_eq_false e1];rfl
end
end Go.Eng.Rt
namespace Go.Eng.Rt
open Go.Eng Go.Eng.Tw Go.Eng.Tm Go.Eng.Tg
section
variable {ls:List (List Z)} (hB:HU ls)
include hB
theorem Kj(hm:ls.length≤1000):aJ gR (ls.map lT,ls.map lT,(ls.length:Int),(0:Int),())=some (.inr (.inl (ls.map lT,()))):=by
 have lp:=gK (F:=gR) ls.length (fun k=>(ls.map lT,ls.map lT,(ls.length:Int),(k:Int),())) fun k hk=>by
  have wk:wr .i64 ((k:Int)+1)=((k+1:Nat):Int):=by rw[dA (by omega) (by omega)];push_cast;rfl
  have hp:=Rv (hB _ (cT hk)) (ls.map lT) (ls.map lT) (ls.length:Int) (k:Int)
  have hl:T.len? (lT (bJ ls k))=some ((bJ ls k).length:Int):=by
   show (if (9:Nat)<1000000000 then some (lenL ((bJ ls k).map wT)) else none)=_
   rw[if_pos (by decide),aL,List.length_map]
  unfold gR
  simp only[aG,decide_eq_true (by omega:(k:Int)<(ls.length:Int)),cond_true,(iZ hk).1,aY,pP,hl,hp,aN,qQ,aM,wk]
 have hout:gR (ls.map lT,ls.map lT,(ls.length:Int),(ls.length:Int),())=some (.inr (.inr (.inl (ls.map lT,())))):=by
  unfold gR
  simp only[aG,decide_eq_false (by omega:¬(ls.length:Int)<(ls.length:Int)),cond_false]
 rw[aV hout] at lp
 exact lp
theorem Pd(hm:ls.length≤1000){i:Nat}(hi:i<ls.length):aJ gS (ls.map lT,lT (bJ ls i),ls.map lT,(ls.length:Int),(i:Int),(ls.map lT).take i,(i:Int),(0:Int),()) =
 some (bif bP (∃k,0≤k∧k<i∧OC (bJ ls i) (bJ ls k)) then .inl (8,()) else .inr (.inl (ls.map lT,ls.map lT,(ls.length:Int),(i:Int),()))):=by
 have key:∀k,k<i→gS (ls.map lT,lT (bJ ls i),ls.map lT,(ls.length:Int),(i:Int),(ls.map lT).take i,(i:Int),(k:Int),())=some (bif bP (OC (bJ ls i) (bJ ls k)) then .inr (.inl (8,())) else .inl (ls.map lT,lT (bJ ls i),ls.map lT,(ls.length:Int),(i:Int),(ls.map lT).take i,(i:Int),((k+1:Nat):Int),())):=fun k hk=>by
  have wk:wr .i64 ((k:Int)+1)=((k+1:Nat):Int):=by rw[dA (by omega) (by omega)];push_cast;rfl
  have g:idxL ((ls.map lT).take i) (k:Int)=some (lT (bJ ls k)):=by
   have:=(iZ (ls:=ls) (i:=k) (by omega)).1
   rw[bU] at this ⊢
   rw[List.getElem?_take,if_pos hk];exact this
  have ha:=Kf (hB _ (cT hi)) (hB _ (cT (i:=k) (by omega)))
  unfold gS
  simp only[aG,decide_eq_true (by omega:(k:Int)<(i:Int)),cond_true,g,aY,pP,CK,ha,Bool.not_not,aM,wk]
  generalize bP (OC (bJ ls i) (bJ ls k))=b
  cases b <;> rfl
 exact dV (F:=gS) (fun k=>(ls.map lT,lT (bJ ls i),ls.map lT,(ls.length:Int),(i:Int),(ls.map lT).take i,(i:Int),(k:Int),())) i (fun k=>OC (bJ ls i) (bJ ls k)) _ _
  (fun k hk hb=>by rw[key k hk,iI hb];rfl) (fun k hk hb=>by rw[key k hk,fR hb];rfl) (by
   unfold gS
   simp only[aG,decide_eq_false (by omega:¬(i:Int)<(i:Int)),cond_false]) i 0 (by omega)
theorem Rx(hm:ls.length≤1000):aJ gT (ls.map lT,ls.map lT,(ls.length:Int),(0:Int),())=some (bif bP (∃i,0≤i∧i<ls.length∧zT ls i) then .inl (8,()) else .inr (.inl (ls.map lT,()))):=by
 have key:∀i,i<ls.length→gT (ls.map lT,ls.map lT,(ls.length:Int),(i:Int),())=some (bif bP (zT ls i) then .inr (.inl (8,())) else .inl (ls.map lT,ls.map lT,(ls.length:Int),((i+1:Nat):Int),())):=fun i hi=>by
  have wi:wr .i64 ((i:Int)+1)=((i+1:Nat):Int):=by rw[dA (by omega) (by omega)];push_cast;rfl
  have hs:=Ga (hB _ (cT hi))
  have hc:cutL (ls.map lT) (0:Int) (i:Int)=some ((ls.map lT).take i):=by
   have:=Dl (l:=ls.map lT) (lo:=0) (hi:=i) (Nat.zero_le _) (by rw[List.length_map];omega)
   rw[List.drop_zero] at this;exact this
  have hlt:lenL ((ls.map lT).take i)=(i:Int):=by rw[aL,List.length_take,List.length_map,Nat.min_eq_left (by omega)]
  have pp:=Pd hB hm hi
  have hb:bP (zT ls i)=(!(bP (3≤(bJ ls i).length∧¬∃j,j<(bJ ls i).length∧HS (bJ ls i) j))||bP (∃k,0≤k∧k<i∧OC (bJ ls i) (bJ ls k))):=by
   unfold zT HV
   rw[tH,FM]
  unfold gT
  simp only[aG,decide_eq_true (by omega:(i:Int)<(ls.length:Int)),cond_true,(iZ hi).1,aY,pP,CK,hs,hc,hlt,pp,aM]
  rw[hb]
  generalize bP (3≤(bJ ls i).length∧¬∃j,j<(bJ ls i).length∧HS (bJ ls i) j)=x
  generalize bP (∃k,0≤k∧k<i∧OC (bJ ls i) (bJ ls k))=y
  cases x <;> cases y <;> simp only[Bool.not_true,Bool.not_false,cond_true,cond_false,aY,aN,qQ,wi,Bool.true_or,Bool.false_or]
 exact dV (F:=gT) (fun i=>(ls.map lT,ls.map lT,(ls.length:Int),(i:Int),())) ls.length (zT ls) _ _
  (fun k hk hb=>by rw[key k hk,iI hb];rfl) (fun k hk hb=>by rw[key k hk,fR hb];rfl) (by
   unfold gT
   simp only[aG,decide_eq_false (by omega:¬(ls.length:Int)<(ls.length:Int)),cond_false]) ls.length 0 (by omega)
noncomputable def uB(ls:List (List Z)):Int:=bif bP (∃i,0≤i∧i<ls.length∧zT ls i) then 8 else bif bP (∃i,0≤i∧i<ls.length∧zS ls i) then 8 else 0
theorem IA(hm:ls.length≤16)(h0:0<ls.length)(hl:∀l∈ls,l.length≤64):cS (ls.map lT,())=some (uB ls,()):=by
 have v:=Kj hB (by omega)
 have a:=Rx hB (by omega)
 have b:=Rw (ls:=ls) (by omega) hl
 unfold cS uB
 simp only[oL,aO,decide_eq_false (by omega:¬(ls.length:Int)=0),cond_false,v,aY,aN,qQ,aG,decide_eq_false (by omega:¬(16:Int)<(ls.length:Int)),b,a]
 by_cases hA:∃i,0≤i∧i<ls.length∧zT ls i
 ·rw[iI hA];simp only[cond_true,aY,aN]
 ·rw[fR hA]
  have hs:∀i,i<ls.length→0<(bJ ls i).length:=fun i hi=>by
   have hsim:HV (bJ ls i):=Classical.byContradiction fun c=>hA ⟨i,Nat.zero_le _,hi,.inl c⟩
   have:=hsim.1;omega
  have c:=dV (F:=gV) (fun i=>(ls.map lT,ls.map lT,(ls.length:Int),(i:Int),())) ls.length (zS ls) (.inl (8,())) (.inr (.inl ()))
   (fun k hk hb=>by rw[Gm hB (by omega) hk (hs k hk),iI hb];rfl) (fun k hk hb=>by rw[Gm hB (by omega) hk (hs k hk),fR hb];rfl) (by
    unfold gV
    simp only[aG,decide_eq_false (by omega:¬(ls.length:Int)<(ls.length:Int)),cond_false]) ls.length 0 (by omega)
  have c:aJ gV (ls.map lT,ls.map lT,(ls.length:Int),(0:Int),())=_:=c
  simp only[cond_false,aY,aN,qQ,oL,c]
  generalize bP (∃j,0≤j∧j<ls.length∧zS ls j)=x
  cases x <;> rfl
end
end Go.Eng.Rt
namespace Go.Eng.Tg
open Go.Eng.Tw
theorem Gn{a b:Q}(h:a≠b):0<(b.1-a.1)*(b.1-a.1)+(b.2-a.2)*(b.2-a.2):=by
 have h1:=N3 (b.1-a.1)
 have h2:=N3 (b.2-a.2)
 by_cases h0:(b.1-a.1)*(b.1-a.1)+(b.2-a.2)*(b.2-a.2)=0
 ·obtain⟨e1,e2⟩:=QP h0
  exact absurd (qD (by grind) (by grind)) h
 ·grind
theorem Y0{a b c:Q}(hab:a≠b)(hbc:b≠c):LF a b c↔On a b c∨On b c a:=by
 have n:=Gn hab
 constructor
 ·rintro ⟨h0,h1⟩
  obtain⟨t,rfl⟩:=Fj hab h0
  have e:(a.1-b.1)*((mE a b t).1-b.1)+(a.2-b.2)*((mE a b t).2-b.2)=(1-t)*((b.1-a.1)*(b.1-a.1)+(b.2-a.2)*(b.2-a.2)):=by unfold mE;dsimp only;grind
  rw[e] at h1
  have t1:t<1:=by
   rcases Rat.le_total (a:=t) (b:=1) with q | q
   ·by_cases e1:t=1
    ·subst e1;grind
    ·grind
   ·have:=Rat.mul_nonneg (show 0≤t-1 by grind) (Rat.le_of_lt n)
    grind
  rcases Rat.le_total (a:=0) (b:=t) with q | q
  ·exact .inl (qO q (Rat.le_of_lt t1))
  ·right
   obtain⟨s,hs⟩:=wH (n:=1) (d:=1-t) (by grind)
   have s0:0≤s:=lE (n:=1-t) (by grind) (by grind)
   have s1:s≤1:=by
    have:=lE (n:=1-t) (u:=1-s) (by grind) (by grind)
    grind
   have ea:a=mE b (mE a b t) s:=by
    unfold mE
    refine qD ?_ ?_
    ·dsimp only
     have:s*(a.1+t*(b.1-a.1)-b.1)=-(s*(1-t))*(b.1-a.1):=by grind
     rw[this,hs];grind
    ·dsimp only
     have:s*(a.2+t*(b.2-a.2)-b.2)=-(s*(1-t))*(b.2-a.2):=by grind
     rw[this,hs];grind
   have:=qO (a:=b) (b:=mE a b t) s0 s1
   rw[←ea] at this
   exact this
 ·rintro (h | h)
  ·obtain⟨t,t0,t1,rfl⟩:=LB hab h
   refine⟨h.1,?_⟩
   have e:(a.1-b.1)*((mE a b t).1-b.1)+(a.2-b.2)*((mE a b t).2-b.2)=(1-t)*((b.1-a.1)*(b.1-a.1)+(b.2-a.2)*(b.2-a.2)):=by unfold mE;dsimp only;grind
   rw[e]
   refine Rat.mul_pos ?_ n
   by_cases e1:t=1
   ·subst e1;exact absurd (Bb a b).symm hbc
   ·grind
  ·obtain⟨s,s0,s1,hs⟩:=LB hbc h
   have e1:a.1-b.1=s*(c.1-b.1):=by rw[hs];unfold mE;dsimp only;grind
   have e2:a.2-b.2=s*(c.2-b.2):=by rw[hs];unfold mE;dsimp only;grind
   have n2:=Gn hbc
   refine⟨?_,?_⟩
   ·unfold cr
    have x1:b.1-a.1=-(s*(c.1-b.1)):=by grind
    have x2:b.2-a.2=-(s*(c.2-b.2)):=by grind
    have y1:c.1-a.1=(1-s)*(c.1-b.1):=by grind
    have y2:c.2-a.2=(1-s)*(c.2-b.2):=by grind
    rw[x1,x2,y1,y2];grind
   ·rw[e1,e2]
    have:s*(c.1-b.1)*(c.1-b.1)+s*(c.2-b.2)*(c.2-b.2)=s*((c.1-b.1)*(c.1-b.1)+(c.2-b.2)*(c.2-b.2)):=by grind
    rw[this]
    refine Rat.mul_pos ?_ n2
    by_cases e0:s=0
    ·subst e0;rw[Ba] at hs;exact absurd hs hab
    ·grind
end Go.Eng.Tg
namespace Go.Eng.Rt
open Go.Eng Go.Eng.Tw Go.Eng.Tm Go.Eng.Tg
theorem OD{l:List Z}{i:Nat}(h:i<l.length):idxL (l.map wT) (i:Int)=some (wT (aQ l i)):=by
 have:=(zP (l:=l) (by omega) i).2
 rw[Nat.mod_eq_of_lt h] at this
 rw[bU,List.getElem?_map,this];rfl
theorem FP{l:List Z}(h:0<l.length)(i:Nat):idxL (l.map wT) ((i%l.length:Nat):Int)=some (wT (aQ l i)):=by
 rw[bU,List.getElem?_map,(zP h i).2];rfl
theorem Kk{a b:Z}(ha:Sp a)(hb:Sp b):u_ref04_Same (lit a b ())=some (bP (a=b),()):=by
 have f1:Fc (a.1:Rat):=(eQ ha.1 (by decide)).fit
 have f2:Fc (a.2:Rat):=(eQ ha.2 (by decide)).fit
 have g1:Fc (b.1:Rat):=(eQ hb.1 (by decide)).fit
 have g2:Fc (b.2:Rat):=(eQ hb.2 (by decide)).fit
 have s1:=V6 f1 g1
 have s2:=V6 f2 g2
 have s3:=V6 ED.fit ED.fit
 rw[Fe,N4,N5] at s3
 unfold u_ref04_Same
 simp -implicitDefEqProofs only[s1,s2,s3,aY]
 have e:bP (a=b)=(decide ((a.1:Rat)=b.1)&&decide ((a.2:Rat)=b.2)):=by
  rw[zN,zN,←zO]
  exact jX ⟨fun h=>by rw[h];exact⟨rfl,rfl⟩,fun h=>Prod.ext (Rat.intCast_inj.1 h.1) (Rat.intCast_inj.1 h.2)⟩
 rw[e]
 generalize decide ((a.1:Rat)=b.1)=x
 generalize decide ((a.2:Rat)=b.2)=y
 cases x <;> cases y <;> rfl
def Q5(l:List Z)(i:Nat):Prop:=On (cq (aQ l i)) (cq (aQ l (i+1))) (cq (aQ l (i+2)))∨On (cq (aQ l (i+1))) (cq (aQ l (i+2))) (cq (aQ l i))∨Q0 l i
abbrev tc(p:Z)(k:Nat):T:=T.cell (wT p) k
def RI(l:List Z)(i k:Nat):List T×Int×Int×Unit×Unit×Int×T×T×T×T×T×T×T×T×T×T×T×T×T×T×T×T×T×T×Unit:=
 (l.map wT,(l.length:Int),(i:Int),(),(),(k:Int),tc (aQ l i) 0,tc (aQ l i) 1,tc (aQ l i) 2,tc (aQ l i) 3,tc (aQ l i) 4,tc (aQ l i) 5,tc (aQ l i) 6,tc (aQ l i) 7,tc (aQ l i) 8,
  (tc (aQ l (i+1)) 0,tc (aQ l (i+1)) 1,tc (aQ l (i+1)) 2,tc (aQ l (i+1)) 3,tc (aQ l (i+1)) 4,tc (aQ l (i+1)) 5,tc (aQ l (i+1)) 6,tc (aQ l (i+1)) 7,tc (aQ l (i+1)) 8,()))
section
variable {l:List Z} (hB:Bx l)
include hB
theorem Tp{i:Nat}(hi:i<l.length)(k:Nat)(hk2:i+2≤k):aJ eV (RI l i k)=some (bif bP (∃j,k≤j∧j<l.length∧(0<i∨j<l.length-1)∧iB l i j) then .inl (false,()) else .inr (.inl (l.map wT,(l.length:Int),(i:Int),()))):=by
 have h0:0<l.length:=by omega
 have hle:=hB.1
 have hnz:nz (l.length:Int)=some (l.length:Int):=by unfold nz;rw[if_neg (by omega)]
 have key:∀j,i+2≤j→j<l.length→eV (RI l i j)=some (bif bP ((0<i∨j<l.length-1)∧iB l i j) then .inr (.inl (false,())) else .inl (RI l i (j+1))):=fun j hj2 hj=>by
  have m:=Fy (xC hB h0 i (i+1)) (xC hB h0 j (j+1)) (qU hB h0 (i+1)) (qU hB h0 (j+1))
  have wj:wr .i64 ((j:Int)+1)=((j+1:Nat):Int):=by rw[dA (by omega) (by omega)];push_cast;rfl
  have hmod:((j+1:Nat):Int).tmod (l.length:Int)=(((j+1)%l.length:Nat):Int):=rfl
  have x1:=OD hj
  have x2:=FP h0 (j+1)
  obtain⟨a0,a1,a2,a3,a4,a5,a6,a7,a8⟩:=cells (aQ l i)
  obtain⟨b0,b1,b2,b3,b4,b5,b6,b7,b8⟩:=cells (aQ l (i+1))
  obtain⟨c0,c1,c2,c3,c4,c5,c6,c7,c8⟩:=cells (aQ l j)
  obtain⟨d0,d1,d2,d3,d4,d5,d6,d7,d8⟩:=cells (aQ l (j+1))
  have hm:bP (iB l i j)=bP (jE (cq (aQ l i)) (cq (aQ l (i+1))) (cq (aQ l j)) (cq (aQ l (j+1)))):=rfl
  have hc:bP ((0<i∨j<l.length-1)∧iB l i j)=(!(decide ((((j+1)%l.length:Nat):Int)=(i:Int)))&&bP (iB l i j)):=by
   rw[zO,zN,←FM]
   congr 1
   refine jX ?_
   by_cases hj1:j+1=l.length
   ·rw[hj1,Nat.mod_self];omega
   ·rw[Nat.mod_eq_of_lt (by omega)];omega
  rw[hc,hm]
  unfold eV RI
  simp -implicitDefEqProofs only[aG,decide_eq_true (by omega:(j:Int)<(l.length:Int)),cond_true,hnz,aY,aM,wj,pM,hmod,aO,x1,x2,a0,a1,a2,a3,a4,a5,a6,a7,a8,b0,b1,b2,b3,b4,b5,b6,b7,b8,c0,c1,c2,c3,c4,c5,c6,c7,c8,d0,d1,d2,d3,d4,d5,d6,d7,d8,m]
  generalize bP (jE (cq (aQ l i)) (cq (aQ l (i+1))) (cq (aQ l j)) (cq (aQ l (j+1))))=b
  generalize decide ((((j+1)%l.length:Nat):Int)=(i:Int))=c
  cases b <;> cases c <;> rfl
 have sc:=AL (F:=eV) (fun d=>RI l i (k+d)) (l.length-k) (fun d=>(0<i∨k+d<l.length-1)∧iB l i (k+d)) (.inl (false,())) (.inr (.inl (l.map wT,(l.length:Int),(i:Int),())))
  (fun d hd hb=>by rw[key (k+d) (by omega) (by omega),iI hb];rfl) (fun d hd hb=>by rw[key (k+d) (by omega) (by omega),fR hb];rfl) (fun d hd=>by
   unfold eV RI
   simp only[aG,decide_eq_false (by omega:¬((k+d:Nat):Int)<(l.length:Int)),cond_false]) (l.length-k) 0 (by omega)
 rw[Nat.add_zero] at sc
 rw[sc]
 have:(∃d,0≤d∧d<l.length-k∧(0<i∨k+d<l.length-1)∧iB l i (k+d))↔∃j,k≤j∧j<l.length∧(0<i∨j<l.length-1)∧iB l i j:=by
  constructor
  ·rintro ⟨d,_,h1,h2,h3⟩;exact⟨k+d,by omega,by omega,h2,h3⟩
  ·rintro ⟨j,h1,h2,h3,h4⟩;exact⟨j-k,Nat.zero_le _,by omega,by rw[show k+(j-k)=j by omega];exact⟨h3,h4⟩⟩
 rw[jX this]
omit hB in
theorem Gp{i:Nat}(hi:i<l.length):(∃j,i+2≤j∧j<l.length∧(0<i∨j<l.length-1)∧iB l i j)↔Q0 l i:=by
 unfold Q0
 refine exists_congr fun j=>?_
 by_cases h:0<i
 ·rw[if_pos h]
  exact⟨fun⟨a,b,_,d⟩=>⟨a,b,d⟩,fun⟨a,b,d⟩=>⟨a,b,.inl h,d⟩⟩
 ·rw[if_neg h]
  exact⟨fun⟨a,b,c,d⟩=>⟨a,by omega,d⟩,fun⟨a,b,d⟩=>⟨a,by omega,.inr (by omega),d⟩⟩
theorem Gq:u_ref21_simple (l.map wT,())=some (bP (3≤l.length∧(¬∃i,0≤i∧i<l.length∧aQ l i=aQ l (i+1))∧¬∃i,0≤i∧i<l.length∧Q5 l i),()):=by
 have hle:=hB.1
 have hlen:lenL (l.map wT)=(l.length:Int):=by rw[aL,List.length_map]
 unfold u_ref21_simple
 simp only[hlen,aG]
 by_cases h3:l.length<3
 ·rw[decide_eq_true (by omega:(l.length:Int)<3),fR (by omega)];rfl
 ·rw[decide_eq_false (by omega:¬(l.length:Int)<3),cond_false]
  have h0:0<l.length:=by omega
  have hnz:nz (l.length:Int)=some (l.length:Int):=by unfold nz;rw[if_neg (by omega)]
  have key0:∀i,i<l.length→eU (l.map wT,(l.length:Int),(i:Int),())=some (bif bP (aQ l i=aQ l (i+1)) then .inr (.inl (false,())) else .inl (l.map wT,(l.length:Int),((i+1:Nat):Int),())):=fun i hi=>by
   have wi:wr .i64 ((i:Int)+1)=((i+1:Nat):Int):=by rw[dA (by omega) (by omega)];push_cast;rfl
   have hmod:((i+1:Nat):Int).tmod (l.length:Int)=(((i+1)%l.length:Nat):Int):=rfl
   have x1:=OD hi
   have x2:=FP h0 (i+1)
   obtain⟨a0,a1,a2,a3,a4,a5,a6,a7,a8⟩:=cells (aQ l i)
   obtain⟨b0,b1,b2,b3,b4,b5,b6,b7,b8⟩:=cells (aQ l (i+1))
   have s:=Kk (qU hB h0 i) (qU hB h0 (i+1))
   unfold eU
   simp -implicitDefEqProofs only[aG,decide_eq_true (by omega:(i:Int)<(l.length:Int)),cond_true,x1,hnz,aY,aM,wi,pM,hmod,x2,a0,a1,a2,a3,a4,a5,a6,a7,a8,b0,b1,b2,b3,b4,b5,b6,b7,b8,s]
   generalize bP (aQ l i=aQ l (i+1))=b
   cases b <;> rfl
  have sc0:=dV (F:=eU) (fun i=>(l.map wT,(l.length:Int),(i:Int),())) l.length (fun i=>aQ l i=aQ l (i+1)) (.inl (false,())) (.inr (.inl (l.map wT,(l.length:Int),())))
   (fun i hi hb=>by rw[key0 i hi,iI hb];rfl) (fun i hi hb=>by rw[key0 i hi,fR hb];rfl) (by
    unfold eU
    simp only[aG,decide_eq_false (by omega:¬(l.length:Int)<(l.length:Int)),cond_false]) l.length 0 (by omega)
  have sc0:aJ eU (l.map wT,(l.length:Int),(0:Int),())=_:=sc0
  have key1:∀i,i<l.length→eW (l.map wT,(l.length:Int),(i:Int),())=some (bif bP (Q5 l i) then .inr (.inl (false,())) else .inl (l.map wT,(l.length:Int),((i+1:Nat):Int),())):=fun i hi=>by
   have wi:wr .i64 ((i:Int)+1)=((i+1:Nat):Int):=by rw[dA (by omega) (by omega)];push_cast;rfl
   have wi2:wr .i64 ((i:Int)+2)=((i+2:Nat):Int):=by rw[dA (by omega) (by omega)];push_cast;rfl
   have hmod:((i+1:Nat):Int).tmod (l.length:Int)=(((i+1)%l.length:Nat):Int):=rfl
   have hmod2:((i+2:Nat):Int).tmod (l.length:Int)=(((i+2)%l.length:Nat):Int):=rfl
   have x1:=OD hi
   have x2:=FP h0 (i+1)
   have x3:=FP h0 (i+2)
   obtain⟨a0,a1,a2,a3,a4,a5,a6,a7,a8⟩:=cells (aQ l i)
   obtain⟨b0,b1,b2,b3,b4,b5,b6,b7,b8⟩:=cells (aQ l (i+1))
   obtain⟨c0,c1,c2,c3,c4,c5,c6,c7,c8⟩:=cells (aQ l (i+2))
   have sp:=qU hB h0
   have o1:=OB (xC hB h0 i (i+1)) (sp (i+2))
   have o2:=OB (xC hB h0 (i+1) (i+2)) (sp i)
   have lp:=Tp hB hi (i+2) (Nat.le_refl _)
   rw[jX (Gp hi)] at lp
   unfold RI tc at lp
   have hR:bP (Q5 l i)=(bP (On (cq (aQ l i)) (cq (aQ l (i+1))) (cq (aQ l (i+2))))||(bP (On (cq (aQ l (i+1))) (cq (aQ l (i+2))) (cq (aQ l i)))||bP (Q0 l i))):=by unfold Q5;rw[tH,tH]
   rw[hR]
   unfold eW
   simp -implicitDefEqProofs only[aG,decide_eq_true (by omega:(i:Int)<(l.length:Int)),cond_true,x1,hnz,aY,aM,wi,wi2,pM,hmod,hmod2,x2,x3,a0,a1,a2,a3,a4,a5,a6,a7,a8,b0,b1,b2,b3,b4,b5,b6,b7,b8,c0,c1,c2,c3,c4,c5,c6,c7,c8,o1,o2,lp]
   generalize bP (On (cq (aQ l i)) (cq (aQ l (i+1))) (cq (aQ l (i+2))))=x
   generalize bP (On (cq (aQ l (i+1))) (cq (aQ l (i+2))) (cq (aQ l i)))=y
   generalize bP (Q0 l i)=z
   cases x <;> cases y <;> cases z <;> simp -implicitDefEqProofs only[cond_true,cond_false,aY,aN,qQ,Bool.or_true,Bool.or_false,Bool.true_or,Bool.false_or,wi]
  have sc1:=dV (F:=eW) (fun i=>(l.map wT,(l.length:Int),(i:Int),())) l.length (Q5 l) (.inl (false,())) (.inr (.inl ()))
   (fun i hi hb=>by rw[key1 i hi,iI hb];rfl) (fun i hi hb=>by rw[key1 i hi,fR hb];rfl) (by
    unfold eW
    simp only[aG,decide_eq_false (by omega:¬(l.length:Int)<(l.length:Int)),cond_false]) l.length 0 (by omega)
  have sc1:aJ eW (l.map wT,(l.length:Int),(0:Int),())=_:=sc1
  rw[sc0]
  have hb:bP (3≤l.length∧(¬∃i,0≤i∧i<l.length∧aQ l i=aQ l (i+1))∧¬∃i,0≤i∧i<l.length∧Q5 l i)=(!(bP (∃i,0≤i∧i<l.length∧aQ l i=aQ l (i+1)))&&!(bP (∃i,0≤i∧i<l.length∧Q5 l i))):=by
   rw[zO,zO,FM,FM,iI (by omega:3≤l.length)];rfl
  rw[hb]
  generalize bP (∃i,0≤i∧i<l.length∧aQ l i=aQ l (i+1))=x at *
  generalize bP (∃i,0≤i∧i<l.length∧Q5 l i)=y at *
  cases x with
  | true=>simp only[cond_true,aY,aN,Bool.not_true,Bool.false_and]
  | false=>
   simp only[cond_false,aY,aN,qQ,sc1]
   cases y <;> rfl
omit hB in
theorem Kl:(3≤l.length∧(¬∃i,0≤i∧i<l.length∧aQ l i=aQ l (i+1))∧¬∃i,0≤i∧i<l.length∧Q5 l i)↔HV l:=by
 unfold HV
 constructor
 ·rintro ⟨h3,h1,h2⟩
  refine⟨h3,?_⟩
  rintro ⟨i,hi,hb⟩
  have h0:0<l.length:=by omega
  have e1:aQ l i≠aQ l (i+1):=fun e=>h1 ⟨i,Nat.zero_le _,hi,e⟩
  have e2:aQ l (i+1)≠aQ l (i+2):=fun e=>h1 ⟨(i+1)%l.length,Nat.zero_le _,Nat.mod_lt _ h0,by
   have a1:aQ l ((i+1)%l.length)=aQ l (i+1):=by unfold aQ;rw[Nat.mod_mod]
   have a2:aQ l ((i+1)%l.length+1)=aQ l (i+2):=by unfold aQ;rw[Nat.mod_add_mod]
   rw[a1,a2];exact e⟩
  rcases hb with hb | hb | hb
  ·exact e1 hb
  ·rcases(Y0 (fun e=>e1 (LI e)) (fun e=>e2 (LI e))).1 hb with h | h
   ·exact h2 ⟨i,Nat.zero_le _,hi,.inl h⟩
   ·exact h2 ⟨i,Nat.zero_le _,hi,.inr (.inl h)⟩
  ·exact h2 ⟨i,Nat.zero_le _,hi,.inr (.inr hb)⟩
 ·rintro ⟨h3,h1⟩
  have h0:0<l.length:=by omega
  have n1:∀i,i<l.length→aQ l i≠aQ l (i+1):=fun i hi e=>h1 ⟨i,hi,.inl e⟩
  refine⟨h3,fun⟨i,_,hi,e⟩=>n1 i hi e,?_⟩
  rintro ⟨i,_,hi,hb⟩
  have e1:=n1 i hi
  have e2:aQ l (i+1)≠aQ l (i+2):=fun e=>n1 ((i+1)%l.length) (Nat.mod_lt _ h0) (by
   have a1:aQ l ((i+1)%l.length)=aQ l (i+1):=by unfold aQ;rw[Nat.mod_mod]
   have a2:aQ l ((i+1)%l.length+1)=aQ l (i+2):=by unfold aQ;rw[Nat.mod_add_mod]
   rw[a1,a2];exact e)
  have fo:=Y0 (fun e=>e1 (LI e)) (fun e=>e2 (LI e))
  rcases hb with hb | hb | hb
  ·exact h1 ⟨i,hi,.inr (.inl (fo.2 (.inl hb)))⟩
  ·exact h1 ⟨i,hi,.inr (.inl (fo.2 (.inr hb)))⟩
  ·exact h1 ⟨i,hi,.inr (.inr hb)⟩
end
section
variable {l m:List Z} (hl:Bx l) (hm:Bx m)
include hl hm
theorem Km:u_ref21_apart (l.map wT,m.map wT,())=some (!(bP (OC l m)),()):=by
 have b1:=hl.1
 have b2:=hm.1
 have h1:lenL (l.map wT)=(l.length:Int):=by rw[aL,List.length_map]
 have h2:lenL (m.map wT)=(m.length:Int):=by rw[aL,List.length_map]
 have inn:∀i,i<l.length→aJ fK (l.map wT,m.map wT,(i:Int),(0:Int),())=some (bif bP (Ow l m i) then .inl (false,()) else .inr (.inl (l.map wT,m.map wT,(i:Int),()))):=fun i hi=>by
  have n1:nz (l.length:Int)=some (l.length:Int):=by unfold nz;rw[if_neg (by omega)]
  have key:∀j,j<m.length→fK (l.map wT,m.map wT,(i:Int),(j:Int),())=some (bif bP (Mt l m i j) then .inr (.inl (false,())) else .inl (l.map wT,m.map wT,(i:Int),((j+1:Nat):Int),())):=fun j hj=>by
   have n2:nz (m.length:Int)=some (m.length:Int):=by unfold nz;rw[if_neg (by omega)]
   have wi:wr .i64 ((i:Int)+1)=((i+1:Nat):Int):=by rw[dA (by omega) (by omega)];push_cast;rfl
   have wj:wr .i64 ((j:Int)+1)=((j+1:Nat):Int):=by rw[dA (by omega) (by omega)];push_cast;rfl
   have hm1:((i+1:Nat):Int).tmod (l.length:Int)=(((i+1)%l.length:Nat):Int):=rfl
   have hm2:((j+1:Nat):Int).tmod (m.length:Int)=(((j+1)%m.length:Nat):Int):=rfl
   have x1:=OD hi
   have x2:=FP (l:=l) (by omega) (i+1)
   have x3:=OD hj
   have x4:=FP (l:=m) (by omega) (j+1)
   obtain⟨a0,a1,a2,a3,a4,a5,a6,a7,a8⟩:=cells (aQ l i)
   obtain⟨b0,b1,b2,b3,b4,b5,b6,b7,b8⟩:=cells (aQ l (i+1))
   obtain⟨c0,c1,c2,c3,c4,c5,c6,c7,c8⟩:=cells (aQ m j)
   obtain⟨d0,d1,d2,d3,d4,d5,d6,d7,d8⟩:=cells (aQ m (j+1))
   have mt:=Fy (xC hl (by omega) i (i+1)) (xC hm (by omega) j (j+1)) (qU hl (by omega) (i+1)) (qU hm (by omega) (j+1))
   have hb:bP (Mt l m i j)=bP (jE (cq (aQ l i)) (cq (aQ l (i+1))) (cq (aQ m j)) (cq (aQ m (j+1)))):=rfl
   unfold fK
   simp -implicitDefEqProofs only[aG,h1,h2,decide_eq_true (by omega:(j:Int)<(m.length:Int)),cond_true,n1,n2,x1,x2,x3,x4,aY,wi,wj,aM,pM,hm1,hm2,a0,a1,a2,a3,a4,a5,a6,a7,a8,b0,b1,b2,b3,b4,b5,b6,b7,b8,c0,c1,c2,c3,c4,c5,c6,c7,c8,d0,d1,d2,d3,d4,d5,d6,d7,d8,mt,hb]
   generalize bP (jE (cq (aQ l i)) (cq (aQ l (i+1))) (cq (aQ m j)) (cq (aQ m (j+1))))=b
   cases b <;> rfl
  exact dV (F:=fK) (fun j=>(l.map wT,m.map wT,(i:Int),(j:Int),())) m.length (Mt l m i) _ _ (fun j hj hb=>by rw[key j hj,iI hb];rfl) (fun j hj hb=>by rw[key j hj,fR hb];rfl) (by
   unfold fK
   simp only[aG,h2,decide_eq_false (by omega:¬(m.length:Int)<(m.length:Int)),cond_false]) m.length 0 (by omega)
 have out:=dV (F:=fL) (fun i=>(l.map wT,m.map wT,(i:Int),())) l.length (Ow l m) (.inl (false,())) (.inr (.inl ()))
  (fun i hi hb=>by
   unfold fL
   simp only[aG,h1,decide_eq_true (by omega:(i:Int)<(l.length:Int)),cond_true,inn i hi,iI hb,aY,aN])
  (fun i hi hb=>by
   have wi:wr .i64 ((i:Int)+1)=((i+1:Nat):Int):=by rw[dA (by omega) (by omega)];push_cast;rfl
   unfold fL
   simp only[aG,h1,decide_eq_true (by omega:(i:Int)<(l.length:Int)),cond_true,inn i hi,fR hb,cond_false,aY,aN,qQ,aM,wi])
  (by
   unfold fL
   simp only[aG,h1,decide_eq_false (by omega:¬(l.length:Int)<(l.length:Int)),cond_false]) l.length 0 (by omega)
 have out:aJ fL (l.map wT,m.map wT,(0:Int),())=_:=out
 unfold u_ref21_apart
 rw[out]
 have hb:bP (∃j,0≤j∧j<l.length∧Ow l m j)=bP (OC l m):=rfl
 rw[hb]
 generalize bP (OC l m)=b
 cases b <;> rfl
end
end Go.Eng.Rt
namespace Go.Eng.Rt
open Go.Eng Go.Eng.Tw Go.Eng.Tm Go.Eng.Tg
theorem Bl{p:Z}(hp:Sp p):u_ref04_Valid (pt p)=some (true,()):=by
 have v1:=LK (n:=p.1) (by have:=hp.1;omega)
 have v2:=LK (n:=p.2) (by have:=hp.2;omega)
 have v3:=LK (n:=0) (by decide)
 rw[AM.1,AM.2.1,AM.2.2] at v3
 unfold u_ref04_Valid
 simp only[v1,v2,v3,aY,cond_true]
noncomputable def MU(ls:List (List Z))(i k:Nat):Int:=iH k fun j=>if j=i then 0 else wn (bJ ls j) (cq (oM ls i))
def Ry(ls:List (List Z))(i:Nat):Prop:=¬(0≤MU ls i ls.length∧MU ls i ls.length≤1∧0≤MU ls i ls.length+sA (bJ ls i)∧MU ls i ls.length+sA (bJ ls i)≤1)
section
variable {ls:List (List Z)} (hB:HU ls) (hm:ls.length≤1000)
include hB hm
omit hm in
theorem Rz{i:Nat}(hi:i<ls.length)(b:Bool):aJ eI (ls.map lT,b,(i:Int),(0:Int),())=some (.inr (.inl (ls.map lT,b,(i:Int),()))):=by
 have hb:=hB _ (cT hi)
 have hle:=hb.1
 have hl:T.len? (lT (bJ ls i))=some ((bJ ls i).length:Int):=by
  show (if (9:Nat)<1000000000 then some (lenL ((bJ ls i).map wT)) else none)=_
  rw[if_pos (by decide),aL,List.length_map]
 have lp:=gK (F:=eI) (bJ ls i).length (fun k=>(ls.map lT,b,(i:Int),(k:Int),())) fun k hk=>by
  have wk:wr .i64 ((k:Int)+1)=((k+1:Nat):Int):=by rw[dA (by omega) (by omega)];push_cast;rfl
  obtain⟨c0,c1,c2,c3,c4,c5,c6,c7,c8⟩:=cells (aQ (bJ ls i) k)
  have v:=Bl (qU hb (by omega) k)
  have sg:u_ref02_Sign (false,([]:List T),([]:List T),())=some (0,()):=by
   have:=FI 0
   rw[Fe,N4,N5] at this
   exact this
  unfold eI
  simp -implicitDefEqProofs only[(iZ hi).1,aY,pP,hl,aG,decide_eq_true (by omega:(k:Int)<((bJ ls i).length:Int)),cond_true,Gi,OD hk,c0,c1,c2,c3,c4,c5,c6,c7,c8,v,Bool.not_true,cond_false,sg,aO,decide_true,aM,wk]
 have hout:eI (ls.map lT,b,(i:Int),((bJ ls i).length:Int),())=some (.inr (.inr (.inl (ls.map lT,b,(i:Int),())))):=by
  unfold eI
  simp only[(iZ hi).1,aY,pP,hl,aG,decide_eq_false (by omega:¬((bJ ls i).length:Int)<((bJ ls i).length:Int)),cond_false]
 rw[aV hout] at lp
 exact lp
theorem Sw(hl:∀l∈ls,l.length≤64):aJ fO (ls.map lT,false,(0:Int),())=some (.inr (.inl (ls.map lT,false,()))):=by
 have lp:=gK (F:=fO) ls.length (fun k=>(ls.map lT,false,(k:Int),())) fun k hk=>by
  have wk:wr .i64 ((k:Int)+1)=((k+1:Nat):Int):=by rw[dA (by omega) (by omega)];push_cast;rfl
  have hp:=Rz hB hk false
  have hlen:=hl _ (cT hk)
  have hl:T.len? (lT (bJ ls k))=some ((bJ ls k).length:Int):=by
   show (if (9:Nat)<1000000000 then some (lenL ((bJ ls k).map wT)) else none)=_
   rw[if_pos (by decide),aL,List.length_map]
  unfold fO
  simp only[aG,oL,decide_eq_true (by omega:(k:Int)<(ls.length:Int)),cond_true,cond_false,(iZ hk).1,aY,pP,hl,decide_eq_false (by omega:¬(64:Int)<((bJ ls k).length:Int)),hp,aN,qQ,aM,wk]
 have hout:fO (ls.map lT,false,(ls.length:Int),())=some (.inr (.inr (.inl (ls.map lT,false,())))):=by
  unfold fO
  simp only[aG,oL,decide_eq_false (by omega:¬(ls.length:Int)<(ls.length:Int)),cond_false]
 rw[aV hout] at lp
 exact lp
theorem Pe{i:Nat}(hi:i<ls.length):aJ fP (ls.map lT,(i:Int),(0:Int),()) =
 some (bif bP (∃k,0≤k∧k<i∧OC (bJ ls i) (bJ ls k)) then .inl (8,()) else .inr (.inl (ls.map lT,(i:Int),()))):=by
 have key:∀k,k<i→fP (ls.map lT,(i:Int),(k:Int),())=some (bif bP (OC (bJ ls i) (bJ ls k)) then .inr (.inl (8,())) else .inl (ls.map lT,(i:Int),((k+1:Nat):Int),())):=fun k hk=>by
  have wk:wr .i64 ((k:Int)+1)=((k+1:Nat):Int):=by rw[dA (by omega) (by omega)];push_cast;rfl
  have ha:=Km (hB _ (cT hi)) (hB _ (cT (i:=k) (by omega)))
  unfold fP
  simp only[aG,decide_eq_true (by omega:(k:Int)<(i:Int)),cond_true,(iZ hi).1,(iZ (ls:=ls) (i:=k) (by omega)).1,aY,pP,CK,ha,Bool.not_not,aM,wk]
  generalize bP (OC (bJ ls i) (bJ ls k))=b
  cases b <;> rfl
 exact dV (F:=fP) (fun k=>(ls.map lT,(i:Int),(k:Int),())) i (fun k=>OC (bJ ls i) (bJ ls k)) _ _
  (fun k hk hb=>by rw[key k hk,iI hb];rfl) (fun k hk hb=>by rw[key k hk,fR hb];rfl) (by
   unfold fP
   simp only[aG,decide_eq_false (by omega:¬(i:Int)<(i:Int)),cond_false]) i 0 (by omega)
theorem Ua:aJ fQ (ls.map lT,(0:Int),())=some (bif bP (∃i,0≤i∧i<ls.length∧zT ls i) then .inl (8,()) else .inr (.inl (ls.map lT,()))):=by
 have key:∀i,i<ls.length→fQ (ls.map lT,(i:Int),())=some (bif bP (zT ls i) then .inr (.inl (8,())) else .inl (ls.map lT,((i+1:Nat):Int),())):=fun i hi=>by
  have wi:wr .i64 ((i:Int)+1)=((i+1:Nat):Int):=by rw[dA (by omega) (by omega)];push_cast;rfl
  have hs:=Gq (hB _ (cT hi))
  rw[jX Kl] at hs
  have pp:=Pe hB hm hi
  have hb:bP (zT ls i)=(!(bP (HV (bJ ls i)))||bP (∃k,0≤k∧k<i∧OC (bJ ls i) (bJ ls k))):=by
   unfold zT
   rw[tH,FM]
  unfold fQ
  simp only[aG,oL,decide_eq_true (by omega:(i:Int)<(ls.length:Int)),cond_true,(iZ hi).1,aY,pP,CK,hs,pp,aM]
  rw[hb]
  generalize bP (HV (bJ ls i))=x
  generalize bP (∃k,0≤k∧k<i∧OC (bJ ls i) (bJ ls k))=y
  cases x <;> cases y <;> simp only[Bool.not_true,Bool.not_false,cond_true,cond_false,aY,aN,qQ,wi,Bool.true_or,Bool.false_or]
 exact dV (F:=fQ) (fun i=>(ls.map lT,(i:Int),())) ls.length (zT ls) _ _
  (fun k hk hb=>by rw[key k hk,iI hb];rfl) (fun k hk hb=>by rw[key k hk,fR hb];rfl) (by
   unfold fQ
   simp only[aG,oL,decide_eq_false (by omega:¬(ls.length:Int)<(ls.length:Int)),cond_false]) ls.length 0 (by omega)
end
section
variable {ls:List (List Z)} (hB:HU ls)
include hB
def FQ(ls:List (List Z))(p:Q):Prop:=∃j,0≤j∧j<ls.length∧EE (jW (qs (bJ ls j))) p
noncomputable def zU(ls:List (List Z))(p:Q)(k:Nat):Int:=iH k fun j=>wd (jW (qs (bJ ls j))) p
theorem T1(p:Q):∀k,k≤ls.length→(zU ls p k).natAbs≤1000*k
 | 0,_=>by show (0:Int).natAbs≤_;omega
 | k+1,hk=>by
  have h1:=T1 p k (by omega)
  have h2:=Gc (bJ ls k) p
  have h3:=(hB _ (cT (i:=k) (by omega))).1
  unfold zU at *
  rw[dX,Nat.mul_succ];omega
section
variable (hm:ls.length≤1000) {D:Nat} {px py pz:Rat}
include hm
theorem Y1(hp:Pp D 32 px py pz):lV (ls.map lT,c3 px (c3 py (c3 pz ())))=some (bif bP (FQ ls (px,py)) then 0 else bif decide (zU ls (px,py) ls.length=1) then 1 else -1,()):=by
 have key:∀k,k<ls.length→gW ((),zU ls (px,py) k,ls.map lT,(ls.length:Int),(k:Int),c3 px (c3 py (c3 pz ())))=some (bif bP (EE (jW (qs (bJ ls k))) (px,py)) then .inr (.inl (0,())) else .inl ((),zU ls (px,py) (k+1),ls.map lT,(ls.length:Int),((k+1:Nat):Int),c3 px (c3 py (c3 pz ())))):=fun k hk=>by
  have wk:wr .i64 ((k:Int)+1)=((k+1:Nat):Int):=by rw[dA (by omega) (by omega)];push_cast;rfl
  have hw:=Ge (hB _ (cT hk)) hp
  have h1:=T1 hB (px,py) k (by omega)
  have h2:=Gc (bJ ls k) (px,py)
  have h3:=(hB _ (cT hk)).1
  have e2:zU ls (px,py) (k+1)=zU ls (px,py) k+wd (jW (qs (bJ ls k))) (px,py):=dX _ _
  have ws:wr .i64 (zU ls (px,py) k+wd (jW (qs (bJ ls k))) (px,py))=zU ls (px,py) k+wd (jW (qs (bJ ls k))) (px,py):=dA (by omega) (by omega)
  rw[e2]
  unfold gW
  simp -implicitDefEqProofs only[aG,decide_eq_true (by omega:(k:Int)<(ls.length:Int)),cond_true,(iZ hk).1,aY,pP,CK,hw,aM,wk]
  generalize bP (EE (jW (qs (bJ ls k))) (px,py))=b
  cases b with
  | true=>rfl
  | false=>simp only[cond_false,Bool.not_true,ws]
 have sc:=dV (F:=gW) (fun k=>((),zU ls (px,py) k,ls.map lT,(ls.length:Int),(k:Int),c3 px (c3 py (c3 pz ())))) ls.length (fun k=>EE (jW (qs (bJ ls k))) (px,py)) (.inl (0,())) (.inr (.inl (zU ls (px,py) ls.length,())))
  (fun k hk hb=>by rw[key k hk,iI hb];rfl) (fun k hk hb=>by rw[key k hk,fR hb];rfl) (by
   unfold gW
   simp only[aG,decide_eq_false (by omega:¬(ls.length:Int)<(ls.length:Int)),cond_false]) ls.length 0 (by omega)
 have sc:aJ gW ((),(0:Int),ls.map lT,(ls.length:Int),(0:Int),c3 px (c3 py (c3 pz ())))=_:=sc
 have hb:bP (∃j,0≤j∧j<ls.length∧EE (jW (qs (bJ ls j))) (px,py))=bP (FQ ls (px,py)):=rfl
 rw[hb] at sc
 unfold lV
 simp only[oL]
 rw[sc]
 cases bP (FQ ls (px,py)) with
 | true=>rfl
 | false=>
  simp only[cond_false,aY,aN,qQ,aO]
  cases decide (zU ls (px,py) ls.length=1) <;> rfl
end
end
end Go.Eng.Rt
namespace Go.Eng.Rt
open Go.Eng Go.Eng.Tw Go.Eng.Tm Go.Eng.Tg
def pz(x y r:Int)(p:Z):Z:=(x+r*p.1,y+r*p.2)
def Sa(l:List Z):Prop:=∃x y r s,0<r∧TP s=true∧l=s.map (pz x y r)
theorem Pf{s:List Z}(f:Z→Q):jW (s.map f)=(jW s).map fun e=>(f e.1,f e.2):=by
 unfold jW
 rw[List.map_map,List.length_map]
 refine List.map_congr_left fun i hi=>?_
 have hi:=List.mem_range.1 hi
 have hj:(i+1)%s.length<s.length:=Nat.mod_lt _ (by omega)
 have h:∀{j},j<s.length→(s.map f).getD j default=f (s.getD j default):=fun {j} hj=>by
  rw[List.getD_eq_getElem?_getD,List.getD_eq_getElem?_getD,List.getElem?_map,List.getElem?_eq_getElem hj];rfl
 rw[h hi,h hj]
 rfl
theorem Pg{α β:Type}(f:α→β)(E:List (α×α)):sw (E.map fun e=>(f e.1,f e.2))=(sw E).map fun e=>(f e.1,f e.2):=by
 unfold sw
 rw[List.map_map,List.map_map];rfl
theorem T2(s:List Z):∀k,k≤s.length→sJ s k=iH k fun i=>MS (aQ s i) (aQ s (i+1))
 | 0,_=>rfl
 | k+1,h=>by
  rw[dX,←T2 s k (by omega)]
  show sJ s k+MS (qT s k) (qT s ((k+1)%s.length))=_
  rw[←WE (by omega),←QZ (by omega)]
theorem EA(s:List Z):eL s=iH s.length fun i=>MS (aQ s i) (aQ s (i+1)):=by rw[←FK,T2 s _ (Nat.le_refl _)]
theorem Kn(s:List Z):Sv s=eL s:=by
 rw[EA]
 unfold Sv iH jW
 rw[List.map_map]
 refine congrArg List.sum (List.map_congr_left fun i hi=>?_)
 have hi:=List.mem_range.1 hi
 show _=MS (aQ s i) (aQ s (i+1))
 unfold aQ
 rw[Nat.mod_eq_of_lt hi]
 rfl
theorem Ph(x y r:Int)(p q:Z):MS (pz x y r p) (pz x y r q)=r*r*MS p q+r*(x*(q.2-p.2)-y*(q.1-p.1)):=by unfold MS pz;grind
theorem Y2(x y r:Int)(s:List Z):eL (s.map (pz x y r))=r*r*eL s:=by
 by_cases h0:s.length=0
 ·rw[List.length_eq_zero_iff.1 h0];show (0:Int)=r*r*0;omega
 have h0:0<s.length:=by omega
 rw[EA,EA,List.length_map]
 have key:∀k,iH k (fun i=>MS (aQ (s.map (pz x y r)) i) (aQ (s.map (pz x y r)) (i+1)))=r*r*iH k (fun i=>MS (aQ s i) (aQ s (i+1)))+r*(x*((aQ s k).2-(aQ s 0).2)-y*((aQ s k).1-(aQ s 0).1)):=fun k=>by
  induction k with
  | zero=>show (0:Int)=r*r*0+r*(x*((aQ s 0).2-(aQ s 0).2)-y*((aQ s 0).1-(aQ s 0).1));grind
  | succ k ih=>rw[dX,dX,ih,uA _ h0,uA _ h0,Ph];grind
 rw[key]
 have e:aQ s s.length=aQ s 0:=by unfold aQ;rw[Nat.mod_self,Nat.zero_mod]
 rw[e];grind
theorem Y3{n:Int}:(0<n→jA (n:Rat)=1)∧(n<0→jA (n:Rat)=-1):=by
 rcases nL (n:Rat) with⟨h,k⟩ | ⟨h,k⟩ | ⟨h,k⟩
 ·have:n=0:=Rat.intCast_inj.1 k
  exact⟨fun c=>by omega,fun c=>by omega⟩
 ·have:n<0:=Rat.intCast_lt_intCast.1 k
  exact⟨fun c=>by omega,fun _=>h⟩
 ·have:0<n:=Rat.intCast_lt_intCast.1 k
  exact⟨fun _=>h,fun c=>by omega⟩
theorem Ko{l:List Z}(h:HV l):Oh (qs l):=by
 obtain⟨h3,hb⟩:=h
 have h0:0<l.length:=by omega
 unfold Oh
 rw[kF]
 refine⟨h3,fun i hi=>?_⟩
 have nb:¬HS l i:=fun c=>hb ⟨i,hi,c⟩
 rw[lY h0,lY h0,lY h0]
 refine⟨fun e=>nb (.inl (LI e)),fun e=>nb (.inr (.inl e)),fun j h1 h2 h3 hm=>nb (.inr (.inr ⟨j,h1,?_,?_⟩))⟩
 ·split
  ·exact h2
  ·omega
 ·rw[lY h0,lY h0] at hm;exact hm
theorem Pi{l:List Z}(hs:Sa l)(h:HV l):∃G,Lp (qs l) (sA l) G:=by
 obtain⟨x,y,r,s,hr,hc,rfl⟩:=hs
 have hq:qs (s.map (pz x y r))=s.map (pl x y r):=by unfold qs;rw[List.map_map];rfl
 have hp:=Ko h
 rw[hq] at hp
 have hb:=Oj hr hp
 have hE:jW (qs (s.map (pz x y r)))=(jW s).map (Qb x y r):=by rw[hq];exact Pf _
 have hS:sw (jW (qs (s.map (pz x y r))))=(sw (jW s)).map (Qb x y r):=by rw[hE];exact Pg _ _
 have r2:0<r*r:=Int.mul_pos hr hr
 unfold TP at hc
 rw[hb] at hc
 simp only[Bool.not_true,Bool.or_false,Bool.or_eq_true,Bool.and_eq_true,Ft,Kn] at hc
 rcases hc with⟨h1,h2⟩ | ⟨h1,h2⟩
 ·refine⟨jW (qs (s.map (pz x y r))),?_,YN _,.inl ⟨?_,rfl⟩⟩
  ·rw[hE]
   exact Lx hr h1 (by rw[←hE];exact YN _) (by rw[←hE];exact fun e he=>Jv he)
  ·unfold sA;rw[Y2];exact Y3.1 (Int.mul_pos r2 h2)
 ·refine⟨sw (jW (qs (s.map (pz x y r)))),?_,Fp _,.inr ⟨?_,rfl⟩⟩
  ·rw[hS]
   exact Lx hr h1 (by rw[←hS];exact Fp _) (by rw[←hS];exact fun e he=>Fq he)
  ·unfold sA;rw[Y2];exact Y3.2 (Int.mul_neg_of_pos_of_neg r2 h2)
structure Reg (ls:List (List Z)) (G:Nat→List Ed):Prop where
 lp:∀i,i<ls.length→Lp (qs (bJ ls i)) (sA (bJ ls i)) (G i)
 pos:∀i,i<ls.length→0<(bJ ls i).length
 ap:∀i,i<ls.length→∀j,j<ls.length→i≠j→Apart (jW (qs (bJ ls i))) (jW (qs (bJ ls j)))
theorem Gr{ls:List (List Z)}(hS:∀l∈ls,Sa l)(hA:¬∃i,0≤i∧i<ls.length∧zT ls i):∃G,Reg ls G:=by
 have h1:∀i,i<ls.length→HV (bJ ls i):=fun i hi=>Classical.byContradiction fun c=>hA ⟨i,Nat.zero_le _,hi,.inl c⟩
 have h2:∀i,i<ls.length→∀k,k<i→Apart (jW (qs (bJ ls i))) (jW (qs (bJ ls k))):=fun i hi k hk=>
  FO.1 fun c=>hA ⟨i,Nat.zero_le _,hi,.inr ⟨k,Nat.zero_le _,hk,c⟩⟩
 have hG:∀i,i<ls.length→∃G,Lp (qs (bJ ls i)) (sA (bJ ls i)) G:=fun i hi=>Pi (hS _ (cT hi)) (h1 i hi)
 refine⟨fun i=>if hi:i<ls.length then Classical.choose (hG i hi) else [],fun i hi=>?_,fun i hi=>by have:=(h1 i hi).1;omega,fun i hi j hj hne=>?_⟩
 ·rw[dif_pos hi];exact Classical.choose_spec (hG i hi)
 ·rcases Nat.lt_or_ge i j with h | h
  ·exact(h2 j hj i h).symm
  ·exact h2 i hi j (by omega)
section
variable {ls:List (List Z)} {G:Nat→List Ed} (hR:Reg ls G)
include hR
theorem Reg.ns:Ns ls.length G fun i=>cq (oM ls i):=
 ⟨fun i hi=>(hR.lp i hi).gd,fun i hi=>(hR.lp i hi).con,fun i hi j hj hne=>(hR.lp i hi).apart (hR.lp j hj) (hR.ap i hi j hj hne),fun i hi=>by
  have h0:=hR.pos i hi
  obtain⟨e,he,ev⟩:=(hR.lp i hi).at (by rw[kF];exact h0) 0
  exact⟨e,he,by rw[ev,lY h0];rfl⟩⟩
theorem Reg.off{i j:Nat}(hi:i<ls.length)(hj:j<ls.length)(hne:j≠i):¬EE (jW (qs (bJ ls j))) (cq (oM ls i)):=by
 rintro ⟨e,he,ho⟩
 have h0:=hR.pos i hi
 have:=LH (L:=qs (bJ ls i)) (i:=0) (by rw[kF];exact h0)
 rw[lY h0,lY h0] at this
 exact hR.ap i hi j hj (Ne.symm hne) _ this e he (.inr (.inr (.inl ho)))
theorem Reg.wn{p:Q}{j:Nat}(hj:j<ls.length)(ho:¬EE (jW (qs (bJ ls j))) p):wd (jW (qs (bJ ls j))) p=ad G (fun j=>sA (bJ ls j)) p j:=by
 rw[(hR.lp j hj).wind ho];rfl
theorem Reg.sum_at{i:Nat}(hi:i<ls.length):MU ls i ls.length=iH ls.length fun j=>if j=i then 0 else ad G (fun j=>sA (bJ ls j)) (cq (oM ls i)) j:=
 mV fun j hj=>by
  by_cases h:j=i
  ·rw[if_pos h,if_pos h]
  ·rw[if_neg h,if_neg h]
   have ho:=hR.off hi hj h
   unfold Rt.wn
   rw[fR ho,cond_false]
   exact hR.wn hj ho
theorem Reg.outs{i:Nat}(hi:i<ls.length):outs ls i=MU ls i ls.length:=by
 have key:∀k,k≤ls.length→((xD ls i k).map fun j=>sA (bJ ls j)).sum=MU ls i k:=fun k hk=>by
  induction k with
  | zero=>rfl
  | succ k ih=>
   have e2:MU ls i (k+1)=MU ls i k+if k=i then 0 else Rt.wn (bJ ls k) (cq (oM ls i)):=dX _ _
   rw[e2,TZ,List.map_append,List.sum_append,ih (by omega)]
   by_cases h:k=i
   ·rw[if_pos h,fR (fun c=>c.1 h)];rfl
   ·rw[if_neg h]
    have ho:=hR.off hi (by omega) h
    have hw:Rt.wn (bJ ls k) (cq (oM ls i))=ad G (fun j=>sA (bJ ls j)) (cq (oM ls i)) k:=by
     unfold Rt.wn
     rw[fR ho,cond_false]
     exact hR.wn (by omega) ho
    by_cases h2:Rt.wn (bJ ls k) (cq (oM ls i))=0
    ·rw[fR (fun c=>c.2 h2),h2];rfl
    ·rw[iI ⟨h,h2⟩]
     have:Rt.wn (bJ ls k) (cq (oM ls i))=sA (bJ ls k):=by
      rw[hw] at h2 ⊢
      unfold ad at h2 ⊢
      split
      ·rfl
      ·rename_i hh;rw[if_neg hh] at h2;exact absurd rfl h2
     rw[this]
     simp
 exact key _ (Nat.le_refl _)
theorem Reg.bad{i:Nat}(hi:i<ls.length):zS ls i↔Ry ls i:=by
 unfold zS Ry
 rw[hR.outs hi]
 have hs:=(hR.lp i hi).sg
 generalize MU ls i ls.length=o at *
 generalize sA (bJ ls i)=s at *
 omega
end
theorem region{ls:List (List Z)}(hS:∀l∈ls,Sa l)(h:uB ls=0){p:Q}(ho:¬FQ ls p):zU ls p ls.length=0∨zU ls p ls.length=1:=by
 have hA:¬∃i,0≤i∧i<ls.length∧zT ls i:=fun c=>by unfold uB at h;rw[iI c] at h;have h:(8:Int)=0:=h;omega
 have hN:¬∃i,0≤i∧i<ls.length∧zS ls i:=fun c=>by unfold uB at h;rw[fR hA,iI c] at h;have h:(8:Int)=0:=h;omega
 obtain⟨G,hR⟩:=Gr hS hA
 have e:zU ls p ls.length=iH ls.length (ad G (fun j=>sA (bJ ls j)) p):=mV fun j hj=>hR.wn hj fun c=>ho ⟨j,Nat.zero_le _,hj,c⟩
 rw[e]
 refine Fw hR.ns (fun i hi n hn=>?_) p
 rw[←hR.sum_at hi] at hn
 have nb:¬zS ls i:=fun c=>hN ⟨i,Nat.zero_le _,hi,c⟩
 unfold zS at nb
 rw[hR.outs hi,←hn] at nb
 omega
end Go.Eng.Rt
namespace Go.Eng.Nst
open Go.Eng Go.Eng.Tw Go.Eng.Tm Go.Eng.Tg Go.Eng.Rt
def sR{α:Type}(f:α→Rat):List α→Rat
 | []=>0
 | a::l=>f a+sR f l
theorem FR{α:Type}(f:α→Rat)(m:List α):∀l:List α,sR f (l++m)=sR f l+sR f m
 | []=>by show sR f m=0+sR f m;grind
 | a::l=>by
  show f a+sR f (l++m)=f a+sR f l+sR f m
  rw[FR f m l];grind
theorem vD{α:Type}{f g:α→Rat}:∀{l:List α},(∀a∈l,f a=g a)→sR f l=sR g l
 | [],_=>rfl
 | a::l,h=>by
  show f a+sR f l=g a+sR g l
  rw[h a (List.mem_cons_self ..),vD fun b hb=>h b (List.mem_cons_of_mem _ hb)]
theorem wK{α:Type}{f:α→Rat}:∀{l:List α},(∀a∈l,f a=0)→sR f l=0
 | [],_=>rfl
 | a::l,h=>by
  show f a+sR f l=0
  rw[h a (List.mem_cons_self ..),wK fun b hb=>h b (List.mem_cons_of_mem _ hb)];grind
theorem Gs{α:Type}(f g:α→Rat):∀l:List α,sR (fun a=>f a+g a) l=sR f l+sR g l
 | []=>by show (0:Rat)=0+0;grind
 | a::l=>by
  show f a+g a+sR (fun a=>f a+g a) l=f a+sR f l+(g a+sR g l)
  rw[Gs f g l];grind
theorem Y4{α β:Type}(f:α→β→Rat)(m:List β):∀l:List α,sR (fun a=>sR (f a) m) l=sR (fun b=>sR (fun a=>f a b) l) m
 | []=>(wK fun _ _=>rfl).symm
 | a::l=>by
  show sR (f a) m+sR (fun a=>sR (f a) m) l=sR (fun b=>f a b+sR (fun a=>f a b) l) m
  rw[Y4 f m l,Gs]
theorem WI{α:Type}(f:α→Rat):∀l:List α,sR (fun a=>-f a) l=-sR f l
 | []=>by show (0:Rat)=-0;grind
 | a::l=>by
  show -f a+sR (fun a=>-f a) l=-(f a+sR f l)
  rw[WI f l];grind
theorem WJ{α β:Type}(f:β→Rat)(g:α→β):∀l:List α,sR f (l.map g)=sR (fun a=>f (g a)) l
 | []=>rfl
 | a::l=>by
  show f (g a)+sR f (l.map g)=f (g a)+sR (fun a=>f (g a)) l
  rw[WJ f g l]
theorem Mc{α:Type}{f g:α→Rat}:∀{l:List α},(∀a∈l,f a≤g a)→sR f l≤sR g l
 | [],_=>Rat.le_refl
 | a::l,h=>by
  have h1:=h a (List.mem_cons_self ..)
  have h2:=Mc (l:=l) fun b hb=>h b (List.mem_cons_of_mem _ hb)
  show f a+sR f l≤g a+sR g l
  grind
theorem Md{α:Type}{f g:α→Rat}:∀{l:List α},(∀a∈l,f a≤g a)→(∃a∈l,f a<g a)→sR f l<sR g l
 | [],_,⟨a,h,_⟩=>by cases h
 | a::l,h,⟨b,hb,hlt⟩=>by
  have h1:=h a (List.mem_cons_self ..)
  have h2:=Mc (l:=l) fun b hb=>h b (List.mem_cons_of_mem _ hb)
  show f a+sR f l<g a+sR g l
  rcases List.mem_cons.1 hb with rfl | hb
  ·grind
  ·have:=Md (l:=l) (fun b hb=>h b (List.mem_cons_of_mem _ hb)) ⟨b,hb,hlt⟩
   grind
theorem WK{α:Type}{f:α→Rat}:∀{l:List α} {a:α},l.Nodup→a∈l→(∀b∈l,b≠a→f b=0)→sR f l=f a
 | [],a,_,h,_=>by cases h
 | b::l,a,hn,ha,h=>by
  obtain⟨n1,n2⟩:=List.nodup_cons.1 hn
  show f b+sR f l=f a
  rcases List.mem_cons.1 ha with rfl | ha
  ·rw[wK fun c hc=>h c (List.mem_cons_of_mem _ hc) fun e=>n1 (e▸hc)];grind
  ·rw[h b (List.mem_cons_self ..) fun e=>n1 (e▸ha),WK n2 ha fun c hc=>h c (List.mem_cons_of_mem _ hc)];grind
theorem Gt{α:Type}{f:α→Rat}:∀{l:List α} {a b:α},l.Nodup→a∈l→b∈l→a≠b→(∀c∈l,c≠a→c≠b→f c=0)→sR f l=f a+f b
 | [],a,_,_,h,_,_,_=>by cases h
 | c::l,a,b,hn,ha,hb,hab,h=>by
  obtain⟨n1,n2⟩:=List.nodup_cons.1 hn
  show f c+sR f l=f a+f b
  rcases List.mem_cons.1 ha with rfl | ha'
  ·rcases List.mem_cons.1 hb with rfl | hb
   ·exact absurd rfl hab
   ·rw[WK n2 hb fun d hd hne=>h d (List.mem_cons_of_mem _ hd) (fun e=>n1 (e▸hd)) hne]
  ·rcases List.mem_cons.1 hb with rfl | hb'
   ·rw[WK n2 ha' fun d hd hne=>h d (List.mem_cons_of_mem _ hd) hne (fun e=>n1 (e▸hd))];grind
   ·rw[h c (List.mem_cons_self ..) (fun e=>n1 (e▸ha')) (fun e=>n1 (e▸hb')),Gt n2 ha' hb' hab fun d hd=>h d (List.mem_cons_of_mem _ hd)];grind
def sl(e:Ed):Rat:=(e.2.1-e.1.1)/(e.2.2-e.1.2)
def xe(e:Ed)(y:Rat):Rat:=e.1.1+(y-e.1.2)*sl e
def ge(e:Ed)(y:Rat):Rat:=if e.1.2≤y∧y<e.2.2 then xe e y else if e.2.2≤y∧y<e.1.2 then -xe e y else 0
theorem LN{e:Ed}(h:e.1.2≠e.2.2):sl e*(e.2.2-e.1.2)=e.2.1-e.1.1:=Rat.div_mul_cancel (by grind)
theorem Me{e:Ed}(h:e.1.2≠e.2.2)(y:Rat):xe (e.2,e.1) y=xe e y:=by
 have h1:=LN h
 have h2:sl (e.2,e.1)=sl e:=by
  have h3:=LN (e:=(e.2,e.1)) (Ne.symm h)
  dsimp only at h3
  have h4:(sl (e.2,e.1)-sl e)*(e.2.2-e.1.2)=0:=by grind
  rcases Rat.mul_eq_zero.1 h4 with h | h <;> grind
 unfold xe
 rw[h2]
 grind
theorem Mf(e:Ed)(y:Rat):ge (e.2,e.1) y=-ge e y:=by
 unfold ge
 dsimp only
 by_cases h1:e.1.2≤y∧y<e.2.2
 ·have n:¬(e.2.2≤y∧y<e.1.2):=by grind
  rw[if_pos h1,if_pos h1,if_neg n,Me (by grind)]
 ·rw[if_neg h1,if_neg h1]
  by_cases h2:e.2.2≤y∧y<e.1.2
  ·rw[if_pos h2,if_pos h2,Me (by grind)];grind
  ·rw[if_neg h2,if_neg h2];grind
def hl(k:Int):Rat:=(k:Rat)+1/2
theorem Gu{a k:Int}:(a:Rat)≤hl k↔a≤k:=by
 unfold hl
 constructor
 ·intro h
  apply Classical.byContradiction
  intro c
  have c:k+1≤a:=by omega
  have:=Rat.intCast_le_intCast.2 c
  rw[Rat.intCast_add] at this
  grind
 ·intro h
  have:=Rat.intCast_le_intCast.2 h
  grind
theorem Mg{a k:Int}:hl k<(a:Rat)↔k<a:=by
 have:=Gu (a:=a) (k:=k)
 constructor
 ·intro h
  apply Classical.byContradiction
  intro c
  have:=this.2 (by omega)
  grind
 ·intro h
  apply Classical.byContradiction
  intro c
  have:=this.1 (by grind)
  omega
theorem Gv(a b:Z)(hab:a.2<b.2)(lo:Int)(hlo:lo≤a.2):∀n:Nat,sR (fun j:Nat=>ge (cq a,cq b) (hl (lo+j))) (List.range n) =
 (if lo+n≤a.2 then 0 else if lo+n≤b.2 then ((lo+n:Int)-(a.2:Int):Rat)*a.1+((lo+n:Int)-(a.2:Int):Rat)*((lo+n:Int)-(a.2:Int):Rat)*sl (cq a,cq b)/2 else ((b.2:Rat)-a.2)*(a.1+b.1)/2)
 | 0=>by rw[if_pos (by omega)];rfl
 | n+1=>by
  have ih:=Gv a b hab lo hlo n
  rw[List.range_succ,FR,ih]
  show _+(ge (cq a,cq b) (hl (lo+n))+0)=_
  have hne:(cq a,cq b).1.2≠(cq a,cq b).2.2:=fun c=>by
   have c:(a.2:Rat)=(b.2:Rat):=c
   have:=Rat.intCast_inj.1 c
   omega
  have hs:=LN hne
  generalize hS:sl (cq a,cq b)=S at *
  have hs:S*((b.2:Rat)-a.2)=(b.1:Rat)-a.1:=hs
  have e0:((lo+(n+1:Nat):Int):Rat)=((lo+n:Int):Rat)+1:=by rw[show lo+((n+1:Nat):Int)=lo+n+1 by omega,Rat.intCast_add];rfl
  have c1:(cq a,cq b).1.2≤hl (lo+n)↔a.2≤lo+n:=Gu
  have c2:hl (lo+n)<(cq a,cq b).2.2↔lo+n<b.2:=Mg
  have c3:(cq a,cq b).2.2≤hl (lo+n)↔b.2≤lo+n:=Gu
  have c4:hl (lo+n)<(cq a,cq b).1.2↔lo+n<a.2:=Mg
  have gx:xe (cq a,cq b) (hl (lo+n))=(a.1:Rat)+(((lo+n:Int):Rat)+1/2-a.2)*S:=by unfold xe;rw[hS];rfl
  rw[e0]
  by_cases h1:lo+(n:Int)<a.2
  ·have g:ge (cq a,cq b) (hl (lo+n))=0:=by
    unfold ge
    rw[if_neg fun c=>by have:=c1.1 c.1;omega,if_neg fun c=>by have:=c3.1 c.1;omega]
   rw[g,if_pos (by omega),if_pos (by omega)];grind
  ·by_cases h2:lo+(n:Int)<b.2
   ·have g:ge (cq a,cq b) (hl (lo+n))=xe (cq a,cq b) (hl (lo+n)):=by
     unfold ge
     rw[if_pos ⟨c1.2 (by omega),c2.2 h2⟩]
    rw[g,gx,if_neg (by omega:¬lo+((n+1:Nat):Int)≤a.2),if_pos (by omega:lo+((n+1:Nat):Int)≤b.2)]
    by_cases h3:lo+(n:Int)≤a.2
    ·have e3:lo+(n:Int)=a.2:=by omega
     rw[if_pos h3,e3];grind
    ·rw[if_neg h3,if_pos (by omega)];grind
   ·have g:ge (cq a,cq b) (hl (lo+n))=0:=by
     unfold ge
     rw[if_neg fun c=>by have:=c2.1 c.2;omega,if_neg fun c=>by have:=c4.1 c.2;omega]
    rw[g,if_neg (by omega:¬lo+((n+1:Nat):Int)≤a.2),if_neg (by omega:¬lo+((n+1:Nat):Int)≤b.2),if_neg (by omega:¬lo+(n:Int)≤a.2)]
    by_cases h3:lo+(n:Int)≤b.2
    ·have e3:lo+(n:Int)=b.2:=by omega
     rw[if_pos h3,e3];grind
    ·rw[if_neg h3];grind
theorem Gw(a b:Z)(lo:Int)(n:Nat)(h1:lo≤a.2)(h2:lo≤b.2)(h3:a.2≤lo+n)(h4:b.2≤lo+n):sR (fun j:Nat=>ge (cq a,cq b) (hl (lo+j))) (List.range n)=((b.2:Rat)-a.2)*(a.1+b.1)/2:=by
 have up:∀a b:Z,a.2<b.2→lo≤a.2→b.2≤lo+n→sR (fun j:Nat=>ge (cq a,cq b) (hl (lo+j))) (List.range n)=((b.2:Rat)-a.2)*(a.1+b.1)/2:=fun a b hab h1 h4=>by
  rw[Gv a b hab lo h1 n,if_neg (by omega)]
  by_cases h:lo+(n:Int)≤b.2
  ·have e:lo+(n:Int)=b.2:=by omega
   have hne:(cq a,cq b).1.2≠(cq a,cq b).2.2:=fun c=>by
    have c:(a.2:Rat)=(b.2:Rat):=c
    have:=Rat.intCast_inj.1 c
    omega
   have hs:sl (cq a,cq b)*((b.2:Rat)-a.2)=(b.1:Rat)-a.1:=LN hne
   rw[if_pos h,e]
   generalize sl (cq a,cq b)=S at *
   grind
  ·rw[if_neg h]
 rcases Int.lt_trichotomy a.2 b.2 with h | h | h
 ·exact up a b h h1 h4
 ·rw[wK fun j _=>?_,h]
  ·grind
  ·unfold ge
   have e:(cq a,cq b).1.2=(cq a,cq b).2.2:=congrArg (fun n:Int=>(n:Rat)) h
   rw[e,if_neg (by grind),if_neg (by grind)]
 ·have:=up b a h h2 h3
  have e:(fun j:Nat=>ge (cq a,cq b) (hl (lo+j)))=fun j:Nat=>-ge (cq b,cq a) (hl (lo+j)):=funext fun j=>by rw[←Mf]
  rw[e,WI,this];grind
end Go.Eng.Nst
