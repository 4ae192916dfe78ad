/- The functions and the laws of this seat in plain words; each statement names its conditions. -/
import Derived.Test.YtlcfmafkolgagaaGreatEng2
import Derived.Test.YtlcfmafkolgagaaGreatGen
import Derived.Test.YtlcfmafkolgagaaGreatGen2
set_option linter.unusedSimpArgs false
set_option linter.unusedVariables false
namespace Go.Eng.Rt
open Go.Eng
abbrev BB:Nat:=4294967296
def val:List Nat→Nat
 | []=>0
 | a::l=>a+BB*val l
def aW(n:Nat):List Nat:=if h:n=0 then [] else (n%BB)::aW (n/BB)
termination_by n
decreasing_by exact Nat.div_lt_self (Nat.pos_of_ne_zero h) (by decide)
def Lim(l:List Nat):Prop:=∀x∈l,x<BB
theorem eP:aW 0=[]:=by rw[aW];simp
theorem pG{n:Nat}(h:n≠0):aW n=(n%BB)::aW (n/BB):=by rw[aW];simp[h]
theorem H4{n:Nat}(h:n≠0)(hn:n<BB):aW n=[n]:=by
 rw[pG h,Nat.mod_eq_of_lt hn,Nat.div_eq_of_lt hn,eP]
theorem Gq{n:Nat}(h:BB≤n)(hn:n<BB*BB):aW n=[n%BB,n/BB]:=by
 rw[pG (by simp only[BB] at h;omega),H4 (n:=n/BB)]
 ·have:0<n/BB:=Nat.div_pos h (by decide)
  omega
 ·exact Nat.div_lt_of_lt_mul hn
theorem eG(n:Nat):val (aW n)=n:=by
 induction n using Nat.strongRecOn with
 | _ n ih=>
  by_cases h:n=0
  ·subst h;rw[eP];rfl
  ·rw[pG h,val,ih _ (Nat.div_lt_self (Nat.pos_of_ne_zero h) (by decide))]
   exact Nat.mod_add_div n BB
theorem fG(n:Nat):Lim (aW n):=by
 induction n using Nat.strongRecOn with
 | _ n ih=>
  by_cases h:n=0
  ·subst h;rw[eP];intro x hx;cases hx
  ·rw[pG h]
   intro x hx
   rcases List.mem_cons.1 hx with rfl | hx
   ·exact Nat.mod_lt _ (by decide)
   ·exact ih _ (Nat.div_lt_self (Nat.pos_of_ne_zero h) (by decide)) x hx
theorem Lim.nil:Lim []:=fun x h=>by cases h
theorem Lim.cons{a:Nat}{l:List Nat}(h:a<BB)(hl:Lim l):Lim (a::l):=fun x hx=>by
 rcases List.mem_cons.1 hx with rfl | hx
 ·exact h
 ·exact hl x hx
theorem Lim.head{a:Nat}{l:List Nat}(h:Lim (a::l)):a<BB:=h a (by simp)
theorem Lim.tail{a:Nat}{l:List Nat}(h:Lim (a::l)):Lim l:=fun x hx=>h x (by simp[hx])
theorem Lim.append{l m:List Nat}(h:Lim l)(h':Lim m):Lim (l++m):=fun x hx=>(List.mem_append.1 hx).elim (h x) (h' x)
theorem ZI{l:List Nat}(h:Lim l):val l<BB ^ l.length:=by
 induction l with
 | nil=>simp[val]
 | cons a l ih=>
  have h1:=h.head
  have h2:=ih h.tail
  rw[val,List.length_cons,Nat.pow_succ]
  have h3:val l+1≤BB ^ l.length:=h2
  have h4:BB*(val l+1)≤BB*BB ^ l.length:=Nat.mul_le_mul_left _ h3
  have h5:BB*(val l+1)=BB*val l+BB:=by rw[Nat.mul_add];simp
  rw[Nat.mul_comm (BB ^ l.length)]
  omega
def sK(l:List Nat):List Nat:=(l.reverse.dropWhile (·==0)).reverse
theorem BV(l:List Nat):sK (l++[0])=sK l:=by
 unfold sK;simp
theorem EW{l:List Nat}{a:Nat}(h:a≠0):sK (l++[a])=l++[a]:=by
 unfold sK;simp[h]
theorem uT(l m:List Nat):val (l++m)=val l+BB ^ l.length*val m:=by
 induction l with
 | nil=>simp[val]
 | cons a l ih=>
  rw[List.cons_append,val,val,ih,List.length_cons,Nat.pow_succ,Nat.mul_add,Nat.mul_comm (BB ^ l.length) BB,Nat.mul_assoc]
  omega
theorem Kf{n:Nat}(h:n≠0):aW n≠[]:=by rw[pG h];simp
theorem ZJ{l:List Nat}{a:Nat}(hl:Lim l)(ha:a<BB)(h0:a≠0):aW (val (l++[a]))=l++[a]:=by
 induction l with
 | nil=>rw[List.nil_append];show aW (a+BB*0)=[a];rw[Nat.mul_zero,Nat.add_zero,H4 h0 ha]
 | cons b l ih=>
  have h1:=hl.head
  rw[List.cons_append,val]
  have hp:val (l++[a])≠0:=by
   intro h
   have:=ih hl.tail
   rw[h,eP] at this
   simp at this
  rw[pG (by simp only[BB];omega),Nat.add_mul_mod_self_left,Nat.mod_eq_of_lt h1,Nat.add_mul_div_left _ _ (by decide),Nat.div_eq_of_lt h1,Nat.zero_add,ih hl.tail]
theorem H5{l:List Nat}(h:Lim l):aW (val l)=sK l:=by
 have key:∀k (l:List Nat),l.length=k→Lim l→aW (val l)=sK l:=by
  intro k
  induction k with
  | zero=>
   intro l hl _
   have:=List.eq_nil_of_length_eq_zero hl
   subst this
   exact eP
  | succ k ih=>
   intro l hl h
   have hne:l≠[]:=by intro e;subst e;simp at hl
   obtain⟨m,a,rfl⟩:∃m a,l=m++[a]:=⟨l.dropLast,l.getLast hne,(List.dropLast_concat_getLast hne).symm⟩
   have hm:Lim m:=fun x hx=>h x (List.mem_append.2 (.inl hx))
   have ha:a<BB:=h a (by simp)
   by_cases h0:a=0
   ·subst h0
    rw[BV,uT,show val [0]=0 from rfl,Nat.mul_zero,Nat.add_zero]
    exact ih m (by simp at hl;exact hl) hm
   ·rw[ZJ hm ha h0,EW h0]
 exact key _ l rfl h
theorem H6{a b:Nat}(h:aW a=aW b):a=b:=by rw[←eG a,h,eG]
theorem lN{n k:Nat}:(aW n).length≤k↔n<BB ^ k:=by
 constructor
 ·intro h
  have:=ZI (fG n)
  rw[eG] at this
  exact Nat.lt_of_lt_of_le this (Nat.pow_le_pow_right (by decide) h)
 ·intro h
  induction k generalizing n with
  | zero=>
   have:n=0:=by simpa using h
   subst this;simp[eP]
  | succ k ih=>
   by_cases h0:n=0
   ·subst h0;simp[eP]
   ·rw[pG h0,List.length_cons]
    have:=ih (n:=n/BB) (Nat.div_lt_of_lt_mul (by rw[Nat.mul_comm,←Nat.pow_succ];exact h))
    omega
def eX(n:Nat):T:=.v (.int .u32 (n:Int))
def dD(l:List Nat):List T:=l.map eX
def lm(n:Nat):List T:=dD (aW n)
def dn(d:Nat):List T:=if d=1 then [] else lm d
theorem dU(l:List Nat):(dD l).length=l.length:=by simp[dD]
theorem kV:lm 0=[]:=by rw[lm,eP];rfl
theorem rJ{n:Nat}(h:n≠0)(hn:n<BB):lm n=[eX n]:=by rw[lm,H4 h hn];rfl
theorem Tf{n:Nat}(h:BB≤n)(hn:n<BB*BB):lm n=[eX (n%BB),eX (n/BB)]:=by rw[lm,Gq h hn];rfl
theorem Kg{a b:Nat}(h:eX a=eX b):a=b:=by
 unfold eX at h
 injection h with h
 injection h with _ h
 omega
theorem TO{a b:List Nat}(h:dD a=dD b):a=b:=by
 induction a generalizing b with
 | nil=>cases b with
  | nil=>rfl
  | cons y b=>simp[dD] at h
 | cons x a ih=>cases b with
  | nil=>simp[dD] at h
  | cons y b=>
   simp only[dD,List.map_cons,List.cons.injEq] at h
   rw[Kg h.1,ih h.2]
theorem NV{a b:Nat}(h:lm a=lm b):a=b:=H6 (TO h)
end Go.Eng.Rt
namespace Go.Eng.Rt
open Go.Eng
def aM(q:Rat):Bool:=decide (q.num<0)
def aU(q:Rat):List T:=lm q.num.natAbs
def bA(q:Rat):List T:=dn q.den
def sg(neg:Bool)(n:Nat):Int:=if neg then -(n:Int) else n
theorem ZK(neg:Bool)(n:Nat):(sg neg n).natAbs=n:=by cases neg <;> simp[sg]
theorem nT(q:Rat):sg (aM q) q.num.natAbs=q.num:=by
 unfold sg aM
 by_cases h:q.num<0
 ·rw[decide_eq_true h,if_pos rfl];omega
 ·rw[decide_eq_false h];simp;omega
theorem Kh{n:Int}{d:Nat}(hd:d≠0):(mkRat n d).den=d/n.natAbs.gcd d:=by
 rw[Rat.mkRat_def,dif_neg hd,Rat.normalize_eq]
theorem Ki{n:Int}{d:Nat}(hd:d≠0):(mkRat n d).num=n/(n.natAbs.gcd d:Nat):=by
 rw[Rat.mkRat_def,dif_neg hd,Rat.normalize_eq]
theorem Kj(neg:Bool){n d:Nat}(hd:d≠0):(mkRat (sg neg n) d).num.natAbs=n/n.gcd d:=by
 rw[Ki hd,ZK]
 unfold sg
 have hg:0<n.gcd d:=Nat.gcd_pos_of_pos_right _ (Nat.pos_of_ne_zero hd)
 cases neg with
 | false=>simp only[Bool.false_eq_true,if_false];rw[←Int.natCast_ediv];exact Int.natAbs_natCast _
 | true=>
  simp only[if_true]
  rw[Int.neg_ediv_of_dvd (Int.natCast_dvd_natCast.2 (Nat.gcd_dvd_left n d)),Int.natAbs_neg,←Int.natCast_ediv];exact Int.natAbs_natCast _
theorem ZL(neg:Bool){n d:Nat}(hd:d≠0)(hn:n≠0):aM (mkRat (sg neg n) d)=neg:=by
 unfold aM
 rw[Ki hd,ZK]
 have hg:0<n.gcd d:=Nat.gcd_pos_of_pos_right _ (Nat.pos_of_ne_zero hd)
 have hq:0<n/n.gcd d:=Nat.div_pos (Nat.le_of_dvd (Nat.pos_of_ne_zero hn) (Nat.gcd_dvd_left n d)) hg
 unfold sg
 cases neg with
 | false=>
  simp only[Bool.false_eq_true,if_false];rw[←Int.natCast_ediv]
  exact decide_eq_false (by omega)
 | true=>
  simp only[if_true]
  rw[Int.neg_ediv_of_dvd (Int.natCast_dvd_natCast.2 (Nat.gcd_dvd_left n d)),←Int.natCast_ediv]
  exact decide_eq_true (by omega)
theorem Ch(neg:Bool)(d:Nat):mkRat (sg neg 0) d=0:=by
 cases neg <;> simp[sg,Rat.zero_mkRat]
theorem Ci(neg:Bool){n d:Nat}(hd:d≠0):aU (mkRat (sg neg n) d)=lm (n/n.gcd d):=by unfold aU;rw[Kj neg hd]
theorem Cj(neg:Bool){n d:Nat}(hd:d≠0):bA (mkRat (sg neg n) d)=dn (d/n.gcd d):=by unfold bA;rw[Kh hd,ZK]
theorem xT:aM 0=false:=rfl
theorem xU:aU 0=[]:=kV
theorem xV:bA 0=[]:=rfl
theorem Kk{a b:Nat}(ha:a≠0)(hb:b≠0)(h:dn a=dn b):a=b:=by
 unfold dn at h
 split at h <;> split at h
 ·omega
 ·rw[←kV] at h;exact absurd (NV h).symm hb
 ·rw[←kV] at h;exact absurd (NV h) ha
 ·exact NV h
theorem Ck{p q:Rat}(h1:aM p=aM q)(h2:p.num.natAbs=q.num.natAbs)(h3:p.den=q.den):p=q:=by
 have:p.num=q.num:=by rw[←nT p,h1,h2,nT q]
 cases p;cases q
 simp only at this h3
 subst this;subst h3;rfl
theorem TP(p q:Rat):p+q=mkRat (p.num*q.den+q.num*p.den) (p.den*q.den):=by
 rw[Rat.add_def,Rat.mkRat_def,dif_neg (Nat.mul_ne_zero p.den_nz q.den_nz)]
theorem Th(p q:Rat):p*q=mkRat (p.num*q.num) (p.den*q.den):=by
 rw[Rat.mul_def,Rat.mkRat_def,dif_neg (Nat.mul_ne_zero p.den_nz q.den_nz)]
theorem kW(a:Bool)(n:Nat)(m:Nat):sg a n*(m:Int)=sg a (n*m):=by
 cases a <;> simp[sg,Int.neg_mul]
theorem Kl(a:Bool)(n m:Nat):sg a n+sg a m=sg a (n+m):=by
 cases a <;> simp[sg] <;> omega
theorem ZM{a b:Bool}(hab:a≠b){n m:Nat}(h:m≤n):sg a n+sg b m=sg a (n-m):=by
 cases a <;> cases b <;> simp[sg] at hab ⊢ <;> omega
theorem WL{p q:Rat}(h:aM p=aM q):p+q=mkRat (sg (aM q) (p.num.natAbs*q.den+q.num.natAbs*p.den)) (p.den*q.den):=by
 rw[TP]
 congr 1
 rw[←Kl,←kW,←kW,nT,←h,nT]
theorem GL{p q:Rat}(h:aM p≠aM q)(hle:q.num.natAbs*p.den≤p.num.natAbs*q.den):p+q=mkRat (sg (aM p) (p.num.natAbs*q.den-q.num.natAbs*p.den)) (p.den*q.den):=by
 rw[TP]
 congr 1
 rw[←ZM h hle,←kW,←kW,nT,nT]
theorem ZN(p q:Rat):p*q=mkRat (sg (aM p != aM q) (p.num.natAbs*q.num.natAbs)) (p.den*q.den):=by
 rw[Th]
 congr 1
 have h1:=nT p
 have h2:=nT q
 generalize p.num.natAbs=a at *
 generalize q.num.natAbs=b at *
 rw[←h1,←h2]
 cases aM p <;> cases aM q <;> simp[sg,Int.neg_mul,Int.mul_neg]
def Sm(q:Rat):Prop:=q.num.natAbs<2147483648∧q.den<2147483648
theorem Sm.zero:Sm 0:=⟨by decide,by decide⟩
theorem Ox{q:Rat}(h:q.den<BB):bA q=if q.den=1 then [] else [eX q.den]:=by
 unfold bA dn
 split
 ·rfl
 ·rw[rJ q.den_nz h]
theorem NW{q:Rat}:q.num.natAbs=0↔q=0:=by
 constructor
 ·intro h;exact Rat.num_eq_zero.1 (by omega)
 ·rintro rfl;rfl
theorem NX{p q:Rat}:p<q↔p.num*q.den<q.num*p.den:=Rat.lt_iff p q
end Go.Eng.Rt
namespace Go.Eng.Rt
open Go.Eng
def En(D k:Nat)(q:Rat):Prop:=∃m:Nat,m≤k∧q=mkRat (m:Int) D
theorem En.add{D a b:Nat}{p q:Rat}(hD:D≠0)(hp:En D a p)(hq:En D b q):En D (a+b) (p+q):=by
 obtain⟨m,hm,rfl⟩:=hp
 obtain⟨n,hn,rfl⟩:=hq
 refine⟨m+n,by omega,?_⟩
 rw[Rat.mkRat_add_mkRat _ _ hD hD,Rat.mkRat_eq_iff (Nat.mul_ne_zero hD hD) hD]
 push_cast
 rw[←Int.add_mul,Int.mul_assoc]
theorem En.zero{D k:Nat}:En D k 0:=⟨0,Nat.zero_le _,by simp[Rat.zero_mkRat]⟩
theorem En.mono{D a b:Nat}{q:Rat}(h:En D a q)(hab:a≤b):En D b q:=by
 obtain⟨m,hm,e⟩:=h;exact⟨m,by omega,e⟩
theorem En.sm{D k:Nat}{q:Rat}(hD:D≠0)(hD':D<2147483648)(hk:k<2147483648)(h:En D k q):Sm q:=by
 obtain⟨m,hm,rfl⟩:=h
 have e:(m:Int)=sg false m:=rfl
 constructor
 ·rw[e,Kj false hD]
  exact Nat.lt_of_le_of_lt (Nat.div_le_self _ _) (by omega)
 ·rw[Kh hD]
  exact Nat.lt_of_le_of_lt (Nat.div_le_self _ _) hD'
theorem En.nn{D k:Nat}{q:Rat}(hD:D≠0)(h:En D k q):aM q=false:=by
 obtain⟨m,hm,rfl⟩:=h
 by_cases h0:m=0
 ·subst h0;simp[Rat.zero_mkRat];rfl
 ·exact ZL false hD h0
end Go.Eng.Rt
namespace Go.Eng.Rt
open Go.Eng
abbrev eB:Nat:=18446744073709551616
theorem JI(n:Nat):wr .u32 (n:Int)=((n%BB:Nat):Int):=by
 unfold wr IntKind.wrap
 simp only[IntKind.bits,IntKind.signed,Bool.false_and,Bool.false_eq_true,if_false]
 rw[show ((2:Int) ^ 32)=((BB:Nat):Int) from rfl]
 omega
theorem Wi(n:Nat):wr .u64 (n:Int)=((n%eB:Nat):Int):=by
 unfold wr IntKind.wrap
 simp only[IntKind.bits,IntKind.signed,Bool.false_and,Bool.false_eq_true,if_false]
 rw[show ((2:Int) ^ 64)=((eB:Nat):Int) from rfl]
 omega
theorem eH{n:Nat}(h:n<eB):wr .u64 (n:Int)=(n:Int):=by rw[Wi,Nat.mod_eq_of_lt h]
theorem Km{n:Nat}(h:n<BB):wr .u32 (n:Int)=(n:Int):=by rw[JI,Nat.mod_eq_of_lt h]
theorem UR{n:Nat}(h:n<4611686018427387904):wr .i64 (n:Int)=(n:Int):=sR (by omega) (by omega)
theorem dK{n:Int}(h0:-4611686018427387904<n)(h:n<4611686018427387904):wr .i64 n=n:=sR (by omega) (by omega)
theorem NY(n:Nat):iG .u64 (n:Int) 32=((n/BB:Nat):Int):=by
 unfold iG
 rw[show ((2:Int) ^ (min (Int.toNat 32) (IntKind.bits .u64)))=((BB:Nat):Int) from rfl,Int.fdiv_eq_ediv_of_nonneg _ (by omega)]
 exact(Int.natCast_ediv n BB).symm
theorem Ri(n:Nat):DU .u64 (n:Int) 32=((n*BB:Nat):Int):=by
 unfold DU
 rw[show ((2:Int) ^ (min (Int.toNat 32) (IntKind.bits .u64)))=((BB:Nat):Int) from rfl]
 exact(Int.natCast_mul n BB).symm
theorem TQ:nn (32:Int)=some 32:=by unfold nn;rfl
theorem Oy{a b:Nat}(h:a<BB):a ||| (b*BB)=a+b*BB:=by
 rw[Nat.or_comm,Nat.add_comm,show b*BB=b <<< 32 by rw[Nat.shiftLeft_eq]]
 exact(Nat.shiftLeft_add_eq_or_of_lt (by simpa using h) b).symm
theorem Wj{a b:Nat}(ha:a<BB)(hb:b<BB):tJ .or .u64 (a:Int) ((b*BB:Nat):Int)=((a+b*BB:Nat):Int):=by
 have hlt:a+b*BB<eB:=by simp only[BB,eB] at *;omega
 unfold tJ
 have e:∀n:Nat,n<eB→(BitVec.ofInt 64 (n:Int)).toNat=n:=fun n hn=>by
  rw[BitVec.ofInt_natCast,BitVec.toNat_ofNat]
  exact Nat.mod_eq_of_lt (by simp only[eB] at hn;omega)
 show IntKind.wrap .u64 (((BitVec.ofInt 64 (a:Int) ||| BitVec.ofInt 64 ((b*BB:Nat):Int)).toNat:Nat):Int)=_
 rw[BitVec.toNat_or,e a (by simp only[BB,eB] at *;omega),e (b*BB) (by simp only[BB,eB] at *;omega),Oy ha]
 have:=eH hlt
 unfold wr at this
 exact this
theorem Wk{a b:Nat}(ha:a<BB)(hb:b<BB):tJ .or .u64 ((b*BB:Nat):Int) (a:Int)=((a+b*BB:Nat):Int):=by
 rw[←Wj ha hb]
 unfold tJ
 simp only[BitVec.or_comm]
theorem gE(l:List Nat)(i:Nat):(dD l)[i]?=(l[i]?).map eX:=by simp[dD]
theorem dF(n:Nat):T.cell (eX n) 0=eX n:=rfl
theorem sL(n:Nat):T.int? .u32 (eX n)=some (n:Int):=by unfold eX;simp
theorem lH(n:Nat):T.anyInt? (eX n)=some (n:Int):=rfl
theorem GM(x:T)(n:Nat)(h:∃m,x=eX m):T.upd 1 x 0 [T.v (.int .u32 (n:Int))]=eX n:=by
 obtain⟨m,rfl⟩:=h
 exact Jc _ _
theorem KZ(l:List Nat)(i n:Nat):(dD l).set i (eX n)=dD (l.set i n):=by unfold dD;rw[List.map_set]
theorem ZO(a b:List Nat):dD a++dD b=dD (a++b):=by unfold dD;simp
theorem WM(l:List Nat)(k:Nat):(dD l).take k=dD (l.take k):=by unfold dD;simp
theorem Cl(n:Nat):List.replicate n (T.v (.int .u32 (0:Int)))=dD (List.replicate n 0):=by unfold dD;simp[eX]
theorem Lim.take{l:List Nat}(h:Lim l)(k:Nat):Lim (l.take k):=fun x hx=>h x (List.mem_of_mem_take hx)
theorem Lim.drop{l:List Nat}(h:Lim l)(k:Nat):Lim (l.drop k):=fun x hx=>h x (List.mem_of_mem_drop hx)
theorem Lim.get{l:List Nat}(h:Lim l){i:Nat}{x:Nat}(hi:l[i]?=some x):x<BB:=h x (List.mem_of_getElem? hi)
theorem Lim.set{l:List Nat}(h:Lim l){x:Nat}(hx:x<BB)(i:Nat):Lim (l.set i x):=fun y hy=>by
 rcases List.mem_or_eq_of_mem_set hy with h1 | h1
 ·exact h y h1
 ·subst h1;exact hx
theorem Lim.rep(n:Nat):Lim (List.replicate n 0):=fun x hx=>by rw[List.eq_of_mem_replicate hx];decide
theorem Cm(n:Nat):val (List.replicate n 0)=0:=by
 induction n with
 | zero=>rfl
 | succ n ih=>rw[List.replicate_succ,val,ih,Nat.mul_zero]
theorem TR{l:List Nat}{i x y:Nat}(hi:l[i]?=some y):val (l.set i x)+BB ^ i*y=val l+BB ^ i*x:=by
 induction l generalizing i with
 | nil=>simp at hi
 | cons a l ih=>
  cases i with
  | zero=>
   simp only[List.getElem?_cons_zero,Option.some.injEq] at hi
   subst hi
   simp only[List.set_cons_zero,val,Nat.pow_zero,Nat.one_mul]
   omega
  | succ i=>
   simp only[List.getElem?_cons_succ] at hi
   have:=ih hi
   simp only[List.set_cons_succ,val,Nat.pow_succ]
   rw[Nat.mul_comm (BB ^ i) BB,Nat.mul_assoc,Nat.mul_assoc]
   have h1:BB*(val (l.set i x)+BB ^ i*y)=BB*(val l+BB ^ i*x):=by rw[this]
   rw[Nat.mul_add,Nat.mul_add] at h1
   omega
theorem wU{l:List Nat}{i x:Nat}(hi:l[i]?=some x):val (l.take (i+1))=val (l.take i)+BB ^ i*x:=by
 have hlt:i<l.length:=(List.getElem?_eq_some_iff.1 hi).1
 have hx:l[i]=x:=by rw[List.getElem?_eq_getElem hlt] at hi;exact Option.some.inj hi
 rw[List.take_succ_eq_append_getElem hlt,uT,hx]
 simp only[List.length_take,Nat.min_eq_left (Nat.le_of_lt hlt),val,Nat.mul_zero,Nat.add_zero]
theorem Q4(l:List Nat):sK l <+: l:=by
 unfold sK
 have:=List.dropWhile_suffix (l:=l.reverse) (·==0)
 have h2:=List.reverse_prefix.2 this
 simpa using h2
theorem NZ(l:List Nat):l.take (sK l).length=sK l:=(List.prefix_iff_eq_take.1 (Q4 l)).symm
theorem GN(l:List Nat):(sK l).length≤l.length:=(Q4 l).length_le
theorem N0{l:List Nat}(h:Lim l):dD (sK l)=lm (val l):=by rw[lm,H5 h]
theorem BW(n:Nat):(lm n).length=(aW n).length:=by simp[lm,dD]
theorem vV{n:Nat}:(lm n).length=0↔n=0:=by
 rw[BW]
 constructor
 ·intro h
  rcases Nat.eq_zero_or_pos n with h0 | h0
  ·exact h0
  ·rw[pG (by omega)] at h;simp at h
 ·intro h;subst h;rw[eP];rfl
theorem Kn{n:Nat}:(lm n).length≤1↔n<BB:=by rw[BW,lN];simp
def kD(a b:Nat):Int:=if a<b then -1 else if a=b then 0 else 1
theorem Q5{l:List Nat}{i x:Nat}(hi:l[i]?=some x):val l=val (l.take i)+BB ^ i*(x+BB*val (l.drop (i+1))):=by
 have hlt:i<l.length:=(List.getElem?_eq_some_iff.1 hi).1
 have hx:l[i]=x:=by rw[List.getElem?_eq_getElem hlt] at hi;exact Option.some.inj hi
 have h1:val (l.take i++l.drop i)=val l:=by rw[List.take_append_drop]
 rw[←h1,uT,List.drop_eq_getElem_cons hlt,hx,val,List.length_take,Nat.min_eq_left (Nat.le_of_lt hlt)]
theorem CP{a b:List Nat}(ha:Lim a){i x y:Nat}(hx:a[i]?=some x)(hy:b[i]?=some y)(hxy:x<y)(hd:a.drop (i+1)=b.drop (i+1)):val a<val b:=by
 rw[Q5 hx,Q5 hy,hd]
 have hlt:i<a.length:=(List.getElem?_eq_some_iff.1 hx).1
 have h1:=ZI (ha.take i)
 rw[List.length_take,Nat.min_eq_left (Nat.le_of_lt hlt)] at h1
 have h2:BB ^ i*(x+1+BB*val (b.drop (i+1)))≤BB ^ i*(y+BB*val (b.drop (i+1))):=Nat.mul_le_mul_left _ (by omega)
 rw[show x+1+BB*val (b.drop (i+1))=(x+BB*val (b.drop (i+1)))+1 by omega,Nat.mul_add] at h2
 omega
end Go.Eng.Rt
namespace Go.Eng.Rt
open Go.Eng
abbrev LM:Nat:=1000000
theorem JJ(l:List Nat)(hl:l.length<LM):∀n,n≤l.length→aH iM (dD l,(n:Int),())=some (.inl (dD l,(((sK (l.take n)).length:Nat):Int),())):=by
 intro n
 induction n with
 | zero=>intro _;exact aQ (by simp[iM,sK])
 | succ n ih=>
  intro hn
  have hlt:n<l.length:=hn
  have ht:l.take (n+1)=l.take n++[l[n]]:=List.take_succ_eq_append_getElem hlt
  have step:iM (dD l,((n+1:Nat):Int),())=if l[n]=0 then some (.inl (dD l,(n:Int),())) else some (.inr (.inl (dD l,((n+1:Nat):Int),()))):=by
   unfold iM
   simp only[aF,bK]
   rw[decide_eq_true (by omega),show ((n+1:Nat):Int)-1=(n:Int) by omega,UR (by simp only[LM] at hl;omega),cK,gE,List.getElem?_eq_getElem hlt]
   simp only[cond_true,Option.map_some,aY,dF,sL,aR]
   by_cases h0:l[n]=0
   ·rw[if_pos h0,decide_eq_true (by omega)];rfl
   ·rw[if_neg h0,decide_eq_false (by omega)];rfl
  rw[ht]
  by_cases h0:l[n]=0
  ·rw[if_pos h0] at step
   rw[dN step,ih (by omega),h0,BV]
  ·rw[if_neg h0] at step
   rw[aQ step,EW h0]
   simp only[List.length_append,List.length_take,Nat.min_eq_left (Nat.le_of_lt hlt),List.length_cons,List.length_nil]
theorem ZP{l:List Nat}(h:Lim l):(lm (val l)).length≤l.length:=by rw[←N0 h,dU];exact GN l
theorem TS{l:List Nat}(h:Lim l)(hl:l.length<LM):bX (dD l,())=some (lm (val l),()):=by
 unfold bX
 have e:=JJ l hl l.length (Nat.le_refl _)
 rw[List.take_length] at e
 simp only[aL,dU,e,aY,aP]
 rw[VP (by omega) (by omega) (by rw[dU];have:=GN l;omega)]
 simp only[Int.toNat_natCast,Int.toNat_zero,List.drop_zero,aY,WM,NZ,N0 h]
 have hlen:=ZP h
 rw[kR (by simp only[List.length_nil];simp only[LM] at hl;omega) (by decide)]
 rfl
theorem GO{n:Nat}(h:(aW n).length<LM):bX (lm n,())=some (lm n,()):=by
 have:=TS (fG n) h
 rw[eG] at this
 exact this
theorem qG{n:Nat}(h:n<eB):(aW n).length<LM:=by
 have:(aW n).length≤2:=lN.2 h
 simp only[LM];omega
theorem Ko{n:Nat}(h:n<eB):jI ((n:Int),())=some (lm n,()):=by
 unfold jI
 simp only[TQ,aY,JI,NY]
 have hd:n/BB<BB:=Nat.div_lt_of_lt_mul h
 have e:=TS (l:=[n%BB,n/BB%BB]) (Lim.cons (Nat.mod_lt _ (by decide)) (Lim.cons (Nat.mod_lt _ (by decide)) Lim.nil)) (by simp only[List.length_cons,List.length_nil,LM];omega)
 have hv:val [n%BB,n/BB%BB]=n:=by
  rw[Nat.mod_eq_of_lt hd]
  simp only[val,Nat.mul_zero,Nat.add_zero]
  exact Nat.mod_add_div n BB
 rw[hv] at e
 simp only[dD,List.map_cons,List.map_nil,eX] at e
 rw[e]
 rfl
theorem Oz{l:List Nat}(h:Lim l):dV (dD l,())=some (if l.length≤2 then (val l:Int) else 0,decide (l.length≤2),()):=by
 match l,h with
 | [],_=>unfold dV;simp[dD,val]
 | [a],h=>
  have ha:=h.head
  unfold dV
  simp only[aL,dU,List.length_cons,List.length_nil,aR]
  rw[sC _ (by omega)]
  simp[dD,dF,lH,val,eH (show a<eB by simp only[BB,eB] at *;omega)]
 | [a,b],h=>
  have ha:=h.head
  have hb:=h.tail.head
  unfold dV
  simp only[aL,dU,List.length_cons,List.length_nil,aR]
  rw[sC _ (by omega),sC _ (by omega)]
  have e1:wr .u64 (a:Int)=(a:Int):=eH (by simp only[BB,eB] at *;omega)
  have e2:wr .u64 (b:Int)=(b:Int):=eH (by simp only[BB,eB] at *;omega)
  have e3:wr .u64 ((b*BB:Nat):Int)=((b*BB:Nat):Int):=eH (by simp only[BB,eB] at *;omega)
  have g0:(dD [a,b])[(0:Int).toNat]?=some (eX a):=rfl
  have g1:(dD [a,b])[(1:Int).toNat]?=some (eX b):=rfl
  rw[g0,g1,decide_eq_false (by omega),decide_eq_false (by omega),decide_eq_true (by omega)]
  simp only[cond_false,cond_true,aY,dF,lH,TQ,e1,e2,Ri,e3,Wj ha hb]
  rw[if_pos (by omega),decide_eq_true (by omega)]
  simp only[val,Nat.mul_zero,Nat.add_zero]
  rw[Nat.mul_comm b BB]
 | a::b::c::l,h=>
  unfold dV
  simp only[aL,dU,List.length_cons,aR]
  rw[decide_eq_false (by omega),decide_eq_false (by omega),decide_eq_false (by omega),if_neg (by omega),decide_eq_false (by omega)]
  rfl
theorem ZQ{a b:List Nat}(ha:Lim a)(hb:Lim b)(hl:a.length=b.length)(hm:a.length<LM):∀n,n≤a.length→a.drop n=b.drop n →
 aH mK (dD a,dD b,(n:Int)-1,())=some (if val a=val b then .inr (.inl ()) else .inl (kD (val a) (val b),())):=by
 intro n
 induction n with
 | zero=>
  intro _ hd
  have:a=b:=by simpa using hd
  subst this
  rw[if_pos rfl]
  exact aQ (by unfold mK;simp only[lP];rw[decide_eq_false (by omega)];rfl)
 | succ n ih=>
  intro hn hd
  have h1:n<a.length:=hn
  have h2:n<b.length:=by omega
  have ga:=List.getElem?_eq_getElem h1
  have gb:=List.getElem?_eq_getElem h2
  have step:mK (dD a,dD b,((n+1:Nat):Int)-1,())=if a[n]<b[n] then some (.inr (.inl (-1,()))) else if b[n]<a[n] then some (.inr (.inl (1,()))) else some (.inl (dD a,dD b,(n:Int)-1,())):=by
   unfold mK
   rw[show ((n+1:Nat):Int)-1=(n:Int) by omega]
   simp only[lP,aF,bK]
   rw[decide_eq_true (by omega),cK,cK,gE,gE,ga,gb,dK (by omega) (by simp only[LM] at hm;omega)]
   simp only[cond_true,Option.map_some,aY,dF,sL]
   by_cases c1:a[n]<b[n]
   ·rw[if_pos c1,decide_eq_true (by omega)];rfl
   ·rw[if_neg c1,decide_eq_false (by omega)]
    by_cases c2:b[n]<a[n]
    ·rw[if_pos c2,decide_eq_true (by omega)];rfl
    ·rw[if_neg c2,decide_eq_false (by omega)];rfl
  by_cases c1:a[n]<b[n]
  ·rw[if_pos c1] at step
   have:=CP ha ga gb c1 hd
   rw[aQ step,if_neg (by omega)]
   unfold kD
   rw[if_pos this]
  ·rw[if_neg c1] at step
   by_cases c2:b[n]<a[n]
   ·rw[if_pos c2] at step
    have:=CP hb gb ga c2 hd.symm
    rw[aQ step,if_neg (by omega)]
    unfold kD
    rw[if_neg (by omega),if_neg (by omega)]
   ·rw[if_neg c2] at step
    rw[dN step]
    refine ih (by omega) ?_
    rw[List.drop_eq_getElem_cons h1,List.drop_eq_getElem_cons h2,hd,show a[n]=b[n] by omega]
theorem TT{x y:Nat}(h:(aW x).length<(aW y).length):x<y:=by
 have h1:x<BB ^ (aW x).length:=lN.1 (Nat.le_refl _)
 have h2:¬y<BB ^ (aW x).length:=fun hh=>by
  have:=lN.2 hh
  omega
 omega
theorem N1{x y:Nat}(hx:(aW x).length<LM)(hy:(aW y).length<LM):gH (lm x,lm y,())=some (kD x y,()):=by
 unfold gH
 simp only[aL,BW,aR,aF,bK]
 by_cases hl:(aW x).length=(aW y).length
 ·rw[decide_eq_true (by omega),dK (by omega) (by simp only[LM] at hx;omega)]
  have:=ZQ (fG x) (fG y) hl hx (aW x).length (Nat.le_refl _) (by rw[List.drop_length,hl,List.drop_length])
  rw[eG,eG] at this
  simp only[lm,Bool.not_true,cond_false,this,aY]
  by_cases he:x=y
  ·subst he;simp[kD]
  ·rw[if_neg he];rfl
 ·rw[decide_eq_false (by omega)]
  simp only[Bool.not_false,cond_true]
  by_cases hc:(aW x).length<(aW y).length
  ·have:=TT hc
   rw[decide_eq_true (by omega)]
   unfold kD
   rw[if_pos this];rfl
  ·have:=TT (x:=y) (y:=x) (by omega)
   rw[decide_eq_false (by omega)]
   unfold kD
   rw[if_neg (by omega),if_neg (by omega)];rfl
theorem Kp{a b o:List Nat}(ha:Lim a)(hb:Lim b)(ho:Lim o){i j x y z c:Nat}(hi:a[i]?=some x)(hj:b[j]?=some y)(hz:o[i+j]?=some z)(hc:c<BB)(hla:a.length<LM)(hlb:b.length<LM):
 hO (dD a,dD b,dD o,(i:Int),(c:Int),(j:Int),())=some (.inl (dD a,dD b,dD (o.set (i+j) ((c+(x*y+z))%BB)),(i:Int),(((c+(x*y+z))/BB:Nat):Int),((j+1:Nat):Int),())):=by
 have hx:=ha.get hi
 have hy:=hb.get hj
 have hzb:=ho.get hz
 have h1:i<a.length:=(List.getElem?_eq_some_iff.1 hi).1
 have h2:j<b.length:=(List.getElem?_eq_some_iff.1 hj).1
 have h3:i+j<o.length:=(List.getElem?_eq_some_iff.1 hz).1
 have hxy:x*y≤(BB-1)*(BB-1):=Nat.mul_le_mul (by omega) (by omega)
 have hbound:(BB-1)*(BB-1)+(BB-1)+(BB-1)<eB:=by decide
 unfold hO
 simp only[aF,aL,dU,aO,eI]
 rw[decide_eq_true (by omega)]
 simp only[cond_true,cK,gE,hi,hj,Option.map_some,aY,dF,lH]
 rw[show (i:Int)+(j:Int)=((i+j:Nat):Int) by omega,UR (by simp only[LM] at *;omega),nX (by omega)]
 simp only[aY,pW,gE,hz,Option.map_some,dF,lH,TQ]
 rw[eH (n:=x) (by simp only[BB,eB] at *;omega),eH (n:=y) (by simp only[BB,eB] at *;omega),eH (n:=z) (by simp only[BB,eB] at *;omega)]
 rw[show (x:Int)*(y:Int)=((x*y:Nat):Int) by push_cast;rfl,eH (n:=x*y) (by simp only[BB,eB] at *;omega)]
 rw[show ((x*y:Nat):Int)+(z:Int)=((x*y+z:Nat):Int) by omega,eH (n:=x*y+z) (by simp only[BB,eB] at *;omega)]
 rw[show (c:Int)+((x*y+z:Nat):Int)=((c+(x*y+z):Nat):Int) by omega,eH (n:=c+(x*y+z)) (by simp only[BB,eB] at *;omega)]
 rw[JI,NY,show (j:Int)+1=((j+1:Nat):Int) by omega,UR (by simp only[LM] at *;omega),GM _ _ ⟨z,rfl⟩,KZ]
theorem Gr{a b o:List Nat}(ha:Lim a)(hb:Lim b)(ho:Lim o){i x:Nat}(hi:a[i]?=some x)(hlo:o.length=a.length+b.length)(hla:a.length<LM)(hlb:b.length<LM):
 ∀k,k≤b.length→∃(o':List Nat) (c:Nat),aH hO (dD a,dD b,dD o,(i:Int),(0:Int),(0:Int),())=aH hO (dD a,dD b,dD o',(i:Int),(c:Int),(k:Int),()) ∧
  o'.length=o.length∧Lim o'∧c<BB∧val o'+BB ^ (i+k)*c=val o+BB ^ i*(x*val (b.take k))∧∀m,i+k≤m→o'[m]?=o[m]?:=by
 intro k
 induction k with
 | zero=>intro _;exact⟨o,0,rfl,rfl,ho,by decide,by simp[val],fun _ _=>rfl⟩
 | succ k ih=>
  intro hk
  obtain⟨o',c,h1,h2,h3,h4,h5,h6⟩:=ih (by omega)
  have hik:i<a.length:=(List.getElem?_eq_some_iff.1 hi).1
  have hj:=List.getElem?_eq_getElem (show k<b.length from hk)
  have hz:=List.getElem?_eq_getElem (show i+k<o'.length by omega)
  have hs:=Kp ha hb h3 hi hj hz h4 hla hlb
  refine⟨_,_,h1.trans (dN hs),by rw[List.length_set,h2],h3.set (Nat.mod_lt _ (by decide)) _,?_,?_,fun m hm=>?_⟩
  ·have hx:=ha.get hi
   have hy:=hb.get hj
   have hzb:=h3.get hz
   have hxy:x*b[k]≤(BB-1)*(BB-1):=Nat.mul_le_mul (by omega) (by omega)
   have hbound:(BB-1)*(BB-1)+(BB-1)+(BB-1)<BB*BB:=by decide
   exact Nat.div_lt_of_lt_mul (by omega)
  ·have hv:=TR (x:=(c+(x*b[k]+o'[i+k]))%BB) hz
   rw[wU hj]
   have hm:=Nat.mod_add_div (c+(x*b[k]+o'[i+k])) BB
   generalize (c+(x*b[k]+o'[i+k]))%BB=r at *
   generalize (c+(x*b[k]+o'[i+k]))/BB=q at *
   generalize o'[i+k]=z at *
   generalize b[k]=y at *
   generalize val (o'.set (i+k) r)=v' at *
   have e1:BB ^ (i+(k+1))*q=BB ^ (i+k)*(BB*q):=by rw[←Nat.add_assoc,Nat.pow_succ,Nat.mul_assoc]
   have e2:BB ^ (i+k)*(r+BB*q)=BB ^ (i+k)*(c+(x*y+z)):=by rw[hm]
   have e3:BB ^ i*(x*(val (b.take k)+BB ^ k*y))=BB ^ i*(x*val (b.take k))+BB ^ (i+k)*(x*y):=by
    rw[Nat.mul_add,Nat.mul_add,Nat.pow_add,Nat.mul_assoc (BB ^ i) (BB ^ k),←Nat.mul_assoc x (BB ^ k) y,Nat.mul_comm x (BB ^ k),Nat.mul_assoc (BB ^ k) x y]
   rw[e1,e3]
   rw[Nat.mul_add,Nat.mul_add,Nat.mul_add] at e2
   omega
  ·rw[List.getElem?_set_ne (by omega)]
   exact h6 m (by omega)
theorem N2{a b o:List Nat}(ha:Lim a)(hb:Lim b)(ho:Lim o){i:Nat}(hi:i<a.length)(hlo:o.length=a.length+b.length)(hla:a.length<LM)(hlb:b.length<LM)(hv:val o=val (a.take i)*val b)(h0:∀m,i+b.length≤m→m<o.length→o[m]?=some 0):
 ∃o',hQ (dD a,dD b,dD o,(i:Int),())=some (.inl (dD a,dD b,dD o',((i+1:Nat):Int),()))∧o'.length=o.length∧Lim o'∧val o'=val (a.take (i+1))*val b∧∀m,i+1+b.length≤m→m<o'.length→o'[m]?=some 0:=by
 have gi:=List.getElem?_eq_getElem hi
 obtain⟨o',c,h1,h2,h3,h4,h5,h6⟩:=Gr ha hb ho gi hlo hla hlb b.length (Nat.le_refl _)
 have hend:hO (dD a,dD b,dD o',(i:Int),(c:Int),(b.length:Int),())=some (.inr (.inl (dD a,dD b,dD o',(i:Int),(c:Int),()))):=by
  unfold hO
  simp only[aF,aL,dU]
  rw[decide_eq_false (by omega)];rfl
 have hz:o'[i+b.length]?=some 0:=by rw[h6 _ (Nat.le_refl _)];exact h0 _ (Nat.le_refl _) (by omega)
 refine⟨o'.set (i+b.length) c,?_,by rw[List.length_set,h2],h3.set h4 _,?_,fun m hm hlt=>?_⟩
 ·unfold hQ
  simp only[aF,aL,dU,aO]
  rw[decide_eq_true (by omega)]
  simp only[cond_true]
  rw[h1.trans (aQ hend)]
  simp only[aY,aP,dU]
  rw[show (i:Int)+(b.length:Int)=((i+b.length:Nat):Int) by omega,UR (by simp only[LM] at *;omega),nX (by omega)]
  simp only[aY,pW,gE,hz,Option.map_some]
  rw[Km h4,show (i:Int)+1=((i+1:Nat):Int) by omega,UR (by simp only[LM] at *;omega),GM _ _ ⟨0,rfl⟩,KZ]
 ·have e1:=TR (x:=c) hz
  rw[wU gi,Nat.add_mul,←hv]
  rw[List.take_length] at h5
  rw[Nat.mul_assoc]
  omega
 ·rw[List.getElem?_set_ne (by omega),h6 m (by omega)]
  rw[List.length_set,h2] at hlt
  exact h0 m (by omega) hlt
theorem Ti{a b:List Nat}(ha:Lim a)(hb:Lim b)(hab:a.length+b.length<LM):bH (dD a,dD b,())=some (lm (val a*val b),()):=by
 have hla:a.length<LM:=by omega
 have hlb:b.length<LM:=by omega
 have key:∀k,k≤a.length→∃o,aH hQ (dD a,dD b,dD (List.replicate (a.length+b.length) 0),(0:Int),())=aH hQ (dD a,dD b,dD o,(k:Int),()) ∧
  o.length=a.length+b.length∧Lim o∧val o=val (a.take k)*val b∧∀m,k+b.length≤m→m<o.length→o[m]?=some 0:=by
  intro k
  induction k with
  | zero=>
   intro _
   refine⟨_,rfl,by simp,Lim.rep _,by simp[Cm,val],fun m _ hm=>?_⟩
   rw[List.getElem?_replicate,if_pos (by simpa using hm)]
  | succ k ih=>
   intro hk
   obtain⟨o,h1,h2,h3,h4,h5⟩:=ih (by omega)
   obtain⟨o',g1,g2,g3,g4,g5⟩:=N2 ha hb h3 (show k<a.length from hk) h2 hla hlb h4 h5
   exact⟨o',h1.trans (dN g1),g2.trans h2,g3,g4,g5⟩
 obtain⟨o,h1,h2,h3,h4,_⟩:=key a.length (Nat.le_refl _)
 have hend:hQ (dD a,dD b,dD o,(a.length:Int),())=some (.inr (.inl (dD o,()))):=by
  unfold hQ
  simp only[aF,aL,dU]
  rw[decide_eq_false (by omega)];rfl
 unfold bH
 simp only[aL,dU,aO]
 rw[show (a.length:Int)+(b.length:Int)=((a.length+b.length:Nat):Int) by omega,UR (by simp only[LM] at *;omega),VQ (by omega) (by omega) (by simp only[LM] at *;omega) (by decide)]
 simp only[aY,Int.toNat_natCast,SH,Cl]
 rw[h1.trans (aQ hend)]
 simp only[aY,aP]
 rw[TS h3 (by omega)]
 rw[List.take_length] at h4
 simp only[aY,h4]
theorem Wl{x y:Nat}(h:(aW x).length+(aW y).length<LM):bH (lm x,lm y,())=some (lm (x*y),()):=by
 have:=Ti (fG x) (fG y) h
 rw[eG,eG] at this
 exact this
theorem GP{n:Nat}(h:n<eB):dV (lm n,())=some ((n:Int),true,()):=by
 have h2:(aW n).length≤2:=lN.2 h
 have:=Oz (fG n)
 rw[if_pos h2,decide_eq_true h2,eG] at this
 exact this
theorem Kq(a b:Nat):(a:Int).tdiv (b:Int)=((a/b:Nat):Int):=rfl
theorem Rj(a b:Nat):(a:Int).tmod (b:Int)=((a%b:Nat):Int):=rfl
theorem Cn{a b:Nat}(ha:a<eB)(hb:b<eB)(h0:b≠0):jA (lm a,lm b,())=some (lm (a/b),lm (a%b),0,()):=by
 unfold jA
 simp only[aL,aR,aF]
 have hbl:(lm b).length≠0:=fun h=>h0 (vV.1 h)
 rw[decide_eq_false (by omega)]
 simp only[cond_false,N1 (qG ha) (qG hb),aY]
 unfold kD
 by_cases hlt:a<b
 ·rw[if_pos hlt,decide_eq_true (by omega)]
  simp only[cond_true,GO (qG ha),aY]
  rw[Nat.div_eq_of_lt hlt,Nat.mod_eq_of_lt hlt,kV]
 ·rw[if_neg hlt]
  have:decide ((if a=b then (0:Int) else 1)<0)=false:=decide_eq_false (by split <;> omega)
  rw[this]
  simp only[cond_false,GP ha,GP hb,aY,cond_true,Bc,oD,Kq,Rj]
  rw[VO (by omega)]
  have hd:a/b<eB:=Nat.lt_of_le_of_lt (Nat.div_le_self _ _) ha
  have hm:a%b<eB:=Nat.lt_of_le_of_lt (Nat.mod_le _ _) ha
  simp only[aY,Kq,Rj,eH hd,Ko hd,Ko hm]
theorem WN{a b:Nat}:aH mN ((a:Int),(b:Int),())=some (.inl (((a.gcd b:Nat):Int),())):=by
 induction b using Nat.strongRecOn generalizing a with
 | _ b ih=>
  by_cases h0:b=0
  ·subst h0
   exact aQ (by unfold mN;simp[Nat.gcd_zero_right])
  ·have step:mN ((a:Int),(b:Int),())=some (.inl ((b:Int),((a%b:Nat):Int),())):=by
    unfold mN
    simp only[aR,oD]
    rw[decide_eq_false (by omega),VO (by omega)]
    rfl
   rw[dN step,ih (a%b) (Nat.mod_lt _ (Nat.pos_of_ne_zero h0)),Nat.gcd_comm a b,Nat.gcd_rec b a,Nat.gcd_comm]
theorem Rk{a b:Nat}(ha:a<eB)(hb:b<eB):jB (lm a,lm b,())=some (lm (a.gcd b),()):=by
 unfold jB
 simp only[GO (qG ha),GO (qG hb),aY]
 by_cases h0:b=0
 ·subst h0
  rw[aQ (e:=.inr (.inl (lm a,()))) (by unfold uI;simp[kV])]
  simp[Nat.gcd_zero_right]
 ·have hbl:(lm b).length≠0:=fun h=>h0 (vV.1 h)
  have hg:a.gcd b<eB:=Nat.lt_of_le_of_lt (Nat.gcd_le_right _ (Nat.pos_of_ne_zero h0)) hb
  rw[aQ (e:=.inl (lm (a.gcd b),())) (by
   unfold uI
   simp only[aF,aL]
   rw[decide_eq_true (by omega)]
   simp only[cond_true,GP ha,GP hb,aY,WN,aP,Ko hg])]
  rfl
theorem Co{d:Nat}(hd:d<eB)(h0:d≠0):(lm d).length=1↔d<BB:=by
 constructor
 ·intro h;exact Kn.1 (by omega)
 ·intro h;rw[rJ h0 h];rfl
theorem qH(neg:Bool){n d:Nat}(hn:n<eB)(hd:d<eB)(h0:d≠0):eM (neg,lm n,lm d,())=some (aM (mkRat (sg neg n) d),aU (mkRat (sg neg n) d),bA (mkRat (sg neg n) d),()):=by
 unfold eM
 simp only[GO (qG hn),GO (qG hd),aY,aL,aR]
 by_cases hz:n=0
 ·subst hz
  rw[decide_eq_true (by rw[kV];rfl),Ch,xT,xU,xV]
  rfl
 ·have hnl:(lm n).length≠0:=fun h=>hz (vV.1 h)
  have hg:n.gcd d<eB:=Nat.lt_of_le_of_lt (Nat.gcd_le_right _ (Nat.pos_of_ne_zero h0)) hd
  have hg0:n.gcd d≠0:=Nat.gcd_ne_zero_right h0
  rw[decide_eq_false (by omega),ZL neg h0 hz,Ci neg h0,Cj neg h0]
  have hq0:d/n.gcd d≠0:=by
   have:=Nat.div_pos (Nat.le_of_dvd (Nat.pos_of_ne_zero h0) (Nat.gcd_dvd_right n d)) (Nat.pos_of_ne_zero hg0)
   omega
  have hq:d/n.gcd d<eB:=Nat.lt_of_le_of_lt (Nat.div_le_self _ _) hd
  have fin:∀(N:List T) (e:Nat),e<eB→e≠0→(ob (α:=((Bool×List T×List T×Unit×Bool×T×T×Unit)⊕Empty)) (bif (eqI (lenL (lm e)) (1:Int)) then (ob (bE (lm e) (0:Int)) fun x11=>(ob (T.int? .u32 (T.cell x11 0)) fun x12=>(bif (eqI x12 (1:Int)) then (some (Sum.inl (neg,N,[],(),false,(T.v (.slice none 0 0)),(T.v (.slice none 0 0)),()))) else (some (Sum.inl (neg,N,lm e,(),false,(T.v (.slice none 0 0)),(T.v (.slice none 0 0)),())))))) else (some (Sum.inl (neg,N,lm e,(),false,(T.v (.slice none 0 0)),(T.v (.slice none 0 0)),()))))
   fun q13=>cM q13 (fun t14=>(some (t14.1,t14.2.1,t14.2.2.1,()))) fun q15=>dE q15)=some (neg,N,dn e,()):=by
   intro N e he he0
   simp only[aL,aR]
   by_cases h1:e<BB
   ·rw[decide_eq_true (by rw[rJ he0 h1];rfl)]
    simp only[cond_true]
    rw[rJ he0 h1,sC _ (by omega)]
    simp only[Int.toNat_zero,List.getElem?_cons_zero,aY,dF,sL]
    unfold dn
    by_cases h2:e=1
    ·subst h2;rfl
    ·rw[if_neg h2,decide_eq_false (by omega),rJ he0 h1];rfl
   ·rw[decide_eq_false (by have:=(Co he he0).1;omega)]
    unfold dn
    rw[if_neg (by simp only[BB] at h1;omega)]
    rfl
  simp only[cond_false,Rk hn hd,aY,aL]
  have tail:=fin (lm (n/n.gcd d)) (d/n.gcd d) hq hq0
  simp only[aL,aR] at tail
  by_cases h1:n.gcd d=1
  ·have e1:lm (n.gcd d)=[eX 1]:=by rw[h1];exact rJ (by decide) (by decide)
   rw[e1]
   rw[h1,Nat.div_one,Nat.div_one] at tail ⊢
   simp only[List.length_cons,List.length_nil]
   rw[decide_eq_true (by omega),sC _ (by omega)]
   simp only[Bool.not_true,cond_false,Int.toNat_zero,List.getElem?_cons_zero,aY,dF,sL]
   rw[decide_eq_true (by omega)]
   simp only[Bool.not_true,cond_false,aY,aP]
   exact tail
  ·by_cases h2:n.gcd d<BB
   ·have e1:lm (n.gcd d)=[eX (n.gcd d)]:=rJ hg0 h2
    rw[decide_eq_true (by rw[e1];rfl)]
    have e2:bE (lm (n.gcd d)) 0=some (eX (n.gcd d)):=by rw[e1,sC _ (by omega)];rfl
    simp only[Bool.not_true,cond_false,e2,aY,dF,sL]
    rw[decide_eq_false (by omega)]
    simp only[Bool.not_false,cond_true,Cn hn hg hg0,Cn hd hg hg0,aY,aP]
    exact tail
   ·rw[decide_eq_false (by have:=(Co hg hg0).1;omega)]
    simp only[Bool.not_false,cond_true,Cn hn hg hg0,Cn hd hg hg0,aY,aP]
    exact tail
theorem ZR{n:Int}(h1:-4611686018427387904<n)(h2:n<4611686018427387904):nG (n,())=some (lm n.natAbs,decide (n<0),()):=by
 unfold nG
 simp only[aF,aO,bK]
 by_cases h:n<0
 ·rw[decide_eq_true h]
  have e:wr .u64 (wr .u64 (wr .i64 (0-wr .i64 (n+1)))+1)=((n.natAbs:Nat):Int):=by
   rw[dK (n:=n+1) (by omega) (by omega),dK (by omega) (by omega),show 0-(n+1)=((n.natAbs-1:Nat):Int) by omega,eH (by simp only[eB];omega),
    show ((n.natAbs-1:Nat):Int)+1=((n.natAbs:Nat):Int) by omega,eH (by simp only[eB];omega)]
  simp only[cond_true,e,Ko (n:=n.natAbs) (by simp only[eB];omega),aY]
 ·rw[decide_eq_false h]
  have e:wr .u64 n=((n.natAbs:Nat):Int):=by
   rw[show n=((n.natAbs:Nat):Int) by omega,eH (by simp only[eB];omega)];rfl
  simp only[cond_false,e,Ko (n:=n.natAbs) (by simp only[eB];omega),aY]
def GQ(n d:Int):Rat:=mkRat (sg (decide (n<0) != decide (d<0)) n.natAbs) d.natAbs
theorem Pa(a b:Bool):(!(a==b))=(a != b):=rfl
theorem Tj{n d:Int}(h1:-4611686018427387904<n)(h2:n<4611686018427387904)(h3:-4611686018427387904<d)(h4:d<4611686018427387904)(h0:d≠0):
 tO (n,d,())=some (aM (GQ n d),aU (GQ n d),bA (GQ n d),0,()):=by
 unfold tO
 simp only[aR]
 rw[decide_eq_false h0]
 simp only[cond_false,ZR h1 h2,ZR h3 h4,aY,yO,Pa]
 rw[qH _ (by simp only[eB];omega) (by simp only[eB];omega) (by omega)]
 rfl
theorem Kr{n d:Int}(h1:-4611686018427387904<n)(h2:n<4611686018427387904)(h3:-4611686018427387904<d)(h4:d<4611686018427387904)(h0:d≠0):
 kT (n,d,())=some (aM (GQ n d),aU (GQ n d),bA (GQ n d),()):=by
 unfold kT
 simp only[Tj h1 h2 h3 h4 h0,aY]
def Ks(q:Rat):Prop:=(aW q.num.natAbs).length<LM∧(aW q.den).length<LM
theorem Sm.fit{q:Rat}(h:Sm q):Ks q:=⟨qG (by have:=h.1;simp only[eB];omega),qG (by have:=h.2;simp only[eB];omega)⟩
theorem WO(d:Nat):∃m,dn d=lm m∧(m=d∨m=0):=by
 unfold dn
 split
 ·exact⟨0,kV.symm,.inr rfl⟩
 ·exact⟨d,rfl,.inl rfl⟩
theorem CQ{a b:Nat}:kD a b=0↔a=b:=by
 unfold kD
 by_cases h1:a<b
 ·rw[if_pos h1];omega
 ·rw[if_neg h1];split <;> omega
theorem ZS{p q:Rat}(hp:Ks p)(hq:Ks q):nH (aM p,aU p,bA p,aM q,aU q,bA q,())=some (decide (p=q),()):=by
 unfold nH
 simp only[yO]
 by_cases hn:aM p=aM q
 ·rw[hn]
  simp only[beq_self_eq_true,cond_true]
  unfold aU
  rw[N1 hp.1 hq.1]
  simp only[aY,aR]
  by_cases h1:p.num.natAbs=q.num.natAbs
  ·rw[decide_eq_true (CQ.2 h1)]
   simp only[cond_true]
   obtain⟨m,e1,c1⟩:=WO p.den
   obtain⟨m',e2,c2⟩:=WO q.den
   have l1:(aW m).length<LM:=by rcases c1 with rfl | rfl;exact hp.2;rw[eP];decide
   have l2:(aW m').length<LM:=by rcases c2 with rfl | rfl;exact hq.2;rw[eP];decide
   unfold bA
   rw[e1,e2,N1 l1 l2]
   simp only[aY]
   congr 2
   rw[decide_eq_decide,CQ]
   constructor
   ·intro h
    exact Ck hn h1 (Kk p.den_nz q.den_nz (by rw[e1,e2,h]))
   ·intro h
    subst h
    exact NV (e1.symm.trans e2)
  ·rw[decide_eq_false (fun h=>h1 (CQ.1 h)),decide_eq_false (fun h=>h1 (by rw[h]))]
   rfl
 ·have hb:(aM p==aM q)=false:=by simpa using hn
  rw[hb,decide_eq_false (fun h=>hn (by rw[h]))]
  rfl
def kF(q:Rat):Int:=if q=0 then 0 else if aM q then -1 else 1
theorem GR{q:Rat}:(aU q).length=0↔q=0:=by unfold aU;rw[vV,NW]
theorem Gs(q:Rat):aU (-q)=aU q∧bA (-q)=bA q∧aM (-q)=(!aM q&&decide (q≠0)):=by
 refine⟨by unfold aU;rw[Rat.neg_num,Int.natAbs_neg],by unfold bA;rw[Rat.neg_den],?_⟩
 unfold aM
 rw[Rat.neg_num]
 have h0:q.num=0↔q=0:=Rat.num_eq_zero
 by_cases h:q=0
 ·subst h;rfl
 ·have:q.num≠0:=fun hh=>h (h0.1 hh)
  rw[decide_eq_true h,Bool.and_true]
  by_cases hl:q.num<0
  ·rw[decide_eq_true hl,decide_eq_false (by omega)];rfl
  ·rw[decide_eq_false hl,decide_eq_true (by omega)];rfl
theorem Wm(q:Rat):A8 (aM q,aU q,bA q,())=some (aM (-q),aU (-q),bA (-q),()):=by
 obtain⟨e1,e2,e3⟩:=Gs q
 unfold A8
 simp only[aF,aL,e1,e2,e3]
 cases hn:aM q with
 | true=>simp
 | false=>
  simp only[Bool.not_false,cond_true,Bool.true_and]
  congr 3
  apply propext
  have:=GR (q:=q)
  constructor
  ·intro h hq;have:=this.2 hq;omega
  ·intro h;have:(aU q).length≠0:=fun hh=>h (this.1 hh);omega
end Go.Eng.Rt
namespace Go.Eng.Rt
open Go.Eng
theorem WP(l:List Nat)(hl:l.length<LM):∀n,n≤l.length→aH vK (dD l,(n:Int),())=some (.inl (dD l,(((sK (l.take n)).length:Nat):Int),())):=
 JJ l hl
theorem Tk{l:List Nat}(h:Lim l)(hl:l.length<LM):eN (dD l,())=some (lm (val l),()):=by
 unfold eN
 have e:=WP l hl l.length (Nat.le_refl _)
 rw[List.take_length] at e
 simp only[aL,dU,e,aY,aP]
 rw[VP (by omega) (by omega) (by rw[dU];have:=GN l;omega)]
 simp only[Int.toNat_natCast,Int.toNat_zero,List.drop_zero,aY,WM,NZ,N0 h]
theorem TU{n:Nat}(h:(aW n).length<LM):eN (lm n,())=some (lm n,()):=by
 have:=Tk (fG n) h
 rw[eG] at this
 exact this
def Cp(s:ByteArray)(t:(Int×Unit)):Option (Int×Unit):=
 (ob (α:=((Int×Int×Unit)⊕Empty)) (bif (tE (65536:Int) t.1) then (ob (nn (16:Int)) fun x0=>(some (Sum.inl ((iG .u32 t.1 x0),(16:Int),())))) else (some (Sum.inl (t.1,(0:Int),())))) fun q1=>cM q1 (fun t2=>(ob (α:=((Int×Int×Unit)⊕Empty)) (bif (tE (256:Int) t2.1) then (ob (nn (8:Int)) fun x3=>(some (Sum.inl ((iG .u32 t2.1 x3),(wr .i64 (aJ t2.2.1 (8:Int))),())))) else (some (Sum.inl (t2.1,t2.2.1,())))) fun q4=>cM q4 (fun t5=>(ob (RP s (wr .u8 t5.1)) fun x6=>(some ((wr .i64 (aJ t5.2.1 (wr .i64 x6))),())))) fun q7=>dE q7)) fun q8=>dE q8)
def Wn(s:ByteArray):Bool:=(List.range 256).all fun y=>match RP s (y:Int) with
 | some k=>decide (0≤k)&&decide (k≤8)&&(y==0||decide (1≤k))
 | none=>false
theorem Pb:∃s,(∀t,lW t=Cp s t)∧Wn s=true:=⟨_,fun _=>rfl,by decide +kernel⟩
theorem Wo(n:Nat):iG .u32 (n:Int) 16=((n/65536:Nat):Int):=by
 unfold iG
 rw[show ((2:Int) ^ (min (Int.toNat 16) (IntKind.bits .u32)))=((65536:Nat):Int) from rfl,Int.fdiv_eq_ediv_of_nonneg _ (by omega)]
 exact(Int.natCast_ediv n _).symm
theorem Wp(n:Nat):iG .u32 (n:Int) 8=((n/256:Nat):Int):=by
 unfold iG
 rw[show ((2:Int) ^ (min (Int.toNat 8) (IntKind.bits .u32)))=((256:Nat):Int) from rfl,Int.fdiv_eq_ediv_of_nonneg _ (by omega)]
 exact(Int.natCast_ediv n _).symm
theorem Pc{x:Nat}(hx:x<BB):∃k:Nat,lW ((x:Int),())=some ((k:Int),())∧k≤32∧(x≠0→k≠0):=by
 obtain⟨s,hs,ht⟩:=Pb
 have tab:∀y:Nat,y<256→∃k:Nat,RP s (wr .u8 (y:Int))=some (k:Int)∧k≤8∧(y≠0→k≠0):=fun y hy=>by
  have:=List.all_eq_true.1 ht y (List.mem_range.2 hy)
  rw[Yt (by omega) (by omega)]
  cases hi:RP s (y:Int) with
  | none=>rw[hi] at this;cases this
  | some k=>
   rw[hi] at this
   simp only[Bool.and_eq_true,decide_eq_true_eq,Bool.or_eq_true,beq_iff_eq] at this
   obtain⟨k',rfl⟩:=Int.eq_ofNat_of_zero_le this.1.1
   exact⟨k',rfl,by omega,fun h=>by omega⟩
 rw[hs]
 unfold Cp
 have n16:nn (16:Int)=some 16:=by unfold nn;rfl
 have n8:nn (8:Int)=some 8:=by unfold nn;rfl
 simp only[lP,aO]
 have last:∀(y c:Nat),y<256→c≤24→∃k:Nat,(ob (RP s (wr .u8 (y:Int))) fun x6=>(some ((wr .i64 ((c:Int)+(wr .i64 x6))),())))=some ((k:Int),())∧k≤32∧(y≠0∨c≠0→k≠0):=fun y c hy hc=>by
  obtain⟨k,h1,h2,h3⟩:=tab y hy
  rw[h1]
  simp only[aY]
  rw[UR (n:=k) (by omega),show (c:Int)+(k:Int)=((c+k:Nat):Int) by omega,UR (by omega)]
  exact⟨c+k,rfl,by omega,fun h=>by omega⟩
 by_cases h1:65536≤x
 ·rw[decide_eq_true (by omega)]
  simp only[cond_true,n16,aY,Wo,aP]
  by_cases h2:256≤x/65536
  ·rw[decide_eq_true (by omega)]
   simp only[cond_true,n8,aY,Wp,aP]
   rw[show (16:Int)+8=((24:Nat):Int) from rfl,UR (by omega)]
   obtain⟨k,e1,e2,e3⟩:=last (x/65536/256) 24 (by simp only[BB] at hx;omega) (by omega)
   exact⟨k,e1,e2,fun _=>e3 (.inr (by omega))⟩
  ·rw[decide_eq_false (by omega)]
   simp only[cond_false,aY,aP]
   obtain⟨k,e1,e2,e3⟩:=last (x/65536) 16 (by omega) (by omega)
   exact⟨k,e1,e2,fun _=>e3 (.inr (by omega))⟩
 ·rw[decide_eq_false (by omega)]
  simp only[cond_false,aY,aP]
  by_cases h2:256≤x
  ·rw[decide_eq_true (by omega)]
   simp only[cond_true,n8,aY,Wp,aP]
   rw[show (0:Int)+8=((8:Nat):Int) from rfl,UR (by omega)]
   obtain⟨k,e1,e2,e3⟩:=last (x/256) 8 (by omega) (by omega)
   exact⟨k,e1,e2,fun _=>e3 (.inr (by omega))⟩
  ·rw[decide_eq_false (by omega)]
   simp only[cond_false,aY,aP]
   obtain⟨k,e1,e2,e3⟩:=last x 0 (by omega) (by omega)
   exact⟨k,e1,e2,fun h=>e3 (.inl h)⟩
theorem N3{n:Nat}(h:n≠0):∃x,(aW n)[(aW n).length-1]?=some x∧x≠0∧x<BB:=by
 have hne:aW n≠[]:=Kf h
 obtain⟨m,a,e⟩:∃m a,aW n=m++[a]:=⟨(aW n).dropLast,(aW n).getLast hne,(List.dropLast_concat_getLast hne).symm⟩
 have hl:=fG n
 refine⟨a,by rw[e];simp,?_,hl a (by rw[e];simp)⟩
 intro h0
 subst h0
 have h1:aW (val (aW n))=sK (aW n):=H5 hl
 rw[eG,e,BV] at h1
 have h2:=congrArg List.length h1
 have h3:=GN m
 simp at h2
 omega
theorem Tl{n:Nat}(h:(aW n).length<LM):∃k:Nat,hZ (lm n,())=some ((k:Int),())∧(k=0↔n=0):=by
 unfold hZ
 simp only[TU h,aY,aL,aR,bK,eI,aO]
 by_cases h0:n=0
 ·subst h0
  rw[decide_eq_true (by rw[kV];rfl)]
  exact⟨0,rfl,by simp⟩
 ·have hl:(lm n).length≠0:=fun hh=>h0 (vV.1 hh)
  obtain⟨x,h1,h2,h3⟩:=N3 h0
  obtain⟨k,g1,g2,g3⟩:=Pc h3
  rw[decide_eq_false (by omega),dK (by omega) (by rw[BW];simp only[LM] at h;omega)]
  have hll:=BW n
  rw[show ((lm n).length:Int)-1=(((aW n).length-1:Nat):Int) by omega]
  simp only[cond_false,cK]
  unfold lm
  simp only[gE,h1,Option.map_some,aY,dF,sL,g1]
  rw[show (32:Int)*(((aW n).length-1:Nat):Int)=((32*((aW n).length-1):Nat):Int) by push_cast;rfl,UR (by simp only[LM] at h;omega),
   show ((32*((aW n).length-1):Nat):Int)+(k:Int)=((32*((aW n).length-1)+k:Nat):Int) by omega,UR (by simp only[LM] at h;omega)]
  exact⟨_,rfl,by constructor <;> intro hh <;> have:=g3 h2 <;> omega⟩
theorem ZT{a b:List Nat}(ha:Lim a)(hb:Lim b)(hl:a.length=b.length)(hm:a.length<LM):∀n,n≤a.length→a.drop n=b.drop n →
 aH jU (dD a,dD b,(n:Int)-1,())=some (if val a=val b then .inr (.inl ()) else .inl (kD (val a) (val b),())):=by
 intro n
 induction n with
 | zero=>
  intro _ hd
  have:a=b:=by simpa using hd
  subst this
  rw[if_pos rfl]
  exact aQ (by unfold jU;simp only[lP];rw[decide_eq_false (by omega)];rfl)
 | succ n ih=>
  intro hn hd
  have h1:n<a.length:=hn
  have h2:n<b.length:=by omega
  have ga:=List.getElem?_eq_getElem h1
  have gb:=List.getElem?_eq_getElem h2
  have step:jU (dD a,dD b,((n+1:Nat):Int)-1,())=if a[n]<b[n] then some (.inr (.inl (-1,()))) else if b[n]<a[n] then some (.inr (.inl (1,()))) else some (.inl (dD a,dD b,(n:Int)-1,())):=by
   unfold jU
   rw[show ((n+1:Nat):Int)-1=(n:Int) by omega]
   simp only[lP,aF,bK,aR]
   rw[decide_eq_true (by omega),cK,cK,gE,gE,ga,gb,dK (by omega) (by simp only[LM] at hm;omega)]
   simp only[cond_true,Option.map_some,aY,dF,sL]
   by_cases c1:a[n]<b[n]
   ·rw[if_pos c1,decide_eq_false (by omega),decide_eq_true (by omega)];rfl
   ·rw[if_neg c1]
    by_cases c2:b[n]<a[n]
    ·rw[if_pos c2,decide_eq_false (by omega),decide_eq_false (by omega)];rfl
    ·rw[if_neg c2,decide_eq_true (by omega)];rfl
  by_cases c1:a[n]<b[n]
  ·rw[if_pos c1] at step
   have:=CP ha ga gb c1 hd
   rw[aQ step,if_neg (by omega)]
   unfold kD
   rw[if_pos this]
  ·rw[if_neg c1] at step
   by_cases c2:b[n]<a[n]
   ·rw[if_pos c2] at step
    have:=CP hb gb ga c2 hd.symm
    rw[aQ step,if_neg (by omega)]
    unfold kD
    rw[if_neg (by omega),if_neg (by omega)]
   ·rw[if_neg c2] at step
    rw[dN step]
    refine ih (by omega) ?_
    rw[List.drop_eq_getElem_cons h1,List.drop_eq_getElem_cons h2,hd,show a[n]=b[n] by omega]
theorem Wq{x y:Nat}(hx:(aW x).length<LM)(hy:(aW y).length<LM):lL (lm x,lm y,())=some (kD x y,()):=by
 unfold lL
 simp only[TU hx,TU hy,aY,aL,BW,aR,aF,bK]
 by_cases hl:(aW x).length=(aW y).length
 ·rw[decide_eq_true (by omega),dK (by omega) (by simp only[LM] at hx;omega)]
  have:=ZT (fG x) (fG y) hl hx (aW x).length (Nat.le_refl _) (by rw[List.drop_length,hl,List.drop_length])
  rw[eG,eG] at this
  simp only[lm,Bool.not_true,cond_false,this,aY]
  by_cases he:x=y
  ·subst he;simp[kD]
  ·rw[if_neg he];rfl
 ·rw[decide_eq_false (by omega)]
  simp only[Bool.not_false,cond_true]
  by_cases hc:(aW x).length<(aW y).length
  ·have:=TT hc
   rw[decide_eq_true (by omega)]
   unfold kD
   rw[if_pos this];rfl
  ·have:=TT (x:=y) (y:=x) (by omega)
   rw[decide_eq_false (by omega)]
   unfold kD
   rw[if_neg (by omega),if_neg (by omega)];rfl
theorem Tn{n:Nat}(h:n<BB):lA (lm n,())=some ((n:Int),()):=by
 unfold lA
 by_cases h0:n=0
 ·subst h0
  rw[kV]
  rw[aQ (e:=.inl (0,())) (by simp[kU,dK])]
  rfl
 ·rw[rJ h0 h]
  have e:tJ .or .u64 (0:Int) (n:Int)=(n:Int):=by
   have:=Wk (a:=n) (b:=0) h (by decide)
   simpa using this
  rw[dN (s':=([eX n],(n:Int),-1,())) (by
   unfold kU
   simp only[lP,aL,bK,List.length_cons,List.length_nil]
   rw[dK (by omega) (by omega),decide_eq_true (by omega),sC _ (by omega),dK (by omega) (by omega)]
   simp only[cond_true,TQ,aY]
   have e2:DU .u64 (0:Int) 32=0:=by have:=Ri 0;simpa using this
   have e3:wr .u64 (0:Int)=0:=eH (n:=0) (by decide)
   simp[dF,lH,e2,e3,eH (show n<eB by simp only[BB,eB] at *;omega),e])]
  rw[aQ (e:=.inl ((n:Int),())) (by simp[kU])]
  rfl
def Zl(q:Rat):Prop:=q.num.natAbs<BB∧q.den<BB
theorem Sm.s1{q:Rat}(h:Sm q):Zl q:=⟨by have:=h.1;simp only[BB];omega,by have:=h.2;simp only[BB];omega⟩
theorem CR{q:Rat}(h:Zl q)(b:Bool):cB (b,aU q,bA q,())=some ((q.num.natAbs:Int),(q.den:Int),true,()):=by
 obtain⟨h1,h2⟩:=h
 have hd:=q.den_nz
 have l1:(aU q).length≤1:=Kn.2 h1
 unfold cB
 simp only[aF,aL,aR]
 rw[decide_eq_false (by omega)]
 have w:lA (aU q,())=some ((q.num.natAbs:Int),()):=Tn h1
 rw[Ox h2]
 by_cases hd1:q.den=1
 ·rw[if_pos hd1]
  simp only[List.length_nil]
  rw[decide_eq_false (by omega),decide_eq_false (by omega)]
  simp only[cond_false,aY,aP,w]
  rw[hd1];rfl
 ·rw[if_neg hd1]
  simp only[List.length_cons,List.length_nil]
  rw[decide_eq_false (by omega),decide_eq_true (by omega),sC _ (by omega)]
  simp only[cond_false,cond_true,Int.toNat_zero,List.getElem?_cons_zero,aY,dF,lH,aP,w]
  rw[eH (by simp only[BB,eB] at *;omega),decide_eq_false (by omega)]
  rfl
theorem Gt(a b:Nat):iA ((a:Int),(b:Int),())=some (((a.gcd b:Nat):Int),()):=by
 unfold iA
 have:aH qV ((a:Int),(b:Int),())=some (.inl (((a.gcd b:Nat):Int),())):=WN
 rw[this];rfl
theorem TV{α:Type}(l:List α)(a n:Nat):fW l a n=(l.drop a).take n:=by unfold fW;rfl
theorem Wr{L l h:Nat}(h1:l≤h)(h2:h≤L):tX (L:Int) (l:Int) (h:Int) (h:Int)=some (l,h-l):=by
 unfold tX
 rw[if_pos ⟨by omega,by omega,rfl,by omega⟩]
 simp
theorem WQ{L l h:Nat}(h1:l≤h)(h2:h≤L):AD (L:Int) (l:Int) (h:Int)=some (l,h-l):=by
 unfold AD
 rw[if_pos ⟨by omega,by omega,by omega⟩]
 simp
theorem Pd(a b:Nat):oN a b=a+b:=by unfold oN;rfl
theorem Yu:repL 4 (T.v (.int .u32 (0:Int)))=[eX 0,eX 0,eX 0,eX 0]:=by rw[SH];rfl
theorem To:mkLen (4:Int) 4 4=some (4,4):=by unfold mkLen;rfl
theorem Yv{n:Int}(h:0<n):dO n 0=some 0:=by rw[Jd (by omega) h];rfl
theorem Tp(n:Nat):T.v (.int .u32 (wr .u32 (n:Int)))=eX (n%BB):=by rw[JI];rfl
theorem Ws(n m:Nat):T.upd 1 (eX n) 0 [eX m]=eX m:=Jc _ _
theorem k1:tX 4 0 1 1=some (0,1):=by unfold tX;rfl
theorem k2:tX 4 1 2 2=some (1,1):=by unfold tX;rfl
theorem k3:tX 4 1 3 3=some (1,2):=by unfold tX;rfl
theorem k4:tX 4 0 2 2=some (0,2):=by unfold tX;rfl
theorem k5:tX 4 2 3 3=some (2,1):=by unfold tX;rfl
theorem k6:tX 4 2 4 4=some (2,2):=by unfold tX;rfl
theorem k7:AD 4 1 4=some (1,3):=by unfold AD;rfl
theorem k8:AD 4 2 4=some (2,2):=by unfold AD;rfl
theorem k9:wr .i64 (1+1)=2:=sR (by omega) (by omega)
theorem Zs:wr .i64 (1+2)=3:=sR (by omega) (by omega)
theorem Zt:wr .i64 (2+1)=3:=sR (by omega) (by omega)
theorem Zu:wr .i64 (2+2)=4:=sR (by omega) (by omega)
theorem Zv:E7 3=3:=by unfold E7;rfl
theorem Zw:E7 2=2:=by unfold E7;rfl
theorem Zx:dO 4 0=some 0:=by unfold dO;rfl
theorem Zy:dO 4 1=some 1:=by unfold dO;rfl
theorem Zz:dO 3 0=some 0:=by unfold dO;rfl
theorem k16:dO 3 1=some 1:=by unfold dO;rfl
theorem k17:dO 2 0=some 0:=by unfold dO;rfl
theorem k18:dO 2 1=some 1:=by unfold dO;rfl
theorem K0(neg:Bool){n d:Nat}(hn:n<eB)(hd:d<eB)(h0:d≠0):
 bQ (neg,(n:Int),(d:Int),())=some (aM (mkRat (sg neg n) d),aU (mkRat (sg neg n) d),bA (mkRat (sg neg n) d),()):=by
 unfold bQ
 simp only[aR]
 by_cases hz:n=0
 ·subst hz
  rw[decide_eq_true (by omega),Ch,xT,xU,xV]
  rfl
 ·rw[decide_eq_false (by omega)]
  have hg0:n.gcd d≠0:=Nat.gcd_ne_zero_right h0
  have hq1:n/n.gcd d≠0:=by
   have:=Nat.div_pos (Nat.le_of_dvd (Nat.pos_of_ne_zero hz) (Nat.gcd_dvd_left n d)) (Nat.pos_of_ne_zero hg0)
   omega
  have hq2:d/n.gcd d≠0:=by
   have:=Nat.div_pos (Nat.le_of_dvd (Nat.pos_of_ne_zero h0) (Nat.gcd_dvd_right n d)) (Nat.pos_of_ne_zero hg0)
   omega
  have b1:n/n.gcd d<eB:=Nat.lt_of_le_of_lt (Nat.div_le_self _ _) hn
  have b2:d/n.gcd d<eB:=Nat.lt_of_le_of_lt (Nat.div_le_self _ _) hd
  rw[ZL neg h0 hz,Ci neg h0,Cj neg h0]
  simp only[cond_false,Gt,aY,VO (show ((n.gcd d:Nat):Int)≠0 by omega),To,Yu,aL,List.length_cons,List.length_nil,Bc,Kq,eH b1,eH b2]
  generalize n/n.gcd d=N at *
  generalize d/n.gcd d=M at *
  clear hn hd hz h0 hg0
  have m1:N%BB<BB:=Nat.mod_lt _ (by decide)
  have m2:M%BB<BB:=Nat.mod_lt _ (by decide)
  have c1:N/BB<BB:=Nat.div_lt_of_lt_mul b1
  have c2:M/BB<BB:=Nat.div_lt_of_lt_mul b2
  rw[Yv (by omega)]
  simp only[aY,pW,List.getElem?_cons_zero,TQ,NY,Tp,Ws,List.set_cons_zero,aF,aO]
  have l4:∀a b c d:T,(([a,b,c,d]:List T).length:Int)=4:=fun _ _ _ _=>rfl
  have dm:∀(m:Nat),m<eB→decide (((m/BB:Nat):Int)=0)=decide (m<BB):=fun m hm=>by
   rw[decide_eq_decide]
   constructor
   ·intro h
    have:m/BB=0:=by omega
    exact(Nat.div_eq_zero_iff.1 this).resolve_left (by decide)
   ·intro h;rw[Nat.div_eq_of_lt h];rfl
  have d1:decide ((1:Int)<(M:Int))=!decide (M=1):=by
   by_cases h:M=1
   ·subst h;rfl
   ·rw[decide_eq_true (by omega),decide_eq_false h];rfl
  rw[dm N b1]
  have r1:N/BB%BB=N/BB:=Nat.mod_eq_of_lt c1
  have r2:M/BB%BB=M/BB:=Nat.mod_eq_of_lt c2
  have two:∀m:Nat,¬m<BB→m<eB→lm m=[eX (m%BB),eX (m/BB)]:=fun m h1 h2=>Tf (by omega) h2
  unfold dn
  have fN:N<BB→lm N=[eX (N%BB)]:=fun h=>by rw[Nat.mod_eq_of_lt h,rJ hq1 h]
  have fM:M<BB→lm M=[eX (M%BB)]:=fun h=>by rw[Nat.mod_eq_of_lt h,rJ hq2 h]
  have e1:decide (M=1)=true∨decide (M=1)=false:=by cases decide (M=1) <;> simp
  have e2:decide (N<BB)=true∧lm N=[eX (N%BB)]∨decide (N<BB)=false∧lm N=[eX (N%BB),eX (N/BB)]:=by
   by_cases h:N<BB
   ·exact .inl ⟨decide_eq_true h,fN h⟩
   ·exact .inr ⟨decide_eq_false h,two N h b1⟩
  have e3:decide (M<BB)=true∧lm M=[eX (M%BB)]∨decide (M<BB)=false∧lm M=[eX (M%BB),eX (M/BB)]:=by
   by_cases h:M<BB
   ·exact .inl ⟨decide_eq_true h,fM h⟩
   ·exact .inr ⟨decide_eq_false h,two M h b2⟩
  have e4:(if M=1 then ([]:List T) else lm M)=bif decide (M=1) then [] else lm M:=by
   by_cases h:M=1
   ·rw[if_pos h,decide_eq_true h];rfl
   ·rw[if_neg h,decide_eq_false h];rfl
  rw[e4,d1,dm M b2]
  rcases e1 with h1 | h1 <;> rcases e2 with⟨h2,g2⟩ | ⟨h2,g2⟩ <;> rcases e3 with⟨h3,g3⟩ | ⟨h3,g3⟩
  all_goals simp only[h1,h2,h3,g2,g3,Bool.not_true,Bool.not_false,cond_true,cond_false,k1,k2,k3,k4,k5,k6,k7,k8,k9,Zs,Zt,Zu,Zx,Zy,Zz,k16,k17,k18,Zv,Zw,aY,l4,pW,List.length_set,List.set_cons_zero,List.set_cons_succ,List.getElem?_cons_zero,List.getElem?_cons_succ,Pd,Nat.add_zero,Nat.reduceAdd,Ws,r1,r2,aP,TV,List.drop_zero,List.drop_succ_cons,List.take_succ_cons,List.take_zero]
theorem TW{a b:List Nat}(ha:a.length<LM):aK (dD a,dD b,())=some (decide (a=b),()):=by
 unfold aK
 simp only[aL,dU,aR]
 by_cases hl:a.length=b.length
 ·rw[decide_eq_true (by omega)]
  simp only[Bool.not_true,cond_false]
  have key:∀d i,i+d=a.length→a.take i=b.take i→aH bW (dD a,dD b,(a.length:Int),(i:Int),())=some (if a=b then .inr (.inl ()) else .inl (false,())):=by
   intro d
   induction d with
   | zero=>
    intro i hi ht
    have:i=a.length:=by omega
    subst this
    rw[List.take_length,hl,List.take_length] at ht
    rw[if_pos ht]
    exact aQ (by unfold bW;simp only[aF];rw[decide_eq_false (by omega)];rfl)
   | succ d ih=>
    intro i hi ht
    have h1:i<a.length:=by omega
    have h2:i<b.length:=by omega
    have ga:=List.getElem?_eq_getElem h1
    have gb:=List.getElem?_eq_getElem h2
    have step:bW (dD a,dD b,(a.length:Int),(i:Int),())=if a[i]=b[i] then some (.inl (dD a,dD b,(a.length:Int),((i+1:Nat):Int),())) else some (.inr (.inl (false,()))):=by
     unfold bW
     simp only[aF,aO,aR]
     rw[decide_eq_true (by omega),cK,cK,gE,gE,ga,gb,show (i:Int)+1=((i+1:Nat):Int) by omega,UR (by simp only[LM] at ha;omega)]
     simp only[cond_true,Option.map_some,aY,dF,sL]
     by_cases h:a[i]=b[i]
     ·rw[if_pos h,decide_eq_true (by omega)];rfl
     ·rw[if_neg h,decide_eq_false (by omega)];rfl
    by_cases h:a[i]=b[i]
    ·rw[if_pos h] at step
     rw[dN step]
     refine ih (i+1) (by omega) ?_
     rw[List.take_succ_eq_append_getElem h1,List.take_succ_eq_append_getElem h2,ht,h]
    ·rw[if_neg h] at step
     rw[aQ step,if_neg]
     intro hab
     subst hab
     exact h rfl
  have:=key a.length 0 (by omega) (by simp)
  rw[show ((0:Nat):Int)=0 from rfl] at this
  rw[this]
  by_cases hab:a=b
  ·rw[if_pos hab,decide_eq_true hab];rfl
  ·rw[if_neg hab,decide_eq_false hab];rfl
 ·rw[decide_eq_false (by omega),decide_eq_false (fun h=>hl (by rw[h]))]
  rfl
theorem BX{q:Rat}(h:Ks q):bS (aM q,aU q,bA q,())=some (kF q,()):=by
 unfold bS
 obtain⟨k,h1,h2⟩:=Tl h.1
 have h1':hZ (aU q,())=some ((k:Int),()):=h1
 simp only[h1',aY,aR]
 unfold kF
 by_cases h0:q=0
 ·rw[if_pos h0,decide_eq_true (by have:=h2.2 (NW.2 h0);omega)];rfl
 ·rw[if_neg h0,decide_eq_false (fun hh=>h0 (NW.1 (h2.1 (by omega))))]
  cases aM q <;> rfl
theorem kE(q:Rat):(kF q=0∧q=0)∨(kF q=-1∧q.num<0)∨(kF q=1∧0<q.num):=by
 unfold kF
 by_cases h:q=0
 ·exact .inl ⟨if_pos h,h⟩
 ·have h0:q.num≠0:=fun hh=>h (Rat.num_eq_zero.1 hh)
  rw[if_neg h]
  unfold aM
  by_cases hl:q.num<0
  ·rw[decide_eq_true hl];exact .inr (.inl ⟨rfl,hl⟩)
  ·rw[decide_eq_false hl];exact .inr (.inr ⟨rfl,by omega⟩)
def lS(p q:Rat):Int:=if p<q then -1 else if p=q then 0 else 1
theorem Cq{p q:Rat}:(p.num*q.den<q.num*p.den→lS p q=-1)∧(p.num*q.den=q.num*p.den→lS p q=0)∧(q.num*p.den<p.num*q.den→lS p q=1):=by
 refine⟨fun h=>?_,fun h=>?_,fun h=>?_⟩
 ·unfold lS;rw[if_pos (NX.2 h)]
 ·have e:p=q:=by
   rw[←Rat.mkRat_self p,←Rat.mkRat_self q]
   exact(Rat.mkRat_eq_iff p.den_nz q.den_nz).2 h
  unfold lS
  rw[if_neg (fun hh=>by have:=NX.1 hh;omega),if_pos e]
 ·unfold lS
  rw[if_neg (fun hh=>by have:=NX.1 hh;omega),if_neg (fun hh=>by subst hh;omega)]
theorem GS{p q:Rat}(hp:Sm p)(hq:Sm q):cD (aM p,aU p,bA p,aM q,aU q,bA q,())=some (lS p q,()):=by
 have p0:=p.den_nz
 have q0:=q.den_nz
 unfold cD
 simp only[BX hp.fit,BX hq.fit,aY,aR,aF,bK]
 have pd:(0:Int)<p.den:=by omega
 have qd:(0:Int)<q.den:=by omega
 have key:∀s:Int,(s<0→s*q.den<0)∧(0<s→0<s*q.den):=fun s=>⟨fun h=>Int.mul_neg_of_neg_of_pos h qd,fun h=>Int.mul_pos h qd⟩
 have key':∀s:Int,(s<0→s*p.den<0)∧(0<s→0<s*p.den):=fun s=>⟨fun h=>Int.mul_neg_of_neg_of_pos h pd,fun h=>Int.mul_pos h pd⟩
 obtain⟨c1,c2,c3⟩:=Cq (p:=p) (q:=q)
 have zp:p=0→p.num*q.den=0:=fun h=>by subst h;simp
 have zq:q=0→q.num*p.den=0:=fun h=>by subst h;simp
 by_cases hs:kF p=kF q
 ·rw[decide_eq_true hs]
  simp only[Bool.not_true,cond_false,CR hp.s1,CR hq.s1,aY]
  obtain⟨m1,f1,g1⟩:=WO p.den
  obtain⟨m2,f2,g2⟩:=WO q.den
  have eqd:aK (bA p,bA q,())=some (decide (p.den=q.den),()):=by
   have l1:(aW m1).length<LM:=by rcases g1 with rfl | rfl;exact hp.fit.2;rw[eP];decide
   unfold bA
   rw[f1,f2]
   have:=TW (a:=aW m1) (b:=aW m2) l1
   unfold lm
   rw[this]
   congr 2
   rw[decide_eq_decide]
   constructor
   ·intro h;exact Kk p0 q0 (by rw[f1,f2,H6 h])
   ·intro h;rw[h] at f1;exact congrArg aW (NV (f1.symm.trans f2))
  have natc:lL (aU p,aU q,())=some (kD p.num.natAbs q.num.natAbs,()):=Wq hp.fit.1 hq.fit.1
  have sizes:∀(x y:Int) (a b:Nat),x=sg (aM p) a→y=sg (aM p) b→p.num*q.den=x→q.num*p.den=y→some ((bif aM p then 0-kD a b else kD a b),())=some (lS p q,()):=fun x y a b hx hy e1 e2=>by
   rw[e1,e2] at c1 c2 c3
   congr 2
   unfold kD
   cases hn:aM p with
   | true=>
    rw[hn] at hx hy
    simp only[sg,if_true] at hx hy
    simp only[cond_true]
    by_cases h1:a<b
    ·rw[if_pos h1,c3 (by omega)];rfl
    ·rw[if_neg h1]
     by_cases h2:a=b
     ·rw[if_pos h2,c2 (by omega)];rfl
     ·rw[if_neg h2,c1 (by omega)];rfl
   | false=>
    rw[hn] at hx hy
    simp only[sg,Bool.false_eq_true,if_false] at hx hy
    simp only[cond_false]
    by_cases h1:a<b
    ·rw[if_pos h1,c1 (by omega)]
    ·rw[if_neg h1]
     by_cases h2:a=b
     ·rw[if_pos h2,c2 (by omega)]
     ·rw[if_neg h2,c3 (by omega)]
  have hneg:aM p=aM q:=by
   unfold aM
   rcases kE p with⟨a1,a2⟩ | ⟨a1,a2⟩ | ⟨a1,a2⟩ <;> rcases kE q with⟨b1,b2⟩ | ⟨b1,b2⟩ | ⟨b1,b2⟩ <;> first
    | (rw[a1,b1] at hs;cases hs;done)
    | (subst a2;subst b2;rfl)
    | (rw[decide_eq_true a2,decide_eq_true b2])
    | (rw[decide_eq_false (by omega),decide_eq_false (by omega)])
  have wc:∀a b:Nat,wr .i64 (0-kD a b)=0-kD a b:=fun a b=>by
   have:kD a b=-1∨kD a b=0∨kD a b=1:=by
    unfold kD
    by_cases h1:a<b
    ·rw[if_pos h1];exact .inl rfl
    ·rw[if_neg h1]
     by_cases h2:a=b
     ·rw[if_pos h2];exact .inr (.inl rfl)
     ·rw[if_neg h2];exact .inr (.inr rfl)
   exact dK (by omega) (by omega)
  rw[eqd]
  simp only[aY]
  have hpn:=nT p
  have hqn:=nT q
  by_cases hd:p.den=q.den
  ·rw[decide_eq_true hd]
   simp only[cond_true,natc,aY,aP,wc]
   have pos:∀s:Bool,sg s p.num.natAbs*(q.den:Int)=sg s (p.num.natAbs*q.den):=fun s=>kW s _ _
   have hcm:kD p.num.natAbs q.num.natAbs=kD (p.num.natAbs*q.den) (q.num.natAbs*p.den):=by
    rw[hd]
    unfold kD
    have i1:p.num.natAbs*q.den<q.num.natAbs*q.den↔p.num.natAbs<q.num.natAbs:=Nat.mul_lt_mul_right (Nat.pos_of_ne_zero q0)
    have i2:p.num.natAbs*q.den=q.num.natAbs*q.den↔p.num.natAbs=q.num.natAbs:=Nat.mul_left_inj q0
    simp only[i1,i2]
   rw[hcm]
   have fin:=sizes _ _ (p.num.natAbs*q.den) (q.num.natAbs*p.den) rfl rfl (by rw[←kW,hpn]) (by rw[←kW,hneg,hqn])
   cases hn:aM p <;> rw[hn] at fin <;> exact fin
  ·rw[decide_eq_false hd]
   have bp:=hp.1;have bq:=hq.1;have bpd:=hp.2;have bqd:=hq.2
   have m1:p.num.natAbs*q.den<2147483648*2147483648:=Nat.mul_lt_mul'' bp bqd
   have m2:q.num.natAbs*p.den<2147483648*2147483648:=Nat.mul_lt_mul'' bq bpd
   simp only[cond_false,cond_true,aY,eI]
   rw[show ((p.num.natAbs:Nat):Int)*(q.den:Int)=((p.num.natAbs*q.den:Nat):Int) from(Int.natCast_mul _ _).symm,show ((q.num.natAbs:Nat):Int)*(p.den:Int)=((q.num.natAbs*p.den:Nat):Int) from(Int.natCast_mul _ _).symm,
    eH (by simp only[eB];omega),eH (by simp only[eB];omega)]
   have fin:=sizes _ _ (p.num.natAbs*q.den) (q.num.natAbs*p.den) rfl rfl (by rw[←kW,hpn]) (by rw[←kW,hneg,hqn])
   generalize p.num.natAbs*q.den=a at *
   generalize q.num.natAbs*p.den=b at *
   by_cases h1:a<b
   ·rw[decide_eq_true (by omega)]
    have hc:kD a b=-1:=by unfold kD;rw[if_pos h1]
    rw[hc] at fin
    simp only[cond_true,aY,aP]
    rw[dK (n:=0 - -1) (by omega) (by omega)]
    cases hn:aM p <;> rw[hn] at fin <;> exact fin
   ·rw[decide_eq_false (by omega)]
    by_cases h2:b<a
    ·rw[decide_eq_true (by omega)]
     have hc:kD a b=1:=by unfold kD;rw[if_neg h1,if_neg (by omega)]
     rw[hc] at fin
     simp only[cond_false,cond_true,aY,aP]
     rw[dK (n:=0-1) (by omega) (by omega)]
     cases hn:aM p <;> rw[hn] at fin <;> exact fin
    ·rw[decide_eq_false (by omega)]
     have hc:kD a b=0:=CQ.2 (by omega)
     rw[hc] at fin
     simp only[cond_false,aY,aP]
     rw[dK (n:=0-0) (by omega) (by omega)]
     cases hn:aM p <;> rw[hn] at fin <;> exact fin
 ·rw[decide_eq_false hs]
  simp only[Bool.not_false,cond_true]
  rcases kE p with⟨a1,a2⟩ | ⟨a1,a2⟩ | ⟨a1,a2⟩ <;> rcases kE q with⟨b1,b2⟩ | ⟨b1,b2⟩ | ⟨b1,b2⟩ <;> rw[a1,b1]
  ·exact absurd (a1.trans b1.symm) hs
  ·have:=(key' _).1 b2
   rw[c3 (by rw[zp a2];exact this)];rfl
  ·have:=(key' _).2 b2
   rw[c1 (by rw[zp a2];exact this)];rfl
  ·have:=(key _).1 a2
   rw[c1 (by rw[zq b2];exact this)];rfl
  ·exact absurd (a1.trans b1.symm) hs
  ·have h1:=(key _).1 a2
   have h2:=(key' _).2 b2
   rw[c1 (by omega)];rfl
  ·have:=(key _).2 a2
   rw[c3 (by rw[zq b2];exact this)];rfl
  ·have h1:=(key _).2 a2
   have h2:=(key' _).1 b2
   rw[c3 (by omega)];rfl
  ·exact absurd (a1.trans b1.symm) hs
theorem Pe(a b:Nat):M5 (a:Int) (b:Int) 0=some (((a+b)%eB:Nat):Int):=by
 unfold M5
 rw[if_pos ⟨by omega,by omega,by omega,by omega⟩]
 congr 1
theorem Pf{a b:Nat}(h:a+b<eB):M6 (a:Int) (b:Int) 0=0:=by
 unfold M6
 simp only[eB] at h
 omega
theorem Rl{p q:Rat}(hp:Sm p)(hq:Sm q)(neg:Bool):jV (aM p,aU p,bA p,aM q,aU q,bA q,neg,()) =
 (let r:=mkRat (sg (aM p) (p.num.natAbs*q.den)+sg neg (q.num.natAbs*p.den)) (p.den*q.den);some (aM r,aU r,bA r,())):=by
 have p0:=p.den_nz
 have q0:=q.den_nz
 have bp:=hp.1;have bq:=hq.1;have bpd:=hp.2;have bqd:=hq.2
 have m1:p.num.natAbs*q.den<2147483648*2147483648:=Nat.mul_lt_mul'' bp bqd
 have m2:q.num.natAbs*p.den<2147483648*2147483648:=Nat.mul_lt_mul'' bq bpd
 have m3:p.den*q.den<2147483648*2147483648:=Nat.mul_lt_mul'' bpd bqd
 have d0:p.den*q.den≠0:=Nat.mul_ne_zero p0 q0
 unfold jV
 simp only[CR hp.s1,CR hq.s1,aY,cond_true,eI,bK,lP,aR,yO]
 rw[show ((p.num.natAbs:Nat):Int)*(q.den:Int)=((p.num.natAbs*q.den:Nat):Int) from(Int.natCast_mul _ _).symm,show ((q.num.natAbs:Nat):Int)*(p.den:Int)=((q.num.natAbs*p.den:Nat):Int) from(Int.natCast_mul _ _).symm,
  show ((p.den:Nat):Int)*(q.den:Int)=((p.den*q.den:Nat):Int) from(Int.natCast_mul _ _).symm,eH (n:=p.num.natAbs*q.den) (by simp only[eB];omega),eH (n:=q.num.natAbs*p.den) (by simp only[eB];omega),eH (n:=p.den*q.den) (by simp only[eB];omega)]
 generalize p.num.natAbs*q.den=a at *
 generalize q.num.natAbs*p.den=b at *
 generalize p.den*q.den=d at *
 rw[Pe,Pf (by simp only[eB];omega),Nat.mod_eq_of_lt (by simp only[eB];omega)]
 simp only[aY]
 by_cases hn:aM p=neg
 ·rw[hn]
  simp only[beq_self_eq_true,cond_true,decide_true]
  rw[K0 neg (by simp only[eB];omega) (by simp only[eB];omega) d0]
  simp only[aY,aP,Kl]
 ·have hb:(aM p==neg)=false:=by simpa using hn
  simp only[hb,cond_false,Bool.not_false,cond_true]
  by_cases hle:b≤a
  ·rw[decide_eq_true (by omega),show (a:Int)-(b:Int)=((a-b:Nat):Int) by omega,eH (n:=a-b) (by simp only[eB];omega),K0 (aM p) (by simp only[eB];omega) (by simp only[eB];omega) d0]
   simp only[cond_true,aY,aP,ZM hn hle]
  ·rw[decide_eq_false (by omega),show (b:Int)-(a:Int)=((b-a:Nat):Int) by omega,eH (n:=b-a) (by simp only[eB];omega),K0 neg (by simp only[eB];omega) (by simp only[eB];omega) d0]
   simp only[cond_false,aY,aP]
   rw[Int.add_comm,ZM (Ne.symm hn) (by omega)]
theorem WR{p q:Rat}(hp:Sm p)(hq:Sm q):dG (aM p,aU p,bA p,aM q,aU q,bA q,())=some (aM (p+q),aU (p+q),bA (p+q),()):=by
 unfold dG
 simp only[Rl hp hq,aY]
 rw[←kW,←kW,nT,nT,←TP]
theorem Cr{l:List T}(h:l.length<1000000000):bT (l,())=some (l,()):=by
 have hr:room [] l 4=some l:=by rw[kR (by simp only[List.length_nil];omega) (by decide)];rfl
 unfold bT
 simp only[hr,aY]
 unfold Ey
 cases l with
 | nil=>exact VM rfl rfl
 | cons a l=>rfl
theorem Pg{q:Rat}(h:Ks q):(aU q).length<1000000000:=by
 have:=h.1
 unfold aU
 rw[BW]
 simp only[LM] at this;omega
theorem Ph{q:Rat}(h:Ks q):(bA q).length<1000000000:=by
 obtain⟨m,e,c⟩:=WO q.den
 unfold bA
 rw[e,BW]
 rcases c with rfl | rfl
 ·have:=h.2;simp only[LM] at this;omega
 ·rw[eP];decide
end Go.Eng.Rt
namespace Go.Eng.Rt
open Go.Eng
def jP(l:List Nat)(i:Nat):Nat:=l.getD i 0
theorem H7{l:List Nat}(h:Lim l)(i:Nat):jP l i<BB:=by
 unfold jP
 rw[List.getD_eq_getElem?_getD]
 cases hg:l[i]? with
 | none=>decide
 | some x=>exact h.get hg
theorem qI{l:List Nat}{i:Nat}(h:i<l.length):l[i]?=some (jP l i):=by
 unfold jP;rw[List.getD_eq_getElem?_getD,List.getElem?_eq_getElem h];rfl
theorem vW{l:List Nat}{i:Nat}(h:l.length≤i):jP l i=0:=by
 unfold jP;rw[List.getD_eq_getElem?_getD,List.getElem?_eq_none h];rfl
theorem CS(l:List Nat)(i:Nat):val (l.take (i+1))=val (l.take i)+BB ^ i*jP l i:=by
 by_cases h:i<l.length
 ·exact wU (qI h)
 ·rw[vW (by omega),List.take_of_length_le (by omega),List.take_of_length_le (by omega)];simp
theorem N4{a b:List Nat}(ha:Lim a)(hb:Lim b)(hla:a.length<LM)(hlb:b.length<LM){o:List Nat}{c i:Nat}(hc:c<BB)(hi:i<LM)(ho:o.length=i):
 mL (dD a,dD b,dD o,(c:Int),(i:Int),())=if i<a.length∨i<b.length∨c≠0 then
  some (.inl (dD a,dD b,dD (o++[(c+jP a i+jP b i)%BB]),(((c+jP a i+jP b i)/BB:Nat):Int),((i+1:Nat):Int),())) else some (.inr (.inl (dD o,()))):=by
 have xa:=H7 ha i
 have xb:=H7 hb i
 have hroom:∀n:Nat,room (dD o) [T.v (.int .u32 ((n%BB:Nat):Int))] 4=some (dD (o++[n%BB])):=fun n=>by
  rw[kR (by rw[dU,ho];simp only[List.length_cons,List.length_nil,LM] at *;omega) (by decide)]
  rw[←ZO];rfl
 have wi:wr .i64 ((i:Int)+1)=((i+1:Nat):Int):=by rw[show (i:Int)+1=((i+1:Nat):Int) by omega,UR (by simp only[LM] at *;omega)]
 have w1:wr .u64 ((jP a i:Nat):Int)=((jP a i:Nat):Int):=eH (by simp only[BB,eB] at *;omega)
 have w2:wr .u64 ((jP b i:Nat):Int)=((jP b i:Nat):Int):=eH (by simp only[BB,eB] at *;omega)
 have w3:wr .u64 ((c:Int)+((jP a i:Nat):Int))=((c+jP a i:Nat):Int):=by rw[show (c:Int)+((jP a i:Nat):Int)=((c+jP a i:Nat):Int) by omega,eH (by simp only[BB,eB] at *;omega)]
 have w4:wr .u64 (((c+jP a i:Nat):Int)+((jP b i:Nat):Int))=((c+jP a i+jP b i:Nat):Int):=by rw[show ((c+jP a i:Nat):Int)+((jP b i:Nat):Int)=((c+jP a i+jP b i:Nat):Int) by omega,eH (by simp only[BB,eB] at *;omega)]
 have w5:wr .u64 ((c:Int)+((jP b i:Nat):Int))=((c+jP b i:Nat):Int):=by rw[show (c:Int)+((jP b i:Nat):Int)=((c+jP b i:Nat):Int) by omega,eH (by simp only[BB,eB] at *;omega)]
 unfold mL
 simp only[aF,aL,dU,aO,aR]
 by_cases h1:i<a.length <;> by_cases h2:i<b.length
 ·rw[decide_eq_true (show (i:Int)<(a.length:Int) by omega),if_pos (.inl h1)]
  simp only[cond_true,cK,gE,qI h1,qI h2,Option.map_some,aY,dF,lH,aP,w1,w2,w3,w4,dU]
  rw[decide_eq_true (show (i:Int)<(b.length:Int) by omega)]
  simp only[cond_true,cK,gE,qI h1,qI h2,Option.map_some,aY,dF,lH,aP,w1,w2,w3,w4,TQ,JI,hroom,NY,wi]
 ·rw[decide_eq_true (show (i:Int)<(a.length:Int) by omega),if_pos (.inl h1)]
  simp only[cond_true,cK,gE,qI h1,Option.map_some,aY,dF,lH,aP,w1,w3,dU]
  rw[decide_eq_false (show ¬(i:Int)<(b.length:Int) by omega)]
  simp only[cond_false,aY,aP,TQ,JI,hroom,NY,wi,vW (show b.length≤i by omega),Nat.add_zero]
 ·rw[decide_eq_false (show ¬(i:Int)<(a.length:Int) by omega),decide_eq_true (show (i:Int)<(b.length:Int) by omega),if_pos (.inr (.inl h2))]
  simp only[cond_false,cond_true,aY,aP,dU]
  rw[decide_eq_true (show (i:Int)<(b.length:Int) by omega)]
  simp only[cond_true,cK,gE,qI h2,Option.map_some,aY,dF,lH,aP,w2,w5,TQ,JI,hroom,NY,wi,vW (show a.length≤i by omega),Nat.add_zero]
 ·rw[decide_eq_false (show ¬(i:Int)<(a.length:Int) by omega),decide_eq_false (show ¬(i:Int)<(b.length:Int) by omega)]
  by_cases h3:c=0
  ·subst h3
   rw[decide_eq_true (by omega),if_neg (by omega)]
   rfl
  ·rw[decide_eq_false (by omega),if_pos (.inr (.inr h3))]
   simp only[cond_false,cond_true,Bool.not_false,aY,aP,dU]
   rw[decide_eq_false (show ¬(i:Int)<(b.length:Int) by omega)]
   simp only[cond_false,aY,aP,TQ,JI,hroom,NY,wi,vW (show a.length≤i by omega),vW (show b.length≤i by omega),Nat.add_zero]
def Zm(l:List Nat):Prop:=∀x,l.getLast?=some x→x≠0
theorem Q6(n:Nat):Zm (aW n):=fun x hx=>by
 by_cases h:n=0
 ·subst h;rw[eP] at hx;cases hx
 ·obtain⟨y,h1,h2,_⟩:=N3 h
  rw[List.getLast?_eq_getElem?] at hx
  rw[hx] at h1
  cases h1
  exact h2
theorem Q7{l:List Nat}(h:Lim l)(ht:Zm l):aW (val l)=l:=by
 rw[H5 h]
 by_cases hne:l=[]
 ·subst hne;rfl
 ·obtain⟨m,a,rfl⟩:∃m a,l=m++[a]:=⟨l.dropLast,l.getLast hne,(List.dropLast_concat_getLast hne).symm⟩
  exact EW (ht a (by simp))
theorem Rm{x y:Nat}(hx:(aW x).length<100000)(hy:(aW y).length<100000):A4 (lm x,lm y,())=some (lm (x+y),()):=by
 have ha:=fG x
 have hb:=fG y
 have ta:=Q6 x
 have tb:=Q6 y
 have va:=eG x
 have vb:=eG y
 unfold lm
 generalize aW x=a at *
 generalize aW y=b at *
 let N:=max a.length b.length
 have key:∀i,i≤N→∃(o:List Nat) (c:Nat),aH mL (dD a,dD b,dD [],(0:Int),(0:Int),())=aH mL (dD a,dD b,dD o,(c:Int),(i:Int),()) ∧
  o.length=i∧Lim o∧c<2∧val o+BB ^ i*c=val (a.take i)+val (b.take i)∧(∀x,o.getLast?=some x→i=N→c=0→x≠0):=by
  intro i
  induction i with
  | zero=>intro _;exact⟨[],0,rfl,rfl,Lim.nil,by decide,by simp[val],fun x hx=>by cases hx⟩
  | succ i ih=>
   intro hi
   obtain⟨o,c,h1,h2,h3,h4,h5,_⟩:=ih (by omega)
   have hs:=N4 ha hb (by simp only[LM];omega) (by simp only[LM];omega) (o:=o) (c:=c) (i:=i) (by simp only[BB];omega) (by simp only[LM];omega) h2
   rw[if_pos (by omega)] at hs
   have xa:=H7 ha i
   have xb:=H7 hb i
   have hm:=Nat.mod_add_div (c+jP a i+jP b i) BB
   refine⟨_,_,h1.trans (dN hs),by rw[List.length_append,h2];rfl,h3.append (Lim.cons (Nat.mod_lt _ (by decide)) Lim.nil),?_,?_,?_⟩
   ·simp only[BB] at *;omega
   ·rw[uT,h2,CS,CS]
    simp only[val,Nat.mul_zero,Nat.add_zero]
    generalize (c+jP a i+jP b i)%BB=r at *
    generalize (c+jP a i+jP b i)/BB=q at *
    have e1:BB ^ (i+1)*q=BB ^ i*(BB*q):=by rw[Nat.pow_succ,Nat.mul_assoc]
    have e2:BB ^ i*(r+BB*q)=BB ^ i*(c+jP a i+jP b i):=by rw[hm]
    rw[e1]
    rw[Nat.mul_add,Nat.mul_add,Nat.mul_add] at e2
    omega
   ·intro z hz hN hq
    simp at hz
    have hsum:c+jP a i+jP b i<BB:=by
     rcases Nat.lt_or_ge (c+jP a i+jP b i) BB with h | h
     ·exact h
     ·have:=Nat.div_pos h (show 0<BB by decide);omega
    rw[Nat.mod_eq_of_lt hsum] at hz
    have hlast:jP a i≠0∨jP b i≠0:=by
     have:a.length=i+1∨b.length=i+1:=by omega
     rcases this with hl | hl
     ·left
      exact ta _ (by rw[List.getLast?_eq_getElem?,hl,Nat.add_sub_cancel,qI (by omega)])
     ·right
      exact tb _ (by rw[List.getLast?_eq_getElem?,hl,Nat.add_sub_cancel,qI (by omega)])
    omega
 obtain⟨o,c,h1,h2,h3,h4,h5,h6⟩:=key N (Nat.le_refl _)
 have hN1:a.length≤N:=Nat.le_max_left _ _
 have hN2:b.length≤N:=Nat.le_max_right _ _
 have hNl:N<100000:=by omega
 rw[List.take_of_length_le hN1,List.take_of_length_le hN2,va,vb] at h5
 have hs:=N4 ha hb (by simp only[LM];omega) (by simp only[LM];omega) (o:=o) (c:=c) (i:=N) (by simp only[BB];omega) (by simp only[LM];omega) h2
 unfold A4
 rw[show ([]:List T)=dD [] from rfl,h1]
 by_cases hc:c=0
 ·subst hc
  rw[if_neg (by omega)] at hs
  rw[aQ hs]
  simp only[aY,aP]
  rw[←Q7 h3 (fun z hz=>h6 z hz rfl rfl)]
  rw[show val o=x+y by simpa using h5]
 ·rw[if_pos (by omega),vW hN1,vW hN2] at hs
  have c1:c=1:=by omega
  subst c1
  rw[dN hs]
  have hs2:=N4 ha hb (by simp only[LM];omega) (by simp only[LM];omega) (o:=o++[(1+0+0)%BB]) (c:=0) (i:=N+1) (by decide) (by simp only[LM];omega) (by rw[List.length_append,h2];rfl)
  rw[if_neg (by omega)] at hs2
  have e0:((1+0+0)/BB:Nat)=0:=by decide
  rw[e0,aQ hs2]
  simp only[aY,aP]
  have e1:(1+0+0)%BB=1:=by decide
  rw[e1]
  have hl:Lim (o++[1]):=h3.append (Lim.cons (by decide) Lim.nil)
  rw[←Q7 hl (fun z hz=>by simp at hz;omega)]
  have hv:val (o++[1])=x+y:=by
   rw[uT,h2]
   simp only[val,Nat.mul_zero,Nat.add_zero]
   exact h5
  rw[hv]
theorem ZU{a b:List Nat}(ha:Lim a)(hb:Lim b)(hla:a.length<LM)(hlb:b.length<LM){o:List Nat}{c i:Nat}(hc:c≤1)(hi:i<a.length)(ho:o.length=a.length)(hz:o[i]?=some 0):
 ∃c' d,c'≤1∧d<BB∧d+(c+jP b i)=jP a i+BB*c' ∧
  fE (dD a,dD b,dD o,(c:Int),(i:Int),())=some (.inl (dD a,dD b,dD (o.set i d),(c':Int),((i+1:Nat):Int),())):=by
 have xa:=H7 ha i
 have xb:=H7 hb i
 have wi:wr .i64 ((i:Int)+1)=((i+1:Nat):Int):=by rw[show (i:Int)+1=((i+1:Nat):Int) by omega,UR (by simp only[LM] at *;omega)]
 have w1:wr .u64 ((jP a i:Nat):Int)=((jP a i:Nat):Int):=eH (by simp only[BB,eB] at *;omega)
 have w2:wr .u64 ((jP b i:Nat):Int)=((jP b i:Nat):Int):=eH (by simp only[BB,eB] at *;omega)
 have w3:wr .u64 ((c:Int)+((jP b i:Nat):Int))=((c+jP b i:Nat):Int):=by rw[show (c:Int)+((jP b i:Nat):Int)=((c+jP b i:Nat):Int) by omega,eH (by simp only[BB,eB] at *;omega)]
 have w4:wr .u64 (((jP a i:Nat):Int)+4294967296)=((jP a i+BB:Nat):Int):=by rw[show ((jP a i:Nat):Int)+4294967296=((jP a i+BB:Nat):Int) by simp only[BB];omega,eH (by simp only[BB,eB] at *;omega)]
 have first:∀(R:Type) (k:(List T×List T×List T×Int×Int×Unit)→Option R),(ob (α:=((List T×List T×List T×Int×Int×Unit)⊕Empty)) (bif decide ((i:Int)<(b.length:Int)) then (ob ((b[i]?).map eX) fun x2=>(ob (T.anyInt? (T.cell x2 0)) fun x3=>(some (Sum.inl (dD a,dD b,dD o,(i:Int),(wr .u64 ((c:Int)+(wr .u64 x3))),()))))) else (some (Sum.inl (dD a,dD b,dD o,(i:Int),(c:Int),()))))
  fun q4=>cM q4 k fun q13=>dE q13)=k (dD a,dD b,dD o,(i:Int),((c+jP b i:Nat):Int),()):=fun R k=>by
  by_cases h2:i<b.length
  ·rw[decide_eq_true (by omega)]
   simp only[cond_true,qI h2,Option.map_some,aY,dF,lH,w2,w3,aP]
  ·rw[decide_eq_false (by omega),vW (show b.length≤i by omega)]
   rfl
 have e:fE (dD a,dD b,dD o,(c:Int),(i:Int),())=if jP a i<c+jP b i then some (.inl (dD a,dD b,dD (o.set i (jP a i+BB-(c+jP b i))),(1:Int),((i+1:Nat):Int),()))
  else some (.inl (dD a,dD b,dD (o.set i (jP a i-(c+jP b i))),(0:Int),((i+1:Nat):Int),())):=by
  unfold fE
  simp only[aF,aL,dU,aO,bK]
  rw[decide_eq_true (show (i:Int)<(a.length:Int) by omega)]
  simp only[cond_true,cK,gE]
  rw[first]
  simp only[cK,gE,qI hi,Option.map_some,aY,dF,lH,w1]
  by_cases h3:jP a i<c+jP b i
  ·rw[if_pos h3,decide_eq_true (by omega)]
   simp only[cond_true,aY,aP,w4,dU]
   rw[nX (by omega),show ((jP a i+BB:Nat):Int)-((c+jP b i:Nat):Int)=((jP a i+BB-(c+jP b i):Nat):Int) by simp only[BB] at *;omega,eH (by simp only[BB,eB] at *;omega),Km (by simp only[BB] at *;omega)]
   simp only[aY,pW,gE,hz,Option.map_some,wi]
   rw[GM _ _ ⟨0,rfl⟩,KZ]
  ·rw[if_neg h3,decide_eq_false (by omega)]
   simp only[cond_false,aY,aP,dU]
   rw[nX (by omega),show ((jP a i:Nat):Int)-((c+jP b i:Nat):Int)=((jP a i-(c+jP b i):Nat):Int) by omega,eH (by simp only[BB,eB] at *;omega),Km (by simp only[BB] at *;omega)]
   simp only[aY,pW,gE,hz,Option.map_some,wi]
   rw[GM _ _ ⟨0,rfl⟩,KZ]
 by_cases h3:jP a i<c+jP b i
 ·rw[if_pos h3] at e
  exact⟨1,jP a i+BB-(c+jP b i),by omega,by simp only[BB] at *;omega,by simp only[BB] at *;omega,e⟩
 ·rw[if_neg h3] at e
  exact⟨0,jP a i-(c+jP b i),by omega,by simp only[BB] at *;omega,by omega,e⟩
theorem Pi{x y:Nat}(hx:(aW x).length<LM)(hxy:y≤x):lK (lm x,lm y,())=some (lm (x-y),()):=by
 have ha:=fG x
 have hb:=fG y
 have va:=eG x
 have vb:=eG y
 have hll:(aW y).length≤(aW x).length:=lN.2 (Nat.lt_of_le_of_lt hxy (lN.1 (Nat.le_refl _)))
 unfold lm
 have fin:∀d,dD (aW d)=lm d:=fun _=>rfl
 rw[fin (x-y)]
 generalize aW x=a at *
 generalize aW y=b at *
 have key:∀i,i≤a.length→∃(o:List Nat) (c:Nat),aH fE (dD a,dD b,dD (List.replicate a.length 0),(0:Int),(0:Int),())=aH fE (dD a,dD b,dD o,(c:Int),(i:Int),()) ∧
  o.length=a.length∧Lim o∧c≤1∧val o+val (b.take i)=val (a.take i)+BB ^ i*c∧∀m,i≤m→m<a.length→o[m]?=some 0:=by
  intro i
  induction i with
  | zero=>
   intro _
   refine⟨_,0,rfl,by simp,Lim.rep _,by decide,by simp[val,Cm],fun m _ hm=>?_⟩
   rw[List.getElem?_replicate,if_pos hm]
  | succ i ih=>
   intro hi
   obtain⟨o,c,h1,h2,h3,h4,h5,h6⟩:=ih (by omega)
   have hz:=h6 i (Nat.le_refl _) hi
   obtain⟨c',d,g1,g2,g3,g4⟩:=ZU ha hb hx (by omega) h4 hi h2 hz
   refine⟨_,c',h1.trans (dN g4),by rw[List.length_set,h2],h3.set g2 _,g1,?_,fun m hm hlt=>?_⟩
   ·have hv:=TR (x:=d) hz
    rw[CS,CS]
    have e1:BB ^ (i+1)*c'=BB ^ i*(BB*c'):=by rw[Nat.pow_succ,Nat.mul_assoc]
    have e2:BB ^ i*(d+(c+jP b i))=BB ^ i*(jP a i+BB*c'):=by rw[g3]
    rw[e1]
    rw[Nat.mul_add,Nat.mul_add,Nat.mul_add] at e2
    omega
   ·rw[List.getElem?_set_ne (by omega)]
    exact h6 m (by omega) hlt
 obtain⟨o,c,h1,h2,h3,h4,h5,_⟩:=key a.length (Nat.le_refl _)
 rw[List.take_length,List.take_of_length_le hll,va,vb] at h5
 have hvo:=ZI h3
 rw[h2] at hvo
 have hval:val o=x-y:=by
  have:c=0∨c=1:=by omega
  rcases this with rfl | rfl
  ·simp at h5;omega
  ·simp at h5;omega
 unfold lK
 simp only[aL,dU]
 rw[VQ (by omega) (by omega) (by simp only[LM] at hx;omega) (by decide)]
 simp only[aY,Int.toNat_natCast,SH,Cl]
 rw[h1,aQ (e:=.inl (dD o,())) (by
  unfold fE
  simp only[aF,aL,dU]
  rw[decide_eq_false (by omega)];rfl)]
 simp only[aY,aP]
 rw[TS h3 (by omega),hval]
 rfl
theorem Cs{x y:Nat}(hx:(aW x).length<LM)(hxy:y≤x):vH (lm x,lm y,())=some (lm (x-y),0,()):=by
 have hll:(aW y).length≤(aW x).length:=lN.2 (Nat.lt_of_le_of_lt hxy (lN.1 (Nat.le_refl _)))
 unfold vH
 rw[N1 hx (by omega)]
 simp only[aY,aF]
 rw[decide_eq_false (by unfold kD;rw[if_neg (by omega)];split <;> omega)]
 simp only[cond_false,Pi hx hxy,aY]
theorem Q8(q:Rat):cZ (aM q,aU q,bA q,())=some (lm q.den,()):=by
 unfold cZ bA dn
 simp only[aL,aR]
 by_cases h:q.den=1
 ·rw[if_pos h,h,rJ (by decide) (by decide)]
  rfl
 ·rw[if_neg h,decide_eq_false (fun hh=>q.den_nz (vV.1 (by omega)))]
  rfl
theorem pH{n:Nat}(h:n<eB):(aW n).length≤2:=lN.2 h
theorem oK{x y:Nat}(hx:x<eB)(hy:y<eB):bH (lm x,lm y,())=some (lm (x*y),()):=
 Wl (by have h1:=pH hx;have h2:=pH hy;simp only[LM];omega)
theorem WS{q:Rat}(h:Sm q):q.num.natAbs<eB∧q.den<eB:=by
 obtain⟨h1,h2⟩:=h;simp only[eB];omega
theorem eS{q:Rat}:((aU q).length:Int)=0↔q=0:=by
 rw[←GR];omega
theorem TX{p q:Rat}(hp:Sm p)(hq:Sm q):dA (aM p,aU p,bA p,aM q,aU q,bA q,())=some (aM (p+q),aU (p+q),bA (p+q),()):=by
 obtain⟨p1,p2⟩:=WS hp
 obtain⟨q1,q2⟩:=WS hq
 have bp:=hp.1;have bq:=hq.1;have bpd:=hp.2;have bqd:=hq.2
 have m1:p.num.natAbs*q.den<2147483648*2147483648:=Nat.mul_lt_mul'' bp bqd
 have m2:q.num.natAbs*p.den<2147483648*2147483648:=Nat.mul_lt_mul'' bq bpd
 have m3:p.den*q.den<2147483648*2147483648:=Nat.mul_lt_mul'' bpd bqd
 have d0:p.den*q.den≠0:=Nat.mul_ne_zero p.den_nz q.den_nz
 unfold dA
 simp only[aL,aR]
 by_cases hp0:p=0
 ·rw[decide_eq_true (eS.2 hp0)]
  rw[hp0,Rat.zero_add]
  rfl
 rw[decide_eq_false (fun h=>hp0 (eS.1 h))]
 by_cases hq0:q=0
 ·rw[decide_eq_true (eS.2 hq0)]
  rw[hq0,Rat.add_zero]
  rfl
 rw[decide_eq_false (fun h=>hq0 (eS.1 h))]
 have e1:bH (aU p,lm q.den,())=some (lm (p.num.natAbs*q.den),()):=oK p1 q2
 have e2:bH (aU q,lm p.den,())=some (lm (q.num.natAbs*p.den),()):=oK q1 p2
 simp only[cond_false,Q8,aY,e1,e2,oK p2 q2,yO]
 have l1:=pH (n:=p.num.natAbs*q.den) (by simp only[eB];omega)
 have l2:=pH (n:=q.num.natAbs*p.den) (by simp only[eB];omega)
 by_cases hn:aM p=aM q
 ·rw[show (aM p==aM q)=true by simpa using hn]
  simp only[cond_true]
  rw[Rm (by omega) (by omega)]
  simp only[aY]
  rw[qH _ (by simp only[eB];omega) (by simp only[eB];omega) d0]
  simp only[aY]
  rw[hn,←WL hn]
 ·rw[show (aM p==aM q)=false by simpa using hn]
  simp only[cond_false]
  rw[N1 (by simp only[LM];omega) (by simp only[LM];omega)]
  simp only[aY,aF]
  by_cases hlt:p.num.natAbs*q.den<q.num.natAbs*p.den
  ·rw[decide_eq_true (by unfold kD;rw[if_pos hlt];omega)]
   simp only[cond_true]
   rw[Cs (by simp only[LM];omega) (by omega)]
   simp only[aY]
   rw[qH _ (by simp only[eB];omega) (by simp only[eB];omega) d0]
   simp only[aY]
   have:=GL (p:=q) (q:=p) (Ne.symm hn) (by omega)
   rw[Rat.add_comm,this,Nat.mul_comm p.den]
  ·rw[decide_eq_false (by unfold kD;rw[if_neg hlt];split <;> omega)]
   simp only[cond_false]
   rw[Cs (by simp only[LM];omega) (by omega)]
   simp only[aY]
   rw[qH _ (by simp only[eB];omega) (by simp only[eB];omega) d0]
   simp only[aY]
   rw[←GL hn (by omega)]
theorem Sm.neg{q:Rat}(h:Sm q):Sm (-q):=by
 unfold Sm at *
 rw[Rat.neg_num,Int.natAbs_neg,Rat.neg_den]
 exact h
def BY(p q:Rat):Rat:=if 0<lS q p then q else p
theorem WT{n:Int}(h1:-4611686018427387904<n)(h2:n<4611686018427387904):aB (n,())=some (aM (n:Rat),aU (n:Rat),bA (n:Rat),()):=by
 unfold aB
 simp only[ZR h1 h2,aY]
 rfl
theorem N5{p q:Rat}(hp:Sm p)(hq:Sm q):cP (aM p,aU p,bA p,aM q,aU q,bA q,())=some (aM (p-q),aU (p-q),bA (p-q),()):=by
 unfold cP
 simp only[Rl hp hq,aY]
 have e:sg (!aM q) (q.num.natAbs*p.den)=(-q).num*((p.den:Nat):Int):=by
  have key:∀(b:Bool) (n:Nat),sg (!b) n=-(sg b n):=fun b n=>by cases b <;> simp[sg]
  rw[←kW,Rat.neg_num,key,nT]
 rw[e,←kW,nT,Rat.sub_eq_add_neg,TP,Rat.neg_den]
theorem DO{p q:Rat}(hp:Sm p)(hq:Sm q):bN (aM p,aU p,bA p,aM q,aU q,bA q,())=some (aM (p*q),aU (p*q),bA (p*q),()):=by
 have bp:=hp.1;have bq:=hq.1;have bpd:=hp.2;have bqd:=hq.2
 have m1:p.num.natAbs*q.num.natAbs<2147483648*2147483648:=Nat.mul_lt_mul'' bp bq
 have m3:p.den*q.den<2147483648*2147483648:=Nat.mul_lt_mul'' bpd bqd
 unfold bN
 simp only[aL,aR]
 by_cases hp0:p=0
 ·rw[decide_eq_true (eS.2 hp0)]
  rw[hp0,Rat.zero_mul,xT,xU,xV]
  rfl
 rw[decide_eq_false (fun h=>hp0 (eS.1 h))]
 by_cases hq0:q=0
 ·rw[decide_eq_true (eS.2 hq0)]
  rw[hq0,Rat.mul_zero,xT,xU,xV]
  rfl
 rw[decide_eq_false (fun h=>hq0 (eS.1 h))]
 simp only[cond_false,CR hp.s1,CR hq.s1,aY,cond_true,eI,yO,Pa]
 rw[show ((p.num.natAbs:Nat):Int)*((q.num.natAbs:Nat):Int)=((p.num.natAbs*q.num.natAbs:Nat):Int) from(Int.natCast_mul _ _).symm,show ((p.den:Nat):Int)*(q.den:Int)=((p.den*q.den:Nat):Int) from(Int.natCast_mul _ _).symm,
  eH (n:=p.num.natAbs*q.num.natAbs) (by simp only[eB];omega),eH (n:=p.den*q.den) (by simp only[eB];omega),K0 _ (by simp only[eB];omega) (by simp only[eB];omega) (Nat.mul_ne_zero p.den_nz q.den_nz),←ZN]
 rfl
theorem GT{q:Rat}(h:Ks q):fP (aM q,aU q,bA q,())=some (aM q,aU q,bA q,()):=by
 unfold fP
 simp only[Cr (Pg h),Cr (Ph h),aY]
theorem Wt{p q:Rat}(hp:Sm p)(hq:Sm q):mQ (aM p,aU p,bA p,aM q,aU q,bA q,())=some (aM (BY p q),aU (BY p q),bA (BY p q),()):=by
 unfold mQ BY
 simp only[GS hq hp,aY,aF]
 by_cases h:0<lS q p
 ·rw[if_pos h,decide_eq_true h]
  simp only[cond_true,aY,aP,GT hq.fit]
 ·rw[if_neg h,decide_eq_false h]
  simp only[cond_false,aY,aP,GT hp.fit]
end Go.Eng.Rt
namespace Go.Eng.Tw
def Fr(D k:Nat)(q:Rat):Prop:=0<D∧∃m:Int,m.natAbs≤k∧q*(D:Rat)=(m:Rat)
theorem Fr.mono{D k l:Nat}{q:Rat}(h:Fr D k q)(hl:k≤l):Fr D l q:=by
 obtain⟨h0,m,h1,h2⟩:=h
 exact⟨h0,m,Nat.le_trans h1 hl,h2⟩
theorem Fr.int(n:Int):Fr 1 n.natAbs (n:Rat):=⟨by decide,n,Nat.le_refl _,by grind⟩
theorem Fr.zero{D:Nat}(h:0<D):Fr D 0 0:=⟨h,0,Nat.le_refl _,by grind⟩
theorem Fr.add{D k l:Nat}{p q:Rat}(h:Fr D k p)(h':Fr D l q):Fr D (k+l) (p+q):=by
 obtain⟨h0,m,h1,h2⟩:=h
 obtain⟨_,m',h1',h2'⟩:=h'
 exact⟨h0,m+m',by omega,by rw[Rat.add_mul,h2,h2',Rat.intCast_add]⟩
theorem Fr.neg{D k:Nat}{p:Rat}(h:Fr D k p):Fr D k (-p):=by
 obtain⟨h0,m,h1,h2⟩:=h
 exact⟨h0,-m,by omega,by rw[Rat.neg_mul,h2,Rat.intCast_neg]⟩
theorem Fr.sub{D k l:Nat}{p q:Rat}(h:Fr D k p)(h':Fr D l q):Fr D (k+l) (p-q):=by
 rw[Rat.sub_eq_add_neg];exact h.add h'.neg
theorem Fr.mul{D E k l:Nat}{p q:Rat}(h:Fr D k p)(h':Fr E l q):Fr (D*E) (k*l) (p*q):=by
 obtain⟨h0,m,h1,h2⟩:=h
 obtain⟨h0',m',h1',h2'⟩:=h'
 refine⟨Nat.mul_pos h0 h0',m*m',by rw[Int.natAbs_mul];exact Nat.mul_le_mul h1 h1',?_⟩
 rw[Rat.natCast_mul,Rat.intCast_mul,←h2,←h2']
 grind
theorem Fr.up{D k:Nat}{p:Rat}(E:Nat)(hE:0<E)(h:Fr D k p):Fr (D*E) (k*E) p:=by
 have:=h.mul (Fr.int (E:Int):Fr 1 _ _)
 obtain⟨h0,m,h1,h2⟩:=h
 refine⟨Nat.mul_pos h0 hE,m*E,by rw[Int.natAbs_mul,Int.natAbs_natCast];exact Nat.mul_le_mul_right _ h1,?_⟩
 rw[Rat.natCast_mul,Rat.intCast_mul,←h2,Rat.intCast_natCast]
 grind
theorem Wu{D:Nat}{q:Rat}{m:Int}(h0:0<D)(h:q*(D:Rat)=(m:Rat)):q=mkRat m D:=by
 have hD:(D:Rat)≠0:=by
  intro e
  have:((D:Int):Rat)=((0:Int):Rat):=by rw[Rat.intCast_natCast];exact e
  have:=Rat.intCast_inj.1 this
  omega
 have h2:mkRat m D*(D:Rat)=(m:Rat):=by
  rw[Rat.mkRat_eq_div,Rat.div_mul_cancel hD]
 grind
theorem Pj{n:Int}{d:Nat}(hd:d≠0):(mkRat n d).num.natAbs≤n.natAbs∧(mkRat n d).den≤d:=by
 rw[Rat.mkRat_def,dif_neg hd,Rat.normalize_eq]
 refine⟨?_,Nat.div_le_self _ _⟩
 show (n/((n.natAbs.gcd d:Nat):Int)).natAbs≤_
 have h1:((n.natAbs.gcd d:Nat):Int) ∣ n:=Int.dvd_trans (Int.natCast_dvd_natCast.2 (Nat.gcd_dvd_left n.natAbs d)) (Int.natAbs_dvd.2 (Int.dvd_refl n))
 obtain⟨c,hc⟩:=h1
 have hg:0<n.natAbs.gcd d:=Nat.gcd_pos_of_pos_right _ (Nat.pos_of_ne_zero hd)
 have h2:n/((n.natAbs.gcd d:Nat):Int)=c:=by
  have e:=Int.mul_ediv_cancel_left c (show ((n.natAbs.gcd d:Nat):Int)≠0 by omega)
  rw[←hc] at e
  exact e
 rw[h2]
 have h3:n.natAbs=n.natAbs.gcd d*c.natAbs:=by
  have:=congrArg Int.natAbs hc
  rw[Int.natAbs_mul,Int.natAbs_natCast] at this
  exact this
 have h4:=Nat.mul_le_mul_right c.natAbs hg
 omega
theorem Fr.bnd{D k:Nat}{q:Rat}(h:Fr D k q):q.num.natAbs≤k∧q.den≤D:=by
 obtain⟨h0,m,h1,h2⟩:=h
 rw[Wu h0 h2]
 have:=Pj (n:=m) (d:=D) (by omega)
 omega
theorem Fr.of_mul{D N k:Nat}{q r:Rat}(hN:0<N)(h:Fr D k r)(e:(N:Rat)*q=r):Fr (D*N) k q:=by
 obtain⟨h0,m,h1,h2⟩:=h
 refine⟨Nat.mul_pos h0 hN,m,h1,?_⟩
 rw[Rat.natCast_mul,←h2,←e]
 grind
theorem Fr.imul{D k l:Nat}{n:Int}{q:Rat}(hn:n.natAbs≤l)(h:Fr D k q):Fr D (l*k) ((n:Rat)*q):=by
 have:=(Fr.int n).mul h
 rw[Nat.one_mul] at this
 exact this.mono (Nat.mul_le_mul_right _ hn)
theorem Fr.ofInt{D l:Nat}{n:Int}(hD:0<D)(hn:n.natAbs≤l):Fr D (l*D) (n:Rat):=by
 have:=(Fr.int n).up D hD
 rw[Nat.one_mul] at this
 exact this.mono (Nat.mul_le_mul_right _ hn)
theorem Fr.mk{n:Int}{D:Nat}(hD:0<D):Fr D n.natAbs (mkRat n D):=by
 refine⟨hD,n,Nat.le_refl _,?_⟩
 have hD':(D:Rat)≠0:=by
  intro e
  have:((D:Int):Rat)=((0:Int):Rat):=by rw[Rat.intCast_natCast];exact e
  have:=Rat.intCast_inj.1 this
  omega
 rw[Rat.mkRat_eq_div,Rat.div_mul_cancel hD']
end Go.Eng.Tw
namespace Go.Eng.Tw
theorem ZV{a:Rat}(h:a≤0):0≤-a:=by grind
theorem mW{n u:Rat}(hn:0<n)(h:0≤n*u):0≤u:=by
 rcases Rat.le_total (a:=0) (b:=u) with h1 | h1
 ·exact h1
 ·by_cases e:u=0
  ·grind
  ·have h2:0 < -u:=by grind
   have:=Rat.mul_pos hn h2
   grind
theorem Q9(a:Rat):0≤a*a:=by
 rcases Rat.le_total (a:=0) (b:=a) with h | h
 ·exact Rat.mul_nonneg h h
 ·have:=Rat.mul_nonneg (ZV h) (ZV h)
  grind
theorem Wv{a:Rat}(h:a*a=0):a=0:=by
 rcases Rat.mul_eq_zero.1 h with h | h <;> exact h
theorem TY{a b:Rat}(h:a*a+b*b=0):a=0∧b=0:=by
 have h1:=Q9 a
 have h2:=Q9 b
 have e1:a*a=0:=by grind
 have e2:b*b=0:=by grind
 exact⟨Wv e1,Wv e2⟩
def Bt(d u:Rat):Prop:=(0≤u∧u≤d)∨(d≤u∧u≤0)
theorem TZ{d u:Rat}(h:Bt d u):0≤u*d∧0≤(d-u)*d:=by
 rcases h with⟨h1,h2⟩ | ⟨h1,h2⟩
 ·exact⟨Rat.mul_nonneg h1 (by grind),Rat.mul_nonneg (by grind) (by grind)⟩
 ·have a1:=Rat.mul_nonneg (ZV h2) (show (0:Rat)≤-d by grind)
  have a2:=Rat.mul_nonneg (show (0:Rat)≤-(d-u) by grind) (show (0:Rat)≤-d by grind)
  exact⟨by grind,by grind⟩
theorem Ww{d u:Rat}(h:Bt d u)(h0:u*d=0):u=0:=by
 rcases Rat.mul_eq_zero.1 h0 with e | e
 ·exact e
 ·subst e
  rcases h with⟨h1,h2⟩ | ⟨h1,h2⟩ <;> grind
theorem Wx{d u:Rat}(h:Bt d u)(h0:(d-u)*d=0):u=d:=by
 rcases Rat.mul_eq_zero.1 h0 with e | e
 ·grind
 ·subst e
  rcases h with⟨h1,h2⟩ | ⟨h1,h2⟩ <;> grind
theorem Ct{d u x n:Rat}(hn:0<n)(hx:0≤x)(hxn:x≤n)(h:n*u=x*d):Bt d u:=by
 rcases Rat.le_total (a:=0) (b:=d) with hd | hd
 ·left
  have a1:=Rat.mul_nonneg hx hd
  have a2:=Rat.mul_nonneg (show (0:Rat)≤n-x by grind) hd
  have b1:0≤n*u:=by grind
  have b2:0≤n*(d-u):=by grind
  exact⟨mW hn b1,by have:=mW hn b2;grind⟩
 ·right
  have a1:=Rat.mul_nonneg hx (show (0:Rat)≤-d by grind)
  have a2:=Rat.mul_nonneg (show (0:Rat)≤n-x by grind) (show (0:Rat)≤-d by grind)
  have b1:0≤n*(-u):=by grind
  have b2:0≤n*(u-d):=by grind
  exact⟨by have:=mW hn b2;grind,by have:=mW hn b1;grind⟩
def Pk(dx dy ux uy:Rat):Rat:=
 if ux*dx+uy*dy≤0 then ux*ux+uy*uy
 else if dx*dx+dy*dy≤ux*dx+uy*dy then (ux-dx)*(ux-dx)+(uy-dy)*(uy-dy)
 else (ux-(ux*dx+uy*dy)/(dx*dx+dy*dy)*dx)*(ux-(ux*dx+uy*dy)/(dx*dx+dy*dy)*dx)+(uy-(ux*dx+uy*dy)/(dx*dx+dy*dy)*dy)*(uy-(ux*dx+uy*dy)/(dx*dx+dy*dy)*dy)
theorem Kt(dx dy ux uy:Rat):Pk dx dy ux uy=0↔dx*uy-dy*ux=0∧Bt dx ux∧Bt dy uy:=by
 unfold Pk
 have n0:=Q9 dx
 have n1:=Q9 dy
 by_cases h1:ux*dx+uy*dy≤0
 ·rw[if_pos h1]
  constructor
  ·intro h
   obtain⟨e1,e2⟩:=TY h
   subst e1;subst e2
   refine⟨by grind,?_,?_⟩
   ·rcases Rat.le_total (a:=0) (b:=dx) with h | h
    ·exact .inl ⟨Rat.le_refl,h⟩
    ·exact .inr ⟨h,Rat.le_refl⟩
   ·rcases Rat.le_total (a:=0) (b:=dy) with h | h
    ·exact .inl ⟨Rat.le_refl,h⟩
    ·exact .inr ⟨h,Rat.le_refl⟩
  ·rintro ⟨hc,b1,b2⟩
   have m1:=(TZ b1).1
   have m2:=(TZ b2).1
   have e1:=Ww b1 (by grind)
   have e2:=Ww b2 (by grind)
   subst e1;subst e2
   grind
 ·rw[if_neg h1]
  by_cases h2:dx*dx+dy*dy≤ux*dx+uy*dy
  ·rw[if_pos h2]
   constructor
   ·intro h
    obtain⟨e1,e2⟩:=TY h
    have f1:ux=dx:=by grind
    have f2:uy=dy:=by grind
    subst f1;subst f2
    refine⟨by grind,?_,?_⟩
    ·rcases Rat.le_total (a:=0) (b:=ux) with h | h
     ·exact .inl ⟨h,Rat.le_refl⟩
     ·exact .inr ⟨Rat.le_refl,h⟩
    ·rcases Rat.le_total (a:=0) (b:=uy) with h | h
     ·exact .inl ⟨h,Rat.le_refl⟩
     ·exact .inr ⟨Rat.le_refl,h⟩
   ·rintro ⟨hc,b1,b2⟩
    have m1:=(TZ b1).2
    have m2:=(TZ b2).2
    have e1:=Wx b1 (by grind)
    have e2:=Wx b2 (by grind)
    subst e1;subst e2
    grind
  ·rw[if_neg h2]
   obtain⟨x,hx⟩:∃x,x=ux*dx+uy*dy:=⟨_,rfl⟩
   obtain⟨n,hn⟩:∃n,n=dx*dx+dy*dy:=⟨_,rfl⟩
   rw[←hx,←hn] at h2 ⊢
   rw[←hx] at h1
   have x0:0≤x:=by grind
   have n0:0<n:=by grind
   have nz:n≠0:=by grind
   obtain⟨t,ht⟩:∃t,t=x/n:=⟨_,rfl⟩
   have htn:t*n=x:=by rw[ht,Rat.div_mul_cancel nz]
   rw[←ht]
   have k1:n*(ux-t*dx)=-(dy*(dx*uy-dy*ux)):=by grind
   have k2:n*(uy-t*dy)=dx*(dx*uy-dy*ux):=by grind
   constructor
   ·intro h
    obtain⟨e1,e2⟩:=TY h
    refine⟨?_,Ct n0 x0 (by grind) (by grind),Ct n0 x0 (by grind) (by grind)⟩
    grind
   ·rintro ⟨hc,_,_⟩
    rw[hc] at k1 k2
    have e1:ux-t*dx=0:=by
     rcases Rat.mul_eq_zero.1 (show n*(ux-t*dx)=0 by grind) with e | e
     ·exact absurd e nz
     ·exact e
    have e2:uy-t*dy=0:=by
     rcases Rat.mul_eq_zero.1 (show n*(uy-t*dy)=0 by grind) with e | e
     ·exact absurd e nz
     ·exact e
    rw[e1,e2]
    grind
end Go.Eng.Tw
namespace Go.Eng.Rt
open Go.Eng Go.Eng.Tw
theorem N6(q:Rat):fH (aM q,aU q,bA q,())=some (kF q,()):=by
 unfold fH kF
 simp only[aL,aR]
 by_cases h:q=0
 ·rw[if_pos h,decide_eq_true (by have:=GR.2 h;omega)];rfl
 ·rw[if_neg h,decide_eq_false (fun hh=>h (GR.1 (by omega)))]
  cases aM q <;> rfl
theorem tC{p q:Rat}(hp:Sm p)(hq:Sm q):dC (aM p,aU p,bA p,aM q,aU q,bA q,())=some (aM (p*q),aU (p*q),bA (p*q),()):=by
 obtain⟨p1,p2⟩:=WS hp
 obtain⟨q1,q2⟩:=WS hq
 have bp:=hp.1;have bq:=hq.1;have bpd:=hp.2;have bqd:=hq.2
 have m1:p.num.natAbs*q.num.natAbs<2147483648*2147483648:=Nat.mul_lt_mul'' bp bq
 have m3:p.den*q.den<2147483648*2147483648:=Nat.mul_lt_mul'' bpd bqd
 unfold dC
 have e1:bH (aU p,aU q,())=some (lm (p.num.natAbs*q.num.natAbs),()):=oK p1 q1
 simp only[e1,Q8,aY,oK p2 q2,yO,Pa]
 rw[qH _ (by simp only[eB];omega) (by simp only[eB];omega) (Nat.mul_ne_zero p.den_nz q.den_nz),←ZN]
 rfl
theorem H8{p q:Rat}(hp:Sm p)(hq:Sm q):jC (aM p,aU p,bA p,aM q,aU q,bA q,())=some (aM (p-q),aU (p-q),bA (p-q),()):=by
 unfold jC
 simp only[Wm,aY,TX hp hq.neg]
 rw[Rat.sub_eq_add_neg]
theorem Tq{p q:Rat}(hp:Sm p)(hq:Sm q):sF (aM p,aU p,bA p,aM q,aU q,bA q,())=some (lS p q,()):=by
 obtain⟨p1,p2⟩:=WS hp
 obtain⟨q1,q2⟩:=WS hq
 have bp:=hp.1;have bq:=hq.1;have bpd:=hp.2;have bqd:=hq.2
 have m1:p.num.natAbs*q.den<2147483648*2147483648:=Nat.mul_lt_mul'' bp bqd
 have m2:q.num.natAbs*p.den<2147483648*2147483648:=Nat.mul_lt_mul'' bq bpd
 have l1:=pH (n:=p.num.natAbs*q.den) (by simp only[eB];omega)
 have l2:=pH (n:=q.num.natAbs*p.den) (by simp only[eB];omega)
 have e1:bH (aU p,lm q.den,())=some (lm (p.num.natAbs*q.den),()):=oK p1 q2
 have e2:bH (aU q,lm p.den,())=some (lm (q.num.natAbs*p.den),()):=oK q1 p2
 have hprog:=GS hp hq
 unfold cD at hprog
 unfold sF
 simp only[N6,aY,aR,aF,bK]
 simp only[BX hp.fit,BX hq.fit,aY,aR,aF] at hprog
 by_cases hs:kF p=kF q
 ·rw[decide_eq_true hs]
  simp only[Bool.not_true,cond_false,Q8,aY,e1,e2]
  rw[N1 (by simp only[LM];omega) (by simp only[LM];omega)]
  simp only[aY]
  obtain⟨c1,c2,c3⟩:=Cq (p:=p) (q:=q)
  have hneg:aM p=aM q:=by
   unfold aM
   rcases kE p with⟨a1,a2⟩ | ⟨a1,a2⟩ | ⟨a1,a2⟩ <;> rcases kE q with⟨b1,b2⟩ | ⟨b1,b2⟩ | ⟨b1,b2⟩ <;> first
    | (rw[a1,b1] at hs;cases hs;done)
    | (subst a2;subst b2;rfl)
    | (rw[decide_eq_true a2,decide_eq_true b2])
    | (rw[decide_eq_false (by omega),decide_eq_false (by omega)])
  have hx:p.num*(q.den:Int)=sg (aM p) (p.num.natAbs*q.den):=by rw[←kW,nT]
  have hy:q.num*(p.den:Int)=sg (aM p) (q.num.natAbs*p.den):=by rw[←kW,hneg,nT]
  rw[hx,hy] at c1 c2 c3
  generalize p.num.natAbs*q.den=a at *
  generalize q.num.natAbs*p.den=b at *
  unfold kD
  cases hn:aM p with
  | true=>
   rw[hn] at c1 c2 c3
   simp only[sg,if_true] at c1 c2 c3
   simp only[cond_true]
   by_cases h1:a<b
   ·rw[if_pos h1,c3 (by omega),dK (by omega) (by omega)];rfl
   ·rw[if_neg h1]
    by_cases h2:a=b
    ·rw[if_pos h2,c2 (by omega),dK (by omega) (by omega)];rfl
    ·rw[if_neg h2,c1 (by omega),dK (by omega) (by omega)];rfl
  | false=>
   rw[hn] at c1 c2 c3
   simp only[sg,Bool.false_eq_true,if_false] at c1 c2 c3
   simp only[cond_false]
   by_cases h1:a<b
   ·rw[if_pos h1,c1 (by omega)]
   ·rw[if_neg h1]
    by_cases h2:a=b
    ·rw[if_pos h2,c2 (by omega)]
    ·rw[if_neg h2,c3 (by omega)]
 ·rw[decide_eq_false hs] at hprog ⊢
  exact hprog
theorem Pl{p q:Rat}(m1:p.num.natAbs*q.den<4611686018427387904)(m2:q.num.natAbs*p.den<4611686018427387904)(m3:p.den*q.den<4611686018427387904):dA (aM p,aU p,bA p,aM q,aU q,bA q,())=some (aM (p+q),aU (p+q),bA (p+q),()):=by
 have pd:=p.den_pos
 have qd:=q.den_pos
 have p1:p.num.natAbs<eB:=by have:=Nat.le_mul_of_pos_right p.num.natAbs qd;simp only[eB];omega
 have q1:q.num.natAbs<eB:=by have:=Nat.le_mul_of_pos_right q.num.natAbs pd;simp only[eB];omega
 have p2:p.den<eB:=by have:=Nat.le_mul_of_pos_right p.den qd;simp only[eB];omega
 have q2:q.den<eB:=by have:=Nat.le_mul_of_pos_left q.den pd;simp only[eB];omega
 have d0:p.den*q.den≠0:=Nat.mul_ne_zero p.den_nz q.den_nz
 unfold dA
 simp only[aL,aR]
 by_cases hp0:p=0
 ·rw[decide_eq_true (eS.2 hp0)]
  rw[hp0,Rat.zero_add]
  rfl
 rw[decide_eq_false (fun h=>hp0 (eS.1 h))]
 by_cases hq0:q=0
 ·rw[decide_eq_true (eS.2 hq0)]
  rw[hq0,Rat.add_zero]
  rfl
 rw[decide_eq_false (fun h=>hq0 (eS.1 h))]
 have e1:bH (aU p,lm q.den,())=some (lm (p.num.natAbs*q.den),()):=oK p1 q2
 have e2:bH (aU q,lm p.den,())=some (lm (q.num.natAbs*p.den),()):=oK q1 p2
 simp only[cond_false,Q8,aY,e1,e2,oK p2 q2,yO]
 have l1:=pH (n:=p.num.natAbs*q.den) (by simp only[eB];omega)
 have l2:=pH (n:=q.num.natAbs*p.den) (by simp only[eB];omega)
 by_cases hn:aM p=aM q
 ·rw[show (aM p==aM q)=true by simpa using hn]
  simp only[cond_true]
  rw[Rm (by omega) (by omega)]
  simp only[aY]
  rw[qH _ (by simp only[eB];omega) (by simp only[eB];omega) d0]
  simp only[aY]
  rw[hn,←WL hn]
 ·rw[show (aM p==aM q)=false by simpa using hn]
  simp only[cond_false]
  rw[N1 (by simp only[LM];omega) (by simp only[LM];omega)]
  simp only[aY,aF]
  by_cases hlt:p.num.natAbs*q.den<q.num.natAbs*p.den
  ·rw[decide_eq_true (by unfold kD;rw[if_pos hlt];omega)]
   simp only[cond_true]
   rw[Cs (by simp only[LM];omega) (by omega)]
   simp only[aY]
   rw[qH _ (by simp only[eB];omega) (by simp only[eB];omega) d0]
   simp only[aY]
   have:=GL (p:=q) (q:=p) (Ne.symm hn) (by omega)
   rw[Rat.add_comm,this,Nat.mul_comm p.den]
  ·rw[decide_eq_false (by unfold kD;rw[if_neg hlt];split <;> omega)]
   simp only[cond_false]
   rw[Cs (by simp only[LM];omega) (by omega)]
   simp only[aY]
   rw[qH _ (by simp only[eB];omega) (by simp only[eB];omega) d0]
   simp only[aY]
   rw[←GL hn (by omega)]
theorem Tr{p q:Rat}(h:q≠0):p/q=mkRat (sg (aM p != aM q) (p.num.natAbs*q.den)) (p.den*q.num.natAbs):=by
 have hn:q.num≠0:=fun e=>h (Rat.num_eq_zero.1 e)
 have h1:(q⁻¹).num.natAbs=q.den:=by
  rw[Rat.num_inv,Int.natAbs_mul,Int.natAbs_natCast,Int.natAbs_sign_of_ne_zero hn,Nat.one_mul]
 have h2:(q⁻¹).den=q.num.natAbs:=by rw[Rat.den_inv,if_neg hn]
 have h3:aM q⁻¹=aM q:=by
  unfold aM
  rw[Rat.num_inv]
  have hd:(0:Int)<q.den:=by have:=q.den_pos;omega
  congr 1
  rcases Int.lt_trichotomy q.num 0 with e | e | e
  ·rw[Int.sign_eq_neg_one_of_neg e];simp only[eq_iff_iff];constructor <;> intro <;> omega
  ·exact absurd e hn
  ·rw[Int.sign_eq_one_of_pos e];simp only[eq_iff_iff];constructor <;> intro <;> omega
 rw[Rat.div_def,ZN,h1,h2,h3]
theorem Ts{p q:Rat}(hp:Sm p)(hq:Sm q)(h:q≠0):yX (aM p,aU p,bA p,aM q,aU q,bA q,())=some (aM (p/q),aU (p/q),bA (p/q),()):=by
 obtain⟨p1,p2⟩:=WS hp
 obtain⟨q1,q2⟩:=WS hq
 have bp:=hp.1;have bq:=hq.1;have bpd:=hp.2;have bqd:=hq.2
 have m1:p.num.natAbs*q.den<2147483648*2147483648:=Nat.mul_lt_mul'' bp bqd
 have m3:p.den*q.num.natAbs<2147483648*2147483648:=Nat.mul_lt_mul'' bpd bq
 have hn:q.num.natAbs≠0:=fun e=>h (Rat.num_eq_zero.1 (by omega))
 have e1:bH (aU p,lm q.den,())=some (lm (p.num.natAbs*q.den),()):=oK p1 q2
 have e2:bH (lm p.den,aU q,())=some (lm (p.den*q.num.natAbs),()):=oK p2 q1
 unfold yX JB
 simp only[aL,aR]
 rw[decide_eq_false (fun e=>h (eS.1 e))]
 simp only[cond_false,Q8,aY,e1,e2,yO,Pa]
 rw[qH _ (by simp only[eB];omega) (by simp only[eB];omega) (Nat.mul_ne_zero p.den_nz hn),Tr h]
 rfl
def BZ(p q:Rat):Rat:=if lS q p<0 then q else p
theorem Wy{p q:Rat}(hp:Sm p)(hq:Sm q):mP (aM p,aU p,bA p,aM q,aU q,bA q,())=some (aM (BZ p q),aU (BZ p q),bA (BZ p q),()):=by
 unfold mP BZ
 simp only[GS hq hp,aY,aF]
 by_cases h:lS q p<0
 ·rw[if_pos h,decide_eq_true h]
  simp only[cond_true,aY,aP,GT hq.fit]
 ·rw[if_neg h,decide_eq_false h]
  simp only[cond_false,aY,aP,GT hp.fit]
theorem qJ{p q:Rat}:lS p q≤0↔p≤q:=by
 unfold lS
 by_cases h:p<q
 ·rw[if_pos h];constructor
  ·intro;exact Rat.le_of_lt h
  ·intro;omega
 ·rw[if_neg h]
  by_cases e:p=q
  ·rw[if_pos e,e];constructor
   ·intro;exact Rat.le_refl
   ·intro;omega
  ·rw[if_neg e]
   constructor
   ·intro h2;omega
   ·intro h2;exact absurd (by grind) e
theorem T0{p q:Rat}:lS p q<0↔p<q:=by
 unfold lS
 by_cases h:p<q
 ·rw[if_pos h];constructor <;> intro <;> first | exact h | omega
 ·rw[if_neg h]
  by_cases e:p=q
  ·rw[if_pos e];constructor
   ·intro;omega
   ·intro h2;exact absurd h2 h
  ·rw[if_neg e]
   constructor
   ·intro h2;omega
   ·intro h2;exact absurd h2 h
theorem Pm{p q:Rat}:0<lS p q↔q<p:=by
 have:=qJ (p:=p) (q:=q)
 constructor
 ·intro h
  have:¬p≤q:=fun e=>by have:=this.2 e;omega
  grind
 ·intro h
  have:¬lS p q≤0:=fun e=>by have:=this.1 e;grind
  omega
end Go.Eng.Rt
namespace Go.Eng.Rt
open Go.Eng Go.Eng.Tw
abbrev c3{β:Type}(q:Rat)(r:β):Bool×List T×List T×β:=(aM q,aU q,bA q,r)
theorem Ku:aM 0=false:=rfl
theorem DP:aU 0=[]:=by
 show dD (aW 0)=[]
 unfold aW
 rfl
theorem DQ:bA 0=[]:=by
 show dn 1=[]
 exact if_pos rfl
theorem z3{β:Type}(r:β):c3 0 r=(false,([]:List T),([]:List T),r):=by
 show (aM 0,aU 0,bA 0,r)=_
 rw[DP,DQ];rfl
theorem DR:Sm 0:=⟨by decide,by decide⟩
def Bd(k D:Nat)(q:Rat):Prop:=q.num.natAbs≤k∧q.den≤D
theorem Bd.sm{k D:Nat}{q:Rat}(h:Bd k D q)(hk:k<2147483648)(hD:D<2147483648):Sm q:=⟨Nat.lt_of_le_of_lt h.1 hk,Nat.lt_of_le_of_lt h.2 hD⟩
theorem lI{D k l E:Nat}{q:Rat}(h:Fr D k q)(hk:k≤l)(hD:D≤E):Bd l E q:=⟨Nat.le_trans h.bnd.1 hk,Nat.le_trans h.bnd.2 hD⟩
theorem fK{n:Int}{k:Nat}(h:n.natAbs≤k)(hk:k<2147483648):Sm (n:Rat):=⟨by rw[Rat.num_intCast];omega,by rw[Rat.den_intCast];decide⟩
theorem Fr.muli{D k l:Nat}{n:Int}{q:Rat}(hn:n.natAbs≤l)(h:Fr D k q):Fr D (l*k) (q*(n:Rat)):=by
 rw[Rat.mul_comm];exact h.imul hn
theorem Pn(q:Rat):dA (false,[],[],c3 q ())=some (c3 q ()):=by
 unfold dA
 simp only[aL,aR,List.length_nil]
 rfl
theorem Po(q:Rat):dA (c3 q (c3 0 ()))=some (c3 q ()):=by
 unfold dA
 simp only[aL,aR]
 by_cases h:q=0
 ·rw[decide_eq_true (eS.2 h),h];rfl
 ·rw[decide_eq_false (fun e=>h (eS.1 e)),decide_eq_true (eS.2 rfl)];rfl
theorem Kv{a b c d e f:Rat}(ha:Sm a)(hb:Sm b)(hc:Sm c)(hd:Sm d)(he:Sm e)(hf:Sm f):eU (c3 a (c3 b (c3 c (c3 d (c3 e (c3 f ()))))))=some (c3 (a-d) (c3 (b-e) (c3 (c-f) ()))):=by
 unfold eU
 simp only[H8 ha hd,H8 hb he,H8 hc hf,aY,aP]
theorem T1{a b d e:Rat}(ha:Sm a)(hb:Sm b)(hd:Sm d)(he:Sm e):eU (c3 a (c3 b (c3 0 (c3 d (c3 e (c3 0 ()))))))=some (c3 (a-d) (c3 (b-e) (c3 0 ()))):=by
 have:=Kv ha hb DR hd he DR
 rw[Rat.sub_self] at this
 exact this
theorem Tt{a b d e:Rat}(ha:Sm a)(hb:Sm b)(hd:Sm d)(he:Sm e):BQ (c3 a (c3 b (c3 0 (c3 d (c3 e (c3 0 ()))))))=some (c3 (a+d) (c3 (b+e) (c3 0 ()))):=by
 have h:=TX DR DR
 rw[Rat.add_zero] at h
 unfold BQ
 simp only[TX ha hd,TX hb he,h,aY,aP]
theorem Kw{t a b:Rat}(ht:Sm t)(ha:Sm a)(hb:Sm b):wM (c3 t (c3 a (c3 b (c3 0 ()))))=some (c3 (t*a) (c3 (t*b) (c3 0 ()))):=by
 have h:=tC ht DR
 rw[Rat.mul_zero] at h
 unfold wM
 simp only[tC ht ha,tC ht hb,h,aY,aP]
theorem N7{a b d e:Rat}{k l D E:Nat}(ha:Sm a)(hb:Sm b)(hd:Sm d)(he:Sm e)(h1:Bd k D (a*d))(h2:Bd l E (b*e))(c1:k*E<4611686018427387904)(c2:l*D<4611686018427387904)(c4:D*E<4611686018427387904):
 mS (c3 a (c3 b (c3 0 (c3 d (c3 e (c3 0 ()))))))=some (c3 (a*d+b*e) ()):=by
 have h:=tC DR DR
 rw[Rat.mul_zero] at h
 have hs:=Pl (p:=a*d) (q:=b*e) (Nat.lt_of_le_of_lt (Nat.mul_le_mul h1.1 h2.2) c1) (Nat.lt_of_le_of_lt (Nat.mul_le_mul h2.1 h1.2) c2) (Nat.lt_of_le_of_lt (Nat.mul_le_mul h1.2 h2.2) c4)
 unfold mS
 simp only[tC ha hd,tC hb he,h,aY,aP,Pn,hs,Po]
theorem WU{q:Rat}:q.num<0↔q<0:=by
 rw[Rat.lt_iff]
 have:(0:Rat).num=0:=rfl
 have h2:(0:Rat).den=1:=rfl
 rw[this,h2]
 omega
theorem WV{q:Rat}:0<q.num↔0<q:=by
 rw[Rat.lt_iff]
 have:(0:Rat).num=0:=rfl
 have h2:(0:Rat).den=1:=rfl
 rw[this,h2]
 omega
theorem Cu{q:Rat}:kF q≤0↔q≤0:=by
 rcases kE q with⟨h1,h2⟩ | ⟨h1,h2⟩ | ⟨h1,h2⟩
 ·rw[h1,h2];exact⟨fun _=>Rat.le_refl,fun _=>Int.le_refl _⟩
 ·rw[h1];exact⟨fun _=>Rat.le_of_lt (WU.1 h2),fun _=>by decide⟩
 ·rw[h1];exact⟨fun h=>absurd h (by decide),fun h=>by have:=WV.1 h2;grind⟩
theorem GU{q:Rat}:kF q=0↔q=0:=by
 rcases kE q with⟨h1,h2⟩ | ⟨h1,h2⟩ | ⟨h1,h2⟩
 ·rw[h1,h2];exact⟨fun _=>rfl,fun _=>rfl⟩
 ·rw[h1];exact⟨fun h=>absurd h (by decide),fun h=>by rw[h] at h2;exact absurd h2 (by decide)⟩
 ·rw[h1];exact⟨fun h=>absurd h (by decide),fun h=>by rw[h] at h2;exact absurd h2 (by decide)⟩
theorem Gu{ax ay dx dy:Int}{px py:Rat}{D:Nat}(hD:D≤8)(ha:ax.natAbs≤32)(hb:ay.natAbs≤32)(hdx:dx.natAbs≤20)(hdy:dy.natAbs≤20){kk:Nat}(hk:kk+32*D≤276)(hpx:Fr D kk px)(hpy:Fr D kk py):
 sX (c3 (ax:Rat) (c3 (ay:Rat) (c3 0 (c3 ((ax+dx:Int):Rat) (c3 ((ay+dy:Int):Rat) (c3 0 (c3 px (c3 py (c3 0 ())))))))))=some (c3 (Pk dx dy (px-ax) (py-ay)) ()):=by
 have D0:=hpx.1
 have sax:Sm (ax:Rat):=fK ha (by decide)
 have say:Sm (ay:Rat):=fK hb (by decide)
 have sbx:Sm ((ax+dx:Int):Rat):=fK (k:=52) (by omega) (by decide)
 have sby:Sm ((ay+dy:Int):Rat):=fK (k:=52) (by omega) (by decide)
 have sdx:Sm (dx:Rat):=fK hdx (by decide)
 have sdy:Sm (dy:Rat):=fK hdy (by decide)
 have spx:Sm px:=(lI hpx (Nat.le_refl _) hD).sm (by omega) (by decide)
 have spy:Sm py:=(lI hpy (Nat.le_refl _) hD).sm (by omega) (by decide)
 have ebx:((ax+dx:Int):Rat)-(ax:Rat)=(dx:Rat):=by rw[Rat.intCast_add];grind
 have eby:((ay+dy:Int):Rat)-(ay:Rat)=(dy:Rat):=by rw[Rat.intCast_add];grind
 obtain⟨ux,hux⟩:∃ux,ux=px-(ax:Rat):=⟨_,rfl⟩
 obtain⟨uy,huy⟩:∃uy,uy=py-(ay:Rat):=⟨_,rfl⟩
 have fux:Fr D 276 ux:=by rw[hux];exact(hpx.sub (Fr.ofInt D0 ha)).mono (by omega)
 have fuy:Fr D 276 uy:=by rw[huy];exact(hpy.sub (Fr.ofInt D0 hb)).mono (by omega)
 have sux:Sm ux:=(lI fux (Nat.le_refl _) hD).sm (by decide) (by decide)
 have suy:Sm uy:=(lI fuy (Nat.le_refl _) hD).sm (by decide) (by decide)
 have q1:=T1 sbx sby sax say
 rw[ebx,eby] at q1
 have q2:=T1 spx spy sax say
 rw[←hux,←huy] at q2
 have fx1:Fr D 5520 (ux*(dx:Rat)):=(Fr.muli hdx fux)
 have fx2:Fr D 5520 (uy*(dy:Rat)):=(Fr.muli hdy fuy)
 have q3:=N7 sux suy sdx sdy (lI fx1 (Nat.le_refl _) hD) (lI fx2 (Nat.le_refl _) hD) (by decide) (by decide) (by decide)
 have fn1:Fr 1 400 ((dx:Rat)*(dx:Rat)):=(Fr.muli hdx (Fr.mono (Fr.int dx) hdx))
 have fn2:Fr 1 400 ((dy:Rat)*(dy:Rat)):=(Fr.muli hdy (Fr.mono (Fr.int dy) hdy))
 have q4:=N7 sdx sdy sdx sdy (lI fn1 (Nat.le_refl _) (Nat.le_refl _)) (lI fn2 (Nat.le_refl _) (Nat.le_refl _)) (by decide) (by decide) (by decide)
 have fx:=(fx1.add fx2)
 have fn:=(fn1.add fn2)
 have sx:=(lI fx (Nat.le_refl _) hD).sm (by decide) (by decide)
 have sn:=(lI fn (Nat.le_refl _) (Nat.le_refl 1)).sm (by decide) (by decide)
 rw[←hux,←huy]
 unfold sX Pk
 simp only[q1,q2,q3,q4,aY,N6,lP]
 by_cases h1:ux*(dx:Rat)+uy*(dy:Rat)≤0
 ·rw[decide_eq_true (Cu.2 h1),if_pos h1]
  have gx:Bd 76176 64 (ux*ux):=lI (fux.mul fux) (by decide) (Nat.mul_le_mul hD hD)
  have gy:Bd 76176 64 (uy*uy):=lI (fuy.mul fuy) (by decide) (Nat.mul_le_mul hD hD)
  have q5:=N7 sux suy sux suy gx gy (by decide) (by decide) (by decide)
  simp only[cond_true,q5,aY]
 ·rw[decide_eq_false (fun e=>h1 (Cu.1 e)),if_neg h1]
  simp only[cond_false,Tq sx sn,aY]
  by_cases h2:(dx:Rat)*(dx:Rat)+(dy:Rat)*(dy:Rat)≤ux*(dx:Rat)+uy*(dy:Rat)
  ·have h2':0≤lS (ux*(dx:Rat)+uy*(dy:Rat)) ((dx:Rat)*(dx:Rat)+(dy:Rat)*(dy:Rat)):=by
    have:=T0 (p:=ux*(dx:Rat)+uy*(dy:Rat)) (q:=(dx:Rat)*(dx:Rat)+(dy:Rat)*(dy:Rat))
    have hn:¬(ux*(dx:Rat)+uy*(dy:Rat)<(dx:Rat)*(dx:Rat)+(dy:Rat)*(dy:Rat)):=by grind
    have:¬_:=fun e=>hn (this.1 e)
    omega
   rw[decide_eq_true h2',if_pos h2]
   have e1:px-((ax+dx:Int):Rat)=ux-dx:=by rw[hux,Rat.intCast_add];grind
   have e2:py-((ay+dy:Int):Rat)=uy-dy:=by rw[huy,Rat.intCast_add];grind
   have q5:=T1 spx spy sbx sby
   rw[e1,e2] at q5
   have gx0:Fr D 436 (ux-dx):=(fux.sub (Fr.ofInt D0 hdx)).mono (by omega)
   have gy0:Fr D 436 (uy-dy):=(fuy.sub (Fr.ofInt D0 hdy)).mono (by omega)
   have s1:=(lI gx0 (Nat.le_refl _) hD).sm (by decide) (by decide)
   have s2:=(lI gy0 (Nat.le_refl _) hD).sm (by decide) (by decide)
   have q6:=N7 s1 s2 s1 s2 (lI (gx0.mul gx0) (Nat.le_refl _) (Nat.mul_le_mul hD hD)) (lI (gy0.mul gy0) (Nat.le_refl _) (Nat.mul_le_mul hD hD)) (by decide) (by decide) (by decide)
   simp only[cond_true,q5,q6,aY]
  ·have h2':¬0≤lS (ux*(dx:Rat)+uy*(dy:Rat)) ((dx:Rat)*(dx:Rat)+(dy:Rat)*(dy:Rat)):=by
    have:=T0 (p:=ux*(dx:Rat)+uy*(dy:Rat)) (q:=(dx:Rat)*(dx:Rat)+(dy:Rat)*(dy:Rat))
    have:=this.2 (by grind)
    omega
   rw[decide_eq_false h2',if_neg h2]
   simp only[cond_false]
   obtain⟨N,hN⟩:∃N:Nat,((dx*dx+dy*dy:Int))=(N:Int):=⟨(dx*dx+dy*dy).toNat,by
    have a1:0≤dx*dx:=by rw[←Int.natAbs_mul_self];exact Int.natCast_nonneg _
    have a2:0≤dy*dy:=by rw[←Int.natAbs_mul_self];exact Int.natCast_nonneg _
    omega⟩
   have hNr:(dx:Rat)*(dx:Rat)+(dy:Rat)*(dy:Rat)=(N:Rat):=by
    rw[←Rat.intCast_mul,←Rat.intCast_mul,←Rat.intCast_add,hN,Rat.intCast_natCast]
   have hN1:N≤800:=by
    have a1:=Nat.mul_le_mul hdx hdx
    have a2:=Nat.mul_le_mul hdy hdy
    have b1:=Int.natAbs_mul_self (a:=dx)
    have b2:=Int.natAbs_mul_self (a:=dy)
    omega
   obtain⟨x,hx⟩:∃x,x=ux*(dx:Rat)+uy*(dy:Rat):=⟨_,rfl⟩
   rw[hNr] at h2 sn ⊢
   rw[←hx] at h1 h2 sx fx ⊢
   have hN0:N≠0:=by
    intro e
    subst e
    have:((0:Nat):Rat)=0:=rfl
    rw[this] at h2
    grind
   have nz:(N:Rat)≠0:=by
    intro e
    have:((N:Int):Rat)=((0:Int):Rat):=by rw[Rat.intCast_natCast];exact e
    have:=Rat.intCast_inj.1 this
    omega
   obtain⟨t,ht⟩:∃t,t=x/(N:Rat):=⟨_,rfl⟩
   have htn:(N:Rat)*t=x:=by rw[ht,Rat.mul_comm,Rat.div_mul_cancel nz]
   have hDN:D*N≤6400:=Nat.mul_le_mul hD hN1
   have DN0:0<D*N:=Nat.mul_pos D0 (Nat.pos_of_ne_zero hN0)
   have ft:Fr (D*N) 11040 t:=Fr.of_mul (Nat.pos_of_ne_zero hN0) fx htn
   have st:=(lI ft (Nat.le_refl _) hDN).sm (by decide) (by decide)
   have q5:=Ts sx sn nz
   rw[←ht] at q5 ⊢
   have q6:=Kw st sdx sdy
   have f1:Fr (D*N) 220800 (t*(dx:Rat)):=Fr.muli hdx ft
   have f2:Fr (D*N) 220800 (t*(dy:Rat)):=Fr.muli hdy ft
   have s1:=(lI f1 (Nat.le_refl _) hDN).sm (by decide) (by decide)
   have s2:=(lI f2 (Nat.le_refl _) hDN).sm (by decide) (by decide)
   have q7:=Tt sax say s1 s2
   have f3:Fr (D*N) 425600 ((ax:Rat)+t*(dx:Rat)):=((Fr.ofInt DN0 ha).add f1).mono (by omega)
   have f4:Fr (D*N) 425600 ((ay:Rat)+t*(dy:Rat)):=((Fr.ofInt DN0 hb).add f2).mono (by omega)
   have s3:=(lI f3 (Nat.le_refl _) hDN).sm (by decide) (by decide)
   have s4:=(lI f4 (Nat.le_refl _) hDN).sm (by decide) (by decide)
   have q8:=T1 spx spy s3 s4
   have e1:px-((ax:Rat)+t*(dx:Rat))=ux-t*dx:=by rw[hux];grind
   have e2:py-((ay:Rat)+t*(dy:Rat))=uy-t*dy:=by rw[huy];grind
   rw[e1,e2] at q8
   have fc:Fr D 11040 ((dx:Rat)*uy-(dy:Rat)*ux):=((fuy.imul hdx).sub (fux.imul hdy))
   have k1:(N:Rat)*(ux-t*dx)=-((dy:Rat)*((dx:Rat)*uy-(dy:Rat)*ux)):=by grind
   have k2:(N:Rat)*(uy-t*dy)=(dx:Rat)*((dx:Rat)*uy-(dy:Rat)*ux):=by grind
   have g1:Fr (D*N) 220800 (ux-t*dx):=Fr.of_mul (Nat.pos_of_ne_zero hN0) (fc.imul hdy).neg k1
   have g2:Fr (D*N) 220800 (uy-t*dy):=Fr.of_mul (Nat.pos_of_ne_zero hN0) (fc.imul hdx) k2
   have s5:=(lI g1 (Nat.le_refl _) hDN).sm (by decide) (by decide)
   have s6:=(lI g2 (Nat.le_refl _) hDN).sm (by decide) (by decide)
   have q9:=N7 s5 s6 s5 s6 (lI (g1.mul g1) (Nat.le_refl _) (Nat.mul_le_mul hDN hDN)) (lI (g2.mul g2) (Nat.le_refl _) (Nat.mul_le_mul hDN hDN)) (by decide) (by decide) (by decide)
   simp only[q5,q6,q7,q8,q9,aY]
end Go.Eng.Rt
namespace Go.Eng.Tm
def PX(p q:Int×Int):Int:=p.1*q.2-q.1*p.2
def B0:List (Int×Int)→Int
 | a::b::l=>PX a b+B0 (b::l)
 | _=>0
def B2:List (Int×Int)→Int
 | []=>0
 | p::l=>B0 (p::l++[p])
theorem GV:∀(u:List (Int×Int)) (a:Int×Int) (v:List (Int×Int)),B0 (u++a::v)=B0 (u++[a])+B0 (a::v)
 | [],a,v=>by simp[B0]
 | [x],a,v=>by simp[B0]
 | x::y::u,a,v=>by
  have h:=GV (y::u) a v
  simp only[List.cons_append,B0] at h ⊢
  omega
theorem RA(l:List (Int×Int))(a b:Int×Int):B0 (l++[a,b])=B0 (l++[a])+PX a b:=by
 rw[GV l a [b]]
 simp[B0]
theorem WW(u v:List (Int×Int)):B2 (v++u)=B2 (u++v):=by
 cases u with
 | nil=>simp
 | cons p u=>
  cases v with
  | nil=>simp
  | cons q v=>
   show B0 (q::(v++p::u)++[q])=B0 (p::(u++q::v)++[p])
   have e1:q::(v++p::u)++[q]=(q::v)++p::(u++[q]):=by simp
   have e2:p::(u++q::v)++[p]=(p::u)++q::(v++[p]):=by simp
   rw[e1,e2,GV (q::v) p,GV (p::u) q]
   simp only[List.cons_append]
   omega
def tI(l:List (Int×Int))(i:Nat):Int×Int:=l.getD i (0,0)
def uZ(l:List (Int×Int)):Nat→Int
 | 0=>0
 | i+1=>uZ l i+PX (tI l i) (tI l ((i+1)%l.length))
theorem RB{l:List (Int×Int)}:∀{i:Nat},i<l.length→uZ l i=B0 (l.take (i+1))
 | 0,h=>by
  cases l with
  | nil=>simp at h
  | cons a l=>simp[uZ,B0]
 | i+1,h=>by
  have ih:=RB (l:=l) (i:=i) (by omega)
  simp only[uZ]
  rw[ih,Nat.mod_eq_of_lt h]
  have ha:l[i]?=some (tI l i):=by unfold tI;rw[List.getD_eq_getElem?_getD,List.getElem?_eq_getElem (by omega)];rfl
  have hb:l[i+1]?=some (tI l (i+1)):=by unfold tI;rw[List.getD_eq_getElem?_getD,List.getElem?_eq_getElem h];rfl
  rw[List.take_add_one (i:=i+1),hb,List.take_add_one (i:=i),ha]
  simp only[Option.toList_some,List.append_assoc,List.cons_append,List.nil_append]
  rw[RA]
theorem H9(l:List (Int×Int)):uZ l l.length=B2 l:=by
 cases l with
 | nil=>rfl
 | cons p l=>
  have h:=RB (l:=p::l) (i:=l.length) (by simp)
  have e:uZ (p::l) (p::l).length=uZ (p::l) l.length+PX (tI (p::l) l.length) (tI (p::l) ((l.length+1)%(l.length+1))):=rfl
  rw[e,h,Nat.mod_self]
  have ht:(p::l).take (l.length+1)=p::l:=List.take_of_length_le (by simp)
  rw[ht]
  show B0 (p::l)+PX (tI (p::l) l.length) p=B0 (p::l++[p])
  have hlast:p::l=(p::l).dropLast++[tI (p::l) l.length]:=by
   have h1:=List.dropLast_concat_getLast (l:=p::l) (by simp)
   have h2:(p::l).getLast (by simp)=tI (p::l) l.length:=by
    unfold tI
    rw[List.getD_eq_getElem?_getD,List.getLast_eq_getElem]
    simp
   rw[h2] at h1
   exact h1.symm
  generalize tI (p::l) l.length=z at *
  have e2:p::l++[p]=(p::l).dropLast++[z,p]:=by
   conv=>lhs;rw[hlast]
   simp
  rw[e2,RA,←hlast]
end Go.Eng.Tm
namespace Go.Eng.Rt
open Go.Eng Go.Eng.Tm
def wT(p:Int×Int):T:=.agg [.v (.bool (aM (p.1:Rat))),.sl 1 (aU (p.1:Rat)),.sl 1 (bA (p.1:Rat)),.v (.bool (aM (p.2:Rat))),.sl 1 (aU (p.2:Rat)),.sl 1 (bA (p.2:Rat)),.v (.bool false),.sl 1 [],.sl 1 []]
def Tu(p:Int×Int):Prop:=p.1.natAbs<100∧p.2.natAbs<100
theorem zA{n:Int}(h:n.natAbs<2147483648):Sm (n:Rat):=⟨by rw[Rat.num_intCast];exact h,by rw[Rat.den_intCast];decide⟩
theorem ZW{l:List (Int×Int)}(hl:l.length<1000000){i:Nat}(hi:i<l.length){p q:Int×Int}(hp:l[i]?=some p)(hq:l[(i+1)%l.length]?=some q):
 dH (l.map wT,(i:Int),())=some (aM (p.1:Rat),aU (p.1:Rat),bA (p.1:Rat),aM (p.2:Rat),aU (p.2:Rat),bA (p.2:Rat),false,[],[],aM (q.1:Rat),aU (q.1:Rat),bA (q.1:Rat),aM (q.2:Rat),aU (q.2:Rat),bA (q.2:Rat),false,[],[],()):=by
 have wi:wr .i64 ((i:Int)+1)=((i+1:Nat):Int):=by rw[dK (by omega) (by omega)];push_cast;rfl
 have hgp:(l.map wT)[i]?=some (wT p):=by simp[hp]
 have hgq:(l.map wT)[(i+1)%l.length]?=some (wT q):=by simp[hq]
 have hpl:((l.map wT).length:Int)=(l.length:Int):=by rw[List.length_map]
 have hnz:nz (l.length:Int)=some (l.length:Int):=by unfold nz;rw[if_neg (by omega)]
 have hmod:((i+1:Nat):Int).tmod (l.length:Int)=(((i+1)%l.length:Nat):Int):=rfl
 have cs:∀p,T.bool? (T.cell (wT p) 0)=some (aM (p.1:Rat))∧T.sl? 1 (T.cell (wT p) 1)=some (aU (p.1:Rat))∧T.sl? 1 (T.cell (wT p) 2)=some (bA (p.1:Rat)) ∧
  T.bool? (T.cell (wT p) 3)=some (aM (p.2:Rat))∧T.sl? 1 (T.cell (wT p) 4)=some (aU (p.2:Rat))∧T.sl? 1 (T.cell (wT p) 5)=some (bA (p.2:Rat)) ∧
  T.bool? (T.cell (wT p) 6)=some false∧T.sl? 1 (T.cell (wT p) 7)=some []∧T.sl? 1 (T.cell (wT p) 8)=some []:=fun p=>⟨rfl,wH _ _,wH _ _,rfl,wH _ _,wH _ _,rfl,wH _ _,wH _ _⟩
 obtain⟨a0,a1,a2,a3,a4,a5,a6,a7,a8⟩:=cs p
 obtain⟨b0,b1,b2,b3,b4,b5,b6,b7,b8⟩:=cs q
 unfold dH
 simp only[aL,hpl,hnz,aO,wi,oD,hmod,cK,hgp,hgq,aY,a0,a1,a2,a3,a4,a5,a6,a7,a8,b0,b1,b2,b3,b4,b5,b6,b7,b8]
theorem RC{p q:Int×Int}(hp:Tu p)(hq:Tu q):(PX p q).natAbs≤20000:=by
 have h1:(p.1*q.2).natAbs≤10000:=by
  rw[Int.natAbs_mul]
  exact Nat.mul_le_mul (show _≤100 from Nat.le_of_lt hp.1) (show _≤100 from Nat.le_of_lt hq.2)
 have h2:(q.1*p.2).natAbs≤10000:=by
  rw[Int.natAbs_mul]
  exact Nat.mul_le_mul (show _≤100 from Nat.le_of_lt hq.1) (show _≤100 from Nat.le_of_lt hp.2)
 unfold PX
 omega
theorem EX{l:List (Int×Int)}{i:Nat}(h:i<l.length):l[i]?=some (tI l i)∧tI l i∈l:=by
 have e:l[i]?=some (tI l i):=by unfold tI;rw[List.getD_eq_getElem?_getD,List.getElem?_eq_getElem h];rfl
 exact⟨e,List.mem_of_getElem? e⟩
theorem EY{l:List (Int×Int)}(hl:∀p∈l,Tu p):∀{i:Nat},i≤l.length→(uZ l i).natAbs≤20000*i
 | 0,_=>by simp[uZ]
 | i+1,h=>by
  have ih:=EY hl (i:=i) (by omega)
  have hc:=RC (hl _ (EX (l:=l) (i:=i) (by omega)).2) (hl _ (EX (l:=l) (i:=(i+1)%l.length) (Nat.mod_lt _ (by omega))).2)
  simp only[uZ]
  omega
def AS(l:List (Int×Int))(i:Nat):(List T×Unit×Unit×Int×Int×Bool×T×T×Bool×List T×List T×Unit):=
 (l.map wT,(),(),(l.length:Int),(i:Int),false,.v (.slice none 0 0),.v (.slice none 0 0),aM (uZ l i:Rat),aU (uZ l i:Rat),bA (uZ l i:Rat),())
theorem Gv{l:List (Int×Int)}(hl:∀p∈l,Tu p)(hn:l.length≤1000){i:Nat}(hi:i<l.length):jY (AS l i)=some (.inl (AS l (i+1))):=by
 obtain⟨e1,m1⟩:=EX hi
 obtain⟨e2,m2⟩:=EX (l:=l) (i:=(i+1)%l.length) (Nat.mod_lt _ (by omega))
 have hb:=EY hl (i:=i) (by omega)
 have hc:=RC (hl _ m1) (hl _ m2)
 have wi:wr .i64 ((i:Int)+1)=((i+1:Nat):Int):=by rw[dK (by omega) (by omega)];push_cast;rfl
 have hlt:decide ((i:Int)<(l.length:Int))=true:=decide_eq_true (by omega)
 have hed:=ZW (l:=l) (by omega) hi e1 e2
 have hs:uZ l (i+1)=uZ l i+PX (tI l i) (tI l ((i+1)%l.length)):=rfl
 generalize tI l i=p at *
 generalize tI l ((i+1)%l.length)=q at *
 have sp:=hl _ m1
 have sq:=hl _ m2
 have sm:∀{n:Int},n.natAbs<100→Sm (n:Rat):=fun h=>zA (by omega)
 have k1:(p.1*q.2).natAbs≤10000:=by
  rw[Int.natAbs_mul]
  exact Nat.mul_le_mul (show _≤100 from Nat.le_of_lt sp.1) (show _≤100 from Nat.le_of_lt sq.2)
 have k2:(q.1*p.2).natAbs≤10000:=by
  rw[Int.natAbs_mul]
  exact Nat.mul_le_mul (show _≤100 from Nat.le_of_lt sq.1) (show _≤100 from Nat.le_of_lt sp.2)
 have f1:=DO (sm sp.1) (sm sq.2)
 have f2:=DO (sm sq.1) (sm sp.2)
 rw[←Rat.intCast_mul] at f1 f2
 have f3:=N5 (zA (n:=p.1*q.2) (by omega)) (zA (n:=q.1*p.2) (by omega))
 rw[←Rat.intCast_sub] at f3
 have f4:=WR (zA (n:=uZ l i) (by omega)) (zA (n:=PX p q) (by omega))
 rw[←Rat.intCast_add,←hs] at f4
 unfold PX at f4
 unfold jY
 conv=>lhs;unfold AS
 simp only[aF,hlt,cond_true,hed,aY,f1,f2,f3,f4,aO,wi]
 rfl
theorem Kx{l:List (Int×Int)}(hl:∀p∈l,Tu p)(hn:l.length≤1000):jE (l.map wT,())=some (aM (B2 l:Rat),aU (B2 l:Rat),bA (B2 l:Rat),()):=by
 have h:=jT (F:=jY) l.length (AS l) fun i hi=>Gv hl hn hi
 have hpl:((l.map wT).length:Int)=(l.length:Int):=by rw[List.length_map]
 have fold:(l.map wT,(),(),(l.length:Int),(0:Int),false,T.v (Value.slice none 0 0),T.v (Value.slice none 0 0),false,([]:List T),([]:List T),())=AS l 0:=by
  have e:((uZ l 0:Int):Rat)=0:=rfl
  unfold AS
  rw[e,xT,xU,xV];rfl
 have hout:aH jY (AS l l.length)=some (.inl ((),(),false,T.v (Value.slice none 0 0),T.v (Value.slice none 0 0),aM (uZ l l.length:Rat),aU (uZ l l.length:Rat),bA (uZ l l.length:Rat),())):=by
  refine aQ ?_
  have hlt:decide ((l.length:Int)<(l.length:Int))=false:=decide_eq_false (by omega)
  unfold jY AS
  simp only[aF,hlt,cond_false]
 rw[←H9]
 unfold jE
 simp only[aL,hpl,fold,h,hout,aY,aP]
end Go.Eng.Rt
namespace Go.Eng.Rt
open Go.Eng Go.Eng.Tw Go.Eng.Tm
theorem T2{a b c d e f:Rat}(ha:Sm a)(hb:Sm b)(hc:Sm c)(hd:Sm d)(he:Sm e)(hf:Sm f):gC (c3 a (c3 b (c3 c (c3 d (c3 e (c3 f ()))))))=some (c3 (a-d) (c3 (b-e) (c3 (c-f) ()))):=by
 unfold gC lZ
 simp only[N5 ha hd,N5 hb he,N5 hc hf,aY,aP]
theorem Pq(q:Rat):q-0=q:=by grind
theorem Wz(q:Rat):0*q=0:=Rat.zero_mul q
section
variable {ax ay dx dy:Int} {px py pz:Rat} {D:Nat} (hD:D≤8) (ha:ax.natAbs≤32) (hb:ay.natAbs≤32) (hdx:dx.natAbs≤20) (hdy:dy.natAbs≤20) (hpx:Fr D 32 px) (hpy:Fr D 32 py) (hpz:Fr 2 32 pz)
include hD ha hb hdx hdy hpx hpy hpz
theorem JK:bI (c3 (ax:Rat) (c3 (ay:Rat) (c3 0 (c3 ((ax+dx:Int):Rat) (c3 ((ay+dy:Int):Rat) (c3 0 (c3 px (c3 py (c3 pz ())))))))))=some (kF ((dx:Rat)*(py-ay)-(dy:Rat)*(px-ax)),()) ∧
 dJ (c3 (ax:Rat) (c3 (ay:Rat) (c3 0 (c3 ((ax+dx:Int):Rat) (c3 ((ay+dy:Int):Rat) (c3 0 (c3 px (c3 py (c3 pz ())))))))))=some (kF ((dx:Rat)*(py-ay)-(dy:Rat)*(px-ax)),()):=by
 have D0:=hpx.1
 have sax:Sm (ax:Rat):=fK ha (by decide)
 have say:Sm (ay:Rat):=fK hb (by decide)
 have sbx:Sm ((ax+dx:Int):Rat):=fK (k:=52) (by omega) (by decide)
 have sby:Sm ((ay+dy:Int):Rat):=fK (k:=52) (by omega) (by decide)
 have sdx:Sm (dx:Rat):=fK hdx (by decide)
 have sdy:Sm (dy:Rat):=fK hdy (by decide)
 have spx:Sm px:=(lI hpx (Nat.le_refl _) hD).sm (by decide) (by decide)
 have spy:Sm py:=(lI hpy (Nat.le_refl _) hD).sm (by decide) (by decide)
 have spz:Sm pz:=(lI hpz (Nat.le_refl _) (Nat.le_refl 2)).sm (by decide) (by decide)
 have ebx:((ax+dx:Int):Rat)-(ax:Rat)=(dx:Rat):=by rw[Rat.intCast_add];grind
 have eby:((ay+dy:Int):Rat)-(ay:Rat)=(dy:Rat):=by rw[Rat.intCast_add];grind
 obtain⟨ux,hux⟩:∃ux,ux=px-(ax:Rat):=⟨_,rfl⟩
 obtain⟨uy,huy⟩:∃uy,uy=py-(ay:Rat):=⟨_,rfl⟩
 have fux:Fr D 288 ux:=by rw[hux];exact(hpx.sub (Fr.ofInt D0 ha)).mono (by omega)
 have fuy:Fr D 288 uy:=by rw[huy];exact(hpy.sub (Fr.ofInt D0 hb)).mono (by omega)
 have sux:Sm ux:=(lI fux (Nat.le_refl _) hD).sm (by decide) (by decide)
 have suy:Sm uy:=(lI fuy (Nat.le_refl _) hD).sm (by decide) (by decide)
 have f1:Fr D 5760 ((dx:Rat)*uy):=fuy.imul hdx
 have f2:Fr D 5760 ((dy:Rat)*ux):=fux.imul hdy
 have s1:=(lI f1 (Nat.le_refl _) hD).sm (by decide) (by decide)
 have s2:=(lI f2 (Nat.le_refl _) hD).sm (by decide) (by decide)
 have sc:=(lI (f1.sub f2) (Nat.le_refl _) hD).sm (by decide) (by decide)
 have f3:Fr 2 640 ((dx:Rat)*pz):=hpz.imul hdx
 have f4:Fr 2 640 ((dy:Rat)*pz):=hpz.imul hdy
 have s3:=(lI f3 (Nat.le_refl _) (Nat.le_refl 2)).sm (by decide) (by decide)
 have s4:=(lI f4 (Nat.le_refl _) (Nat.le_refl 2)).sm (by decide) (by decide)
 rw[←hux,←huy]
 constructor
 ·have q1:=T2 sbx sby DR sax say DR
  have q2:=T2 spx spy spz sax say DR
  rw[ebx,eby,Pq] at q1
  rw[←hux,←huy,Pq] at q2
  have m1:=DO DR suy
  have m2:=DO DR sux
  rw[Wz] at m1 m2
  unfold bI mR
  simp only[q1,q2,aY,DO sdx suy,DO sdy sux,DO sdx spz,DO sdy spz,m1,m2,N5 s1 s2,N5 s4 DR,N5 DR s3,aP,BX sc.fit]
 ·have q1:=Kv sbx sby DR sax say DR
  have q2:=Kv spx spy spz sax say DR
  rw[ebx,eby,Pq] at q1
  rw[←hux,←huy,Pq] at q2
  have m1:=tC DR suy
  have m2:=tC DR sux
  rw[Wz] at m1 m2
  unfold dJ DK
  simp only[q1,q2,aY,tC sdx suy,tC sdy sux,tC sdx spz,tC sdy spz,m1,m2,H8 s1 s2,H8 s4 DR,H8 DR s3,aP,N6]
end
theorem Ps{a b:Rat}(ha:Sm a)(hb:Sm b):Sm (BZ a b):=by unfold BZ;split <;> assumption
theorem Pt{a b:Rat}(ha:Sm a)(hb:Sm b):Sm (BY a b):=by unfold BY;split <;> assumption
theorem RD{a b x:Rat}(ha:Sm a)(hb:Sm b)(hx:Sm x):jW (c3 a (c3 b (c3 x ())))=some (decide (BZ a b≤x∧x≤BY a b),()):=by
 unfold jW
 simp only[Wy ha hb,Wt ha hb,GS (Ps ha hb) hx,GS hx (Pt ha hb),aY,lP]
 by_cases h1:BZ a b≤x
 ·rw[decide_eq_true (qJ.2 h1)]
  by_cases h2:x≤BY a b
  ·rw[decide_eq_true (qJ.2 h2),decide_eq_true ⟨h1,h2⟩];rfl
  ·rw[decide_eq_false (show ¬lS x (BY a b)≤0 from fun e=>h2 (qJ.1 e)),decide_eq_false (show ¬(BZ a b≤x∧x≤BY a b) from fun e=>h2 e.2)];rfl
 ·rw[decide_eq_false (show ¬lS (BZ a b) x≤0 from fun e=>h1 (qJ.1 e)),decide_eq_false (show ¬(BZ a b≤x∧x≤BY a b) from fun e=>h1 e.1)];rfl
theorem Cw{a x:Rat}{d b:Rat}(hb:b=a+d):(BZ a b≤x∧x≤BY a b)↔Bt d (x-a):=by
 unfold BZ BY Bt
 simp only[T0,Pm]
 by_cases h1:b<a
 ·rw[if_pos h1,if_neg (show ¬a<b by grind)]
  constructor
  ·intro h;right;grind
  ·rintro (h | h) <;> grind
 ·rw[if_neg h1]
  by_cases h2:a<b
  ·rw[if_pos h2]
   constructor
   ·intro h;left;grind
   ·rintro (h | h) <;> grind
  ·rw[if_neg h2]
   constructor
   ·intro h;left;grind
   ·rintro (h | h) <;> grind
def Tv(dx dy ux uy:Rat):Prop:=dx*uy-dy*ux=0∧Bt dx ux∧Bt dy uy
open Classical in
noncomputable def Hl(dx dy ux uy:Rat):Bool:=decide (Tv dx dy ux uy)
open Classical in
theorem Ky{dx dy ux uy:Rat}(h:Tv dx dy ux uy):Hl dx dy ux uy=true:=by unfold Hl;exact decide_eq_true h
open Classical in
theorem WX{dx dy ux uy:Rat}(h:¬Tv dx dy ux uy):Hl dx dy ux uy=false:=by unfold Hl;exact decide_eq_false h
section
variable {ax ay dx dy:Int} {px py pz:Rat} {D:Nat} (hD:D≤8) (ha:ax.natAbs≤32) (hb:ay.natAbs≤32) (hdx:dx.natAbs≤20) (hdy:dy.natAbs≤20) (hpx:Fr D 32 px) (hpy:Fr D 32 py) (hpz:Fr 2 32 pz)
include hD ha hb hdx hdy hpx hpy hpz
theorem Yw:jX (c3 (ax:Rat) (c3 (ay:Rat) (c3 0 (c3 ((ax+dx:Int):Rat) (c3 ((ay+dy:Int):Rat) (c3 0 (c3 px (c3 py (c3 pz ())))))))))=some (Hl dx dy (px-ax) (py-ay),()):=by
 have sax:Sm (ax:Rat):=fK ha (by decide)
 have say:Sm (ay:Rat):=fK hb (by decide)
 have sbx:Sm ((ax+dx:Int):Rat):=fK (k:=52) (by omega) (by decide)
 have sby:Sm ((ay+dy:Int):Rat):=fK (k:=52) (by omega) (by decide)
 have spx:Sm px:=(lI hpx (Nat.le_refl _) hD).sm (by decide) (by decide)
 have spy:Sm py:=(lI hpy (Nat.le_refl _) hD).sm (by decide) (by decide)
 unfold jX
 simp only[(JK hD ha hb hdx hdy hpx hpy hpz).1,aY,aR,RD sax sbx spx,RD say sby spy]
 have b1:=Cw (a:=(ax:Rat)) (x:=px) (d:=(dx:Rat)) (b:=((ax+dx:Int):Rat)) (Rat.intCast_add ..)
 have b2:=Cw (a:=(ay:Rat)) (x:=py) (d:=(dy:Rat)) (b:=((ay+dy:Int):Rat)) (Rat.intCast_add ..)
 have d1:∀{a b x:Rat} {d:Rat},((BZ a b≤x∧x≤BY a b)↔Bt d (x-a))→Bt d (x-a)→decide (BZ a b≤x∧x≤BY a b)=true:=fun h h'=>decide_eq_true (h.2 h')
 have d2:∀{a b x:Rat} {d:Rat},((BZ a b≤x∧x≤BY a b)↔Bt d (x-a))→¬Bt d (x-a)→decide (BZ a b≤x∧x≤BY a b)=false:=fun h h'=>decide_eq_false fun e=>h' (h.1 e)
 by_cases h0:(dx:Rat)*(py-ay)-(dy:Rat)*(px-ax)=0
 ·rw[decide_eq_true (GU.2 h0)]
  by_cases h1:Bt (dx:Rat) (px-ax)
  ·rw[d1 b1 h1]
   by_cases h2:Bt (dy:Rat) (py-ay)
   ·rw[d1 b2 h2,Ky ⟨h0,h1,h2⟩];rfl
   ·rw[d2 b2 h2,WX fun e=>h2 e.2.2];rfl
  ·rw[d2 b1 h1,WX fun e=>h1 e.2.1];rfl
 ·rw[decide_eq_false (fun e=>h0 (GU.1 e)),WX fun e=>h0 e.1];rfl
end
theorem Yx{ax ay dx dy:Int}{px py pz:Rat}{D:Nat}(hD:D≤8)(ha:ax.natAbs≤32)(hb:ay.natAbs≤32)(hdx:dx.natAbs≤20)(hdy:dy.natAbs≤20){kk:Nat}(hk:kk+32*D≤276)(hpx:Fr D kk px)(hpy:Fr D kk py):
 fU (c3 (ax:Rat) (c3 (ay:Rat) (c3 0 (c3 ((ax+dx:Int):Rat) (c3 ((ay+dy:Int):Rat) (c3 0 (c3 px (c3 py (c3 pz ())))))))))=some (Hl dx dy (px-ax) (py-ay),()):=by
 have hs:=Gu hD ha hb hdx hdy hk hpx hpy
 have hf:∀a b c:Rat,qE (c3 a (c3 b (c3 c ())))=some (c3 a (c3 b (c3 0 ()))):=fun a b c=>by
  unfold qE
  show some (aM a,aU a,bA a,aM b,aU b,bA b,false,[],[],())=some (aM a,aU a,bA a,aM b,aU b,bA b,aM 0,aU 0,bA 0,())
  rw[DP,DQ];rfl
 unfold fU
 simp only[hf,hs,aY,N6,aR]
 by_cases h:Tv (dx:Rat) dy (px-ax) (py-ay)
 ·rw[Ky h,decide_eq_true (GU.2 ((Kt ..).2 h))]
 ·rw[WX h,decide_eq_false fun e=>h ((Kt ..).1 (GU.1 e))]
end Go.Eng.Rt
namespace Go.Eng.Rt
open Go.Eng Go.Eng.Tw Go.Eng.Tm
def Bx(l:List (Int×Int)):Prop:=l.length≤1000∧(∀p∈l,p.1.natAbs≤32∧p.2.natAbs≤32)∧∀p∈l,∀q∈l,(q.1-p.1).natAbs≤20∧(q.2-p.2).natAbs≤20
def Pp(D k:Nat)(px py pz:Rat):Prop:=D≤8∧Fr D k px∧Fr D k py∧Fr 2 k pz
def Pr(D:Nat)(px py pz:Rat):Prop:=Pp D 32 px py pz∧∃k,k+32*D≤276∧Fr D k px∧Fr D k py
abbrev lit{β:Type}(p q:Int×Int)(r:β):Bool×List T×List T×Bool×List T×List T×Bool×List T×List T×Bool×List T×List T×Bool×List T×List T×Bool×List T×List T×β:=(aM (p.1:Rat),aU (p.1:Rat),bA (p.1:Rat),aM (p.2:Rat),aU (p.2:Rat),bA (p.2:Rat),false,[],[],aM (q.1:Rat),aU (q.1:Rat),bA (q.1:Rat),aM (q.2:Rat),aU (q.2:Rat),bA (q.2:Rat),false,[],[],r)
theorem Kz{β:Type}(p q:Int×Int)(r:β):c3 (p.1:Rat) (c3 (p.2:Rat) (c3 0 (c3 ((p.1+(q.1-p.1):Int):Rat) (c3 ((p.2+(q.2-p.2):Int):Rat) (c3 0 r)))))=lit p q r:=by
 have e1:p.1+(q.1-p.1)=q.1:=by omega
 have e2:p.2+(q.2-p.2)=q.2:=by omega
 rw[z3,e1,e2,z3]
theorem cells(p:Int×Int):T.bool? (T.cell (wT p) 0)=some (aM (p.1:Rat))∧T.sl? 1 (T.cell (wT p) 1)=some (aU (p.1:Rat))∧T.sl? 1 (T.cell (wT p) 2)=some (bA (p.1:Rat)) ∧
 T.bool? (T.cell (wT p) 3)=some (aM (p.2:Rat))∧T.sl? 1 (T.cell (wT p) 4)=some (aU (p.2:Rat))∧T.sl? 1 (T.cell (wT p) 5)=some (bA (p.2:Rat)) ∧
 T.bool? (T.cell (wT p) 6)=some false∧T.sl? 1 (T.cell (wT p) 7)=some []∧T.sl? 1 (T.cell (wT p) 8)=some []:=⟨rfl,wH _ _,wH _ _,rfl,wH _ _,wH _ _,rfl,wH _ _,wH _ _⟩
def sE(p q:Int×Int)(px py:Rat):Int:=kF (((q.1-p.1:Int):Rat)*(py-p.2)-((q.2-p.2:Int):Rat)*(px-p.1))
theorem T3{p q:Int×Int}(h1:p.1.natAbs≤32)(h2:p.2.natAbs≤32)(h3:(q.1-p.1).natAbs≤20)(h4:(q.2-p.2).natAbs≤20){D:Nat}{px py pz:Rat}(hp:Pp D 32 px py pz):
 jX (lit p q (c3 px (c3 py (c3 pz ()))))=some (Hl ((q.1-p.1:Int):Rat) ((q.2-p.2:Int):Rat) (px-p.1) (py-p.2),())∧bI (lit p q (c3 px (c3 py (c3 pz ()))))=some (sE p q px py,())∧dJ (lit p q (c3 px (c3 py (c3 pz ()))))=some (sE p q px py,()):=by
 obtain⟨hD,f1,f2,f3⟩:=hp
 have a1:=Yw hD h1 h2 h3 h4 f1 f2 f3
 have a2:=JK hD h1 h2 h3 h4 f1 f2 f3
 rw[Kz] at a1 a2
 exact⟨a1,a2.1,a2.2⟩
theorem Tx{p q:Int×Int}(h1:p.1.natAbs≤32)(h2:p.2.natAbs≤32)(h3:(q.1-p.1).natAbs≤20)(h4:(q.2-p.2).natAbs≤20){D:Nat}{px py pz:Rat}(hp:Pr D px py pz):
 fU (lit p q (c3 px (c3 py (c3 pz ()))))=some (Hl ((q.1-p.1:Int):Rat) ((q.2-p.2:Int):Rat) (px-p.1) (py-p.2),()):=by
 obtain⟨⟨hD,_⟩,k,hk,f1,f2⟩:=hp
 have a1:=Yx (pz:=pz) hD h1 h2 h3 h4 hk f1 f2
 rw[Kz] at a1
 exact a1
theorem Pr.up{D:Nat}{px py pz:Rat}(h:Pr D px py pz):Pp D 32 px py pz:=h.1
theorem Pr.of{D:Nat}{px py pz:Rat}(h:Pp D 20 px py pz):Pr D px py pz:=⟨⟨h.1,h.2.1.mono (by decide),h.2.2.1.mono (by decide),h.2.2.2.mono (by decide)⟩,20,by have:=h.1;omega,h.2.1,h.2.2.1⟩
def PS(l:List (Int×Int))(px py pz:Rat)(i:Nat)(n:Int):List T×Unit×Int×Int×Int×Bool×List T×List T×Bool×List T×List T×Bool×List T×List T×Unit:=(l.map wT,(),n,(l.length:Int),(i:Int),c3 px (c3 py (c3 pz ())))
def Xa(f g:Bool)(s n:Int):Int:=bif f then (bif g then n else bif decide (0<s) then wr .i64 (n+1) else n) else (bif g then (bif decide (s<0) then wr .i64 (n-1) else n) else n)
section
variable {l:List (Int×Int)} (hB:Bx l) {D:Nat} {px py pz:Rat} {i:Nat} (hi:i<l.length) (n:Int)
include hB hi
theorem Rn(hp:Pp D 32 px py pz):fQ (PS l px py pz i n)=(bif Hl (((tI l ((i+1)%l.length)).1-(tI l i).1:Int):Rat) (((tI l ((i+1)%l.length)).2-(tI l i).2:Int):Rat) (px-(tI l i).1) (py-(tI l i).2) then some (.inr (.inl (0,false,()))) else some (.inl (PS l px py pz (i+1) (Xa (decide (lS ((tI l i).2:Rat) py≤0)) (decide (lS ((tI l ((i+1)%l.length)).2:Rat) py≤0)) (sE (tI l i) (tI l ((i+1)%l.length)) px py) n)))):=by
 obtain⟨b1,b2,b3⟩:=hB
 have hj:(i+1)%l.length<l.length:=Nat.mod_lt _ (by omega)
 obtain⟨g1,m1⟩:=EX hi
 obtain⟨g2,m2⟩:=EX hj
 obtain⟨p,hpe⟩:∃p,p=tI l i:=⟨_,rfl⟩
 obtain⟨q,hqe⟩:∃q,q=tI l ((i+1)%l.length):=⟨_,rfl⟩
 rw[←hpe] at g1 m1
 rw[←hqe] at g2 m2
 rw[←hpe,←hqe]
 have c1:=b2 p m1
 have c2:=b2 q m2
 have c5:=b3 p m1 q m2
 have sy:Sm py:=(lI hp.2.2.1 (Nat.le_refl _) hp.1).sm (by decide) (by decide)
 have wi:wr .i64 ((i:Int)+1)=((i+1:Nat):Int):=by rw[dK (by omega) (by omega)];push_cast;rfl
 have hlt:decide ((i:Int)<(l.length:Int))=true:=decide_eq_true (by omega)
 obtain⟨e1,e2,_⟩:=T3 (q:=q) c1.1 c1.2 c5.1 c5.2 hp
 have he:=ZW (by omega) hi g1 g2
 have k1:=GS (fK c1.2 (by decide)) sy
 have k2:=GS (fK c2.2 (by decide)) sy
 unfold fQ PS Xa
 simp -implicitDefEqProofs only[aF,lP,aO,bK,hlt,cond_true,he,aY,e1,k1,k2,e2]
 generalize Hl ((q.1-p.1:Int):Rat) ((q.2-p.2:Int):Rat) (px-p.1) (py-p.2)=b
 generalize sE p q px py=s
 generalize decide (lS (p.2:Rat) py≤0)=f
 generalize decide (lS (q.2:Rat) py≤0)=g
 generalize decide (0<s)=h1
 generalize decide (s<0)=h2
 cases b with
 | true=>simp -implicitDefEqProofs only[cond_true,aY,aP]
 | false=>cases f <;> cases g <;> cases h1 <;> cases h2 <;> simp -implicitDefEqProofs only[cond_true,cond_false,Bool.not_true,Bool.not_false,aY,aP,sB,wi]
end
end Go.Eng.Rt
namespace Go.Eng.Tg
open Go.Eng.Tw
abbrev Q:=Rat×Rat
def cr(a b p:Q):Rat:=(b.1-a.1)*(p.2-a.2)-(b.2-a.2)*(p.1-a.1)
def On(a b p:Q):Prop:=cr a b p=0∧Bt (b.1-a.1) (p.1-a.1)∧Bt (b.2-a.2) (p.2-a.2)
def kJ(a b c d:Q):Prop:=On a b c∨On a b d∨On c d a∨On c d b∨(cr a b c*cr a b d<0∧cr c d a*cr c d b<0)
def pI(a b:Q)(t:Rat):Q:=(a.1+t*(b.1-a.1),a.2+t*(b.2-a.2))
theorem B3(a b x y:Q)(t:Rat):cr a b (pI x y t)=(1-t)*cr a b x+t*cr a b y:=by
 unfold cr pI;grind
theorem K3(a b p:Q):cr b a p=-cr a b p:=by unfold cr;grind
theorem Ro{d t:Rat}(h0:0≤t)(h1:t≤1):Bt d (t*d):=by
 rcases Rat.le_total (a:=0) (b:=d) with hd | hd
 ·left
  have a1:=Rat.mul_nonneg h0 hd
  have a2:=Rat.mul_nonneg (show (0:Rat)≤1-t by grind) hd
  exact⟨a1,by grind⟩
 ·right
  have a1:=Rat.mul_nonneg h0 (show (0:Rat)≤-d by grind)
  have a2:=Rat.mul_nonneg (show (0:Rat)≤1-t by grind) (show (0:Rat)≤-d by grind)
  exact⟨by grind,by grind⟩
theorem qK{a b:Q}{t:Rat}(h0:0≤t)(h1:t≤1):On a b (pI a b t):=by
 refine⟨by unfold cr pI;grind,?_,?_⟩
 ·have:=Ro (d:=b.1-a.1) h0 h1
  have e:(pI a b t).1-a.1=t*(b.1-a.1):=by unfold pI;grind
  rw[e];exact this
 ·have:=Ro (d:=b.2-a.2) h0 h1
  have e:(pI a b t).2-a.2=t*(b.2-a.2):=by unfold pI;grind
  rw[e];exact this
theorem sM{a b:Q}(h1:a.1=b.1)(h2:a.2=b.2):a=b:=Prod.ext h1 h2
theorem zB{n d:Rat}(hd:d≠0):∃t,t*d=n:=⟨n/d,Rat.div_mul_cancel hd⟩
theorem vX{a b:Rat}(h:a*b=0)(ha:a≠0):b=0:=by
 rcases Rat.mul_eq_zero.1 h with h | h
 ·exact absurd h ha
 ·exact h
theorem La{c d p:Q}(hne:c≠d)(h:cr c d p=0):∃t,p=pI c d t:=by
 unfold cr at h
 by_cases h1:d.1-c.1=0
 ·have h2:d.2-c.2≠0:=fun e=>hne (sM (by grind) (by grind))
  obtain⟨t,ht⟩:=zB (n:=p.2-c.2) h2
  refine⟨t,sM ?_ ?_⟩
  ·show p.1=c.1+t*(d.1-c.1)
   rw[h1] at h ⊢
   have:(d.2-c.2)*(p.1-c.1)=0:=by grind
   have:=vX this h2
   grind
  ·show p.2=c.2+t*(d.2-c.2)
   grind
 ·obtain⟨t,ht⟩:=zB (n:=p.1-c.1) h1
  refine⟨t,sM ?_ ?_⟩
  ·show p.1=c.1+t*(d.1-c.1)
   grind
  ·show p.2=c.2+t*(d.2-c.2)
   have:(d.1-c.1)*(p.2-c.2-t*(d.2-c.2))=0:=by grind
   have:=vX this h1
   grind
theorem Lb{d t:Rat}(hd:d≠0)(h:Bt d (t*d)):0≤t∧t≤1:=by
 rcases h with⟨h1,h2⟩ | ⟨h1,h2⟩
 ·have hd0:0<d:=by grind
  refine⟨mW hd0 (by grind),?_⟩
  have:=mW (n:=d) (u:=1-t) hd0 (by grind)
  grind
 ·have hd0:0 < -d:=by grind
  refine⟨mW hd0 (by grind),?_⟩
  have:=mW (n:=-d) (u:=1-t) hd0 (by grind)
  grind
theorem N8{a b z:Q}(hne:a≠b)(h:On a b z):∃t,0≤t∧t≤1∧z=pI a b t:=by
 obtain⟨h0,h1,h2⟩:=h
 obtain⟨t,rfl⟩:=La hne h0
 have e1:(pI a b t).1-a.1=t*(b.1-a.1):=by unfold pI;grind
 have e2:(pI a b t).2-a.2=t*(b.2-a.2):=by unfold pI;grind
 rw[e1] at h1
 rw[e2] at h2
 by_cases hx:b.1-a.1=0
 ·have hy:b.2-a.2≠0:=fun e=>hne (sM (by grind) (by grind))
  obtain⟨g1,g2⟩:=Lb hy h2
  exact⟨t,g1,g2,rfl⟩
 ·obtain⟨g1,g2⟩:=Lb hx h1
  exact⟨t,g1,g2,rfl⟩
theorem K4{a b p:Q}(h:On a b p):On b a p:=by
 obtain⟨h0,h1,h2⟩:=h
 refine⟨by rw[K3,h0];grind,?_,?_⟩
 ·unfold Bt at *;grind
 ·unfold Bt at *;grind
theorem WY{a b c d:Q}(h:kJ a b c d):kJ b a c d:=by
 rcases h with h | h | h | h | h
 ·exact .inl (K4 h)
 ·exact .inr (.inl (K4 h))
 ·exact .inr (.inr (.inr (.inl h)))
 ·exact .inr (.inr (.inl h))
 ·refine .inr (.inr (.inr (.inr ⟨?_,?_⟩)))
  ·rw[K3 a b c,K3 a b d];grind
  ·grind
theorem zC{a b c d:Q}(h:kJ a b c d):kJ c d a b:=by
 rcases h with h | h | h | h | h
 ·exact .inr (.inr (.inl h))
 ·exact .inr (.inr (.inr (.inl h)))
 ·exact .inl h
 ·exact .inr (.inl h)
 ·exact .inr (.inr (.inr (.inr ⟨h.2,h.1⟩)))
theorem neg_mul{a b:Rat}(ha:0<a)(hb:b<0):a*b<0:=by
 have:=Rat.mul_pos ha (show (0:Rat) < -b by grind)
 grind
theorem Rp{A B t:Rat}(h0:0≤t)(h1:t≤1)(h:(1-t)*A+t*B=0):A*B<0∨(A=0∧(t=0∨B=0))∨(B=0∧(t=1∨A=0)):=by
 have u0:(0:Rat)≤1-t:=by grind
 by_cases ha:A=0
 ·right;left
  subst ha
  have:t*B=0:=by grind
  exact⟨rfl,Rat.mul_eq_zero.1 this⟩
 by_cases hb:B=0
 ·right;right
  subst hb
  have:(1-t)*A=0:=by grind
  rcases Rat.mul_eq_zero.1 this with h | h
  ·exact⟨rfl,.inl (by grind)⟩
  ·exact⟨rfl,.inr h⟩
 left
 rcases Rat.le_total (a:=0) (b:=A) with pa | pa
 ·have pa':0<A:=by grind
  rcases Rat.le_total (a:=0) (b:=B) with pb | pb
  ·exfalso
   have m1:=Rat.mul_nonneg u0 pa
   have m2:=Rat.mul_nonneg h0 pb
   have z1:(1-t)*A=0:=by grind
   have z2:t*B=0:=by grind
   rcases Rat.mul_eq_zero.1 z1 with z | z
   ·rcases Rat.mul_eq_zero.1 z2 with y | y
    ·grind
    ·exact hb y
   ·exact ha z
  ·exact neg_mul pa' (by grind)
 ·have pa':0 < -A:=by grind
  rcases Rat.le_total (a:=0) (b:=B) with pb | pb
  ·have:=neg_mul (show 0<B by grind) (show A<0 by grind)
   grind
  ·exfalso
   have m1:=Rat.mul_nonneg u0 (show 0≤-A by grind)
   have m2:=Rat.mul_nonneg h0 (show 0≤-B by grind)
   have z1:(1-t)*A=0:=by grind
   have z2:t*B=0:=by grind
   rcases Rat.mul_eq_zero.1 z1 with z | z
   ·rcases Rat.mul_eq_zero.1 z2 with y | y
    ·grind
    ·exact hb y
   ·exact ha z
theorem WZ(a b:Q):pI a b 0=a:=by unfold pI;exact sM (by show a.1+0*_=a.1;grind) (by show a.2+0*_=a.2;grind)
theorem Gw(a b:Q):pI a b 1=b:=by unfold pI;exact sM (by show a.1+1*(b.1-a.1)=b.1;grind) (by show a.2+1*(b.2-a.2)=b.2;grind)
theorem Cx(c d:Q)(x y t:Rat):pI (pI c d x) (pI c d y) t=pI c d (x+t*(y-x)):=by
 unfold pI
 exact sM (by dsimp only;grind) (by dsimp only;grind)
theorem zD{a b c d z:Q}(hab:a≠b)(hcd:c≠d)(ha:cr c d a=0)(hb:cr c d b=0)(h1:On a b z)(h2:On c d z):kJ a b c d:=by
 obtain⟨x,rfl⟩:=La hcd ha
 obtain⟨y,rfl⟩:=La hcd hb
 obtain⟨t,t0,t1,ht⟩:=N8 hab h1
 obtain⟨s,s0,s1,hs⟩:=N8 hcd h2
 rw[Cx] at ht
 have e:s=x+t*(y-x):=by
  rw[hs] at ht
  have e1:c.1+s*(d.1-c.1)=c.1+(x+t*(y-x))*(d.1-c.1):=congrArg Prod.fst ht
  have e2:c.2+s*(d.2-c.2)=c.2+(x+t*(y-x))*(d.2-c.2):=congrArg Prod.snd ht
  by_cases hx:d.1-c.1=0
  ·have hy:d.2-c.2≠0:=fun e=>hcd (sM (by grind) (by grind))
   have:=vX (show (d.2-c.2)*(s-(x+t*(y-x)))=0 by grind) hy
   grind
  ·have:=vX (show (d.1-c.1)*(s-(x+t*(y-x)))=0 by grind) hx
   grind
 by_cases hx:0≤x∧x≤1
 ·exact .inr (.inr (.inl (qK hx.1 hx.2)))
 by_cases hy:0≤y∧y≤1
 ·exact .inr (.inr (.inr (.inl (qK hy.1 hy.2))))
 have key:∃r,0≤r∧r≤1∧x+r*(y-x)=0:=by
  have hne:y-x≠0:=by
   intro h
   have:s=x:=by rw[e,h];grind
   exact hx ⟨by grind,by grind⟩
  obtain⟨r,hr⟩:=zB (n:=-x) hne
  refine⟨r,?_,?_,by grind⟩
  ·rcases Rat.le_total (a:=0) (b:=y-x) with p | p
   ·have:0<y-x:=by grind
    refine mW this ?_
    have q:=Rat.mul_nonneg t0 p
    have q2:=Rat.mul_nonneg (show (0:Rat)≤1-t by grind) p
    have:¬(0≤x∧x≤1):=hx
    have:x<0:=by
     rcases Rat.le_total (a:=0) (b:=x) with w | w
     ·exfalso;apply hx;exact⟨w,by grind⟩
     ·by_cases w0:x=0
      ·exfalso;apply hx;subst w0;exact⟨Rat.le_refl,by grind⟩
      ·grind
    grind
   ·have p':0<x-y:=by grind
    have q:=Rat.mul_nonneg t0 (show 0≤x-y by grind)
    have q2:=Rat.mul_nonneg (show (0:Rat)≤1-t by grind) (show 0≤x-y by grind)
    have:1<x:=by
     rcases Rat.le_total (a:=x) (b:=1) with w | w
     ·exfalso;apply hx;exact⟨by grind,w⟩
     ·by_cases w0:x=1
      ·exfalso;apply hx;subst w0;exact⟨by grind,Rat.le_refl⟩
      ·grind
    exact mW p' (by grind)
  ·rcases Rat.le_total (a:=0) (b:=y-x) with p | p
   ·have p':0<y-x:=by grind
    have q:=Rat.mul_nonneg t0 p
    have q2:=Rat.mul_nonneg (show (0:Rat)≤1-t by grind) p
    have:0≤y:=by
     rcases Rat.le_total (a:=0) (b:=y) with w | w
     ·exact w
     ·exfalso;apply hy;exact⟨by grind,by grind⟩
    have:=mW (n:=y-x) (u:=1-r) p' (by grind)
    grind
   ·have p':0<x-y:=by grind
    have q:=Rat.mul_nonneg t0 (show 0≤x-y by grind)
    have q2:=Rat.mul_nonneg (show (0:Rat)≤1-t by grind) (show 0≤x-y by grind)
    have:y≤0:=by
     rcases Rat.le_total (a:=y) (b:=0) with w | w
     ·exact w
     ·exfalso;apply hy;exact⟨w,by grind⟩
    have:=mW (n:=x-y) (u:=1-r) p' (by grind)
    grind
 obtain⟨r,r0,r1,hr⟩:=key
 refine .inl ?_
 have:=qK (a:=pI c d x) (b:=pI c d y) r0 r1
 rw[Cx,hr,WZ] at this
 exact this
theorem W0{a b c d z:Q}(hab:a≠b)(hcd:c≠d)(h1:On a b z)(h2:On c d z):kJ a b c d:=by
 obtain⟨t,t0,t1,ht⟩:=N8 hab h1
 obtain⟨s,s0,s1,hs⟩:=N8 hcd h2
 have e1:(1-t)*cr c d a+t*cr c d b=0:=by rw[←B3,←ht];exact h2.1
 have e2:(1-s)*cr a b c+s*cr a b d=0:=by rw[←B3,←hs];exact h1.1
 rcases Rp t0 t1 e1 with g | ⟨ga,g⟩ | ⟨gb,g⟩
 ·rcases Rp s0 s1 e2 with k | ⟨ka,k⟩ | ⟨kb,k⟩
  ·exact .inr (.inr (.inr (.inr ⟨k,g⟩)))
  ·rcases k with k | k
   ·subst k;rw[WZ] at hs;subst hs;exact .inl h1
   ·exact zC (zD hcd hab ka k h2 h1)
  ·rcases k with k | k
   ·subst k;rw[Gw] at hs;subst hs;exact .inr (.inl h1)
   ·exact zC (zD hcd hab k kb h2 h1)
 ·rcases g with g | g
  ·subst g;rw[WZ] at ht;subst ht;exact .inr (.inr (.inl h2))
  ·exact zD hab hcd ga g h1 h2
 ·rcases g with g | g
  ·subst g;rw[Gw] at ht;subst ht;exact .inr (.inr (.inr (.inl h2)))
  ·exact zD hab hcd g gb h1 h2
end Go.Eng.Tg
namespace Go.Eng.Tg
open Go.Eng.Tw
abbrev Ed:=Q×Q
structure Gd (E:List Ed):Prop where
 cvx:∀e∈E,∀f∈E,0≤cr e.1 e.2 f.1
 clo:∀e∈E,∃f∈E,f.1=e.2
 nz:∀e∈E,e.1≠e.2
 up1:∀e∈E,∀f∈E,∀y,e.1.2≤y→y<e.2.2→f.1.2≤y→y<f.2.2→e=f
 dn1:∀e∈E,∀f∈E,∀y,e.2.2≤y→y<e.1.2→f.2.2≤y→y<f.1.2→e=f
 nd:E.Nodup
 top:∃e∈E,∃f∈E,e.1.2<e.2.2∧f.2.2<f.1.2∧(∀g∈E,g.1.2≤e.2.2)∧f.1.2=e.2.2∧((e.2=f.1∧0<cr e.1 e.2 f.2)∨((e.2,f.1)∈E∧f.1.1<e.2.1))
 bot:∃e∈E,∃f∈E,e.2.2<e.1.2∧f.1.2<f.2.2∧(∀g∈E,e.2.2≤g.1.2)∧f.1.2=e.2.2∧((e.2=f.1∧0<cr e.1 e.2 f.2)∨((e.2,f.1)∈E∧e.2.1<f.1.1))
 str:∀y,(∃g∈E,g.1.2≤y)→(∃g∈E,y<g.1.2)→(∃e∈E,e.1.2≤y∧y<e.2.2)∧∃e∈E,e.2.2≤y∧y<e.1.2
def W(E:List Ed)(z:Q):Prop:=∀e∈E,0≤cr e.1 e.2 z
def H(E:List Ed)(z:Q):Prop:=∀e∈E,0<cr e.1 e.2 z
def EZ(E:List Ed)(z:Q):Prop:=∃e∈E,On e.1 e.2 z
theorem H.w{E:List Ed}{z:Q}(h:H E z):W E z:=fun e he=>Rat.le_of_lt (h e he)
theorem H.off{E:List Ed}{z:Q}(h:H E z):¬EZ E z:=fun⟨e,he,ho⟩=>by
 have:=h e he
 rw[ho.1] at this
 exact absurd this (by decide)
variable {E:List Ed}
theorem Gd.cvx2(h:Gd E){e f:Ed}(he:e∈E)(hf:f∈E):0≤cr e.1 e.2 f.2:=by
 obtain⟨g,hg,e2⟩:=h.clo f hf
 rw[←e2];exact h.cvx e he g hg
theorem Lc{e:Ed}{y:Rat}(h1:e.1.2≤y)(h2:y<e.2.2):∃t,0≤t∧t<1∧(pI e.1 e.2 t).2=y:=by
 obtain⟨t,ht⟩:=zB (n:=y-e.1.2) (d:=e.2.2-e.1.2) (by grind)
 refine⟨t,mW (n:=e.2.2-e.1.2) (by grind) (by grind),?_,by unfold pI;grind⟩
 rcases Rat.le_total (a:=1) (b:=t) with h | h
 ·exfalso
  have:=Rat.mul_nonneg (show 0≤t-1 by grind) (show 0≤e.2.2-e.1.2 by grind)
  grind
 ·by_cases e1:t=1
  ·subst e1;grind
  ·grind
theorem Ty{e:Ed}{y:Rat}(h1:e.2.2≤y)(h2:y<e.1.2):∃t,0<t∧t≤1∧(pI e.1 e.2 t).2=y:=by
 obtain⟨t,t0,t1,ht⟩:=Lc (e:=(e.2,e.1)) h1 h2
 refine⟨1-t,by grind,by grind,?_⟩
 unfold pI at *
 dsimp only at *
 grind
theorem ZX(a b:Q){z u:Q}(h:u.2=z.2)(hu:cr a b u=0):cr a b z=(b.2-a.2)*(u.1-z.1):=by unfold cr at *;grind
theorem N9(a b:Q)(t:Rat):cr a b (pI a b t)=0:=by unfold cr pI;grind
theorem Ld{a b x y:Q}{t:Rat}(h0:0≤t)(h1:t≤1)(hx:0≤cr a b x)(hy:0≤cr a b y):0≤cr a b (pI x y t):=by
 rw[B3]
 have m1:=Rat.mul_nonneg (show 0≤1-t by grind) hx
 have m2:=Rat.mul_nonneg h0 hy
 grind
structure Lv (E:List Ed) (z:Q) (e f:Ed) (u d:Q):Prop where
 he:e∈E
 hf:f∈E
 u1:e.1.2≤z.2
 u2:z.2<e.2.2
 d1:f.2.2≤z.2
 d2:z.2<f.1.2
 hu:∃t,0≤t∧t<1∧u=pI e.1 e.2 t
 hd:∃t,0<t∧t≤1∧d=pI f.1 f.2 t
 yu:u.2=z.2
 yd:d.2=z.2
theorem Rq{e f:Ed}{z:Q}(he:e∈E)(hf:f∈E)(u1:e.1.2≤z.2)(u2:z.2<e.2.2)(d1:f.2.2≤z.2)(d2:z.2<f.1.2):∃u d,Lv E z e f u d:=by
 obtain⟨t,t0,t1,ht⟩:=Lc u1 u2
 obtain⟨s,s0,s1,hs⟩:=Ty d1 d2
 exact⟨_,_,he,hf,u1,u2,d1,d2,⟨t,t0,t1,rfl⟩,⟨s,s0,s1,rfl⟩,ht,hs⟩
section
variable {z u d:Q} {e f:Ed}
theorem Lv.cu(h:Lv E z e f u d):cr e.1 e.2 z=(e.2.2-e.1.2)*(u.1-z.1):=by
 obtain⟨t,_,_,rfl⟩:=h.hu
 exact ZX _ _ h.yu (N9 _ _ _)
theorem Lv.cd(h:Lv E z e f u d):cr f.1 f.2 z=(f.1.2-f.2.2)*(z.1-d.1):=by
 obtain⟨t,_,_,rfl⟩:=h.hd
 have:=ZX f.1 f.2 h.yd (N9 _ _ _)
 grind
theorem Lv.onu(h:Lv E z e f u d):On e.1 e.2 u:=by
 obtain⟨t,t0,t1,rfl⟩:=h.hu
 exact qK t0 (Rat.le_of_lt t1)
theorem Lv.ond(h:Lv E z e f u d):On f.1 f.2 d:=by
 obtain⟨t,t0,t1,rfl⟩:=h.hd
 exact qK (Rat.le_of_lt t0) t1
theorem Lv.wu(h:Lv E z e f u d)(hG:Gd E):W E u:=fun g hg=>by
 obtain⟨t,t0,t1,rfl⟩:=h.hu
 exact Ld t0 (Rat.le_of_lt t1) (hG.cvx g hg e h.he) (hG.cvx2 hg h.he)
theorem Lv.wd(h:Lv E z e f u d)(hG:Gd E):W E d:=fun g hg=>by
 obtain⟨t,t0,t1,rfl⟩:=h.hd
 exact Ld (Rat.le_of_lt t0) t1 (hG.cvx g hg f h.hf) (hG.cvx2 hg h.hf)
theorem Lv.pu(h:Lv E z e f u d):(0<cr e.1 e.2 z↔z.1<u.1)∧(cr e.1 e.2 z<0↔u.1<z.1):=by
 have a:=h.cu
 have b:0<e.2.2-e.1.2:=by have:=h.u1;have:=h.u2;grind
 rw[a]
 constructor
 ·constructor
  ·intro hp
   rcases Rat.le_total (a:=u.1) (b:=z.1) with g | g
   ·exfalso
    have:=Rat.mul_nonneg (Rat.le_of_lt b) (show 0≤z.1-u.1 by grind)
    grind
   ·by_cases e1:z.1=u.1
    ·rw[e1] at hp;exfalso;grind
    ·grind
  ·intro hp;exact Rat.mul_pos b (by grind)
 ·constructor
  ·intro hp
   rcases Rat.le_total (a:=u.1) (b:=z.1) with g | g
   ·by_cases e1:z.1=u.1
    ·rw[e1] at hp;exfalso;grind
    ·grind
   ·exfalso
    have:=Rat.mul_nonneg (Rat.le_of_lt b) (show 0≤u.1-z.1 by grind)
    grind
  ·intro hp;exact neg_mul b (by grind)
theorem Lv.pd(h:Lv E z e f u d):(0<cr f.1 f.2 z↔d.1<z.1)∧(cr f.1 f.2 z<0↔z.1<d.1):=by
 have a:=h.cd
 have b:0<f.1.2-f.2.2:=by have:=h.d1;have:=h.d2;grind
 rw[a]
 constructor
 ·constructor
  ·intro hp
   rcases Rat.le_total (a:=z.1) (b:=d.1) with g | g
   ·exfalso
    have:=Rat.mul_nonneg (Rat.le_of_lt b) (show 0≤d.1-z.1 by grind)
    grind
   ·by_cases e1:z.1=d.1
    ·rw[e1] at hp;exfalso;grind
    ·grind
  ·intro hp;exact Rat.mul_pos b (by grind)
 ·constructor
  ·intro hp
   rcases Rat.le_total (a:=z.1) (b:=d.1) with g | g
   ·by_cases e1:z.1=d.1
    ·rw[e1] at hp;exfalso;grind
    ·grind
   ·exfalso
    have:=Rat.mul_nonneg (Rat.le_of_lt b) (show 0≤z.1-d.1 by grind)
    grind
  ·intro hp;exact neg_mul b (by grind)
theorem Lv.zu(h:Lv E z e f u d)(h0:cr e.1 e.2 z=0):z=u:=by
 have a:=h.cu
 have b:e.2.2-e.1.2≠0:=by have:=h.u1;have:=h.u2;grind
 rw[h0] at a
 have:=vX a.symm b
 exact sM (by grind) h.yu.symm
theorem Lv.zd(h:Lv E z e f u d)(h0:cr f.1 f.2 z=0):z=d:=by
 have a:=h.cd
 have b:f.1.2-f.2.2≠0:=by have:=h.d1;have:=h.d2;grind
 rw[h0] at a
 have:=vX a.symm b
 exact sM (by grind) h.yd.symm
theorem Lv.ord(h:Lv E z e f u d)(hG:Gd E):d.1≤u.1:=by
 have h1:=h.wd hG e h.he
 obtain⟨t,t0,t1,ht⟩:=h.hu
 have h2:=ZX e.1 e.2 (z:=d) (u:=u) (by rw[h.yu,h.yd]) (by rw[ht];exact N9 _ _ _)
 have b:0<e.2.2-e.1.2:=by have:=h.u1;have:=h.u2;grind
 rw[h2] at h1
 have:=mW b h1
 grind
theorem Lv.inH(h:Lv E z e f u d)(hG:Gd E)(h1:d.1<z.1)(h2:z.1<u.1)(hoff:¬EZ E z):H E z:=by
 intro g hg
 have wu:=h.wu hG g hg
 have wd:=h.wd hG g hg
 obtain⟨t,ht⟩:=zB (n:=z.1-d.1) (d:=u.1-d.1) (by grind)
 have hz:z=pI d u t:=by
  unfold pI
  refine sM (by dsimp only;grind) ?_
  dsimp only
  rw[h.yd,h.yu];grind
 have pos:0<u.1-d.1:=by grind
 have t0:0<t:=by
  rcases Rat.le_total (a:=t) (b:=0) with g | g
  ·have:=Rat.mul_nonneg (show 0≤-t by grind) (Rat.le_of_lt pos);grind
  ·by_cases e1:t=0
   ·subst e1;grind
   ·grind
 have t1:0<1-t:=by
  rcases Rat.le_total (a:=1) (b:=t) with g | g
  ·have:=Rat.mul_nonneg (show 0≤t-1 by grind) (Rat.le_of_lt pos);grind
  ·by_cases e1:t=1
   ·subst e1;grind
   ·grind
 have hc:=B3 g.1 g.2 d u t
 rw[←hz] at hc
 have m1:=Rat.mul_nonneg (Rat.le_of_lt t1) wd
 have m2:=Rat.mul_nonneg (Rat.le_of_lt t0) wu
 by_cases h0:cr g.1 g.2 z=0
 ·exfalso
  have z1:(1-t)*cr g.1 g.2 d=0:=by grind
  have z2:t*cr g.1 g.2 u=0:=by grind
  have y1:=vX z1 (by grind)
  have y2:=vX z2 (by grind)
  have lv:g.2.2-g.1.2=0:=by
   have:(u.1-d.1)*(g.2.2-g.1.2)=0:=by
    have a1:=h.yu
    have a2:=h.yd
    unfold cr at y1 y2
    grind
   exact vX this (by grind)
  have nx:g.2.1-g.1.1≠0:=fun e0=>hG.nz g hg (sM (by grind) (by grind))
  have zy:z.2=g.1.2:=by
   have:(g.2.1-g.1.1)*(z.2-g.1.2)=0:=by unfold cr at h0;rw[lv] at h0;grind
   have:=vX this nx
   grind
  have all:∀w∈E,0≤(g.2.1-g.1.1)*(w.1.2-z.2):=fun w hw=>by
   have:=hG.cvx g hg w hw
   unfold cr at this
   rw[lv,Rat.zero_mul] at this
   rw[zy]
   grind
  rcases Rat.le_total (a:=0) (b:=g.2.1-g.1.1) with s | s
  ·have s':0<g.2.1-g.1.1:=by grind
   have low:∀w∈E,z.2≤w.1.2:=fun w hw=>by have:=mW s' (all w hw);grind
   obtain⟨e',he',f',hf',b1,b2,b3,b4,b5⟩:=hG.bot
   have q1:=b3 g hg
   have q2:z.2≤e'.2.2:=by rw[←b4];exact low f' hf'
   have ze:e'.2.2=z.2:=by grind
   have ef:=hG.dn1 e' he' f h.hf z.2 (by grind) (by grind) h.d1 h.d2
   have fe:=hG.up1 f' hf' e h.he z.2 (by grind) (by grind) h.u1 h.u2
   subst ef;subst fe
   have dd:d=e'.2:=by
    obtain⟨s1,s2,s3,s4⟩:=h.hd
    have a:(pI e'.1 e'.2 s1).2=e'.2.2:=by rw[←s4,h.yd,ze]
    have:(e'.1.2-e'.2.2)*(1-s1)=0:=by unfold pI at a;dsimp only at a;grind
    have:=vX this (by grind)
    have:s1=1:=by grind
    rw[s4,this,Gw]
   have uu:u=f'.1:=by
    obtain⟨s1,s2,s3,s4⟩:=h.hu
    have a:(pI f'.1 f'.2 s1).2=f'.1.2:=by rw[←s4,h.yu,b4,ze]
    have:(f'.2.2-f'.1.2)*s1=0:=by unfold pI at a;dsimp only at a;grind
    have:=vX this (by grind)
    rw[s4,this,WZ]
   rcases b5 with⟨b5,_⟩ | ⟨b5,_⟩
   ·rw[dd,uu,b5] at pos;grind
   ·refine hoff ⟨_,b5,?_⟩
    dsimp only
    rw[←dd,←uu,hz]
    exact qK (by grind) (by grind)
  ·have s':0<g.1.1-g.2.1:=by grind
   obtain⟨w,hw,e2⟩:=hG.clo e h.he
   have:=all w hw
   rw[e2] at this
   have q:=mW (n:=g.1.1-g.2.1) (u:=z.2-e.2.2) s' (by grind)
   have:=h.u2
   grind
 ·grind
end
theorem Gd.core(hG:Gd E){z:Q}(hw:W E z)(hoff:¬EZ E z):∃e f u d,Lv E z e f u d∧d.1<z.1∧z.1<u.1:=by
 by_cases h1:∃g∈E,g.1.2≤z.2
 ·by_cases h2:∃g∈E,z.2<g.1.2
  ·obtain⟨⟨e,he,u1,u2⟩,f,hf,d1,d2⟩:=hG.str z.2 h1 h2
   obtain⟨u,d,hl⟩:=Rq he hf u1 u2 d1 d2
   refine⟨e,f,u,d,hl,hl.pd.1.1 ?_,hl.pu.1.1 ?_⟩
   ·have:=hw f hf
    by_cases h0:cr f.1 f.2 z=0
    ·exfalso
     have:=hl.zd h0
     exact hoff ⟨f,hf,by rw[this];exact hl.ond⟩
    ·grind
   ·have:=hw e he
    by_cases h0:cr e.1 e.2 z=0
    ·exfalso
     have:=hl.zu h0
     exact hoff ⟨e,he,by rw[this];exact hl.onu⟩
    ·grind
  ·-- above all
   exfalso
   have hall:∀g∈E,g.1.2≤z.2:=fun g hg=>by
    rcases Rat.le_total (a:=g.1.2) (b:=z.2) with q | q
    ·exact q
    ·by_cases e1:g.1.2=z.2
     ·grind
     ·exact absurd ⟨g,hg,by grind⟩ h2
   obtain⟨e,he,f,hf,a1,a2,a3,a4,a5⟩:=hG.top
   have we:=hw e he
   have wf:=hw f hf
   have zt:e.2.2≤z.2:=by rw[←a4];exact hall f hf
   rcases a5 with⟨a5,a6⟩ | ⟨a5,a6⟩
   ·-- one top
    rw[←a5] at wf a2
    obtain⟨f1,f2⟩:=f
    dsimp only at *
    subst a5
    have id:(e.2.2-e.1.2)*cr e.2 f2 z+(e.2.2-f2.2)*cr e.1 e.2 z=-((z.2-e.2.2)*cr e.1 e.2 f2):=by unfold cr;grind
    have m1:=Rat.mul_nonneg (show 0≤e.2.2-e.1.2 by grind) wf
    have m2:=Rat.mul_nonneg (show 0≤e.2.2-f2.2 by grind) we
    have m3:=Rat.mul_nonneg (show 0≤z.2-e.2.2 by grind) (Rat.le_of_lt a6)
    have z1:(e.2.2-e.1.2)*cr e.2 f2 z=0:=by grind
    have z2:(e.2.2-f2.2)*cr e.1 e.2 z=0:=by grind
    have z3:(z.2-e.2.2)*cr e.1 e.2 f2=0:=by grind
    have y2:=vX z2 (by grind)
    have zy:z.2=e.2.2:=by
     rcases Rat.mul_eq_zero.1 z3 with q | q
     ·grind
     ·rw[q] at a6;exact absurd a6 (by decide)
    have zx:z.1=e.2.1:=by
     have:(e.2.2-e.1.2)*(e.2.1-z.1)=0:=by unfold cr at y2;grind
     have:=vX this (by grind)
     grind
    refine hoff ⟨e,he,?_⟩
    rw[sM zx zy]
    have:=qK (a:=e.1) (b:=e.2) (t:=1) (by decide) (by decide)
    rw[Gw] at this
    exact this
   ·-- a level top
    have wg:=hw _ a5
    dsimp only at wg
    have zy:z.2=e.2.2:=by
     have:0≤(e.2.1-f.1.1)*(e.2.2-z.2):=by unfold cr at wg;rw[a4] at wg;grind
     have:=mW (n:=e.2.1-f.1.1) (by grind) this
     grind
    have x1:z.1≤e.2.1:=by
     have:0≤(e.2.2-e.1.2)*(e.2.1-z.1):=by have w:=we;unfold cr at w;rw[zy] at w;grind
     have:=mW (n:=e.2.2-e.1.2) (by grind) this
     grind
    have x2:f.1.1≤z.1:=by
     have:0≤(f.1.2-f.2.2)*(z.1-f.1.1):=by have w:=wf;unfold cr at w;rw[zy,←a4,Rat.sub_self,Rat.mul_zero] at w;grind
     have:=mW (n:=f.1.2-f.2.2) (by grind) this
     grind
    refine hoff ⟨_,a5,?_⟩
    dsimp only
    refine⟨by unfold cr;grind,.inr ⟨by grind,by grind⟩,?_⟩
    have e1:f.1.2-e.2.2=0:=by grind
    have e2:z.2-e.2.2=0:=by grind
    rw[e1,e2]
    exact .inl ⟨Rat.le_refl,Rat.le_refl⟩
 ·-- below all
  exfalso
  have hall:∀g∈E,z.2<g.1.2:=fun g hg=>by
   rcases Rat.le_total (a:=g.1.2) (b:=z.2) with q | q
   ·exact absurd ⟨g,hg,q⟩ h1
   ·by_cases e1:g.1.2=z.2
    ·exact absurd ⟨g,hg,by grind⟩ h1
    ·grind
  obtain⟨e,he,f,hf,a1,a2,a3,a4,a5⟩:=hG.bot
  have we:=hw e he
  have wf:=hw f hf
  have zt:z.2<e.2.2:=by rw[←a4];exact hall f hf
  rcases a5 with⟨a5,a6⟩ | ⟨a5,a6⟩
  ·rw[←a5] at wf a2
   obtain⟨f1,f2⟩:=f
   dsimp only at *
   subst a5
   have id:(e.1.2-e.2.2)*cr e.2 f2 z+(f2.2-e.2.2)*cr e.1 e.2 z=-((e.2.2-z.2)*cr e.1 e.2 f2):=by unfold cr;grind
   have m1:=Rat.mul_nonneg (show 0≤e.1.2-e.2.2 by grind) wf
   have m2:=Rat.mul_nonneg (show 0≤f2.2-e.2.2 by grind) we
   have m3:=Rat.mul_pos (show 0<e.2.2-z.2 by grind) a6
   grind
  ·have wg:=hw _ a5
   dsimp only at wg
   have:(f.1.1-e.2.1)*(z.2-e.2.2)<0:=neg_mul (by grind) (by grind)
   unfold cr at wg
   rw[a4] at wg
   grind
theorem Gd.w_cases(hG:Gd E){z:Q}(hw:W E z):EZ E z∨H E z:=by
 by_cases ho:EZ E z
 ·exact .inl ho
 ·obtain⟨e,f,u,d,hl,h1,h2⟩:=hG.core hw ho
  exact .inr (hl.inH hG h1 h2 ho)
end Go.Eng.Tg
namespace Go.Eng.Tg
open Go.Eng.Tw
variable {E F:List Ed}
open Classical in
noncomputable def we(p:Q)(e:Ed):Int:=
 if e.1.2≤p.2∧p.2<e.2.2∧0<cr e.1 e.2 p then 1 else if e.2.2≤p.2∧p.2<e.1.2∧cr e.1 e.2 p<0 then -1 else 0
noncomputable def wd(E:List Ed)(p:Q):Int:=(E.map (we p)).sum
theorem GW(p:Q):∀{l:List Ed},(∀e∈l,we p e=0)→(l.map (we p)).sum=0
 | [],_=>rfl
 | a::l,h=>by
  rw[List.map_cons,List.sum_cons,h a (List.mem_cons_self ..),GW p fun e he=>h e (List.mem_cons_of_mem _ he)];rfl
theorem T4(p:Q):∀{l:List Ed} {a:Ed},l.Nodup→a∈l→(∀e∈l,e≠a→we p e=0)→(l.map (we p)).sum=we p a
 | [],a,_,ha,_=>by cases ha
 | b::l,a,hn,ha,h=>by
  rw[List.nodup_cons] at hn
  rw[List.map_cons,List.sum_cons]
  by_cases hb:b=a
  ·subst hb
   rw[GW p fun e he=>h e (List.mem_cons_of_mem _ he) fun e0=>hn.1 (e0▸he)];omega
  ·rcases List.mem_cons.1 ha with ha | ha
   ·exact absurd ha.symm hb
   ·rw[h b (List.mem_cons_self ..) hb,T4 p hn.2 ha fun e he=>h e (List.mem_cons_of_mem _ he)];omega
theorem Cy(p:Q):∀{l:List Ed} {a b:Ed},l.Nodup→a∈l→b∈l→a≠b→(∀e∈l,e≠a→e≠b→we p e=0)→(l.map (we p)).sum=we p a+we p b
 | [],a,_,_,ha,_,_,_=>by cases ha
 | c::l,a,b,hn,ha,hb,hab,h=>by
  rw[List.nodup_cons] at hn
  rw[List.map_cons,List.sum_cons]
  by_cases hc:c=a
  ·subst hc
   rcases List.mem_cons.1 hb with hb | hb
   ·exact absurd hb.symm hab
   ·rw[T4 p hn.2 hb fun e he e1=>h e (List.mem_cons_of_mem _ he) (fun e0=>hn.1 (e0▸he)) e1]
  ·by_cases hc2:c=b
   ·subst hc2
    rcases List.mem_cons.1 ha with ha | ha
    ·exact absurd ha hab
    ·rw[T4 p hn.2 ha fun e he e1=>h e (List.mem_cons_of_mem _ he) e1 (fun e0=>hn.1 (e0▸he))];omega
   ·rcases List.mem_cons.1 ha with ha | ha
    ·exact absurd ha.symm hc
    ·rcases List.mem_cons.1 hb with hb | hb
     ·exact absurd hb.symm hc2
     ·rw[h c (List.mem_cons_self ..) hc hc2,Cy p hn.2 ha hb hab fun e he=>h e (List.mem_cons_of_mem _ he)];omega
theorem IA{a b:Rat}(h:¬a≤b):b<a:=by grind
theorem RE{a b:Rat}(h:¬a<b):b≤a:=by grind
theorem Gd.wind(hG:Gd E){p:Q}(ho:¬EZ E p):(H E p→wd E p=1)∧(¬H E p→wd E p=0):=by
 by_cases h1:∃g∈E,g.1.2≤p.2
 ·by_cases h2:∃g∈E,p.2<g.1.2
  ·obtain⟨⟨e,he,u1,u2⟩,f,hf,d1,d2⟩:=hG.str p.2 h1 h2
   obtain⟨u,d,hl⟩:=Rq he hf u1 u2 d1 d2
   have hne:e≠f:=fun e0=>by subst e0;grind
   have hsum:wd E p=we p e+we p f:=Cy p hG.nd he hf hne fun g hg g1 g2=>by
    unfold we
    rw[if_neg fun⟨a,b,_⟩=>g1 (hG.up1 g hg e he p.2 a b u1 u2),if_neg fun⟨a,b,_⟩=>g2 (hG.dn1 g hg f hf p.2 a b d1 d2)]
   have n1:¬p.2<f.2.2:=by grind
   have n2:¬p.2<e.1.2:=by grind
   have hwe:we p e=if 0<cr e.1 e.2 p then 1 else 0:=by
    unfold we
    by_cases c:0<cr e.1 e.2 p
    ·rw[if_pos ⟨u1,u2,c⟩,if_pos c]
    ·rw[if_neg fun h=>c h.2.2,if_neg fun h=>n2 h.2.1,if_neg c]
   have hwf:we p f=if cr f.1 f.2 p<0 then -1 else 0:=by
    unfold we
    rw[if_neg fun h=>n1 h.2.1]
    by_cases c:cr f.1 f.2 p<0
    ·rw[if_pos ⟨d1,d2,c⟩,if_pos c]
    ·rw[if_neg fun h=>c h.2.2,if_neg c]
   rw[hsum,hwe,hwf]
   constructor
   ·intro hH
    rw[if_pos (hH e he),if_neg (by have:=hH f hf;grind)];rfl
   ·intro hH
    have c1:cr e.1 e.2 p≠0:=fun h0=>ho ⟨e,he,by rw[hl.zu h0];exact hl.onu⟩
    have c2:cr f.1 f.2 p≠0:=fun h0=>ho ⟨f,hf,by rw[hl.zd h0];exact hl.ond⟩
    by_cases c:0<cr e.1 e.2 p
    ·rw[if_pos c]
     by_cases c':cr f.1 f.2 p<0
     ·rw[if_pos c'];rfl
     ·exfalso
      exact hH (hl.inH hG (hl.pd.1.1 (by grind)) (hl.pu.1.1 c) ho)
    ·rw[if_neg c]
     by_cases c':cr f.1 f.2 p<0
     ·exfalso
      have a1:=hl.pu.2.1 (by grind)
      have a2:=hl.pd.2.1 c'
      have a3:=hl.ord hG
      grind
     ·rw[if_neg c'];rfl
  ·have hall:∀g∈E,g.1.2≤p.2:=fun g hg=>RE fun c=>h2 ⟨g,hg,c⟩
   have h0:wd E p=0:=GW p fun e he=>by
    obtain⟨f,hf,e2⟩:=hG.clo e he
    have a1:=hall e he
    have a2:=hall f hf
    rw[e2] at a2
    unfold we
    rw[if_neg (by grind),if_neg (by grind)]
   refine⟨fun hH=>?_,fun _=>h0⟩
   obtain⟨e,f,u,d,hl,_,_⟩:=hG.core hH.w ho
   have:=hall f hl.hf
   have:=hl.d2
   grind
 ·have hall:∀g∈E,p.2<g.1.2:=fun g hg=>IA fun c=>h1 ⟨g,hg,c⟩
  have h0:wd E p=0:=GW p fun e he=>by
   obtain⟨f,hf,e2⟩:=hG.clo e he
   have a1:=hall e he
   have a2:=hall f hf
   rw[e2] at a2
   unfold we
   rw[if_neg (by grind),if_neg (by grind)]
  refine⟨fun hH=>?_,fun _=>h0⟩
  obtain⟨e,f,u,d,hl,_,_⟩:=hG.core hH.w ho
  have:=hall e hl.he
  have:=hl.u1
  grind
theorem Cz{α:Type}(m:α→Rat):∀(l:List α),l≠[]→∃a∈l,∀b∈l,m a≤m b
 | [],h=>absurd rfl h
 | [a],_=>⟨a,List.mem_cons_self ..,fun b hb=>by rw[List.mem_singleton.1 hb];exact Rat.le_refl⟩
 | a::b::l,_=>by
  obtain⟨c,hc,h⟩:=Cz m (b::l) (by simp)
  rcases Rat.le_total (a:=m a) (b:=m c) with q | q
  ·exact⟨a,List.mem_cons_self ..,fun d hd=>by
    rcases List.mem_cons.1 hd with hd | hd
    ·rw[hd];exact Rat.le_refl
    ·exact Rat.le_trans q (h d hd)⟩
  ·exact⟨c,List.mem_cons_of_mem _ hc,fun d hd=>by
    rcases List.mem_cons.1 hd with hd | hd
    ·rw[hd];exact q
    ·exact h d hd⟩
theorem Gd.exit(hG:Gd E){x y:Q}(hx:H E x)(hy:¬H E y):∃t e,0<t∧t≤1∧e∈E∧On e.1 e.2 (pI x y t):=by
 have hne:∃e∈E,cr e.1 e.2 y≤0:=by
  apply Classical.byContradiction
  intro hc
  exact hy fun e he=>IA fun c=>hc ⟨e,he,c⟩
 open Classical in
 obtain⟨e0,he0,hmin⟩:=Cz (fun e:Ed=>cr e.1 e.2 x/(cr e.1 e.2 x-cr e.1 e.2 y)) (E.filter fun e=>decide (cr e.1 e.2 y≤0)) (by
  intro hc
  obtain⟨e,he,h⟩:=hne
  have:e∈E.filter fun e=>decide (cr e.1 e.2 y≤0):=List.mem_filter.2 ⟨he,decide_eq_true h⟩
  rw[hc] at this
  cases this)
 obtain⟨he0',hd⟩:=List.mem_filter.1 he0
 have h0:=of_decide_eq_true hd
 have p0:=hx e0 he0'
 obtain⟨t,ht⟩:∃t,t=cr e0.1 e0.2 x/(cr e0.1 e0.2 x-cr e0.1 e0.2 y):=⟨_,rfl⟩
 have htm:t*(cr e0.1 e0.2 x-cr e0.1 e0.2 y)=cr e0.1 e0.2 x:=by rw[ht];exact Rat.div_mul_cancel (by grind)
 have t0:0<t:=by
  rcases Rat.le_total (a:=t) (b:=0) with q | q
  ·exfalso
   have:=Rat.mul_nonneg (show 0≤-t by grind) (show 0≤cr e0.1 e0.2 x-cr e0.1 e0.2 y by grind)
   grind
  ·by_cases e1:t=0
   ·rw[e1] at htm;grind
   ·grind
 have t1:t≤1:=by
  rcases Rat.le_total (a:=t) (b:=1) with q | q
  ·exact q
  ·have:=Rat.mul_nonneg (show 0≤t-1 by grind) (show 0≤cr e0.1 e0.2 x-cr e0.1 e0.2 y by grind)
   by_cases e1:t=1
   ·rw[e1];exact Rat.le_refl
   ·exfalso
    have:=Rat.mul_pos (show 0<t-1 by grind) (show 0<cr e0.1 e0.2 x-cr e0.1 e0.2 y by grind)
    grind
 have hW:W E (pI x y t):=fun e he=>by
  rw[B3]
  have px:=hx e he
  by_cases c:cr e.1 e.2 y≤0
  ·have:=hmin e (List.mem_filter.2 ⟨he,decide_eq_true c⟩)
   rw[←ht] at this
   have hm:cr e.1 e.2 x/(cr e.1 e.2 x-cr e.1 e.2 y)*(cr e.1 e.2 x-cr e.1 e.2 y)=cr e.1 e.2 x:=Rat.div_mul_cancel (by grind)
   have:=Rat.mul_nonneg (show 0≤cr e.1 e.2 x/(cr e.1 e.2 x-cr e.1 e.2 y)-t by grind) (show 0≤cr e.1 e.2 x-cr e.1 e.2 y by grind)
   grind
  ·have m1:=Rat.mul_nonneg (show 0≤1-t by grind) (Rat.le_of_lt px)
   have m2:=Rat.mul_nonneg (Rat.le_of_lt t0) (show 0≤cr e.1 e.2 y by grind)
   grind
 rcases hG.w_cases hW with⟨e,he,ho⟩ | hH
 ·exact⟨t,e,t0,t1,he,ho⟩
 ·exfalso
  have:=hH e0 he0'
  rw[B3] at this
  grind
def Apart(E F:List Ed):Prop:=∀e∈E,∀f∈F,¬kJ e.1 e.2 f.1 f.2
theorem Apart.symm(h:Apart E F):Apart F E:=fun f hf e he hm=>h e he f hf (zC hm)
theorem Yy(hF:Gd F)(hA:Apart E F)(hE:Gd E){e:Ed}(he:e∈E)(h:H F e.1):H F e.2:=by
 apply Classical.byContradiction
 intro hc
 obtain⟨t,f,t0,t1,hf,ho⟩:=hF.exit h hc
 exact hA e he f hf (W0 (hE.nz e he) (hF.nz f hf) (qK (Rat.le_of_lt t0) t1) ho)
def Pu(E:List Ed):Prop:=∀P:Q→Prop,(∀e∈E,P e.1→P e.2)→∀e∈E,∀f∈E,P e.1→P f.1
theorem T5(hF:Gd F)(hA:Apart E F)(hE:Gd E)(hC:Pu E){e:Ed}(he:e∈E)(h:H F e.1):∀f∈E,H F f.1:=
 fun f hf=>hC (H F) (fun g hg=>Yy hF hA hE hg) e he f hf h
theorem Xb(hE:Gd E)(hF:Gd F)(h:∀e∈E,H F e.1){p:Q}(hp:H E p):H F p:=by
 obtain⟨e,f,u,d,hl,h1,h2⟩:=hE.core hp.w hp.off
 have pm:∀{x y:Q} {t:Rat},0≤t→t≤1→H F x→H F y→H F (pI x y t):=fun {x y t} t0 t1 hx hy g hg=>by
  rw[B3]
  have m1:=hx g hg
  have m2:=hy g hg
  have n1:=Rat.mul_nonneg (show 0≤1-t by grind) (Rat.le_of_lt m1)
  have n2:=Rat.mul_nonneg t0 (Rat.le_of_lt m2)
  by_cases e1:t=0
  ·subst e1;grind
  ·have:=Rat.mul_pos (show 0<t by grind) m2
   grind
 have h2':∀g∈E,H F g.2:=fun g hg=>by
  obtain⟨k,hk,e2⟩:=hE.clo g hg
  rw[←e2];exact h k hk
 have hu:H F u:=by
  obtain⟨t,t0,t1,e1⟩:=hl.hu
  rw[e1];exact pm t0 (Rat.le_of_lt t1) (h e hl.he) (h2' e hl.he)
 have hd:H F d:=by
  obtain⟨t,t0,t1,e1⟩:=hl.hd
  rw[e1];exact pm (Rat.le_of_lt t0) t1 (h f hl.hf) (h2' f hl.hf)
 obtain⟨t,ht⟩:=zB (n:=p.1-d.1) (d:=u.1-d.1) (by grind)
 have hz:p=pI d u t:=by
  unfold pI
  refine sM (by dsimp only;grind) ?_
  dsimp only
  rw[hl.yd,hl.yu];grind
 have pos:0<u.1-d.1:=by grind
 have t0:0≤t:=mW pos (by grind)
 have t1:t≤1:=by have:=mW (u:=1-t) pos (by grind);grind
 rw[hz]
 exact pm t0 t1 hd hu
theorem Tz(hE:Gd E)(hF:Gd F)(hA:Apart E F)(cE:Pu E)(cF:Pu F){p:Q}(h1:H E p)(h2:H F p):(∀e∈E,H F e.1)∨∀f∈F,H E f.1:=by
 apply Classical.byContradiction
 intro hc
 have c1:∀e∈E,¬H F e.1:=fun e he h=>hc (.inl (T5 hF hA hE cE he h))
 have c2:∀f∈F,¬H E f.1:=fun f hf h=>hc (.inr (T5 hE hA.symm hF cF hf h))
 obtain⟨e0,he0,_⟩:=hE.top
 obtain⟨t,f,t0,t1,hf,ho⟩:=hF.exit h2 (c1 e0 he0)
 by_cases e1:t=1
 ·subst e1
  rw[Gw] at ho
  exact hA e0 he0 f hf (.inr (.inr (.inl ho)))
 ·have hz:H E (pI p e0.1 t):=fun g hg=>by
   rw[B3]
   have m1:=Rat.mul_pos (show 0<1-t by grind) (h1 g hg)
   have m2:=Rat.mul_nonneg (Rat.le_of_lt t0) (hE.cvx g hg e0 he0)
   grind
  obtain⟨s,g,s0,s1,hg,ho2⟩:=hE.exit hz (c2 f hf)
  obtain⟨r,r0,r1,er⟩:=N8 (hF.nz f hf) ho
  have e2:pI (pI p e0.1 t) f.1 s=pI f.1 f.2 (r*(1-s)):=by
   rw[er]
   unfold pI
   exact sM (by dsimp only;grind) (by dsimp only;grind)
  have b0:0≤r*(1-s):=Rat.mul_nonneg r0 (by grind)
  have b1:r*(1-s)≤1:=by
   have:=Rat.mul_nonneg r0 (Rat.le_of_lt s0)
   grind
  exact hA g hg f hf (W0 (hE.nz g hg) (hF.nz f hf) ho2 (by rw[e2];exact qK b0 b1))
theorem Gd.less(hG:Gd E){p:Q}(h:H E p):∃e∈E,p.1<e.1.1:=by
 obtain⟨e,f,u,d,hl,h1,h2⟩:=hG.core h.w h.off
 obtain⟨t,t0,t1,e1⟩:=hl.hu
 have hu:u.1=e.1.1+t*(e.2.1-e.1.1):=by rw[e1];rfl
 by_cases c:p.1<e.1.1
 ·exact⟨e,hl.he,c⟩
 ·obtain⟨g,hg,e2⟩:=hG.clo e hl.he
  refine⟨g,hg,?_⟩
  rw[e2]
  have:0<e.2.1-e.1.1:=by
   rcases Rat.le_total (a:=e.2.1-e.1.1) (b:=0) with q | q
   ·exfalso
    have:=Rat.mul_nonneg t0 (show 0≤-(e.2.1-e.1.1) by grind)
    grind
   ·by_cases e3:e.2.1-e.1.1=0
    ·rw[e3] at hu;grind
    ·grind
  have:=Rat.mul_nonneg (show 0≤1-t by grind) (Rat.le_of_lt this)
  grind
end Go.Eng.Tg
namespace Go.Eng.Tg
open Go.Eng.Tw
def fV{α:Type}[Inhabited α](l:List α):List (α×α):=(List.range l.length).map fun i=>(l.getD i default,l.getD ((i+1)%l.length) default)
def sw{α:Type}(E:List (α×α)):List (α×α):=E.map fun e=>(e.2,e.1)
theorem uU{α:Type}{E:List (α×α)}{e:α×α}:e∈sw E↔(e.2,e.1)∈E:=by
 unfold sw
 constructor
 ·intro h
  obtain⟨f,hf,rfl⟩:=List.mem_map.1 h
  exact hf
 ·intro h
  exact List.mem_map.2 ⟨_,h,rfl⟩
theorem qL{α:Type}[Inhabited α]{l:List α}{e:α×α}:e∈fV l↔∃i,i<l.length∧e=(l.getD i default,l.getD ((i+1)%l.length) default):=by
 unfold fV
 constructor
 ·intro h
  obtain⟨i,hi,rfl⟩:=List.mem_map.1 h
  exact⟨i,List.mem_range.1 hi,rfl⟩
 ·rintro ⟨i,hi,rfl⟩
  exact List.mem_map.2 ⟨i,List.mem_range.2 hi,rfl⟩
theorem OA{l:List Q}(P:Q→Prop)(h:∀e∈fV l,P e.1→P e.2){i:Nat}(hi:i<l.length)(hp:P (l.getD i default)):∀k,P (l.getD ((i+k)%l.length) default)
 | 0=>by rw[Nat.add_zero,Nat.mod_eq_of_lt hi];exact hp
 | k+1=>by
  have ih:=OA P h hi hp k
  have hlt:(i+k)%l.length<l.length:=Nat.mod_lt _ (by omega)
  have:=h _ (qL.2 ⟨_,hlt,rfl⟩) ih
  dsimp only at this
  rw[Nat.mod_add_mod] at this
  exact this
theorem T6(l:List Q):Pu (fV l):=fun P h e he f hf hp=>by
 obtain⟨i,hi,rfl⟩:=qL.1 he
 obtain⟨j,hj,rfl⟩:=qL.1 hf
 have:=OA P h hi hp (j+(l.length-i))
 have e1:(i+(j+(l.length-i)))%l.length=j:=by
  rw[show i+(j+(l.length-i))=j+l.length by omega,Nat.add_mod_right,Nat.mod_eq_of_lt hj]
 rw[e1] at this
 exact this
theorem ZY(l:List Q):Pu (sw (fV l)):=fun P h e he f hf hp=>by
 apply Classical.byContradiction
 intro hc
 obtain⟨i,hi,ei⟩:=qL.1 (uU.1 he)
 obtain⟨j,hj,ej⟩:=qL.1 (uU.1 hf)
 have hfw:∀g∈fV l,¬P g.1→¬P g.2:=fun g hg hn hp2=>hn (h (g.2,g.1) (uU.2 hg) hp2)
 have e1:e.1=l.getD ((i+1)%l.length) default:=congrArg Prod.snd ei
 have e2:f.1=l.getD ((j+1)%l.length) default:=congrArg Prod.snd ej
 have hjl:(j+1)%l.length<l.length:=Nat.mod_lt _ (by omega)
 have hil:(i+1)%l.length<l.length:=Nat.mod_lt _ (by omega)
 have:=OA (fun q=>¬P q) hfw hjl (by rw[←e2];exact hc) ((i+1)%l.length+(l.length-(j+1)%l.length))
 rw[show (j+1)%l.length+((i+1)%l.length+(l.length-(j+1)%l.length))=(i+1)%l.length+l.length by omega,Nat.add_mod_right,Nat.mod_eq_of_lt hil,←e1] at this
 exact this hp
theorem Pv{l:List Q}{e:Ed}(he:e∈fV l):∃f∈fV l,f.1=e.2:=by
 obtain⟨i,hi,rfl⟩:=qL.1 he
 exact⟨_,qL.2 ⟨(i+1)%l.length,Nat.mod_lt _ (by omega),rfl⟩,rfl⟩
theorem Lf{l:List Q}{e:Ed}(he:e∈sw (fV l)):∃f∈sw (fV l),f.1=e.2:=by
 obtain⟨i,hi,ei⟩:=qL.1 (uU.1 he)
 have e2:e.2=l.getD i default:=congrArg Prod.fst ei
 refine⟨(l.getD i default,l.getD ((i+(l.length-1))%l.length) default),uU.2 (qL.2 ⟨(i+(l.length-1))%l.length,Nat.mod_lt _ (by omega),?_⟩),e2.symm⟩
 rw[Nat.mod_add_mod,show i+(l.length-1)+1=i+l.length by omega,Nat.add_mod_right,Nat.mod_eq_of_lt hi]
theorem Ua{E:List Ed}(hC:Pu E)(y:Rat)(h1:∃g∈E,g.1.2≤y)(h2:∃g∈E,y<g.1.2):(∃e∈E,e.1.2≤y∧y<e.2.2)∧∃e∈E,e.2.2≤y∧y<e.1.2:=by
 obtain⟨g,hg,hy⟩:=h1
 obtain⟨k,hk,hz⟩:=h2
 constructor
 ·apply Classical.byContradiction
  intro hc
  have:=hC (fun q=>q.2≤y) (fun e he h=>RE fun c=>hc ⟨e,he,h,c⟩) g hg k hk hy
  grind
 ·apply Classical.byContradiction
  intro hc
  have:=hC (fun q=>y<q.2) (fun e he h=>IA fun c=>hc ⟨e,he,c,h⟩) k hk g hg hz
  grind
abbrev Z:=Int×Int
abbrev Pw:=Z×Z
def Da(a b p:Z):Int:=(b.1-a.1)*(p.2-a.2)-(b.2-a.2)*(p.1-a.1)
def le(a b:Int):Bool:=decide (a≤b)
def lt(a b:Int):Bool:=decide (a<b)
def Gx(a b:Z):Bool:=decide (a.1=b.1)&&decide (a.2=b.2)
def Lg(E:List Pw)(e:Pw):Bool:=E.any fun f=>Gx e.1 f.1&&Gx e.2 f.2
def Yl(a b c d:Int):Bool:=le b c||le d a||le b a||le d c
def T7:List Pw→Bool
 | []=>true
 | e::l=>!(Lg l e)&&T7 l
def Dc(E:List Pw):Bool:=
 (E.all fun e=>E.all fun f=>le 0 (Da e.1 e.2 f.1))&&(E.all fun e=>!(Gx e.1 e.2)) &&
 (E.all fun e=>E.all fun f=>(Gx e.1 f.1&&Gx e.2 f.2)||Yl e.1.2 e.2.2 f.1.2 f.2.2)&&(E.all fun e=>E.all fun f=>(Gx e.1 f.1&&Gx e.2 f.2)||Yl e.2.2 e.1.2 f.2.2 f.1.2)&&T7 E &&
 (E.any fun e=>lt e.1.2 e.2.2&&E.all (fun g=>le g.1.2 e.2.2)&&E.any fun f=>lt f.2.2 f.1.2&&decide (f.1.2=e.2.2)&&((Gx e.2 f.1&&lt 0 (Da e.1 e.2 f.2))||(Lg E (e.2,f.1)&&lt f.1.1 e.2.1))) &&
 (E.any fun e=>lt e.2.2 e.1.2&&E.all (fun g=>le e.2.2 g.1.2)&&E.any fun f=>lt f.1.2 f.2.2&&decide (f.1.2=e.2.2)&&((Gx e.2 f.1&&lt 0 (Da e.1 e.2 f.2))||(Lg E (e.2,f.1)&&lt e.2.1 f.1.1)))
theorem W1{a b:Int}:le a b=true↔a≤b:=by unfold le;exact decide_eq_true_iff
theorem Lh{a b:Int}:lt a b=true↔a<b:=by unfold lt;exact decide_eq_true_iff
theorem zR{a b:Z}:Gx a b=true↔a=b:=by
 unfold Gx
 rw[Bool.and_eq_true,decide_eq_true_iff,decide_eq_true_iff]
 exact⟨fun h=>Prod.ext h.1 h.2,fun h=>by rw[h];exact⟨rfl,rfl⟩⟩
theorem ZZ{E:List Pw}{e:Pw}:Lg E e=true↔e∈E:=by
 unfold Lg
 rw[List.any_eq_true]
 constructor
 ·rintro ⟨f,hf,h⟩
  rw[Bool.and_eq_true,zR,zR] at h
  rwa[Prod.ext h.1 h.2]
 ·intro h
  exact⟨e,h,by rw[Bool.and_eq_true,zR,zR];exact⟨rfl,rfl⟩⟩
theorem W2:∀{E:List Pw},T7 E=true→E.Nodup
 | [],_=>List.nodup_nil
 | e::l,h=>by
  unfold T7 at h
  rw[Bool.and_eq_true,Bool.not_eq_true'] at h
  rw[List.nodup_cons]
  exact⟨fun hm=>by rw[ZZ.2 hm] at h;exact absurd h.1 (by decide),W2 h.2⟩
def pl(x y r:Int)(p:Z):Q:=(((x+r*p.1:Int):Rat),((y+r*p.2:Int):Rat))
def Vv(x y r:Int)(e:Pw):Ed:=(pl x y r e.1,pl x y r e.2)
theorem JL(x y r:Int)(a b p:Z):cr (pl x y r a) (pl x y r b) (pl x y r p)=((r*r*Da a b p:Int):Rat):=by
 unfold cr pl Da
 dsimp only
 simp only[←Rat.intCast_sub,←Rat.intCast_mul]
 exact congrArg _ (by grind)
theorem xW{a b:Int}:(a:Rat)≤(b:Rat)↔a≤b:=Rat.intCast_le_intCast
theorem B4{a b:Int}:(a:Rat)<(b:Rat)↔a<b:=Rat.intCast_lt_intCast
theorem Px{r a b c:Int}(hr:0<r):c+r*a≤c+r*b↔a≤b:=by
 constructor
 ·intro h
  have:r*a≤r*b:=by omega
  exact Int.le_of_mul_le_mul_left this hr
 ·intro h
  have:=Int.mul_le_mul_of_nonneg_left h (Int.le_of_lt hr)
  omega
theorem Dd{r a b c:Int}(hr:0<r):c+r*a<c+r*b↔a<b:=by
 constructor
 ·intro h
  have:r*a<r*b:=by omega
  exact Int.lt_of_mul_lt_mul_left this (Int.le_of_lt hr)
 ·intro h
  have:=Int.mul_lt_mul_of_pos_left h hr
  omega
section
variable {x y r:Int} (hr:0<r)
include hr
theorem PY{p q:Z}:(pl x y r p).2≤(pl x y r q).2↔p.2≤q.2:=by unfold pl;rw[xW];exact Px hr
theorem Py{p q:Z}:(pl x y r p).2<(pl x y r q).2↔p.2<q.2:=by unfold pl;rw[B4];exact Dd hr
theorem Xd{p q:Z}:(pl x y r p).1<(pl x y r q).1↔p.1<q.1:=by unfold pl;rw[B4];exact Dd hr
theorem Rr{a b p:Z}:0<cr (pl x y r a) (pl x y r b) (pl x y r p)↔0<Da a b p:=by
 rw[JL,show (0:Rat)=((0:Int):Rat) from rfl,B4]
 have h2:0<r*r:=Int.mul_pos hr hr
 constructor
 ·intro h
  have:(r*r)*0<(r*r)*Da a b p:=by rw[Int.mul_zero];exact h
  exact Int.lt_of_mul_lt_mul_left this (Int.le_of_lt h2)
 ·intro h;exact Int.mul_pos h2 h
theorem Yz{a b p:Z}(h:0≤Da a b p):0≤cr (pl x y r a) (pl x y r b) (pl x y r p):=by
 rw[JL,show (0:Rat)=((0:Int):Rat) from rfl,xW]
 exact Int.mul_nonneg (Int.le_of_lt (Int.mul_pos hr hr)) h
theorem Z0{p q:Z}(h:pl x y r p=pl x y r q):p=q:=by
 have h1:x+r*p.1=x+r*q.1:=Rat.intCast_inj.1 (congrArg Prod.fst h)
 have h2:y+r*p.2=y+r*q.2:=Rat.intCast_inj.1 (congrArg Prod.snd h)
 exact Prod.ext (Int.eq_of_mul_eq_mul_left (Int.ne_of_gt hr) (by omega)) (Int.eq_of_mul_eq_mul_left (Int.ne_of_gt hr) (by omega))
theorem Rs{E:List Pw}(h:Dc E=true)(hC:Pu (E.map (Vv x y r)))(hc:∀e∈E.map (Vv x y r),∃f∈E.map (Vv x y r),f.1=e.2):Gd (E.map (Vv x y r)):=by
 unfold Dc at h
 simp only[Bool.and_eq_true] at h
 obtain⟨⟨⟨⟨⟨⟨g1,g2⟩,g3⟩,g4⟩,g5⟩,g6⟩,g7⟩:=h
 rw[List.all_eq_true] at g1 g2 g3 g4
 rw[List.any_eq_true] at g6 g7
 have dj:∀{a b c d:Int} {A B C D y:Rat},Yl a b c d=true→(B≤C↔b≤c)→(D≤A↔d≤a)→(B≤A↔b≤a)→(D≤C↔d≤c)→A≤y→y<B→C≤y→y<D→False:=fun hd h1 h2 h3 h4 a1 a2 a3 a4=>by
  unfold Yl at hd
  simp only[Bool.or_eq_true,W1] at hd
  rcases hd with((q | q) | q) | q
  ·have:=h1.2 q;grind
  ·have:=h2.2 q;grind
  ·have:=h3.2 q;grind
  ·have:=h4.2 q;grind
 refine⟨?_,hc,?_,?_,?_,?_,?_,?_,Ua hC⟩
 ·rintro e0 he0 f0 hf0
  obtain⟨e,he,rfl⟩:=List.mem_map.1 he0
  obtain⟨f,hf,rfl⟩:=List.mem_map.1 hf0
  have:=g1 e he
  rw[List.all_eq_true] at this
  exact Yz hr (W1.1 (this f hf))
 ·rintro e0 he0 h0
  obtain⟨e,he,rfl⟩:=List.mem_map.1 he0
  have:=g2 e he
  rw[Bool.not_eq_true'] at this
  rw[zR.2 (Z0 hr h0)] at this
  exact absurd this (by decide)
 ·rintro e0 he0 f0 hf0 z h1 h2 h3 h4
  obtain⟨e,he,rfl⟩:=List.mem_map.1 he0
  obtain⟨f,hf,rfl⟩:=List.mem_map.1 hf0
  have:=g3 e he
  rw[List.all_eq_true] at this
  have:=this f hf
  rw[Bool.or_eq_true,Bool.and_eq_true,zR,zR] at this
  rcases this with⟨q1,q2⟩ | q
  ·rw[Prod.ext q1 q2]
  ·exact(dj q (PY hr) (PY hr) (PY hr) (PY hr) h1 h2 h3 h4).elim
 ·rintro e0 he0 f0 hf0 z h1 h2 h3 h4
  obtain⟨e,he,rfl⟩:=List.mem_map.1 he0
  obtain⟨f,hf,rfl⟩:=List.mem_map.1 hf0
  have:=g4 e he
  rw[List.all_eq_true] at this
  have:=this f hf
  rw[Bool.or_eq_true,Bool.and_eq_true,zR,zR] at this
  rcases this with⟨q1,q2⟩ | q
  ·rw[Prod.ext q1 q2]
  ·exact(dj q (PY hr) (PY hr) (PY hr) (PY hr) h1 h2 h3 h4).elim
 ·have:=W2 g5
  rw[List.Nodup,List.pairwise_map]
  exact List.Pairwise.imp (fun hne h0=>hne (Prod.ext (Z0 hr (congrArg Prod.fst h0)) (Z0 hr (congrArg Prod.snd h0)))) this
 ·obtain⟨e,he,q⟩:=g6
  simp only[Bool.and_eq_true,List.all_eq_true,List.any_eq_true,Lh,W1,Bool.or_eq_true,zR,ZZ,decide_eq_true_iff] at q
  obtain⟨⟨q1,q2⟩,f,hf,⟨q3,q4⟩,q5⟩:=q
  refine⟨_,List.mem_map.2 ⟨e,he,rfl⟩,_,List.mem_map.2 ⟨f,hf,rfl⟩,(Py hr).2 q1,(Py hr).2 q3,fun g0 hg0=>?_,?_,?_⟩
  ·obtain⟨g,hg,rfl⟩:=List.mem_map.1 hg0
   exact(PY hr).2 (q2 g hg)
  ·show (((y+r*f.1.2:Int)):Rat)=((y+r*e.2.2:Int):Rat)
   rw[q4]
  ·rcases q5 with⟨p1,p2⟩ | ⟨p1,p2⟩
   ·exact .inl ⟨congrArg (pl x y r) p1,(Rr hr).2 p2⟩
   ·exact .inr ⟨List.mem_map.2 ⟨_,p1,rfl⟩,(Xd hr).2 p2⟩
 ·obtain⟨e,he,q⟩:=g7
  simp only[Bool.and_eq_true,List.all_eq_true,List.any_eq_true,Lh,W1,Bool.or_eq_true,zR,ZZ,decide_eq_true_iff] at q
  obtain⟨⟨q1,q2⟩,f,hf,⟨q3,q4⟩,q5⟩:=q
  refine⟨_,List.mem_map.2 ⟨e,he,rfl⟩,_,List.mem_map.2 ⟨f,hf,rfl⟩,(Py hr).2 q1,(Py hr).2 q3,fun g0 hg0=>?_,?_,?_⟩
  ·obtain⟨g,hg,rfl⟩:=List.mem_map.1 hg0
   exact(PY hr).2 (q2 g hg)
  ·show (((y+r*f.1.2:Int)):Rat)=((y+r*e.2.2:Int):Rat)
   rw[q4]
  ·rcases q5 with⟨p1,p2⟩ | ⟨p1,p2⟩
   ·exact .inl ⟨congrArg (pl x y r) p1,(Rr hr).2 p2⟩
   ·exact .inr ⟨List.mem_map.2 ⟨_,p1,rfl⟩,(Xd hr).2 p2⟩
end
end Go.Eng.Tg
namespace Go.Eng.Tg
open Go.Eng.Tw
def KN(a b c:Q):Prop:=cr a b c=0∧0<(a.1-b.1)*(c.1-b.1)+(a.2-b.2)*(c.2-b.2)
def aN{α:Type}[Inhabited α](l:List α)(i:Nat):α:=l.getD (i%l.length) default
def Ub(L:List Q):Prop:=3≤L.length∧∀i<L.length,aN L i≠aN L (i+1)∧¬KN (aN L i) (aN L (i+1)) (aN L (i+2)) ∧
 ∀j,i+2≤j→j<L.length→(0<i∨j<L.length-1)→¬kJ (aN L i) (aN L (i+1)) (aN L j) (aN L (j+1))
def Ym(d u:Int):Bool:=(le 0 u&&le u d)||(le d u&&le u 0)
def Vw(a b p:Z):Bool:=decide (Da a b p=0)&&Ym (b.1-a.1) (p.1-a.1)&&Ym (b.2-a.2) (p.2-a.2)
def De(a b c d:Z):Bool:=Vw a b c||Vw a b d||Vw c d a||Vw c d b||(lt (Da a b c*Da a b d) 0&&lt (Da c d a*Da c d b) 0)
def Df(a b c:Z):Bool:=decide (Da a b c=0)&&lt 0 ((a.1-b.1)*(c.1-b.1)+(a.2-b.2)*(c.2-b.2))
def Uc(s:List Z):Bool:=Nat.ble 3 s.length&&(List.range s.length).all fun i=>!(Gx (aN s i) (aN s (i+1)))&&!(Df (aN s i) (aN s (i+1)) (aN s (i+2))) &&
 (List.range s.length).all fun j=>Nat.blt j (i+2)||!(Nat.blt 0 i||Nat.blt j (s.length-1))||!(De (aN s i) (aN s (i+1)) (aN s j) (aN s (j+1)))
theorem wV{α β:Type}[Inhabited α][Inhabited β](f:α→β){l:List α}(h:0<l.length)(i:Nat):aN (l.map f) i=f (aN l i):=by
 unfold aN
 rw[List.length_map]
 have hi:i%l.length<l.length:=Nat.mod_lt _ h
 rw[List.getD_eq_getElem?_getD,List.getD_eq_getElem?_getD,List.getElem?_map,List.getElem?_eq_getElem hi]
 rfl
section
variable {x y r:Int} (hr:0<r)
include hr
omit hr in
theorem Gy{a:Int}:(a:Rat)<0↔a<0:=by rw[show (0:Rat)=((0:Int):Rat) from rfl,B4]
omit hr in
theorem Ru{c a p b:Int}(hr:0<r)(h:Ym (b-a) (p-a)=true):Bt (((c+r*b:Int):Rat)-((c+r*a:Int):Rat)) (((c+r*p:Int):Rat)-((c+r*a:Int):Rat)):=by
 have e1:((c+r*b:Int):Rat)-((c+r*a:Int):Rat)=((r*(b-a):Int):Rat):=by rw[←Rat.intCast_sub];exact congrArg _ (by grind)
 have e2:((c+r*p:Int):Rat)-((c+r*a:Int):Rat)=((r*(p-a):Int):Rat):=by rw[←Rat.intCast_sub];exact congrArg _ (by grind)
 rw[e1,e2]
 unfold Ym at h
 rw[Bool.or_eq_true,Bool.and_eq_true,Bool.and_eq_true,W1,W1,W1,W1] at h
 have r0:=Int.le_of_lt hr
 rcases h with⟨h1,h2⟩ | ⟨h1,h2⟩
 ·left
  exact⟨by rw[show (0:Rat)=((0:Int):Rat) from rfl,xW];exact Int.mul_nonneg r0 h1,xW.2 (Int.mul_le_mul_of_nonneg_left h2 r0)⟩
 ·right
  exact⟨xW.2 (Int.mul_le_mul_of_nonneg_left h1 r0),by rw[show (0:Rat)=((0:Int):Rat) from rfl,xW];have:=Int.mul_le_mul_of_nonneg_left h2 r0;rw[Int.mul_zero] at this;exact this⟩
theorem Dg{a b p:Z}(h:Vw a b p=true):On (pl x y r a) (pl x y r b) (pl x y r p):=by
 unfold Vw at h
 rw[Bool.and_eq_true,Bool.and_eq_true,decide_eq_true_iff] at h
 obtain⟨⟨h1,h2⟩,h3⟩:=h
 refine⟨by rw[JL,h1,Int.mul_zero];rfl,Ru hr h2,Ru hr h3⟩
theorem Xe{a b:Int}(h:a*b<0):((r*r*a:Int):Rat)*((r*r*b:Int):Rat)<0:=by
 rw[←Rat.intCast_mul,Gy]
 have h2:0<r*r:=Int.mul_pos hr hr
 have:r*r*a*(r*r*b)=(r*r)*((r*r)*(a*b)):=by grind
 rw[this]
 exact Int.mul_neg_of_pos_of_neg h2 (Int.mul_neg_of_pos_of_neg h2 h)
theorem Pz{a b c d:Z}(h:De a b c d=true):kJ (pl x y r a) (pl x y r b) (pl x y r c) (pl x y r d):=by
 unfold De at h
 simp only[Bool.or_eq_true,Bool.and_eq_true,Lh] at h
 rcases h with(((h | h) | h) | h) | ⟨h1,h2⟩
 ·exact .inl (Dg hr h)
 ·exact .inr (.inl (Dg hr h))
 ·exact .inr (.inr (.inl (Dg hr h)))
 ·exact .inr (.inr (.inr (.inl (Dg hr h))))
 ·refine .inr (.inr (.inr (.inr ⟨?_,?_⟩)))
  ·rw[JL,JL];exact Xe hr h1
  ·rw[JL,JL];exact Xe hr h2
theorem Qa{a b c:Z}(h:Df a b c=true):KN (pl x y r a) (pl x y r b) (pl x y r c):=by
 unfold Df at h
 rw[Bool.and_eq_true,decide_eq_true_iff,Lh] at h
 refine⟨by rw[JL,h.1,Int.mul_zero];rfl,?_⟩
 have e:((pl x y r a).1-(pl x y r b).1)*((pl x y r c).1-(pl x y r b).1)+((pl x y r a).2-(pl x y r b).2)*((pl x y r c).2-(pl x y r b).2)=((r*r*((a.1-b.1)*(c.1-b.1)+(a.2-b.2)*(c.2-b.2)):Int):Rat):=by
  unfold pl
  dsimp only
  simp only[←Rat.intCast_sub,←Rat.intCast_mul,←Rat.intCast_add]
  exact congrArg _ (by grind)
 rw[e,show (0:Rat)=((0:Int):Rat) from rfl,B4]
 exact Int.mul_pos (Int.mul_pos hr hr) h.2
theorem Ud{s:List Z}(h:Ub (s.map (pl x y r))):Uc s=true:=by
 obtain⟨h3,h⟩:=h
 rw[List.length_map] at h3 h
 have h0:0<s.length:=by omega
 unfold Uc
 rw[Bool.and_eq_true]
 refine⟨Nat.ble_eq_true_of_le h3,?_⟩
 rw[List.all_eq_true]
 intro i hi
 obtain⟨g1,g2,g3⟩:=h i (List.mem_range.1 hi)
 rw[wV _ h0,wV _ h0] at g1 g2
 rw[wV _ h0] at g2
 rw[Bool.and_eq_true,Bool.and_eq_true,Bool.not_eq_true',Bool.not_eq_true']
 refine⟨⟨?_,?_⟩,?_⟩
 ·cases hc:Gx (aN s i) (aN s (i+1)) with
  | false=>rfl
  | true=>rw[zR.1 hc] at g1;exact absurd rfl g1
 ·cases hc:Df (aN s i) (aN s (i+1)) (aN s (i+2)) with
  | false=>rfl
  | true=>exact absurd (Qa hr hc) g2
 ·rw[List.all_eq_true]
  intro j hj
  have hjl:=List.mem_range.1 hj
  cases c1:Nat.blt j (i+2) with
  | true=>rfl
  | false=>
   cases c2:(Nat.blt 0 i||Nat.blt j (s.length-1)) with
   | false=>rfl
   | true=>
    cases c3:De (aN s i) (aN s (i+1)) (aN s j) (aN s (j+1)) with
    | false=>rfl
    | true=>
     exfalso
     have a1:i+2≤j:=by
      by_cases c:i+2≤j
      ·exact c
      ·have:Nat.blt j (i+2)=true:=by simp only[Nat.blt_eq];omega
       rw[this] at c1;cases c1
     have a2:0<i∨j<s.length-1:=by
      rw[Bool.or_eq_true,Nat.blt_eq,Nat.blt_eq] at c2
      exact c2
     have:=g3 j a1 hjl a2
     rw[wV _ h0,wV _ h0,wV _ h0,wV _ h0] at this
     exact this (Pz hr c3)
end
def Yn(s:List Z):Int:=((fV s).map fun e=>e.1.1*e.2.2-e.2.1*e.1.2).sum
def W3(s:List Z):Bool:=(Dc (fV s)&&lt 0 (Yn s))||(Dc (sw (fV s))&&lt (Yn s) 0)||!(Uc s)
def Gz:List Z→List (List Z)
 | []=>[[]]
 | a::l=>Gz l++(Gz l).map (a::·)
def Xf:List Z→List Z
 | a::b::l=>b::a::l
 | l=>l
def Ha:List Z:=[(2,0),(2,1),(1,2),(-1,2),(-2,0),(-2,-1),(0,-2),(1,-1)]
def Li:List Z:=[(-1,-1),(1,-1),(1,1),(-1,1)]
def W4:List Z:=[(-1,-1),(-1,1),(1,1),(1,-1)]
def tri:List Z:=[(0,0),(3,1),(1,4)]
theorem OB:∀{s l:List Z},s.Sublist l→s∈Gz l
 | _,_,.slnil=>List.mem_cons_self ..
 | _,_,.cons _ h=>List.mem_append.2 (.inl (OB h))
 | _,_,.cons_cons _ h=>List.mem_append.2 (.inr (List.mem_map.2 ⟨_,OB h,rfl⟩))
theorem Ue:((Gz Ha).all fun s=>W3 s&&W3 (Xf s))=true:=by decide +kernel
theorem Uf:((Gz Ha.reverse).all fun s=>W3 s&&W3 (Xf s))=true:=by decide +kernel
theorem Ug:((List.range 4).all fun k=>W3 (Li.drop k++Li.take k)&&W3 (W4.drop k++W4.take k))=true:=by decide +kernel
theorem Xg:W3 tri=true:=by decide +kernel
end Go.Eng.Tg
namespace Go.Eng.Tg
open Go.Eng.Tw
variable {E F:List Ed}
theorem Xh{p:Q}:EZ (sw E) p↔EZ E p:=by
 constructor
 ·rintro ⟨e,he,h⟩
  exact⟨_,uU.1 he,K4 h⟩
 ·rintro ⟨e,he,h⟩
  exact⟨(e.2,e.1),uU.2 he,K4 h⟩
theorem Xi(p:Q)(e:Ed):we p (e.2,e.1)=-we p e:=by
 unfold we
 dsimp only
 rw[K3 e.1 e.2 p]
 by_cases h1:e.1.2≤p.2∧p.2<e.2.2
 ·rw[if_neg (by rintro ⟨a,b,_⟩;grind),if_neg (c:=e.2.2≤p.2∧_) (by rintro ⟨a,b,_⟩;grind)]
  by_cases h2:0<cr e.1 e.2 p
  ·rw[if_pos ⟨h1.1,h1.2,by grind⟩,if_pos ⟨h1.1,h1.2,h2⟩]
  ·rw[if_neg (by rintro ⟨_,_,h⟩;grind),if_neg fun h=>h2 h.2.2];rfl
 ·rw[if_neg (c:=e.1.2≤p.2∧p.2<e.2.2∧-cr e.1 e.2 p<0) fun h=>h1 ⟨h.1,h.2.1⟩,if_neg (c:=e.1.2≤p.2∧p.2<e.2.2∧0<cr e.1 e.2 p) fun h=>h1 ⟨h.1,h.2.1⟩]
  by_cases h2:e.2.2≤p.2∧p.2<e.1.2
  ·by_cases h3:cr e.1 e.2 p<0
   ·rw[if_pos ⟨h2.1,h2.2,by grind⟩,if_pos ⟨h2.1,h2.2,h3⟩];rfl
   ·rw[if_neg (by rintro ⟨_,_,h⟩;grind),if_neg fun h=>h3 h.2.2];rfl
  ·rw[if_neg fun h=>h2 ⟨h.1,h.2.1⟩,if_neg fun h=>h2 ⟨h.1,h.2.1⟩];rfl
theorem Rv(p:Q):∀E:List Ed,wd (sw E) p=-wd E p
 | []=>rfl
 | e::l=>by
  have ih:=Rv p l
  unfold wd sw at *
  rw[List.map_cons,List.map_cons,List.map_cons,List.sum_cons,List.sum_cons,ih,Xi];omega
theorem W5(h:Apart E F):Apart (sw E) F:=fun e he f hf hm=>h _ (uU.1 he) f hf (WY hm)
structure Lp (L:List Q) (s:Int) (G:List Ed):Prop where
 gd:Gd G
 con:Pu G
 dir:(s=1∧G=fV L)∨(s=-1∧G=sw (fV L))
section
variable {L:List Q} {s:Int} {G:List Ed}
theorem Lp.on(h:Lp L s G){p:Q}:EZ (fV L) p↔EZ G p:=by
 rcases h.dir with⟨_,e⟩ | ⟨_,e⟩
 ·rw[e]
 ·rw[e,Xh]
open Classical in
theorem Lp.wind(h:Lp L s G){p:Q}(ho:¬EZ (fV L) p):wd (fV L) p=if H G p then s else 0:=by
 have hw:=h.gd.wind (p:=p) fun c=>ho (h.on.2 c)
 rcases h.dir with⟨es,e⟩ | ⟨es,e⟩
 ·rw[es]
  by_cases hH:H G p
  ·rw[if_pos hH,←e];exact hw.1 hH
  ·rw[if_neg hH,←e];exact hw.2 hH
 ·rw[es]
  have h2:wd G p=-wd (fV L) p:=by rw[e];exact Rv p _
  by_cases hH:H G p
  ·rw[if_pos hH];have:=hw.1 hH;omega
  ·rw[if_neg hH];have:=hw.2 hH;omega
theorem E0{i:Nat}(h0:0<L.length):(aN L i,aN L (i+1))∈fV L:=by
 refine qL.2 ⟨i%L.length,Nat.mod_lt _ h0,?_⟩
 unfold aN
 rw[Nat.mod_add_mod]
theorem Lp.at(h:Lp L s G)(h0:0<L.length)(i:Nat):∃e∈G,e.1=aN L i:=by
 rcases h.dir with⟨_,e⟩ | ⟨_,e⟩
 ·exact⟨(aN L i,aN L (i+1)),by rw[e];exact E0 h0,rfl⟩
 ·obtain⟨f,hf,e2⟩:=Lf (l:=L) (e:=(aN L (i+1),aN L i)) (uU.2 (E0 h0))
  exact⟨f,by rw[e];exact hf,e2⟩
theorem Lp.sg(h:Lp L s G):s=1∨s=-1:=h.dir.imp And.left And.left
theorem Lp.apart{M:List Q}{t:Int}{K:List Ed}(h:Lp L s G)(k:Lp M t K)(ha:Apart (fV L) (fV M)):Apart G K:=by
 have h1:Apart G (fV M):=by
  rcases h.dir with⟨_,e⟩ | ⟨_,e⟩
  ·rw[e];exact ha
  ·rw[e];exact W5 ha
 rcases k.dir with⟨_,e⟩ | ⟨_,e⟩
 ·rw[e];exact h1
 ·rw[e];exact(W5 h1.symm).symm
end
def lJ(m:Nat)(f:Nat→Int):Int:=((List.range m).map f).sum
theorem gT(m:Nat)(f:Nat→Int):lJ (m+1) f=lJ m f+f m:=by
 unfold lJ
 rw[List.range_succ,List.map_append,List.sum_append];simp
theorem iB{m:Nat}{f g:Nat→Int}(h:∀j,j<m→f j=g j):lJ m f=lJ m g:=by
 unfold lJ
 exact congrArg List.sum (List.map_congr_left fun j hj=>h j (List.mem_range.1 hj))
theorem Hb{m:Nat}{f:Nat→Int}(h:∀j,j<m→f j=0):lJ m f=0:=by
 induction m with
 | zero=>rfl
 | succ m ih=>rw[gT,ih fun j hj=>h j (by omega),h m (by omega)];rfl
theorem Dh{f:Nat→Int}{i:Nat}:∀{m:Nat},i<m→lJ m f=lJ m (fun j=>if j=i then 0 else f j)+f i
 | 0,h=>by omega
 | m+1,h=>by
  rw[gT,gT]
  by_cases hm:i=m
  ·subst hm
   rw[if_pos rfl,iB (m:=i) (f:=fun j=>if j=i then 0 else f j) (g:=f) fun j hj=>by show (if j=i then 0 else f j)=f j;rw[if_neg (by omega)]];omega
  ·rw[if_neg (fun e=>hm e.symm),Dh (f:=f) (i:=i) (m:=m) (by omega)];omega
structure Ns (m:Nat) (G:Nat→List Ed) (v:Nat→Q):Prop where
 gd:∀i,i<m→Gd (G i)
 con:∀i,i<m→Pu (G i)
 ap:∀i,i<m→∀j,j<m→i≠j→Apart (G i) (G j)
 on:∀i,i<m→∃e∈G i,e.1=v i
open Classical in
noncomputable def ad(G:Nat→List Ed)(s:Nat→Int)(p:Q)(j:Nat):Int:=if H (G j) p then s j else 0
section
variable {m:Nat} {G:Nat→List Ed} {v:Nat→Q} (hN:Ns m G v)
include hN
theorem Lj{p:Q}(h:∃i,i<m∧H (G i) p):∃i,i<m∧H (G i) p∧∀j,j<m→j≠i→(H (G j) p↔H (G j) (v i)):=by
 have hmx:∀i,i<m→∃e∈G i,∀f∈G i,f.1.1≤e.1.1:=fun i hi=>by
  obtain⟨e0,he0,_⟩:=(hN.gd i hi).top
  obtain⟨e,he,hl⟩:=Cz (fun e:Ed=>-e.1.1) (G i) (by intro c;rw[c] at he0;cases he0)
  exact⟨e,he,fun f hf=>by have:=hl f hf;grind⟩
 have hM:∃M:Nat→Rat,∀i,i<m→(∃e∈G i,e.1.1=M i)∧∀f∈G i,f.1.1≤M i:=by
  refine⟨fun i=>if hi:i<m then (Classical.choose (hmx i hi)).1.1 else 0,fun i hi=>?_⟩
  have:=Classical.choose_spec (hmx i hi)
  dsimp only
  rw[dif_pos hi]
  exact⟨⟨_,this.1,rfl⟩,this.2⟩
 obtain⟨M,hM⟩:=hM
 obtain⟨i0,hi0,hp0⟩:=h
 open Classical in
 obtain⟨i,hi,hmin⟩:=Cz M ((List.range m).filter fun i=>decide (H (G i) p)) (by
  intro c
  have:i0∈(List.range m).filter fun i=>decide (H (G i) p):=List.mem_filter.2 ⟨List.mem_range.2 hi0,decide_eq_true hp0⟩
  rw[c] at this
  cases this)
 obtain⟨him,hip⟩:=List.mem_filter.1 hi
 have him:=List.mem_range.1 him
 have hip:=of_decide_eq_true hip
 refine⟨i,him,hip,fun j hj hne=>?_⟩
 have ha:=hN.ap i him j hj (Ne.symm hne)
 obtain⟨e,he,ev⟩:=hN.on i him
 constructor
 ·intro hjp
  rcases Tz (hN.gd i him) (hN.gd j hj) ha (hN.con i him) (hN.con j hj) hip hjp with h | h
  ·rw[←ev];exact h e he
  ·exfalso
   obtain⟨⟨f,hf,ef⟩,_⟩:=hM j hj
   obtain⟨g,hg,hlt⟩:=(hN.gd i him).less (h f hf)
   have h1:=(hM i him).2 g hg
   have h2:=hmin j (List.mem_filter.2 ⟨List.mem_range.2 hj,decide_eq_true hjp⟩)
   grind
 ·intro hjv
  rw[←ev] at hjv
  exact Xb (hN.gd i him) (hN.gd j hj) (T5 (hN.gd j hj) ha (hN.gd i him) (hN.con i him) he hjv) hip
theorem Lk{s:Nat→Int}(hc:∀i,i<m→∀n,n=lJ m (fun j=>if j=i then 0 else ad G s (v i) j)→n+s i=0∨n+s i=1)(p:Q):lJ m (ad G s p)=0∨lJ m (ad G s p)=1:=by
 by_cases h:∃i,i<m∧H (G i) p
 ·obtain⟨i,hi,hip,hj⟩:=Lj hN h
  have e1:ad G s p i=s i:=by unfold ad;rw[if_pos hip]
  rw[Dh hi,e1]
  refine hc i hi _ (iB fun j hjm=>?_)
  by_cases hji:j=i
  ·rw[if_pos hji,if_pos hji]
  ·rw[if_neg hji,if_neg hji]
   unfold ad
   by_cases c:H (G j) p
   ·rw[if_pos c,if_pos ((hj j hjm hji).1 c)]
   ·rw[if_neg c,if_neg fun c'=>c ((hj j hjm hji).2 c')]
 ·left
  exact Hb fun j hj=>by unfold ad;rw[if_neg fun c=>h ⟨j,hj,c⟩]
end
end Go.Eng.Tg
namespace Go.Eng.Rt
open Go.Eng Go.Eng.Tw Go.Eng.Tm Go.Eng.Tg
def cq(p:Z):Q:=((p.1:Rat),(p.2:Rat))
open Classical in
noncomputable def bP(P:Prop):Bool:=decide P
open Classical in
theorem jO{P:Prop}(h:P):bP P=true:=by unfold bP;exact decide_eq_true h
open Classical in
theorem gU{P:Prop}(h:¬P):bP P=false:=by unfold bP;exact decide_eq_false h
open Classical in
theorem Uh{P:Prop}:bP P=true↔P:=by unfold bP;exact decide_eq_true_iff
theorem jG{P R:Prop}(h:P↔R):bP P=bP R:=by rw[propext h]
theorem B5{P:Prop}[Decidable P]:decide P=bP P:=by
 by_cases h:P
 ·rw[decide_eq_true h,jO h]
 ·rw[decide_eq_false h,gU h]
theorem vY{P R:Prop}:bP (P∨R)=(bP P||bP R):=by
 by_cases h:P
 ·rw[jO h,jO (.inl h)];rfl
 ·rw[gU h]
  by_cases h':R
  ·rw[jO h',jO (.inr h')];rfl
  ·rw[gU h',gU (fun c=>c.elim h h')];rfl
theorem B6{P R:Prop}:bP (P∧R)=(bP P&&bP R):=by
 by_cases h:P
 ·rw[jO h]
  by_cases h':R
  ·rw[jO h',jO ⟨h,h'⟩];rfl
  ·rw[gU h',gU fun c=>h' c.2];rfl
 ·rw[gU h,gU fun c=>h c.1];rfl
theorem IB{P:Prop}:bP (¬P)=!(bP P):=by
 by_cases h:P
 ·rw[jO h,gU fun c=>c h];rfl
 ·rw[gU h,jO h];rfl
abbrev pt(p:Z):Bool×List T×List T×Bool×List T×List T×Bool×List T×List T×Unit:=(aM (p.1:Rat),aU (p.1:Rat),bA (p.1:Rat),aM (p.2:Rat),aU (p.2:Rat),bA (p.2:Rat),false,[],[],())
theorem W6(p:Z):c3 (p.1:Rat) (c3 (p.2:Rat) (c3 0 ()))=pt p:=by rw[z3]
def Sp(p:Z):Prop:=p.1.natAbs≤32∧p.2.natAbs≤32
def Se(p q:Z):Prop:=Sp p∧(q.1-p.1).natAbs≤20∧(q.2-p.2).natAbs≤20
theorem W7{p:Z}(h:Sp p):Pr 1 (p.1:Rat) (p.2:Rat) 0:=
 ⟨⟨by decide,(Fr.int _).mono h.1,(Fr.int _).mono h.2,(Fr.zero (by decide)).mono (by decide)⟩,32,by decide,(Fr.int _).mono h.1,(Fr.int _).mono h.2⟩
theorem Qb(a b:Z)(px py:Rat):((b.1-a.1:Int):Rat)*(py-a.2)-((b.2-a.2:Int):Rat)*(px-a.1)=cr (cq a) (cq b) (px,py):=by
 unfold cr cq;dsimp only;rw[Rat.intCast_sub,Rat.intCast_sub]
theorem Ui(a b:Z)(px py:Rat):Hl ((b.1-a.1:Int):Rat) ((b.2-a.2:Int):Rat) (px-a.1) (py-a.2)=bP (On (cq a) (cq b) (px,py)):=by
 have h:Tv ((b.1-a.1:Int):Rat) ((b.2-a.2:Int):Rat) (px-a.1) (py-a.2)↔On (cq a) (cq b) (px,py):=by
  unfold Tv On
  rw[Qb]
  unfold cq
  dsimp only
  rw[Rat.intCast_sub,Rat.intCast_sub]
 by_cases hc:Tv ((b.1-a.1:Int):Rat) ((b.2-a.2:Int):Rat) (px-a.1) (py-a.2)
 ·rw[Ky hc,jO (h.1 hc)]
 ·rw[WX hc,gU fun c=>hc (h.2 c)]
theorem Xj{a b:Z}(h:Se a b){D:Nat}{px py pz:Rat}(hp:Pp D 32 px py pz):jX (lit a b (c3 px (c3 py (c3 pz ()))))=some (bP (On (cq a) (cq b) (px,py)),()):=by
 rw[(T3 h.1.1 h.1.2 h.2.1 h.2.2 hp).1,Ui]
theorem Xk{a b:Z}(h:Se a b){D:Nat}{px py pz:Rat}(hp:Pp D 32 px py pz):bI (lit a b (c3 px (c3 py (c3 pz ()))))=some (kF (cr (cq a) (cq b) (px,py)),()):=by
 rw[(T3 h.1.1 h.1.2 h.2.1 h.2.2 hp).2.1];unfold sE;rw[Qb]
theorem Xl{a b:Z}(h:Se a b){D:Nat}{px py pz:Rat}(hp:Pr D px py pz):fU (lit a b (c3 px (c3 py (c3 pz ()))))=some (bP (On (cq a) (cq b) (px,py)),()):=by
 rw[Tx h.1.1 h.1.2 h.2.1 h.2.2 hp,Ui]
theorem Xm{a b:Z}(h:Se a b){D:Nat}{px py pz:Rat}(hp:Pp D 32 px py pz):dJ (lit a b (c3 px (c3 py (c3 pz ()))))=some (kF (cr (cq a) (cq b) (px,py)),()):=by
 rw[(T3 h.1.1 h.1.2 h.2.1 h.2.2 hp).2.2];unfold sE;rw[Qb]
theorem Di{a b c:Z}(h:Se a b)(hc:Sp c):jX (lit a b (pt c))=some (bP (On (cq a) (cq b) (cq c)),()):=by
 have:=Xj h (W7 hc).up;rw[W6] at this;exact this
theorem W8{a b c:Z}(h:Se a b)(hc:Sp c):bI (lit a b (pt c))=some (kF (cr (cq a) (cq b) (cq c)),()):=by
 have:=Xk h (W7 hc).up;rw[W6] at this;exact this
theorem RG{a b c:Z}(h:Se a b)(hc:Sp c):fU (lit a b (pt c))=some (bP (On (cq a) (cq b) (cq c)),()):=by
 have:=Xl h (W7 hc);rw[W6] at this;exact this
theorem Dj{a b c:Z}(h:Se a b)(hc:Sp c):dJ (lit a b (pt c))=some (kF (cr (cq a) (cq b) (cq c)),()):=by
 have:=Xm h (W7 hc).up;rw[W6] at this;exact this
theorem W9(x y:Rat):wr .i64 (kF x*kF y)=kF x*kF y:=by
 rcases kE x with⟨h,_⟩ | ⟨h,_⟩ | ⟨h,_⟩ <;> rcases kE y with⟨k,_⟩ | ⟨k,_⟩ | ⟨k,_⟩ <;> rw[h,k] <;> exact dK (by decide) (by decide)
theorem rK(x:Rat):(kF x=0∧x=0)∨(kF x=-1∧x<0)∨(kF x=1∧0<x):=by
 rcases kE x with⟨h,k⟩ | ⟨h,k⟩ | ⟨h,k⟩
 ·exact .inl ⟨h,k⟩
 ·exact .inr (.inl ⟨h,WU.1 k⟩)
 ·exact .inr (.inr ⟨h,WV.1 k⟩)
theorem Qc(x y:Rat):kF x*kF y<0↔x*y<0:=by
 rcases rK x with⟨h,hx⟩ | ⟨h,hx⟩ | ⟨h,hx⟩ <;> rcases rK y with⟨k,hy⟩ | ⟨k,hy⟩ | ⟨k,hy⟩ <;> rw[h,k]
 ·rw[hx];exact⟨fun c=>absurd c (by decide),fun c=>absurd c (by grind)⟩
 ·rw[hx];exact⟨fun c=>absurd c (by decide),fun c=>absurd c (by grind)⟩
 ·rw[hx];exact⟨fun c=>absurd c (by decide),fun c=>absurd c (by grind)⟩
 ·rw[hy];exact⟨fun c=>absurd c (by decide),fun c=>absurd c (by grind)⟩
 ·exact⟨fun c=>absurd c (by decide),fun c=>absurd c (by have:=Rat.mul_pos (show 0 < -x by grind) (show 0 < -y by grind);grind)⟩
 ·exact⟨fun _=>by have:=neg_mul hy hx;grind,fun _=>by decide⟩
 ·rw[hy];exact⟨fun c=>absurd c (by decide),fun c=>absurd c (by grind)⟩
 ·exact⟨fun _=>neg_mul hx hy,fun _=>by decide⟩
 ·exact⟨fun c=>absurd c (by decide),fun c=>absurd c (by have:=Rat.mul_pos hx hy;grind)⟩
theorem Rw(x y:Rat):decide (kF x*kF y<0)=bP (x*y<0):=by rw[B5];exact jG (Qc x y)
section
variable {a b c d:Z} (h1:Se a b) (h2:Se c d) (hb:Sp b) (hd:Sp d)
include h1 h2 hb hd
theorem Ll:pD (lit a b (lit c d ()))=some (bP (kJ (cq a) (cq b) (cq c) (cq d)),()):=by
 have e1:=Di h1 h2.1
 have e2:=Di h1 hd
 have e3:=Di h2 h1.1
 have e4:=Di h2 hb
 have f1:=W8 h1 h2.1
 have f2:=W8 h1 hd
 have f3:=W8 h2 h1.1
 have f4:=W8 h2 hb
 unfold pD
 simp -implicitDefEqProofs only[e1,e2,e3,e4,f1,f2,f3,f4,aY,aF,eI,W9,Rw]
 unfold kJ
 rw[vY,vY,vY,vY,B6]
 generalize bP (On (cq a) (cq b) (cq c))=b1
 generalize bP (On (cq a) (cq b) (cq d))=b2
 generalize bP (On (cq c) (cq d) (cq a))=b3
 generalize bP (On (cq c) (cq d) (cq b))=b4
 generalize bP (cr (cq a) (cq b) (cq c)*cr (cq a) (cq b) (cq d)<0)=b5
 generalize bP (cr (cq c) (cq d) (cq a)*cr (cq c) (cq d) (cq b)<0)=b6
 cases b1 <;> cases b2 <;> cases b3 <;> cases b4 <;> cases b5 <;> rfl
theorem Lm:tQ (lit a b (lit c d ()))=some (bP (kJ (cq a) (cq b) (cq c) (cq d)),()):=by
 have e1:=RG h1 h2.1
 have e2:=RG h1 hd
 have e3:=RG h2 h1.1
 have e4:=RG h2 hb
 have f1:=Dj h1 h2.1
 have f2:=Dj h1 hd
 have f3:=Dj h2 h1.1
 have f4:=Dj h2 hb
 unfold tQ
 simp -implicitDefEqProofs only[e1,e2,e3,e4,f1,f2,f3,f4,aY,aF,eI,W9,Rw]
 unfold kJ
 rw[vY,vY,vY,vY,B6]
 generalize bP (On (cq a) (cq b) (cq c))=b1
 generalize bP (On (cq a) (cq b) (cq d))=b2
 generalize bP (On (cq c) (cq d) (cq a))=b3
 generalize bP (On (cq c) (cq d) (cq b))=b4
 generalize bP (cr (cq a) (cq b) (cq c)*cr (cq a) (cq b) (cq d)<0)=b5
 generalize bP (cr (cq c) (cq d) (cq a)*cr (cq c) (cq d) (cq b)<0)=b6
 cases b1 <;> cases b2 <;> cases b3 <;> cases b4 <;> cases b5 <;> rfl
end
end Go.Eng.Rt
namespace Go.Eng.Rt
open Go.Eng Go.Eng.Tw Go.Eng.Tm Go.Eng.Tg
theorem CT{S E:Type}{F:S→Option (S⊕E)}(st:Nat→S)(n:Nat)(bad:Nat→Prop)(hit out:E)(h1:∀k,k<n→bad k→F (st k)=some (.inr hit))(h2:∀k,k<n→¬bad k→F (st k)=some (.inl (st (k+1))))
 (h3:∀k,n≤k→F (st k)=some (.inr out)):∀(d k:Nat),n≤k+d→aH F (st k)=some (bif bP (∃j,k≤j∧j<n∧bad j) then hit else out)
 | 0,k,h=>by
  rw[aQ (h3 k (by omega)),gU (by rintro ⟨j,a,b,_⟩;omega)];rfl
 | d+1,k,h=>by
  by_cases hk:k<n
  ·by_cases hb:bad k
   ·rw[aQ (h1 k hk hb),jO ⟨k,Nat.le_refl _,hk,hb⟩];rfl
   ·rw[dN (h2 k hk hb),CT st n bad hit out h1 h2 h3 d (k+1) (by omega)]
    have:(∃j,k+1≤j∧j<n∧bad j)↔∃j,k≤j∧j<n∧bad j:=by
     constructor
     ·rintro ⟨j,a,b,c⟩;exact⟨j,by omega,b,c⟩
     ·rintro ⟨j,a,b,c⟩
      refine⟨j,?_,b,c⟩
      by_cases e:j=k
      ·subst e;exact absurd c hb
      ·omega
    rw[jG this]
  ·rw[aQ (h3 k (by omega)),gU (by rintro ⟨j,a,b,_⟩;omega)];rfl
theorem IC{p q:Z}(h:cq p=cq q):p=q:=Prod.ext (Rat.intCast_inj.1 (congrArg Prod.fst h)) (Rat.intCast_inj.1 (congrArg Prod.snd h))
theorem Z1{l:List Z}{i:Nat}(h:i<l.length):aN l i=tI l i:=by unfold aN tI;rw[Nat.mod_eq_of_lt h];rfl
theorem T8{l:List Z}{i:Nat}(h:i<l.length):aN l (i+1)=tI l ((i+1)%l.length):=by unfold aN tI;rfl
theorem DT{l:List Z}(h:0<l.length)(i:Nat):aN l i∈l∧l[i%l.length]?=some (aN l i):=by
 have hl:=Nat.mod_lt i h
 have:=EX hl
 have e:tI l (i%l.length)=aN l i:=rfl
 rw[e] at this
 exact⟨this.2,this.1⟩
theorem nQ{l:List Z}(hB:Bx l)(h:0<l.length)(i:Nat):Sp (aN l i):=hB.2.1 _ (DT h i).1
theorem zS{l:List Z}(hB:Bx l)(h:0<l.length)(i j:Nat):Se (aN l i) (aN l j):=⟨nQ hB h i,hB.2.2 _ (DT h i).1 _ (DT h j).1⟩
theorem GX{l:List Z}(hB:Bx l){i:Nat}(hi:i<l.length):dH (l.map wT,(i:Int),())=some (lit (aN l i) (aN l (i+1)) ()):=by
 have h0:0<l.length:=by omega
 refine ZW (by have:=hB.1;omega) hi ?_ (DT h0 (i+1)).2
 have:=(DT h0 i).2
 rwa[Nat.mod_eq_of_lt hi] at this
theorem OC{n m:Int}:(aM (n:Rat)=aM (m:Rat)∧aU (n:Rat)=aU (m:Rat))↔n=m:=by
 constructor
 ·rintro ⟨h1,h2⟩
  have h3:(n:Rat).num.natAbs=(m:Rat).num.natAbs:=H6 (TO h2)
  exact Rat.intCast_inj.1 (Ck h1 h3 (by rw[Rat.den_intCast,Rat.den_intCast]))
 ·rintro rfl;exact⟨rfl,rfl⟩
theorem B7(n:Int):bA (n:Rat)=[]:=by unfold bA;rw[Rat.den_intCast];exact if_pos rfl
theorem Dk{n m:Int}(hn:n.natAbs<1000000):lC (aM (n:Rat),aU (n:Rat),bA (n:Rat),aM (m:Rat),aU (m:Rat),bA (m:Rat),())=some (decide (n=m),()):=by
 have hl:(aW n.natAbs).length<LM:=(zA (n:=n) (by omega)).fit.1 |> fun h=>by rw[Rat.num_intCast] at h;exact h
 have e1:aK (aU (n:Rat),aU (m:Rat),())=some (decide (aW n.natAbs=aW m.natAbs),()):=by
  have:=TW (a:=aW n.natAbs) (b:=aW m.natAbs) hl
  show aK (dD (aW (n:Rat).num.natAbs),dD (aW (m:Rat).num.natAbs),())=_
  rw[Rat.num_intCast,Rat.num_intCast];exact this
 have e2:aK (([]:List T),([]:List T),())=some (true,()):=by
  have:=TW (a:=[]) (b:=[]) (by decide)
  exact this
 unfold lC
 rw[B7,B7]
 simp only[e1,e2,aY,yO]
 have hnum:aU (n:Rat)=aU (m:Rat)↔aW n.natAbs=aW m.natAbs:=by
  constructor
  ·intro h
   have:=TO h
   rw[Rat.num_intCast,Rat.num_intCast] at this
   exact this
  ·intro h
   show dD (aW (n:Rat).num.natAbs)=dD (aW (m:Rat).num.natAbs)
   rw[Rat.num_intCast,Rat.num_intCast,h]
 by_cases h1:aM (n:Rat)=aM (m:Rat)
 ·rw[h1]
  simp only[beq_self_eq_true,cond_true]
  by_cases h2:aW n.natAbs=aW m.natAbs
  ·rw[decide_eq_true h2,decide_eq_true (OC.1 ⟨h1,hnum.2 h2⟩)];rfl
  ·rw[decide_eq_false h2,decide_eq_false (fun e=>h2 (hnum.1 (OC.2 e).2))];rfl
 ·have:(aM (n:Rat)==aM (m:Rat))=false:=by simpa using h1
  rw[this,decide_eq_false (fun e=>h1 (OC.2 e).1)];rfl
section
variable {a b c:Z} (h1:Se a b) (h2:Se b c) (hc:Sp c)
include h1 h2 hc
theorem Ln:lM (lit a b (pt c))=some (bP (KN (cq a) (cq b) (cq c)),()):=by
 have ha:=h1.1
 have hb:=h2.1
 have sa1:=fK ha.1 (by decide)
 have sa2:=fK ha.2 (by decide)
 have sb1:=fK hb.1 (by decide)
 have sb2:=fK hb.2 (by decide)
 have sc1:=fK hc.1 (by decide)
 have sc2:=fK hc.2 (by decide)
 have q1:=T2 sa1 sa2 DR sb1 sb2 DR
 have q2:=T2 sc1 sc2 DR sb1 sb2 DR
 obtain⟨_,b1,b2⟩:=h1
 obtain⟨_,b3,b4⟩:=h2
 have n1:(a.1:Rat)-b.1=((a.1-b.1:Int):Rat):=(Rat.intCast_sub ..).symm
 have n2:(a.2:Rat)-b.2=((a.2-b.2:Int):Rat):=(Rat.intCast_sub ..).symm
 have n3:(c.1:Rat)-b.1=((c.1-b.1:Int):Rat):=(Rat.intCast_sub ..).symm
 have n4:(c.2:Rat)-b.2=((c.2-b.2:Int):Rat):=(Rat.intCast_sub ..).symm
 have d1:Sm ((a.1-b.1:Int):Rat):=fK (k:=20) (by omega) (by decide)
 have d2:Sm ((a.2-b.2:Int):Rat):=fK (k:=20) (by omega) (by decide)
 have d3:Sm ((c.1-b.1:Int):Rat):=fK (k:=20) (by omega) (by decide)
 have d4:Sm ((c.2-b.2:Int):Rat):=fK (k:=20) (by omega) (by decide)
 rw[n1,n2,Rat.sub_self,z3,z3] at q1
 rw[n3,n4,Rat.sub_self,z3,z3] at q2
 have m1:=DO d1 d3
 have m2:=DO d2 d4
 rw[←Rat.intCast_mul] at m1 m2
 have k1:((a.1-b.1)*(c.1-b.1)).natAbs≤400:=by rw[Int.natAbs_mul];exact Nat.mul_le_mul (show (a.1-b.1).natAbs≤20 by omega) (show (c.1-b.1).natAbs≤20 by omega)
 have k2:((a.2-b.2)*(c.2-b.2)).natAbs≤400:=by rw[Int.natAbs_mul];exact Nat.mul_le_mul (show (a.2-b.2).natAbs≤20 by omega) (show (c.2-b.2).natAbs≤20 by omega)
 have s1:Sm (((a.1-b.1)*(c.1-b.1):Int):Rat):=fK k1 (by decide)
 have s2:Sm (((a.2-b.2)*(c.2-b.2):Int):Rat):=fK k2 (by decide)
 have a1:=WR s1 s2
 rw[←Rat.intCast_add] at a1
 have s3:Sm (((a.1-b.1)*(c.1-b.1)+(a.2-b.2)*(c.2-b.2):Int):Rat):=fK (k:=800) (by omega) (by decide)
 have g1:=BX s3.fit
 have o1:=W8 (a:=a) (b:=b) ⟨ha,b1,b2⟩ hc
 unfold lM
 simp -implicitDefEqProofs only[q1,q2,m1,m2,a1,g1,o1,aY,aR,aF]
 have hf:KN (cq a) (cq b) (cq c)↔kF (cr (cq a) (cq b) (cq c))=0∧0<kF (((a.1-b.1)*(c.1-b.1)+(a.2-b.2)*(c.2-b.2):Int):Rat):=by
  unfold KN
  have e:((cq a).1-(cq b).1)*((cq c).1-(cq b).1)+((cq a).2-(cq b).2)*((cq c).2-(cq b).2)=(((a.1-b.1)*(c.1-b.1)+(a.2-b.2)*(c.2-b.2):Int):Rat):=by
   unfold cq;dsimp only;rw[Rat.intCast_add,Rat.intCast_mul,Rat.intCast_mul,n1.symm,n2.symm,n3.symm,n4.symm]
  rw[e,GU]
  refine and_congr Iff.rfl ?_
  rcases rK (((a.1-b.1)*(c.1-b.1)+(a.2-b.2)*(c.2-b.2):Int):Rat) with⟨h,k⟩ | ⟨h,k⟩ | ⟨h,k⟩
  ·rw[h,k];exact⟨fun c=>absurd c (by decide),fun c=>absurd c (by decide)⟩
  ·rw[h];exact⟨fun c=>absurd c (by grind),fun c=>absurd c (by decide)⟩
  ·rw[h];exact⟨fun _=>by decide,fun _=>k⟩
 rw[jG hf,B6,B5,B5]
 generalize bP (kF (cr (cq a) (cq b) (cq c))=0)=x
 generalize bP (0<kF (((a.1-b.1)*(c.1-b.1)+(a.2-b.2)*(c.2-b.2):Int):Rat))=y
 cases x <;> cases y <;> rfl
end
def eQ(l:List Z)(i j:Nat):Prop:=kJ (cq (aN l i)) (cq (aN l (i+1))) (cq (aN l j)) (cq (aN l (j+1)))
def T9(l:List Z)(i:Nat):Prop:=∃j,i+2≤j∧j<(if 0<i then l.length else l.length-1)∧eQ l i j
def ID(l:List Z)(i:Nat):Prop:=aN l i=aN l (i+1)∨KN (cq (aN l i)) (cq (aN l (i+1))) (cq (aN l (i+2)))∨T9 l i
def SI(l:List Z)(i j:Nat):List T×Int×Unit×Unit×Int×Int×Int×Bool×List T×List T×Bool×List T×List T×Bool×List T×List T×Bool×List T×List T×Bool×List T×List T×Bool×List T×List T×Unit:=(l.map wT,(i:Int),(),(),(j:Int),(l.length:Int),(i:Int),lit (aN l i) (aN l (i+1)) ())
section
variable {l:List Z} (hB:Bx l)
include hB
theorem Hc{i:Nat}(hi:i<l.length)(k:Nat):aH gK (SI l i k)=some (bif bP (∃j,k≤j∧j<(if 0<i then l.length else l.length-1)∧eQ l i j) then .inl (false,()) else .inr (.inl (l.map wT,(l.length:Int),(i:Int),()))):=by
 have h0:0<l.length:=by omega
 have hle:=hB.1
 have hn:(if 0<i then l.length else l.length-1)≤l.length:=by split <;> omega
 have hlen:lenL (l.map wT)=(l.length:Int):=by rw[aL,List.length_map]
 have key:∀j,j<(if 0<i then l.length else l.length-1)→gK (SI l i j)=some (bif bP (eQ l i j) then .inr (.inl (false,())) else .inl (SI l i (j+1))):=fun j hj=>by
  have hjl:j<l.length:=by omega
  have e1:=GX hB hjl
  have m:=Ll (zS hB h0 i (i+1)) (zS hB h0 j (j+1)) (nQ hB h0 (i+1)) (nQ hB h0 (j+1))
  have wj:wr .i64 ((j:Int)+1)=((j+1:Nat):Int):=by rw[dK (by omega) (by omega)];push_cast;rfl
  have wn:wr .i64 ((l.length:Int)-1)=((l.length-1:Nat):Int):=by rw[dK (by omega) (by omega)];omega
  have d1:decide ((j:Int)<(l.length:Int))=true:=decide_eq_true (by omega)
  have hm:bP (eQ l i j)=bP (kJ (cq (aN l i)) (cq (aN l (i+1))) (cq (aN l j)) (cq (aN l (j+1)))):=rfl
  unfold gK SI
  by_cases hi0:0<i
  ·have d2:decide ((0:Int)<(i:Int))=true:=decide_eq_true (by omega)
   simp -implicitDefEqProofs only[aF,hlen,d1,d2,cond_true,e1,aY,m,wj,aO,hm]
   cases bP (kJ (cq (aN l i)) (cq (aN l (i+1))) (cq (aN l j)) (cq (aN l (j+1)))) <;> rfl
  ·have d2:decide ((0:Int)<(i:Int))=false:=decide_eq_false (by omega)
   rw[if_neg hi0] at hj
   have d3:decide ((j:Int)<((l.length-1:Nat):Int))=true:=decide_eq_true (by omega)
   simp -implicitDefEqProofs only[aF,hlen,d1,d2,d3,cond_true,cond_false,e1,aY,m,wj,wn,aO,bK,hm]
   cases bP (kJ (cq (aN l i)) (cq (aN l (i+1))) (cq (aN l j)) (cq (aN l (j+1)))) <;> rfl
 refine CT (SI l i) (if 0<i then l.length else l.length-1) (eQ l i) _ _ (fun j hj hb=>by rw[key j hj,jO hb];rfl) (fun j hj hb=>by rw[key j hj,gU hb];rfl) (fun j hj=>?_) l.length k (by omega)
 have wn:wr .i64 ((l.length:Int)-1)=((l.length-1:Nat):Int):=by rw[dK (by omega) (by omega)];omega
 unfold gK SI
 by_cases hjl:j<l.length
 ·have d1:decide ((j:Int)<(l.length:Int))=true:=decide_eq_true (by omega)
  by_cases hi0:0<i
  ·rw[if_pos hi0] at hj;omega
  ·rw[if_neg hi0] at hj
   have d2:decide ((0:Int)<(i:Int))=false:=decide_eq_false (by omega)
   have d3:decide ((j:Int)<((l.length-1:Nat):Int))=false:=decide_eq_false (by omega)
   simp -implicitDefEqProofs only[aF,hlen,d1,d2,d3,cond_true,cond_false,wn,bK]
 ·have d1:decide ((j:Int)<(l.length:Int))=false:=decide_eq_false (by omega)
  simp -implicitDefEqProofs only[aF,hlen,d1,cond_false]
theorem Lo:rR (l.map wT,())=some (bP (3≤l.length∧¬∃i,i<l.length∧ID l i),()):=by
 have hle:=hB.1
 have hlen:lenL (l.map wT)=(l.length:Int):=by rw[aL,List.length_map]
 unfold rR
 simp only[hlen,aF]
 by_cases h3:l.length<3
 ·rw[decide_eq_true (by omega:(l.length:Int)<3),gU (by omega)];rfl
 ·rw[decide_eq_false (by omega:¬(l.length:Int)<3),cond_false]
  have h0:0<l.length:=by omega
  have key:∀i,i<l.length→gL (l.map wT,(l.length:Int),(i:Int),())=some (bif bP (ID l i) then .inr (.inl (false,())) else .inl (l.map wT,(l.length:Int),((i+1:Nat):Int),())):=fun i hi=>by
   have e1:=GX hB hi
   have hi1:(i+1)%l.length<l.length:=Nat.mod_lt _ h0
   have e2:=GX hB hi1
   have a1:aN l ((i+1)%l.length)=aN l (i+1):=by unfold aN;rw[Nat.mod_mod]
   have a2:aN l ((i+1)%l.length+1)=aN l (i+2):=by unfold aN;rw[Nat.mod_add_mod]
   rw[a1,a2] at e2
   have wi:wr .i64 ((i:Int)+1)=((i+1:Nat):Int):=by rw[dK (by omega) (by omega)];push_cast;rfl
   have wi2:wr .i64 ((i:Int)+2)=((i+2:Nat):Int):=by rw[dK (by omega) (by omega)];push_cast;rfl
   have hnz:nz (l.length:Int)=some (l.length:Int):=by unfold nz;rw[if_neg (by omega)]
   have hmod:((i+1:Nat):Int).tmod (l.length:Int)=(((i+1)%l.length:Nat):Int):=rfl
   have d1:decide ((i:Int)<(l.length:Int))=true:=decide_eq_true (by omega)
   have sp:=nQ hB h0
   have s1:=Dk (n:=(aN l i).1) (m:=(aN l (i+1)).1) (by have:=(sp i).1;omega)
   have s2:=Dk (n:=(aN l i).2) (m:=(aN l (i+1)).2) (by have:=(sp i).2;omega)
   have f:=Ln (zS hB h0 i (i+1)) (zS hB h0 (i+1) (i+2)) (sp (i+2))
   have lp:=Hc hB hi (i+2)
   unfold SI at lp
   have hbj:bP (T9 l i)=bP (∃j,i+2≤j∧j<(if 0<i then l.length else l.length-1)∧eQ l i j):=rfl
   rw[←hbj] at lp
   unfold gL
   simp -implicitDefEqProofs only[aF,d1,cond_true,e1,aY,s1,s2,hlen,hnz,wi,wi2,aO,oD,hmod,e2,f,lp]
   have hB':bP (ID l i)=(bP (aN l i=aN l (i+1))||(bP (KN (cq (aN l i)) (cq (aN l (i+1))) (cq (aN l (i+2))))||bP (T9 l i))):=by unfold ID;rw[vY,vY]
   have hE:bP (aN l i=aN l (i+1))=(decide ((aN l i).1=(aN l (i+1)).1)&&decide ((aN l i).2=(aN l (i+1)).2)):=by
    rw[B5,B5,←B6]
    exact jG ⟨fun h=>by rw[h];exact⟨rfl,rfl⟩,fun h=>Prod.ext h.1 h.2⟩
   rw[hB',hE]
   generalize decide ((aN l i).1=(aN l (i+1)).1)=x1
   generalize decide ((aN l i).2=(aN l (i+1)).2)=x2
   generalize bP (KN (cq (aN l i)) (cq (aN l (i+1))) (cq (aN l (i+2))))=x3
   generalize bP (T9 l i)=x4
   cases x1 <;> cases x2 <;> cases x3 <;> cases x4 <;> simp -implicitDefEqProofs only[cond_true,cond_false,aY,aP,sB,Bool.or_true,Bool.or_false,Bool.true_or,Bool.false_or,Bool.and_true,Bool.and_false,Bool.true_and,Bool.false_and,wi]
  have:=CT (F:=gL) (fun i=>(l.map wT,(l.length:Int),(i:Int),())) l.length (ID l) (.inl (false,())) (.inr (.inl ())) (fun i hi hb=>by rw[key i hi,jO hb];rfl) (fun i hi hb=>by rw[key i hi,gU hb];rfl) (fun i hi=>by
   unfold gL
   simp only[aF,decide_eq_false (by omega:¬(i:Int)<(l.length:Int)),cond_false]) l.length 0 (by omega)
  have:aH gL (l.map wT,(l.length:Int),(0:Int),())=_:=this
  rw[this]
  have hb:bP (3≤l.length∧¬∃i,i<l.length∧ID l i)=!(bP (∃j,0≤j∧j<l.length∧ID l j)):=by
   rw[←IB]
   refine jG ⟨fun h c=>h.2 (c.imp fun j hj=>hj.2),fun h=>⟨by omega,fun c=>h (c.imp fun j hj=>⟨Nat.zero_le _,hj⟩)⟩⟩
  rw[hb]
  generalize bP (∃j,0≤j∧j<l.length∧ID l j)=x
  cases x <;> rfl
end
end Go.Eng.Rt
namespace Go.Eng.Rt
open Go.Eng Go.Eng.Tw Go.Eng.Tm Go.Eng.Tg
theorem eR{S E:Type}{F:S→Option (S⊕E)}(st:Nat→S)(n:Nat)(bad:Nat→Prop)(hit out:E)(h1:∀k,k<n→bad k→F (st k)=some (.inr hit))(h2:∀k,k<n→¬bad k→F (st k)=some (.inl (st (k+1))))
 (h3:F (st n)=some (.inr out)):∀(d k:Nat),k+d=n→aH F (st k)=some (bif bP (∃j,k≤j∧j<n∧bad j) then hit else out)
 | 0,k,h=>by
  have:k=n:=by omega
  subst this
  rw[aQ h3,gU (by rintro ⟨j,a,b,_⟩;omega)];rfl
 | d+1,k,h=>by
  by_cases hb:bad k
  ·rw[aQ (h1 k (by omega) hb),jO ⟨k,Nat.le_refl _,by omega,hb⟩];rfl
  ·rw[dN (h2 k (by omega) hb),eR st n bad hit out h1 h2 h3 d (k+1) (by omega)]
   have:(∃j,k+1≤j∧j<n∧bad j)↔∃j,k≤j∧j<n∧bad j:=by
    constructor
    ·rintro ⟨j,a,b,c⟩;exact⟨j,by omega,b,c⟩
    ·rintro ⟨j,a,b,c⟩
     refine⟨j,?_,b,c⟩
     by_cases e:j=k
     ·subst e;exact absurd c hb
     ·omega
   rw[jG this]
def qs(l:List Z):List Q:=l.map cq
theorem kX(l:List Z):(qs l).length=l.length:=List.length_map ..
theorem mX{l:List Z}(h:0<l.length)(i:Nat):aN (qs l) i=cq (aN l i):=wV cq h i
theorem B8{l:List Z}{e:Ed}:e∈fV (qs l)↔∃i,i<l.length∧e=(cq (aN l i),cq (aN l (i+1))):=by
 rw[qL,kX]
 refine exists_congr fun i=>and_congr_right fun hi=>?_
 have h0:0<l.length:=by omega
 have e1:(qs l).getD i default=cq (aN l i):=by rw[←mX h0];unfold aN;rw[kX,Nat.mod_eq_of_lt hi]
 have e2:(qs l).getD ((i+1)%l.length) default=cq (aN l (i+1)):=by rw[←mX h0];unfold aN;rw[kX]
 rw[e1,e2]
theorem Qd{l:List Z}:fV (qs l)=(List.range l.length).map fun i=>(cq (aN l i),cq (aN l (i+1))):=by
 unfold fV
 rw[kX]
 refine List.map_congr_left fun i hi=>?_
 have hi:=List.mem_range.1 hi
 have h0:0<l.length:=by omega
 have e1:(qs l).getD i default=cq (aN l i):=by rw[←mX h0];unfold aN;rw[kX,Nat.mod_eq_of_lt hi]
 have e2:(qs l).getD ((i+1)%l.length) default=cq (aN l (i+1)):=by rw[←mX h0];unfold aN;rw[kX]
 rw[e1,e2]
noncomputable def wE(l:List Z)(p:Q)(i:Nat):Int:=we p (cq (aN l i),cq (aN l (i+1)))
theorem OD(l:List Z)(p:Q):wd (fV (qs l)) p=lJ l.length (wE l p):=by
 unfold wd lJ
 rw[Qd,List.map_map]
 rfl
theorem Lq(p:Q)(e:Ed):-1≤we p e∧we p e≤1:=by
 unfold we
 split
 ·exact⟨by decide,by decide⟩
 ·split <;> exact⟨by decide,by decide⟩
theorem UA(f:Nat→Int)(h:∀i,-1≤f i∧f i≤1):∀n:Nat,-(n:Int)≤lJ n f∧lJ n f≤n
 | 0=>by
  have:lJ 0 f=0:=rfl
  rw[this];omega
 | n+1=>by
  have:=UA f h n
  have:=h n
  rw[gT];omega
theorem Lr(l:List Z)(p:Q):(wd (fV (qs l)) p).natAbs≤l.length:=by
 rw[OD]
 have:=UA (wE l p) (fun i=>Lq _ _) l.length
 omega
def Za(l:List Z)(p:Q)(i:Nat):Prop:=On (cq (aN l i)) (cq (aN l (i+1))) p
theorem Uj{l:List Z}{p:Q}:EZ (fV (qs l)) p↔∃j,0≤j∧j<l.length∧Za l p j:=by
 constructor
 ·rintro ⟨e,he,h⟩
  obtain⟨i,hi,rfl⟩:=B8.1 he
  exact⟨i,Nat.zero_le _,hi,h⟩
 ·rintro ⟨i,_,hi,h⟩
  exact⟨_,B8.2 ⟨i,hi,rfl⟩,h⟩
theorem Uk{a b p:Q}{n:Int}(hn:n.natAbs≤1000000):Xa (decide (lS a.2 p.2≤0)) (decide (lS b.2 p.2≤0)) (kF (cr a b p)) n=n+we p (a,b):=by
 have w1:wr .i64 (n+1)=n+1:=dK (by omega) (by omega)
 have w2:wr .i64 (n-1)=n-1:=dK (by omega) (by omega)
 unfold Xa we
 dsimp only
 by_cases ha:a.2≤p.2
 ·rw[decide_eq_true (qJ.2 ha)]
  by_cases hb:b.2≤p.2
  ·rw[decide_eq_true (qJ.2 hb),if_neg (by rintro ⟨_,h,_⟩;grind),if_neg (by rintro ⟨_,h,_⟩;grind)]
   show n=_;omega
  ·rw[decide_eq_false (fun c=>hb (qJ.1 c))]
   rcases rK (cr a b p) with⟨h,k⟩ | ⟨h,k⟩ | ⟨h,k⟩
   ·rw[h,if_neg (by rintro ⟨_,_,h⟩;grind),if_neg (by rintro ⟨_,h,_⟩;grind)];show n=_;omega
   ·rw[h,if_neg (by rintro ⟨_,_,h⟩;grind),if_neg (by rintro ⟨_,h,_⟩;grind)];show n=_;omega
   ·rw[h,if_pos ⟨ha,by grind,k⟩];show wr .i64 (n+1)=_;rw[w1]
 ·rw[decide_eq_false (fun c=>ha (qJ.1 c))]
  by_cases hb:b.2≤p.2
  ·rw[decide_eq_true (qJ.2 hb),if_neg (fun h=>ha h.1)]
   rcases rK (cr a b p) with⟨h,k⟩ | ⟨h,k⟩ | ⟨h,k⟩
   ·rw[h,if_neg (by rintro ⟨_,_,h⟩;grind)];show n=_;omega
   ·rw[h,if_pos ⟨hb,by grind,k⟩];show wr .i64 (n-1)=_;rw[w2];omega
   ·rw[h,if_neg (by rintro ⟨_,_,h⟩;grind)];show n=_;omega
  ·rw[decide_eq_false (fun c=>hb (qJ.1 c)),if_neg (fun h=>ha h.1),if_neg (fun h=>hb h.1)]
   show n=_;omega
section
variable {l:List Z} (hB:Bx l) {D:Nat} {px py pz:Rat}
include hB
theorem Ul{i:Nat}(hi:i<l.length):Xa (decide (lS ((tI l i).2:Rat) py≤0)) (decide (lS ((tI l ((i+1)%l.length)).2:Rat) py≤0)) (sE (tI l i) (tI l ((i+1)%l.length)) px py) (lJ i (wE l (px,py)))=lJ (i+1) (wE l (px,py)):=by
 have h1:=UA (wE l (px,py)) (fun i=>Lq _ _) i
 have hle:=hB.1
 rw[←Z1 hi,←T8 hi,gT]
 unfold sE
 rw[Qb]
 exact Uk (a:=cq (aN l i)) (b:=cq (aN l (i+1))) (p:=(px,py)) (by omega)
omit hB in
theorem Rx{i:Nat}(hi:i<l.length):Hl (((tI l ((i+1)%l.length)).1-(tI l i).1:Int):Rat) (((tI l ((i+1)%l.length)).2-(tI l i).2:Int):Rat) (px-(tI l i).1) (py-(tI l i).2)=bP (Za l (px,py) i):=by
 rw[←Z1 hi,←T8 hi,Ui];rfl
theorem Ls(hp:Pp D 32 px py pz):jZ (l.map wT,c3 px (c3 py (c3 pz ())))=some (bif bP (EZ (fV (qs l)) (px,py)) then (0,false,()) else (wd (fV (qs l)) (px,py),true,())):=by
 have hpl:((l.map wT).length:Int)=(l.length:Int):=by rw[List.length_map]
 have h:=eR (F:=fQ) (fun i=>PS l px py pz i (lJ i (wE l (px,py)))) l.length (Za l (px,py)) (.inl (0,false,())) (.inr (.inl (wd (fV (qs l)) (px,py),())))
  (fun i hi hb=>by rw[Rn hB hi _ hp,Rx hi,jO hb];rfl)
  (fun i hi hb=>by rw[Rn hB hi _ hp,Rx hi,gU hb,Ul hB hi];rfl)
  (by
   unfold fQ PS
   rw[OD]
   simp only[aF,decide_eq_false (by omega:¬(l.length:Int)<(l.length:Int)),cond_false]) l.length 0 (by omega)
 have h:aH fQ (l.map wT,(),(0:Int),(l.length:Int),(0:Int),c3 px (c3 py (c3 pz ())))=_:=h
 rw[←jG Uj] at h
 unfold jZ
 simp only[aL,hpl]
 rw[h]
 generalize bP (EZ (fV (qs l)) (px,py))=b
 cases b <;> rfl
end
theorem Qe{l:List Z}(hB:Bx l){p:Z}(hp:Sp p):jZ (l.map wT,pt p)=some (bif bP (EZ (fV (qs l)) (cq p)) then (0,false,()) else (wd (fV (qs l)) (cq p),true,())):=by
 have:=Ls hB (W7 hp).up;rw[W6] at this;exact this
def Mt(l m:List Z)(i j:Nat):Prop:=kJ (cq (aN l i)) (cq (aN l (i+1))) (cq (aN m j)) (cq (aN m (j+1)))
def Um(l m:List Z)(i:Nat):Prop:=∃j,0≤j∧j<m.length∧Mt l m i j
def RH(l m:List Z):Prop:=∃i,0≤i∧i<l.length∧Um l m i
theorem IE{l m:List Z}:¬RH l m↔Apart (fV (qs l)) (fV (qs m)):=by
 constructor
 ·intro h e he f hf hm
  obtain⟨i,hi,rfl⟩:=B8.1 he
  obtain⟨j,hj,rfl⟩:=B8.1 hf
  exact h ⟨i,Nat.zero_le _,hi,j,Nat.zero_le _,hj,hm⟩
 ·rintro h ⟨i,_,hi,j,_,hj,hm⟩
  exact h _ (B8.2 ⟨i,hi,rfl⟩) _ (B8.2 ⟨j,hj,rfl⟩) hm
section
variable {l m:List Z} (hl:Bx l) (hm:Bx m)
include hl hm
theorem Qf:tP (l.map wT,m.map wT,())=some (!(bP (RH l m)),()):=by
 have b1:=hl.1
 have b2:=hm.1
 have h1:lenL (l.map wT)=(l.length:Int):=by rw[aL,List.length_map]
 have h2:lenL (m.map wT)=(m.length:Int):=by rw[aL,List.length_map]
 have inn:∀i,i<l.length→aH iO (l.map wT,m.map wT,(i:Int),(l.length:Int),(i:Int),(m.length:Int),(0:Int),())=some (bif bP (Um l m i) then .inl (false,()) else .inr (.inl (l.map wT,m.map wT,(l.length:Int),(i:Int),()))):=fun i hi=>by
  have key:∀j,j<m.length→iO (l.map wT,m.map wT,(i:Int),(l.length:Int),(i:Int),(m.length:Int),(j:Int),())=some (bif bP (Mt l m i j) then .inr (.inl (false,())) else .inl (l.map wT,m.map wT,(i:Int),(l.length:Int),(i:Int),(m.length:Int),((j+1:Nat):Int),())):=fun j hj=>by
   have e1:=GX hl hi
   have e2:=GX hm hj
   have mt:=Ll (zS hl (by omega) i (i+1)) (zS hm (by omega) j (j+1)) (nQ hl (by omega) (i+1)) (nQ hm (by omega) (j+1))
   have wj:wr .i64 ((j:Int)+1)=((j+1:Nat):Int):=by rw[dK (by omega) (by omega)];push_cast;rfl
   have hb:bP (Mt l m i j)=bP (kJ (cq (aN l i)) (cq (aN l (i+1))) (cq (aN m j)) (cq (aN m (j+1)))):=rfl
   unfold iO
   simp -implicitDefEqProofs only[aF,decide_eq_true (by omega:(j:Int)<(m.length:Int)),cond_true,e1,e2,aY,mt,wj,aO,hb]
   generalize bP (kJ (cq (aN l i)) (cq (aN l (i+1))) (cq (aN m j)) (cq (aN m (j+1))))=b
   cases b <;> rfl
  exact eR (F:=iO) (fun j=>(l.map wT,m.map wT,(i:Int),(l.length:Int),(i:Int),(m.length:Int),(j:Int),())) m.length (Mt l m i) _ _ (fun j hj hb=>by rw[key j hj,jO hb];rfl) (fun j hj hb=>by rw[key j hj,gU hb];rfl) (by
   unfold iO
   simp only[aF,decide_eq_false (by omega:¬(m.length:Int)<(m.length:Int)),cond_false]) m.length 0 (by omega)
 have out:=eR (F:=iP) (fun i=>(l.map wT,m.map wT,(l.length:Int),(i:Int),())) l.length (Um l m) (.inl (false,())) (.inr (.inl ()))
  (fun i hi hb=>by
   unfold iP
   simp only[aF,decide_eq_true (by omega:(i:Int)<(l.length:Int)),cond_true,h2,inn i hi,jO hb,aY,aP])
  (fun i hi hb=>by
   have wi:wr .i64 ((i:Int)+1)=((i+1:Nat):Int):=by rw[dK (by omega) (by omega)];push_cast;rfl
   unfold iP
   simp only[aF,decide_eq_true (by omega:(i:Int)<(l.length:Int)),cond_true,h2,inn i hi,gU hb,cond_false,aY,aP,sB,aO,wi])
  (by
   unfold iP
   simp only[aF,decide_eq_false (by omega:¬(l.length:Int)<(l.length:Int)),cond_false]) l.length 0 (by omega)
 have out:aH iP (l.map wT,m.map wT,(l.length:Int),(0:Int),())=_:=out
 unfold tP
 simp only[h1]
 rw[out]
 have hb:bP (∃j,0≤j∧j<l.length∧Um l m j)=bP (RH l m):=rfl
 rw[hb]
 generalize bP (RH l m)=b
 cases b <;> rfl
end
end Go.Eng.Rt
namespace Go.Eng
theorem Dl(a:Int){b:Int}(h:0<b):-b<a.tmod b:=by
 rcases Int.lt_or_le a 0 with ha | ha
 ·have h1:(-(-a)).tmod b=-((-a).tmod b):=Int.neg_tmod (-a) b
  rw[Int.neg_neg] at h1
  have h2:(-a).tmod b<b:=by rw[Int.tmod_eq_emod_of_nonneg (by omega)];exact Int.emod_lt_of_pos _ h
  omega
 ·have:0≤a.tmod b:=by rw[Int.tmod_eq_emod_of_nonneg ha];exact Int.emod_nonneg _ (by omega)
  omega
theorem Dm(a:Int){b:Int}(h:0<b):a.tmod b<b:=by
 rcases Int.lt_or_le a 0 with ha | ha
 ·have h1:(-(-a)).tmod b=-((-a).tmod b):=Int.neg_tmod (-a) b
  rw[Int.neg_neg] at h1
  have h2:0≤(-a).tmod b:=by rw[Int.tmod_eq_emod_of_nonneg (by omega)];exact Int.emod_nonneg _ (by omega)
  omega
 ·rw[Int.tmod_eq_emod_of_nonneg ha];exact Int.emod_lt_of_pos _ h
def qP(a n:Int):Int:=if a.tmod n<0 then a.tmod n+n else a.tmod n
theorem K5(a:Int){n:Int}(h:0<n):0≤qP a n:=by
 unfold qP
 have:=Dl a h
 split <;> omega
theorem GY(a:Int){n:Int}(h:0<n):qP a n<n:=by
 unfold qP
 have:=Dm a h
 split <;> omega
theorem Dn(a:Int){n:Int}(h1:0<n)(h2:n≤4611686018427387904):cT (a,n,())=some (qP a n,()):=by
 unfold cT qP
 have:=Dl a h1
 have:=Dm a h1
 rw[VO (show n≠0 by omega)]
 simp only[aY,oD,aF,aO]
 by_cases h:a.tmod n<0
 ·rw[decide_eq_true h,if_pos h,sR (by omega) (by omega)];rfl
 ·rw[decide_eq_false h,if_neg h];rfl
def Lt(z:Int):T:=.v (.int .i64 z)
def kY(L:List T)(a:Int):Prop:=∃zs:List Int,L=zs.map Lt∧zs.length≤1000000∧0≤a∧a≤zs.length
theorem oS{L:List T}{a:Int}(h:kY L a){n:Int}(h1:0<n)(h2:n≤4611686018427387904):
 ∃v a',aD ((),n,L,a,())=some (v,L,a',())∧0≤v∧v<n∧kY L a':=by
 obtain⟨zs,rfl,hz,ha0,ha1⟩:=h
 unfold aD
 simp only[lP,aL,List.length_map,aO,bK]
 by_cases hc:(zs.length:Int)≤a
 ·rw[decide_eq_true hc]
  exact⟨0,a,rfl,Int.le_refl _,h1,zs,rfl,hz,ha0,ha1⟩
 ·rw[decide_eq_false hc]
  obtain⟨i,rfl⟩:=Int.eq_ofNat_of_zero_le ha0
  have hi:i<zs.length:=by omega
  rw[sR (n:=(i:Int)+1) (by omega) (by omega),sR (n:=(i:Int)+1-1) (by omega) (by omega),Int.add_sub_cancel,cK,List.getElem?_map,List.getElem?_eq_getElem hi]
  simp only[cond_false,Option.map_some,aY,Lt,Jb,We,Dn _ h1 h2]
  exact⟨_,_,rfl,K5 _ h1,GY _ h1,zs,rfl,hz,by omega,by omega⟩
theorem Do(L:List T):cV (L,())=some (decide (L.length≤500),()):=by
 unfold cV
 simp only[lP,aL]
 congr 2
 rw[Bool.eq_iff_iff];simp;omega
theorem Lu(L:List T):iE (L,())=some (L,0,()):=rfl
end Go.Eng
namespace Go.Eng.Rt
open Go.Eng Go.Eng.Tm
def DS(L:List T)(a x y r:Int)(turn:Bool)(i:Int)(l:List T):(Unit×Int×Int×Int×Unit×List T×Bool×Int×List T×Int×Int×Int×Int×Int×Int×Int×Int×Int×Int×Int×Int×Int×Int×Int×Int×Int×Unit):=
 ((),x,y,r,(),l,turn,i,L,a,2,0,2,1,1,2,-1,2,-2,0,-2,-1,0,-2,1,-1,())
def Zn(x y:Int)(ps:List (Int×Int)):Prop:=∀p∈ps,(p.1-x).natAbs≤10∧(p.2-y).natAbs≤10
end Go.Eng.Rt
namespace Go.Eng.Rt
open Go.Eng Go.Eng.Tw Go.Eng.Tm
theorem Lw{l:List (Int×Int)}(hl:∀p∈l,Tu p):(B2 l).natAbs≤20000*l.length:=by
 rw[←H9];exact EY hl (Nat.le_refl _)
end Go.Eng.Rt
namespace Go.Eng.Rt
open Go.Eng Go.Eng.Tm
theorem Un(a0 a1 a2 a3 a4 a5 a6 a7 a8 b0 b1 b2 b3 b4 b5 b6 b7 b8:T):T.upd 9 (.agg [a0,a1,a2,a3,a4,a5,a6,a7,a8]) 0 [b0,b1,b2,b3,b4,b5,b6,b7,b8]=.agg [b0,b1,b2,b3,b4,b5,b6,b7,b8]:=by
 unfold T.upd;rfl
theorem Do(L:List T):cV (L,())=some (decide (L.length≤500),()):=by
 unfold cV
 simp only[lP,aL]
 congr 2
 rw[Bool.eq_iff_iff];simp;omega
theorem Lu(L:List T):iE (L,())=some (L,0,()):=rfl
def lT(l:List (Int×Int)):T:=.sl 9 (l.map wT)
def KO(ls:List (List (Int×Int))):Prop:=∀l∈ls,Bx l
end Go.Eng.Rt
namespace Go.Eng.Rt
open Go.Eng Go.Eng.Tw Go.Eng.Tm
theorem B9{x y:Int}(hx:x.natAbs≤100)(hy:y.natAbs≤100):aI (x,y,())=some (aM (x:Rat),aU (x:Rat),bA (x:Rat),aM (y:Rat),aU (y:Rat),bA (y:Rat),false,[],[],()):=by
 unfold aI
 simp only[WT (n:=x) (by omega) (by omega),WT (n:=y) (by omega) (by omega),aY]
theorem UB(x y:Int):T.agg [T.v (.bool (aM (x:Rat))),.sl 1 (aU (x:Rat)),.sl 1 (bA (x:Rat)),.v (.bool (aM (y:Rat))),.sl 1 (aU (y:Rat)),.sl 1 (bA (y:Rat)),.v (.bool false),.sl 1 [],.sl 1 []]=wT (x,y):=rfl
theorem Uo(p:Int×Int)(x y:Int):T.upd 9 (wT p) 0 [.v (.bool (aM (x:Rat))),.sl 1 (aU (x:Rat)),.sl 1 (bA (x:Rat)),.v (.bool (aM (y:Rat))),.sl 1 (aU (y:Rat)),.sl 1 (bA (y:Rat)),.v (.bool false),.sl 1 [],.sl 1 []]=wT (x,y):=Un ..
theorem Lx(a b c d:T):lenL [a,b,c,d]=4:=by rw[aL];rfl
theorem Up:dO 4 3=some 3:=by unfold dO;rfl
theorem Uq:dO 4 1=some 1:=by unfold dO;rfl
theorem Zb(a b c d:T):fY [a,b,c,d] 3=some d:=by rw[pW];rfl
theorem Zc(a b c d:T):fY [a,b,c,d] 1=some b:=by rw[pW];rfl
theorem JM(a b c d x:T):[a,b,c,d].set 1 x=[a,x,c,d]:=rfl
theorem Ur(a b c d x:T):[a,b,c,d].set 3 x=[a,b,c,x]:=rfl
theorem w0(p:Int×Int):T.bool? (T.cell (wT p) 0)=some (aM (p.1:Rat)):=(cells p).1
theorem w1(p:Int×Int):T.sl? 1 (T.cell (wT p) 1)=some (aU (p.1:Rat)):=(cells p).2.1
theorem w2(p:Int×Int):T.sl? 1 (T.cell (wT p) 2)=some (bA (p.1:Rat)):=(cells p).2.2.1
theorem w3(p:Int×Int):T.bool? (T.cell (wT p) 3)=some (aM (p.2:Rat)):=(cells p).2.2.2.1
theorem w4(p:Int×Int):T.sl? 1 (T.cell (wT p) 4)=some (aU (p.2:Rat)):=(cells p).2.2.2.2.1
theorem w5(p:Int×Int):T.sl? 1 (T.cell (wT p) 5)=some (bA (p.2:Rat)):=(cells p).2.2.2.2.2.1
theorem w6(p:Int×Int):T.bool? (T.cell (wT p) 6)=some false:=(cells p).2.2.2.2.2.2.1
theorem w7(p:Int×Int):T.sl? 1 (T.cell (wT p) 7)=some []:=(cells p).2.2.2.2.2.2.2.1
theorem w8(p:Int×Int):T.sl? 1 (T.cell (wT p) 8)=some []:=(cells p).2.2.2.2.2.2.2.2
end Go.Eng.Rt
namespace Go.Eng.Rt
open Go.Eng Go.Eng.Tw Go.Eng.Tm Go.Eng.Tg
theorem UC{n:Nat}(hn:n<1000000)(h:n≠0):lm n=[eX n]:=rJ h (by unfold BB;omega)
theorem XA{n:Nat}(hn:n<1000000):iN (lm n,())=some (true,()):=by
 unfold iN
 by_cases h:n=0
 ·subst h;rw[kV];simp only[aL,List.length_nil,aR];rfl
 ·rw[UC hn h]
  have e:lenL [eX n]=1:=by rw[aL];rfl
  have w:wr .i64 ((1:Int)-1)=((0:Nat):Int):=by rw[dK (by decide) (by decide)];rfl
  have g:T.int? .u32 (T.cell (eX n) 0)=some (n:Int):=rfl
  simp only[e,aR,bK,w,cK]
  have hx:[eX n][0]?=some (eX n):=rfl
  simp only[hx,aY,g,decide_eq_false (show ¬(n:Int)=0 by omega)]
  rfl
theorem XC{n:Nat}(hn:n<1000000):oA (lm n,())=some (true,()):=by
 unfold oA
 by_cases h:n=0
 ·subst h;rw[kV];simp only[aL,List.length_nil,aR];rfl
 ·rw[UC hn h]
  have e:lenL [eX n]=1:=by rw[aL];rfl
  have w:wr .i64 ((1:Int)-1)=((0:Nat):Int):=by rw[dK (by decide) (by decide)];rfl
  have g:T.int? .u32 (T.cell (eX n) 0)=some (n:Int):=rfl
  simp only[e,aR,bK,w,cK]
  have hx:[eX n][0]?=some (eX n):=rfl
  simp only[hx,aY,g,decide_eq_false (show ¬(n:Int)=0 by omega)]
  rfl
theorem UD(n:Int):aU (n:Rat)=lm n.natAbs:=by unfold aU;rw[Rat.num_intCast]
theorem Ly{n:Int}(hn:n.natAbs<1000000):nK (aM (n:Rat),aU (n:Rat),bA (n:Rat),())=some (true,()):=by
 have e0:iN (([]:List T),())=some (true,()):=by have:=XA (n:=0) (by decide);rwa[kV] at this
 have l0:lenL ([]:List T)=0:=by rw[aL];rfl
 unfold nK
 rw[B7,UD]
 simp only[XA hn,e0,aY,Bool.not_true,cond_false,l0,aR]
 by_cases h:n=0
 ·subst h
  have:lenL (lm (0:Int).natAbs)=0:=by rw[show (0:Int).natAbs=0 from rfl,kV,l0]
  rw[this,show aM ((0:Int):Rat)=false from rfl];simp
 ·have:lenL (lm n.natAbs)≠0:=by rw[aL];intro c;exact h (by have:=vV.1 (by omega:(lm n.natAbs).length=0);omega)
  rw[decide_eq_false this];rfl
theorem OE{n:Int}(hn:n.natAbs<1000000):oB (aM (n:Rat),aU (n:Rat),bA (n:Rat),())=some (true,()):=by
 have e0:oA (([]:List T),())=some (true,()):=by have:=XC (n:=0) (by decide);rwa[kV] at this
 have l0:lenL ([]:List T)=0:=by rw[aL];rfl
 have hD:=Q8 (n:Rat)
 rw[B7,UD,Rat.den_intCast] at hD
 have hG:jB (lm n.natAbs,lm 1,())=some (lm 1,()):=by
  have:=Rk (a:=n.natAbs) (b:=1) (by unfold eB;omega) (by decide)
  rwa[Nat.gcd_one_right] at this
 have h1:lm 1=[eX 1]:=UC (by decide) (by decide)
 unfold oB
 rw[B7,UD]
 simp only[XC hn,e0,aY,Bool.not_true,cond_false,l0,aR,hD,hG]
 have e1:lenL (lm 1)=1:=by rw[h1,aL];rfl
 have i1:bE (lm 1) 0=some (eX 1):=by rw[h1,show (0:Int)=((0:Nat):Int) from rfl,cK];rfl
 have g:T.int? .u32 (T.cell (eX 1) 0)=some 1:=rfl
 simp only[e1,i1,aY,g]
 by_cases h:n=0
 ·subst h
  have:lenL (lm (0:Int).natAbs)=0:=by rw[show (0:Int).natAbs=0 from rfl,kV,l0]
  have hng:aM ((0:Int):Rat)=false:=rfl
  rw[this,hng];simp[aF]
 ·have:lenL (lm n.natAbs)≠0:=by rw[aL];intro c;exact h (by have:=vV.1 (by omega:(lm n.natAbs).length=0);omega)
  rw[decide_eq_false this];simp[aF]
theorem CU:aM ((0:Int):Rat)=false∧aU ((0:Int):Rat)=[]∧bA ((0:Int):Rat)=[]:=⟨rfl,DP,DQ⟩
abbrev qM(n:Int):T:=.agg [.v (.bool (aM (n:Rat))),.sl 1 (aU (n:Rat)),.sl 1 (bA (n:Rat))]
theorem Us{p:Z}(hp:Sp p):bY ([qM p.1,qM p.2,T.agg [(T.v (.bool false)),(T.sl 1 []),(T.sl 1 [])]],(),())=some (false,()):=by
 have hz:T.agg [(T.v (.bool false)),(T.sl 1 []),(T.sl 1 [])]=qM 0:=by unfold qM;rw[CU.1,CU.2.1,CU.2.2]
 rw[hz]
 have key:∀(L:List T) (k:Nat) (n:Int),n.natAbs<1000000→L[k]?=some (qM n)→(k:Int)<(L.length:Int)→L.length<1000 →
  aV (L,(),(L.length:Int),(k:Int),())=some (.inl (L,(),(L.length:Int),((k+1:Nat):Int),())):=fun L k n hn hk hlt hL=>by
  have wk:wr .i64 ((k:Int)+1)=((k+1:Nat):Int):=by rw[dK (by omega) (by omega)];push_cast;rfl
  have v:=Ly hn
  have c0:T.bool? (T.cell (qM n) 0)=some (aM (n:Rat)):=rfl
  have c1:T.sl? 1 (T.cell (qM n) 1)=some (aU (n:Rat)):=wH _ _
  have c2:T.sl? 1 (T.cell (qM n) 2)=some (bA (n:Rat)):=wH _ _
  unfold aV uN
  simp -implicitDefEqProofs only[aF,decide_eq_true hlt,cond_true,cK,hk,aY,c0,c1,c2,v,Bool.not_true,cond_false,aO,wk]
 have h:=jT (F:=aV) 3 (fun k=>([qM p.1,qM p.2,qM 0],(),(3:Int),(k:Int),())) fun k hk=>by
  have h1:=hp.1
  have h2:=hp.2
  match k,hk with
  | 0,_=>exact key [qM p.1,qM p.2,qM 0] 0 p.1 (by omega) rfl (by simp only[List.length_cons,List.length_nil];omega) (by simp only[List.length_cons,List.length_nil];omega)
  | 1,_=>exact key [qM p.1,qM p.2,qM 0] 1 p.2 (by omega) rfl (by simp only[List.length_cons,List.length_nil];omega) (by simp only[List.length_cons,List.length_nil];omega)
  | 2,_=>exact key [qM p.1,qM p.2,qM 0] 2 0 (by decide) rfl (by simp only[List.length_cons,List.length_nil];omega) (by simp only[List.length_cons,List.length_nil];omega)
 have hout:aH aV ([qM p.1,qM p.2,qM 0],(),(3:Int),((3:Nat):Int),())=some (.inr (.inl ())):=aQ (by
  unfold aV
  simp only[aF,decide_eq_false (by omega:¬((3:Nat):Int)<3),cond_false])
 rw[hout] at h
 have h:aH aV ([qM p.1,qM p.2,qM 0],(),(3:Int),(0:Int),())=some (.inr (.inl ())):=h
 have l3:lenL [qM p.1,qM p.2,qM 0]=3:=by rw[aL];rfl
 unfold bY dM
 simp only[l3]
 rw[h]
 simp only[aY,aP,sB,lP]
 rfl
theorem OF(l:List (Int×Int)):T.sl? 9 (T.cell (lT l) 0)=some (l.map wT):=wH 9 _
theorem Xn(l:List (Int×Int)):T.rw? 9 (T.cell (lT l) 0)=some (l.map wT):=Wf (by decide) (OF l)
theorem E3(l:List (Int×Int)):T.sl? 9 (lT l)=some (l.map wT):=by unfold lT T.sl?;exact if_pos rfl
theorem OG(l:List (Int×Int)):T.rw? 9 (lT l)=some (l.map wT):=Wf (by decide) (E3 l)
theorem oL(l:List Z):T.cell (lT l) 0=lT l:=by unfold T.cell lT;rfl
theorem rL(ls:List (List Z)):lenL (ls.map lT)=(ls.length:Int):=by rw[aL,List.length_map]
def bO(ls:List (List Z))(i:Nat):List Z:=ls.getD i []
theorem kZ{ls:List (List Z)}{i:Nat}(h:i<ls.length):bE (ls.map lT) (i:Int)=some (lT (bO ls i))∧bO ls i∈ls:=by
 have e:ls[i]?=some (bO ls i):=by unfold bO;rw[List.getD_eq_getElem?_getD,List.getElem?_eq_getElem h];rfl
 exact⟨by rw[cK,List.getElem?_map,e];rfl,List.mem_of_getElem? e⟩
theorem Xo{l:List Z}(hB:Bx l)(A B:List T)(n i:Int):aH iQ (A,B,n,i,lT l,(l.length:Int),(0:Int),())=some (.inr (.inl (A,B,n,i,()))):=by
 have hle:=hB.1
 have h:=jT (F:=iQ) l.length (fun k=>(A,B,n,i,lT l,(l.length:Int),(k:Int),())) fun k hk=>by
  have g:=(DT (l:=l) (by omega) k).2
  rw[Nat.mod_eq_of_lt hk] at g
  have gi:bE (l.map wT) (k:Int)=some (wT (aN l k)):=by rw[cK,List.getElem?_map,g];rfl
  have wk:wr .i64 ((k:Int)+1)=((k+1:Nat):Int):=by rw[dK (by omega) (by omega)];push_cast;rfl
  obtain⟨c0,c1,c2,c3,c4,c5,c6,c7,c8⟩:=cells (aN l k)
  have cf:=Us (nQ hB (by omega) k)
  have sg:bS (false,([]:List T),([]:List T),())=some (0,()):=by
   have:=BX DR.fit
   rw[Ku,DP,DQ] at this
   exact this
  unfold iQ
  simp -implicitDefEqProofs only[aF,decide_eq_true (by omega:(k:Int)<(l.length:Int)),cond_true,OG,gi,aY,c0,c1,c2,c3,c4,c5,c6,c7,c8,cf,cond_false,sg,aR,decide_true,Bool.not_true,aO,wk]
 have hout:iQ (A,B,n,i,lT l,(l.length:Int),(l.length:Int),())=some (.inr (.inr (.inl (A,B,n,i,())))):=by
  unfold iQ
  simp only[aF,decide_eq_false (by omega:¬(l.length:Int)<(l.length:Int)),cond_false]
 rw[aQ hout] at h
 exact h
end Go.Eng.Rt
namespace Go.Eng.Rt
open Go.Eng Go.Eng.Tw Go.Eng.Tm Go.Eng.Tg
theorem cJ{ls:List (List Z)}{i:Nat}(h:i<ls.length):bO ls i∈ls:=(kZ h).2
theorem Xp{ls:List (List Z)}(hm:ls.length≤1000)(h:∀l∈ls,l.length≤64):bG (ls.map lT,(),())=some (false,()):=by
 have lp:=jT (F:=aS) ls.length (fun k=>(ls.map lT,(),(ls.length:Int),(k:Int),())) fun k hk=>by
  have wk:wr .i64 ((k:Int)+1)=((k+1:Nat):Int):=by rw[dK (by omega) (by omega)];push_cast;rfl
  have hl:=h _ (cJ hk)
  have ll:lenL ((bO ls k).map wT)=((bO ls k).length:Int):=by rw[aL,List.length_map]
  unfold aS uP
  simp only[aF,decide_eq_true (by omega:(k:Int)<(ls.length:Int)),cond_true,(kZ hk).1,aY,OF,ll,decide_eq_false (by omega:¬(64:Int)<((bO ls k).length:Int)),cond_false,aO,wk]
 have hout:aH aS (ls.map lT,(),(ls.length:Int),(ls.length:Int),())=some (.inr (.inl ())):=aQ (by
  unfold aS
  simp only[aF,decide_eq_false (by omega:¬(ls.length:Int)<(ls.length:Int)),cond_false])
 rw[hout] at lp
 have lp:aH aS (ls.map lT,(),(ls.length:Int),(0:Int),())=some (.inr (.inl ())):=lp
 unfold bG cN
 simp only[rL]
 rw[lp]
 simp only[aY,aP,sB,lP]
 rfl
theorem Zd(a b:Int):Ip false a b=min a b:=by unfold Ip;rfl
theorem Xq(a b:Int):Ip true a b=max a b:=by unfold Ip;rfl
noncomputable def wn(l:List Z)(p:Q):Int:=bif bP (EZ (fV (qs l)) p) then 0 else wd (fV (qs l)) p
def zW(ls:List (List Z))(i:Nat):Z:=aN (bO ls i) 0
def Qg(ls:List (List Z))(i j:Nat):Prop:=j≠i∧wn (bO ls j) (cq (zW ls i))≠0
noncomputable def JN(ls:List (List Z))(i k:Nat):List Nat:=(List.range k).filter fun j=>bP (Qg ls i j)
theorem XD(ls:List (List Z))(i k:Nat):JN ls i (k+1)=JN ls i k++(bif bP (Qg ls i k) then [k] else []):=by
 unfold JN
 rw[List.range_succ,List.filter_append,List.filter_cons]
 cases bP (Qg ls i k) <;> rfl
theorem UE(ls:List (List Z))(i k:Nat):(JN ls i k).length≤k:=by
 unfold JN
 have:=List.length_filter_le (fun j=>bP (Qg ls i j)) (List.range k)
 rw[List.length_range] at this
 exact this
theorem Qh{ls:List (List Z)}{i k j:Nat}(h:j∈JN ls i k):j<k∧Qg ls i j:=by
 unfold JN at h
 rw[List.mem_filter,List.mem_range] at h
 exact⟨h.1,Uh.1 h.2⟩
def zX(n:Nat):T:=.v (.int .i64 (n:Int))
def sA(l:List Z):Int:=kF (B2 l:Rat)
theorem UF(l:List Z):-1≤sA l∧sA l≤1:=by
 unfold sA
 rcases rK (B2 l:Rat) with⟨h,_⟩ | ⟨h,_⟩ | ⟨h,_⟩ <;> rw[h] <;> decide
section
variable {ls:List (List Z)} (hB:KO ls) (hm:ls.length≤1000)
include hB hm
theorem Lz{i:Nat}(hi:i<ls.length)(h0:0<(bO ls i).length):rS (ls.map lT,(i:Int),())=some ((JN ls i ls.length).map zX,()):=by
 have hbi:=hB _ (cJ hi)
 have sp:=nQ hbi h0 0
 have g0:bE ((bO ls i).map wT) 0=some (wT (zW ls i)):=by
  have:=(DT h0 0).2
  rw[Nat.zero_mod] at this
  rw[show (0:Int)=((0:Nat):Int) from rfl,cK,List.getElem?_map,this];rfl
 obtain⟨c0,c1,c2,c3,c4,c5,c6,c7,c8⟩:=cells (zW ls i)
 have lp:=jT (F:=gM) ls.length (fun k=>(ls.map lT,(i:Int),(JN ls i k).map zX,ls.map lT,(ls.length:Int),(k:Int),())) fun k hk=>by
  have wk:wr .i64 ((k:Int)+1)=((k+1:Nat):Int):=by rw[dK (by omega) (by omega)];push_cast;rfl
  have hw:=Qe (hB _ (cJ hk)) (p:=zW ls i) sp
  have hfst:(bif bP (EZ (fV (qs (bO ls k))) (cq (zW ls i))) then ((0:Int),false,()) else (wd (fV (qs (bO ls k))) (cq (zW ls i)),true,())).1=wn (bO ls k) (cq (zW ls i)):=by
   unfold wn;cases bP (EZ (fV (qs (bO ls k))) (cq (zW ls i))) <;> rfl
  have hr:=kR (l:=(JN ls i k).map zX) (m:=[zX k]) (b:=8) (by have:=UE ls i k;simp only[List.length_map,List.length_cons,List.length_nil];omega) (by decide)
  have hr':room ((JN ls i k).map zX) [T.v (.int .i64 (k:Int))] 8=some ((JN ls i k).map zX++[zX k]):=hr
  unfold gM
  simp -implicitDefEqProofs only[aF,decide_eq_true (by omega:(k:Int)<(ls.length:Int)),cond_true,(kZ hk).1,(kZ hi).1,aY,Xn,g0,OF,c0,c1,c2,c3,c4,c5,c6,c7,c8,hw,hfst,aR,hr']
  have e2:JN ls i (k+1)=JN ls i k++(bif bP (Qg ls i k) then [k] else []):=XD ls i k
  by_cases h1:k=i
  ·have hrel:bP (Qg ls i k)=false:=gU fun c=>c.1 h1
   rw[decide_eq_true (by omega:(k:Int)=(i:Int)),e2,hrel]
   simp only[Bool.not_true,cond_false,aY,aP,aO,wk,List.append_nil]
  ·rw[decide_eq_false (by omega:¬(k:Int)=(i:Int))]
   by_cases h2:wn (bO ls k) (cq (zW ls i))=0
   ·have hrel:bP (Qg ls i k)=false:=gU fun c=>c.2 h2
    rw[decide_eq_true h2,e2,hrel]
    simp only[Bool.not_true,Bool.not_false,cond_true,cond_false,aY,aP,aO,wk,List.append_nil]
   ·have hrel:bP (Qg ls i k)=true:=jO ⟨h1,h2⟩
    rw[decide_eq_false h2,e2,hrel,cond_true]
    simp only[Bool.not_false,cond_true,aY,aP,aO,wk,List.map_append,List.map_cons,List.map_nil]
 have hout:gM (ls.map lT,(i:Int),(JN ls i ls.length).map zX,ls.map lT,(ls.length:Int),(ls.length:Int),())=some (.inr (.inl ((JN ls i ls.length).map zX,()))):=by
  unfold gM
  simp only[aF,decide_eq_false (by omega:¬(ls.length:Int)<(ls.length:Int)),cond_false]
 rw[aQ hout] at lp
 have lp:aH gM (ls.map lT,(i:Int),([]:List T),ls.map lT,(ls.length:Int),(0:Int),())=some (.inl ((JN ls i ls.length).map zX,())):=lp
 unfold rS
 simp only[rL]
 rw[lp]
 simp only[aY,aP]
noncomputable def outs(ls:List (List Z))(i:Nat):Int:=((JN ls i ls.length).map fun j=>sA (bO ls j)).sum
omit hB hm in
theorem Z2(f:Nat→Int)(hf:∀i,-1≤f i∧f i≤1):∀L:List Nat,-(L.length:Int)≤(L.map f).sum∧(L.map f).sum≤L.length
 | []=>by simp
 | a::L=>by
  have:=Z2 f hf L
  have:=hf a
  rw[List.map_cons,List.sum_cons,List.length_cons];omega
omit hB hm in
theorem Ma(i:Nat):(outs ls i).natAbs≤ls.length:=by
 unfold outs
 have h1:=Z2 (fun j=>sA (bO ls j)) (fun j=>UF _) (JN ls i ls.length)
 have h2:=UE ls i ls.length
 omega
omit hB hm in
theorem Mb{l:List Z}(h:Bx l):∃x y z,jE (l.map wT,())=some (x,y,z,())∧bS (x,y,z,())=some (sA l,()):=by
 have e:=Kx (l:=l) (fun p hp=>by have:=h.2.1 p hp;exact⟨by omega,by omega⟩) h.1
 have hb:=Lw (l:=l) (fun p hp=>by have:=h.2.1 p hp;exact⟨by omega,by omega⟩)
 have h2:=h.1
 exact⟨_,_,_,e,BX (zA (n:=B2 l) (by omega)).fit⟩
omit hm in
theorem Mc(x:T)(m i:Int)(A:List T)(L:List Nat)(hL:∀j∈L,j<ls.length)(hl:L.length≤1000):
 aH iU (ls.map lT,x,(0:Int),A,m,i,L.map zX,(L.length:Int),(0:Int),())=some (.inl (ls.map lT,x,(L.map fun j=>sA (bO ls j)).sum,A,m,i,())):=by
 have lp:=jT (F:=iU) L.length (fun k=>(ls.map lT,x,((L.take k).map fun j=>sA (bO ls j)).sum,A,m,i,L.map zX,(L.length:Int),(k:Int),()) ) fun k hk=>by
  have wk:wr .i64 ((k:Int)+1)=((k+1:Nat):Int):=by rw[dK (by omega) (by omega)];push_cast;rfl
  have hlk:lenL (L.map zX)=(L.length:Int):=by rw[aL,List.length_map]
  have hj:=hL _ (List.getElem_mem hk)
  have g:bE (L.map zX) (k:Int)=some (zX L[k]):=by rw[cK,List.getElem?_map,List.getElem?_eq_getElem hk];rfl
  have a:T.anyInt? (T.cell (zX L[k]) 0)=some (L[k]:Int):=rfl
  obtain⟨p,q,r,e1,e2⟩:=Mb (hB _ (cJ hj))
  have hs:=Z2 (fun j=>sA (bO ls j)) (fun j=>UF _) (L.take k)
  have ht:(L.take k).length≤k:=List.length_take_le ..
  have hs1:=UF (bO ls L[k])
  have ws:wr .i64 (((L.take k).map fun j=>sA (bO ls j)).sum+sA (bO ls L[k]))=((L.take (k+1)).map fun j=>sA (bO ls j)).sum:=by
   rw[dK (by omega) (by omega),List.take_add_one,List.getElem?_eq_getElem hk,List.map_append,List.sum_append]
   simp
  unfold iU
  simp -implicitDefEqProofs only[aF,decide_eq_true (by omega:(k:Int)<(L.length:Int)),cond_true,g,aY,a,(kZ hj).1,OF,e1,e2,aO,ws,wk]
 have hout:iU (ls.map lT,x,((L.take L.length).map fun j=>sA (bO ls j)).sum,A,m,i,L.map zX,(L.length:Int),(L.length:Int),())=some (.inr (.inl (ls.map lT,x,(L.map fun j=>sA (bO ls j)).sum,A,m,i,()))):=by
  unfold iU
  simp only[aF,decide_eq_false (by omega:¬(L.length:Int)<(L.length:Int)),cond_false,List.take_length]
 rw[aQ hout] at lp
 exact lp
def KP(ls:List (List Z))(i:Nat):Prop:=¬((outs ls i+sA (bO ls i)=0∧outs ls i=1)∨(outs ls i+sA (bO ls i)=1∧outs ls i=0))
def rM(l:List Z):Prop:=3≤l.length∧¬∃i,i<l.length∧ID l i
def CY(ls:List (List Z))(i:Nat):Prop:=¬rM (bO ls i)∨∃k,0≤k∧k<i∧RH (bO ls i) (bO ls k)
theorem Md{i:Nat}(hi:i<ls.length)(h0:0<(bO ls i).length):iV (ls.map lT,ls.map lT,(ls.length:Int),(i:Int),())=some (bif bP (KP ls i) then .inr (.inl (8,())) else .inl (ls.map lT,ls.map lT,(ls.length:Int),((i+1:Nat):Int),())):=by
 have wk:wr .i64 ((i:Int)+1)=((i+1:Nat):Int):=by rw[dK (by omega) (by omega)];push_cast;rfl
 have ar:=Lz hB hm hi h0
 have hla:lenL ((JN ls i ls.length).map zX)=((JN ls i ls.length).length:Int):=by rw[aL,List.length_map]
 have sl:=Mc hB (lT (bO ls i)) (ls.length:Int) (i:Int) (ls.map lT) (JN ls i ls.length) (fun j hj=>(Qh hj).1) (by have:=UE ls i ls.length;omega)
 have sl:_=some (Sum.inl (ls.map lT,lT (bO ls i),outs ls i,ls.map lT,(ls.length:Int),(i:Int),())):=sl
 obtain⟨p,q,r,e1,e2⟩:=Mb (hB _ (cJ hi))
 have hs1:=UF (bO ls i)
 have hs2:=Ma (ls:=ls) i
 have ws:wr .i64 (outs ls i+sA (bO ls i))=outs ls i+sA (bO ls i):=dK (by omega) (by omega)
 have hc:T.cell (lT (bO ls i)) 0=lT (bO ls i):=oL _
 unfold iV
 simp -implicitDefEqProofs only[aF,decide_eq_true (by omega:(i:Int)<(ls.length:Int)),cond_true,(kZ hi).1,aY,ar,hla,hc,sl,aP,E3,e1,e2,aO,ws,aR,Zd,Xq,wk]
 unfold KP
 generalize outs ls i=o at *
 generalize sA (bO ls i)=s at *
 by_cases h:(o+s=0∧o=1)∨(o+s=1∧o=0)
 ·rw[gU (fun c=>c h)]
  have e1:min (o+s) o=0:=by omega
  have e2:max (o+s) o=1:=by omega
  rw[decide_eq_true e1,decide_eq_true e2];rfl
 ·rw[jO h]
  by_cases e1:min (o+s) o=0
  ·have e2:¬max (o+s) o=1:=by omega
   rw[decide_eq_true e1,decide_eq_false e2];rfl
  ·rw[decide_eq_false e1];rfl
end
end Go.Eng.Rt
namespace Go.Eng.Rt
open Go.Eng Go.Eng.Tw Go.Eng.Tm Go.Eng.Tg
section
variable {ls:List (List Z)} (hB:KO ls)
include hB
theorem Qi(hm:ls.length≤1000):aH iR (ls.map lT,ls.map lT,(ls.length:Int),(0:Int),())=some (.inr (.inl (ls.map lT,()))):=by
 have lp:=jT (F:=iR) ls.length (fun k=>(ls.map lT,ls.map lT,(ls.length:Int),(k:Int),())) fun k hk=>by
  have wk:wr .i64 ((k:Int)+1)=((k+1:Nat):Int):=by rw[dK (by omega) (by omega)];push_cast;rfl
  have hp:=Xo (hB _ (cJ hk)) (ls.map lT) (ls.map lT) (ls.length:Int) (k:Int)
  have hl:T.len? (lT (bO ls k))=some ((bO ls k).length:Int):=by
   show (if (9:Nat)<1000000000 then some (lenL ((bO ls k).map wT)) else none)=_
   rw[if_pos (by decide),aL,List.length_map]
  unfold iR
  simp only[aF,decide_eq_true (by omega:(k:Int)<(ls.length:Int)),cond_true,(kZ hk).1,aY,oL,hl,hp,aP,sB,aO,wk]
 have hout:iR (ls.map lT,ls.map lT,(ls.length:Int),(ls.length:Int),())=some (.inr (.inr (.inl (ls.map lT,())))):=by
  unfold iR
  simp only[aF,decide_eq_false (by omega:¬(ls.length:Int)<(ls.length:Int)),cond_false]
 rw[aQ hout] at lp
 exact lp
theorem Ut(hm:ls.length≤1000){i:Nat}(hi:i<ls.length):aH iS (ls.map lT,lT (bO ls i),ls.map lT,(ls.length:Int),(i:Int),(ls.map lT).take i,(i:Int),(0:Int),()) =
 some (bif bP (∃k,0≤k∧k<i∧RH (bO ls i) (bO ls k)) then .inl (8,()) else .inr (.inl (ls.map lT,ls.map lT,(ls.length:Int),(i:Int),()))):=by
 have key:∀k,k<i→iS (ls.map lT,lT (bO ls i),ls.map lT,(ls.length:Int),(i:Int),(ls.map lT).take i,(i:Int),(k:Int),())=some (bif bP (RH (bO ls i) (bO ls k)) then .inr (.inl (8,())) else .inl (ls.map lT,lT (bO ls i),ls.map lT,(ls.length:Int),(i:Int),(ls.map lT).take i,(i:Int),((k+1:Nat):Int),())):=fun k hk=>by
  have wk:wr .i64 ((k:Int)+1)=((k+1:Nat):Int):=by rw[dK (by omega) (by omega)];push_cast;rfl
  have g:bE ((ls.map lT).take i) (k:Int)=some (lT (bO ls k)):=by
   have:=(kZ (ls:=ls) (i:=k) (by omega)).1
   rw[cK] at this ⊢
   rw[List.getElem?_take,if_pos hk];exact this
  have ha:=Qf (hB _ (cJ hi)) (hB _ (cJ (i:=k) (by omega)))
  unfold iS
  simp only[aF,decide_eq_true (by omega:(k:Int)<(i:Int)),cond_true,g,aY,oL,E3,ha,Bool.not_not,aO,wk]
  generalize bP (RH (bO ls i) (bO ls k))=b
  cases b <;> rfl
 exact eR (F:=iS) (fun k=>(ls.map lT,lT (bO ls i),ls.map lT,(ls.length:Int),(i:Int),(ls.map lT).take i,(i:Int),(k:Int),())) i (fun k=>RH (bO ls i) (bO ls k)) _ _
  (fun k hk hb=>by rw[key k hk,jO hb];rfl) (fun k hk hb=>by rw[key k hk,gU hb];rfl) (by
   unfold iS
   simp only[aF,decide_eq_false (by omega:¬(i:Int)<(i:Int)),cond_false]) i 0 (by omega)
theorem Xr(hm:ls.length≤1000):aH iT (ls.map lT,ls.map lT,(ls.length:Int),(0:Int),())=some (bif bP (∃i,0≤i∧i<ls.length∧CY ls i) then .inl (8,()) else .inr (.inl (ls.map lT,()))):=by
 have key:∀i,i<ls.length→iT (ls.map lT,ls.map lT,(ls.length:Int),(i:Int),())=some (bif bP (CY ls i) then .inr (.inl (8,())) else .inl (ls.map lT,ls.map lT,(ls.length:Int),((i+1:Nat):Int),())):=fun i hi=>by
  have wi:wr .i64 ((i:Int)+1)=((i+1:Nat):Int):=by rw[dK (by omega) (by omega)];push_cast;rfl
  have hs:=Lo (hB _ (cJ hi))
  have hc:cutL (ls.map lT) (0:Int) (i:Int)=some ((ls.map lT).take i):=by
   have:=MJ (l:=ls.map lT) (lo:=0) (hi:=i) (Nat.zero_le _) (by rw[List.length_map];omega)
   rw[List.drop_zero] at this;exact this
  have hlt:lenL ((ls.map lT).take i)=(i:Int):=by rw[aL,List.length_take,List.length_map,Nat.min_eq_left (by omega)]
  have pp:=Ut hB hm hi
  have hb:bP (CY ls i)=(!(bP (3≤(bO ls i).length∧¬∃j,j<(bO ls i).length∧ID (bO ls i) j))||bP (∃k,0≤k∧k<i∧RH (bO ls i) (bO ls k))):=by
   unfold CY rM
   rw[vY,IB]
  unfold iT
  simp only[aF,decide_eq_true (by omega:(i:Int)<(ls.length:Int)),cond_true,(kZ hi).1,aY,oL,E3,hs,hc,hlt,pp,aO]
  rw[hb]
  generalize bP (3≤(bO ls i).length∧¬∃j,j<(bO ls i).length∧ID (bO ls i) j)=x
  generalize bP (∃k,0≤k∧k<i∧RH (bO ls i) (bO ls k))=y
  cases x <;> cases y <;> simp only[Bool.not_true,Bool.not_false,cond_true,cond_false,aY,aP,sB,wi,Bool.true_or,Bool.false_or]
 exact eR (F:=iT) (fun i=>(ls.map lT,ls.map lT,(ls.length:Int),(i:Int),())) ls.length (CY ls) _ _
  (fun k hk hb=>by rw[key k hk,jO hb];rfl) (fun k hk hb=>by rw[key k hk,gU hb];rfl) (by
   unfold iT
   simp only[aF,decide_eq_false (by omega:¬(ls.length:Int)<(ls.length:Int)),cond_false]) ls.length 0 (by omega)
noncomputable def GZ(ls:List (List Z)):Int:=bif bP (∃i,0≤i∧i<ls.length∧CY ls i) then 8 else bif bP (∃i,0≤i∧i<ls.length∧KP ls i) then 8 else 0
theorem G0(hm:ls.length≤16)(h0:0<ls.length)(hl:∀l∈ls,l.length≤64):dX (ls.map lT,())=some (GZ ls,()):=by
 have v:=Qi hB (by omega)
 have a:=Xr hB (by omega)
 have b:=Xp (ls:=ls) (by omega) hl
 unfold dX GZ
 simp only[rL,aR,decide_eq_false (by omega:¬(ls.length:Int)=0),cond_false,v,aY,aP,sB,aF,decide_eq_false (by omega:¬(16:Int)<(ls.length:Int)),b,a]
 by_cases hA:∃i,0≤i∧i<ls.length∧CY ls i
 ·rw[jO hA];simp only[cond_true,aY,aP]
 ·rw[gU hA]
  have hs:∀i,i<ls.length→0<(bO ls i).length:=fun i hi=>by
   have hsim:rM (bO ls i):=Classical.byContradiction fun c=>hA ⟨i,Nat.zero_le _,hi,.inl c⟩
   have:=hsim.1;omega
  have c:=eR (F:=iV) (fun i=>(ls.map lT,ls.map lT,(ls.length:Int),(i:Int),())) ls.length (KP ls) (.inl (8,())) (.inr (.inl ()))
   (fun k hk hb=>by rw[Md hB (by omega) hk (hs k hk),jO hb];rfl) (fun k hk hb=>by rw[Md hB (by omega) hk (hs k hk),gU hb];rfl) (by
    unfold iV
    simp only[aF,decide_eq_false (by omega:¬(ls.length:Int)<(ls.length:Int)),cond_false]) ls.length 0 (by omega)
  have c:aH iV (ls.map lT,ls.map lT,(ls.length:Int),(0:Int),())=_:=c
  simp only[cond_false,aY,aP,sB,rL,c]
  generalize bP (∃j,0≤j∧j<ls.length∧KP ls j)=x
  cases x <;> rfl
end
end Go.Eng.Rt
namespace Go.Eng.Tg
open Go.Eng.Tw
theorem Me{a b:Q}(h:a≠b):0<(b.1-a.1)*(b.1-a.1)+(b.2-a.2)*(b.2-a.2):=by
 have h1:=Q9 (b.1-a.1)
 have h2:=Q9 (b.2-a.2)
 by_cases h0:(b.1-a.1)*(b.1-a.1)+(b.2-a.2)*(b.2-a.2)=0
 ·obtain⟨e1,e2⟩:=TY h0
  exact absurd (sM (by grind) (by grind)) h
 ·grind
theorem Dp{a b c:Q}(hab:a≠b)(hbc:b≠c):KN a b c↔On a b c∨On b c a:=by
 have n:=Me hab
 constructor
 ·rintro ⟨h0,h1⟩
  obtain⟨t,rfl⟩:=La hab h0
  have e:(a.1-b.1)*((pI a b t).1-b.1)+(a.2-b.2)*((pI a b t).2-b.2)=(1-t)*((b.1-a.1)*(b.1-a.1)+(b.2-a.2)*(b.2-a.2)):=by unfold pI;dsimp only;grind
  rw[e] at h1
  have t1:t<1:=by
   rcases Rat.le_total (a:=t) (b:=1) with q | q
   ·by_cases e1:t=1
    ·subst e1;grind
    ·grind
   ·have:=Rat.mul_nonneg (show 0≤t-1 by grind) (Rat.le_of_lt n)
    grind
  rcases Rat.le_total (a:=0) (b:=t) with q | q
  ·exact .inl (qK q (Rat.le_of_lt t1))
  ·right
   obtain⟨s,hs⟩:=zB (n:=1) (d:=1-t) (by grind)
   have s0:0≤s:=mW (n:=1-t) (by grind) (by grind)
   have s1:s≤1:=by
    have:=mW (n:=1-t) (u:=1-s) (by grind) (by grind)
    grind
   have ea:a=pI b (pI a b t) s:=by
    unfold pI
    refine sM ?_ ?_
    ·dsimp only
     have:s*(a.1+t*(b.1-a.1)-b.1)=-(s*(1-t))*(b.1-a.1):=by grind
     rw[this,hs];grind
    ·dsimp only
     have:s*(a.2+t*(b.2-a.2)-b.2)=-(s*(1-t))*(b.2-a.2):=by grind
     rw[this,hs];grind
   have:=qK (a:=b) (b:=pI a b t) s0 s1
   rw[←ea] at this
   exact this
 ·rintro (h | h)
  ·obtain⟨t,t0,t1,rfl⟩:=N8 hab h
   refine⟨h.1,?_⟩
   have e:(a.1-b.1)*((pI a b t).1-b.1)+(a.2-b.2)*((pI a b t).2-b.2)=(1-t)*((b.1-a.1)*(b.1-a.1)+(b.2-a.2)*(b.2-a.2)):=by unfold pI;dsimp only;grind
   rw[e]
   refine Rat.mul_pos ?_ n
   by_cases e1:t=1
   ·subst e1;exact absurd (Gw a b).symm hbc
   ·grind
  ·obtain⟨s,s0,s1,hs⟩:=N8 hbc h
   have e1:a.1-b.1=s*(c.1-b.1):=by rw[hs];unfold pI;dsimp only;grind
   have e2:a.2-b.2=s*(c.2-b.2):=by rw[hs];unfold pI;dsimp only;grind
   have n2:=Me hbc
   refine⟨?_,?_⟩
   ·unfold cr
    have x1:b.1-a.1=-(s*(c.1-b.1)):=by grind
    have x2:b.2-a.2=-(s*(c.2-b.2)):=by grind
    have y1:c.1-a.1=(1-s)*(c.1-b.1):=by grind
    have y2:c.2-a.2=(1-s)*(c.2-b.2):=by grind
    rw[x1,x2,y1,y2];grind
   ·rw[e1,e2]
    have:s*(c.1-b.1)*(c.1-b.1)+s*(c.2-b.2)*(c.2-b.2)=s*((c.1-b.1)*(c.1-b.1)+(c.2-b.2)*(c.2-b.2)):=by grind
    rw[this]
    refine Rat.mul_pos ?_ n2
    by_cases e0:s=0
    ·subst e0;rw[WZ] at hs;exact absurd hs hab
    ·grind
end Go.Eng.Tg
namespace Go.Eng.Rt
open Go.Eng Go.Eng.Tw Go.Eng.Tm Go.Eng.Tg
theorem CA{l:List Z}{i:Nat}(h:i<l.length):bE (l.map wT) (i:Int)=some (wT (aN l i)):=by
 have:=(DT (l:=l) (by omega) i).2
 rw[Nat.mod_eq_of_lt h] at this
 rw[cK,List.getElem?_map,this];rfl
theorem E4{l:List Z}(h:0<l.length)(i:Nat):bE (l.map wT) ((i%l.length:Nat):Int)=some (wT (aN l i)):=by
 rw[cK,List.getElem?_map,(DT h i).2];rfl
theorem Dq{a b:Z}(ha:Sp a)(hb:Sp b):qF (lit a b ())=some (bP (a=b),()):=by
 have f1:Ks (a.1:Rat):=(fK ha.1 (by decide)).fit
 have f2:Ks (a.2:Rat):=(fK ha.2 (by decide)).fit
 have g1:Ks (b.1:Rat):=(fK hb.1 (by decide)).fit
 have g2:Ks (b.2:Rat):=(fK hb.2 (by decide)).fit
 have s1:=ZS f1 g1
 have s2:=ZS f2 g2
 have s3:=ZS DR.fit DR.fit
 rw[Ku,DP,DQ] at s3
 unfold qF
 simp -implicitDefEqProofs only[s1,s2,s3,aY]
 have e:bP (a=b)=(decide ((a.1:Rat)=b.1)&&decide ((a.2:Rat)=b.2)):=by
  rw[B5,B5,←B6]
  exact jG ⟨fun h=>by rw[h];exact⟨rfl,rfl⟩,fun h=>Prod.ext (Rat.intCast_inj.1 h.1) (Rat.intCast_inj.1 h.2)⟩
 rw[e]
 generalize decide ((a.1:Rat)=b.1)=x
 generalize decide ((a.2:Rat)=b.2)=y
 cases x <;> cases y <;> rfl
def UG(l:List Z)(i:Nat):Prop:=On (cq (aN l i)) (cq (aN l (i+1))) (cq (aN l (i+2)))∨On (cq (aN l (i+1))) (cq (aN l (i+2))) (cq (aN l i))∨T9 l i
abbrev tc(p:Z)(k:Nat):T:=T.cell (wT p) k
def RI(l:List Z)(i k:Nat):List T×Int×Int×Unit×Unit×Int×T×T×T×T×T×T×T×T×T×T×T×T×T×T×T×T×T×T×Unit:=
 (l.map wT,(l.length:Int),(i:Int),(),(),(k:Int),tc (aN l i) 0,tc (aN l i) 1,tc (aN l i) 2,tc (aN l i) 3,tc (aN l i) 4,tc (aN l i) 5,tc (aN l i) 6,tc (aN l i) 7,tc (aN l i) 8,
  (tc (aN l (i+1)) 0,tc (aN l (i+1)) 1,tc (aN l (i+1)) 2,tc (aN l (i+1)) 3,tc (aN l (i+1)) 4,tc (aN l (i+1)) 5,tc (aN l (i+1)) 6,tc (aN l (i+1)) 7,tc (aN l (i+1)) 8,()))
section
variable {l:List Z} (hB:Bx l)
include hB
theorem Ze{i:Nat}(hi:i<l.length)(k:Nat)(hk2:i+2≤k):aH fS (RI l i k)=some (bif bP (∃j,k≤j∧j<l.length∧(0<i∨j<l.length-1)∧eQ l i j) then .inl (false,()) else .inr (.inl (l.map wT,(l.length:Int),(i:Int),()))):=by
 have h0:0<l.length:=by omega
 have hle:=hB.1
 have hnz:nz (l.length:Int)=some (l.length:Int):=by unfold nz;rw[if_neg (by omega)]
 have key:∀j,i+2≤j→j<l.length→fS (RI l i j)=some (bif bP ((0<i∨j<l.length-1)∧eQ l i j) then .inr (.inl (false,())) else .inl (RI l i (j+1))):=fun j hj2 hj=>by
  have m:=Lm (zS hB h0 i (i+1)) (zS hB h0 j (j+1)) (nQ hB h0 (i+1)) (nQ hB h0 (j+1))
  have wj:wr .i64 ((j:Int)+1)=((j+1:Nat):Int):=by rw[dK (by omega) (by omega)];push_cast;rfl
  have hmod:((j+1:Nat):Int).tmod (l.length:Int)=(((j+1)%l.length:Nat):Int):=rfl
  have x1:=CA hj
  have x2:=E4 h0 (j+1)
  obtain⟨a0,a1,a2,a3,a4,a5,a6,a7,a8⟩:=cells (aN l i)
  obtain⟨b0,b1,b2,b3,b4,b5,b6,b7,b8⟩:=cells (aN l (i+1))
  obtain⟨c0,c1,c2,c3,c4,c5,c6,c7,c8⟩:=cells (aN l j)
  obtain⟨d0,d1,d2,d3,d4,d5,d6,d7,d8⟩:=cells (aN l (j+1))
  have hm:bP (eQ l i j)=bP (kJ (cq (aN l i)) (cq (aN l (i+1))) (cq (aN l j)) (cq (aN l (j+1)))):=rfl
  have hc:bP ((0<i∨j<l.length-1)∧eQ l i j)=(!(decide ((((j+1)%l.length:Nat):Int)=(i:Int)))&&bP (eQ l i j)):=by
   rw[B6,B5,←IB]
   congr 1
   refine jG ?_
   by_cases hj1:j+1=l.length
   ·rw[hj1,Nat.mod_self];omega
   ·rw[Nat.mod_eq_of_lt (by omega)];omega
  rw[hc,hm]
  unfold fS RI
  simp -implicitDefEqProofs only[aF,decide_eq_true (by omega:(j:Int)<(l.length:Int)),cond_true,hnz,aY,aO,wj,oD,hmod,aR,x1,x2,a0,a1,a2,a3,a4,a5,a6,a7,a8,b0,b1,b2,b3,b4,b5,b6,b7,b8,c0,c1,c2,c3,c4,c5,c6,c7,c8,d0,d1,d2,d3,d4,d5,d6,d7,d8,m]
  generalize bP (kJ (cq (aN l i)) (cq (aN l (i+1))) (cq (aN l j)) (cq (aN l (j+1))))=b
  generalize decide ((((j+1)%l.length:Nat):Int)=(i:Int))=c
  cases b <;> cases c <;> rfl
 have sc:=CT (F:=fS) (fun d=>RI l i (k+d)) (l.length-k) (fun d=>(0<i∨k+d<l.length-1)∧eQ l i (k+d)) (.inl (false,())) (.inr (.inl (l.map wT,(l.length:Int),(i:Int),())))
  (fun d hd hb=>by rw[key (k+d) (by omega) (by omega),jO hb];rfl) (fun d hd hb=>by rw[key (k+d) (by omega) (by omega),gU hb];rfl) (fun d hd=>by
   unfold fS RI
   simp only[aF,decide_eq_false (by omega:¬((k+d:Nat):Int)<(l.length:Int)),cond_false]) (l.length-k) 0 (by omega)
 rw[Nat.add_zero] at sc
 rw[sc]
 have:(∃d,0≤d∧d<l.length-k∧(0<i∨k+d<l.length-1)∧eQ l i (k+d))↔∃j,k≤j∧j<l.length∧(0<i∨j<l.length-1)∧eQ l i j:=by
  constructor
  ·rintro ⟨d,_,h1,h2,h3⟩;exact⟨k+d,by omega,by omega,h2,h3⟩
  ·rintro ⟨j,h1,h2,h3,h4⟩;exact⟨j-k,Nat.zero_le _,by omega,by rw[show k+(j-k)=j by omega];exact⟨h3,h4⟩⟩
 rw[jG this]
omit hB in
theorem Mf{i:Nat}(hi:i<l.length):(∃j,i+2≤j∧j<l.length∧(0<i∨j<l.length-1)∧eQ l i j)↔T9 l i:=by
 unfold T9
 refine exists_congr fun j=>?_
 by_cases h:0<i
 ·rw[if_pos h]
  exact⟨fun⟨a,b,_,d⟩=>⟨a,b,d⟩,fun⟨a,b,d⟩=>⟨a,b,.inl h,d⟩⟩
 ·rw[if_neg h]
  exact⟨fun⟨a,b,c,d⟩=>⟨a,by omega,d⟩,fun⟨a,b,d⟩=>⟨a,by omega,.inr (by omega),d⟩⟩
theorem Mg:uR (l.map wT,())=some (bP (3≤l.length∧(¬∃i,0≤i∧i<l.length∧aN l i=aN l (i+1))∧¬∃i,0≤i∧i<l.length∧UG l i),()):=by
 have hle:=hB.1
 have hlen:lenL (l.map wT)=(l.length:Int):=by rw[aL,List.length_map]
 unfold uR
 simp only[hlen,aF]
 by_cases h3:l.length<3
 ·rw[decide_eq_true (by omega:(l.length:Int)<3),gU (by omega)];rfl
 ·rw[decide_eq_false (by omega:¬(l.length:Int)<3),cond_false]
  have h0:0<l.length:=by omega
  have hnz:nz (l.length:Int)=some (l.length:Int):=by unfold nz;rw[if_neg (by omega)]
  have key0:∀i,i<l.length→fR (l.map wT,(l.length:Int),(i:Int),())=some (bif bP (aN l i=aN l (i+1)) then .inr (.inl (false,())) else .inl (l.map wT,(l.length:Int),((i+1:Nat):Int),())):=fun i hi=>by
   have wi:wr .i64 ((i:Int)+1)=((i+1:Nat):Int):=by rw[dK (by omega) (by omega)];push_cast;rfl
   have hmod:((i+1:Nat):Int).tmod (l.length:Int)=(((i+1)%l.length:Nat):Int):=rfl
   have x1:=CA hi
   have x2:=E4 h0 (i+1)
   obtain⟨a0,a1,a2,a3,a4,a5,a6,a7,a8⟩:=cells (aN l i)
   obtain⟨b0,b1,b2,b3,b4,b5,b6,b7,b8⟩:=cells (aN l (i+1))
   have s:=Dq (nQ hB h0 i) (nQ hB h0 (i+1))
   unfold fR
   simp -implicitDefEqProofs only[aF,decide_eq_true (by omega:(i:Int)<(l.length:Int)),cond_true,x1,hnz,aY,aO,wi,oD,hmod,x2,a0,a1,a2,a3,a4,a5,a6,a7,a8,b0,b1,b2,b3,b4,b5,b6,b7,b8,s]
   generalize bP (aN l i=aN l (i+1))=b
   cases b <;> rfl
  have sc0:=eR (F:=fR) (fun i=>(l.map wT,(l.length:Int),(i:Int),())) l.length (fun i=>aN l i=aN l (i+1)) (.inl (false,())) (.inr (.inl (l.map wT,(l.length:Int),())))
   (fun i hi hb=>by rw[key0 i hi,jO hb];rfl) (fun i hi hb=>by rw[key0 i hi,gU hb];rfl) (by
    unfold fR
    simp only[aF,decide_eq_false (by omega:¬(l.length:Int)<(l.length:Int)),cond_false]) l.length 0 (by omega)
  have sc0:aH fR (l.map wT,(l.length:Int),(0:Int),())=_:=sc0
  have key1:∀i,i<l.length→fT (l.map wT,(l.length:Int),(i:Int),())=some (bif bP (UG l i) then .inr (.inl (false,())) else .inl (l.map wT,(l.length:Int),((i+1:Nat):Int),())):=fun i hi=>by
   have wi:wr .i64 ((i:Int)+1)=((i+1:Nat):Int):=by rw[dK (by omega) (by omega)];push_cast;rfl
   have wi2:wr .i64 ((i:Int)+2)=((i+2:Nat):Int):=by rw[dK (by omega) (by omega)];push_cast;rfl
   have hmod:((i+1:Nat):Int).tmod (l.length:Int)=(((i+1)%l.length:Nat):Int):=rfl
   have hmod2:((i+2:Nat):Int).tmod (l.length:Int)=(((i+2)%l.length:Nat):Int):=rfl
   have x1:=CA hi
   have x2:=E4 h0 (i+1)
   have x3:=E4 h0 (i+2)
   obtain⟨a0,a1,a2,a3,a4,a5,a6,a7,a8⟩:=cells (aN l i)
   obtain⟨b0,b1,b2,b3,b4,b5,b6,b7,b8⟩:=cells (aN l (i+1))
   obtain⟨c0,c1,c2,c3,c4,c5,c6,c7,c8⟩:=cells (aN l (i+2))
   have sp:=nQ hB h0
   have o1:=RG (zS hB h0 i (i+1)) (sp (i+2))
   have o2:=RG (zS hB h0 (i+1) (i+2)) (sp i)
   have lp:=Ze hB hi (i+2) (Nat.le_refl _)
   rw[jG (Mf hi)] at lp
   unfold RI tc at lp
   have hR:bP (UG l i)=(bP (On (cq (aN l i)) (cq (aN l (i+1))) (cq (aN l (i+2))))||(bP (On (cq (aN l (i+1))) (cq (aN l (i+2))) (cq (aN l i)))||bP (T9 l i))):=by unfold UG;rw[vY,vY]
   rw[hR]
   unfold fT
   simp -implicitDefEqProofs only[aF,decide_eq_true (by omega:(i:Int)<(l.length:Int)),cond_true,x1,hnz,aY,aO,wi,wi2,oD,hmod,hmod2,x2,x3,a0,a1,a2,a3,a4,a5,a6,a7,a8,b0,b1,b2,b3,b4,b5,b6,b7,b8,c0,c1,c2,c3,c4,c5,c6,c7,c8,o1,o2,lp]
   generalize bP (On (cq (aN l i)) (cq (aN l (i+1))) (cq (aN l (i+2))))=x
   generalize bP (On (cq (aN l (i+1))) (cq (aN l (i+2))) (cq (aN l i)))=y
   generalize bP (T9 l i)=z
   cases x <;> cases y <;> cases z <;> simp -implicitDefEqProofs only[cond_true,cond_false,aY,aP,sB,Bool.or_true,Bool.or_false,Bool.true_or,Bool.false_or,wi]
  have sc1:=eR (F:=fT) (fun i=>(l.map wT,(l.length:Int),(i:Int),())) l.length (UG l) (.inl (false,())) (.inr (.inl ()))
   (fun i hi hb=>by rw[key1 i hi,jO hb];rfl) (fun i hi hb=>by rw[key1 i hi,gU hb];rfl) (by
    unfold fT
    simp only[aF,decide_eq_false (by omega:¬(l.length:Int)<(l.length:Int)),cond_false]) l.length 0 (by omega)
  have sc1:aH fT (l.map wT,(l.length:Int),(0:Int),())=_:=sc1
  rw[sc0]
  have hb:bP (3≤l.length∧(¬∃i,0≤i∧i<l.length∧aN l i=aN l (i+1))∧¬∃i,0≤i∧i<l.length∧UG l i)=(!(bP (∃i,0≤i∧i<l.length∧aN l i=aN l (i+1)))&&!(bP (∃i,0≤i∧i<l.length∧UG l i))):=by
   rw[B6,B6,IB,IB,jO (by omega:3≤l.length)];rfl
  rw[hb]
  generalize bP (∃i,0≤i∧i<l.length∧aN l i=aN l (i+1))=x at *
  generalize bP (∃i,0≤i∧i<l.length∧UG l i)=y at *
  cases x with
  | true=>simp only[cond_true,aY,aP,Bool.not_true,Bool.false_and]
  | false=>
   simp only[cond_false,aY,aP,sB,sc1]
   cases y <;> rfl
omit hB in
theorem Qj:(3≤l.length∧(¬∃i,0≤i∧i<l.length∧aN l i=aN l (i+1))∧¬∃i,0≤i∧i<l.length∧UG l i)↔rM l:=by
 unfold rM
 constructor
 ·rintro ⟨h3,h1,h2⟩
  refine⟨h3,?_⟩
  rintro ⟨i,hi,hb⟩
  have h0:0<l.length:=by omega
  have e1:aN l i≠aN l (i+1):=fun e=>h1 ⟨i,Nat.zero_le _,hi,e⟩
  have e2:aN l (i+1)≠aN l (i+2):=fun e=>h1 ⟨(i+1)%l.length,Nat.zero_le _,Nat.mod_lt _ h0,by
   have a1:aN l ((i+1)%l.length)=aN l (i+1):=by unfold aN;rw[Nat.mod_mod]
   have a2:aN l ((i+1)%l.length+1)=aN l (i+2):=by unfold aN;rw[Nat.mod_add_mod]
   rw[a1,a2];exact e⟩
  rcases hb with hb | hb | hb
  ·exact e1 hb
  ·rcases(Dp (fun e=>e1 (IC e)) (fun e=>e2 (IC e))).1 hb with h | h
   ·exact h2 ⟨i,Nat.zero_le _,hi,.inl h⟩
   ·exact h2 ⟨i,Nat.zero_le _,hi,.inr (.inl h)⟩
  ·exact h2 ⟨i,Nat.zero_le _,hi,.inr (.inr hb)⟩
 ·rintro ⟨h3,h1⟩
  have h0:0<l.length:=by omega
  have n1:∀i,i<l.length→aN l i≠aN l (i+1):=fun i hi e=>h1 ⟨i,hi,.inl e⟩
  refine⟨h3,fun⟨i,_,hi,e⟩=>n1 i hi e,?_⟩
  rintro ⟨i,_,hi,hb⟩
  have e1:=n1 i hi
  have e2:aN l (i+1)≠aN l (i+2):=fun e=>n1 ((i+1)%l.length) (Nat.mod_lt _ h0) (by
   have a1:aN l ((i+1)%l.length)=aN l (i+1):=by unfold aN;rw[Nat.mod_mod]
   have a2:aN l ((i+1)%l.length+1)=aN l (i+2):=by unfold aN;rw[Nat.mod_add_mod]
   rw[a1,a2];exact e)
  have fo:=Dp (fun e=>e1 (IC e)) (fun e=>e2 (IC e))
  rcases hb with hb | hb | hb
  ·exact h1 ⟨i,hi,.inr (.inl (fo.2 (.inl hb)))⟩
  ·exact h1 ⟨i,hi,.inr (.inl (fo.2 (.inr hb)))⟩
  ·exact h1 ⟨i,hi,.inr (.inr hb)⟩
end
section
variable {l m:List Z} (hl:Bx l) (hm:Bx m)
include hl hm
theorem Qk:wR (l.map wT,m.map wT,())=some (!(bP (RH l m)),()):=by
 have b1:=hl.1
 have b2:=hm.1
 have h1:lenL (l.map wT)=(l.length:Int):=by rw[aL,List.length_map]
 have h2:lenL (m.map wT)=(m.length:Int):=by rw[aL,List.length_map]
 have inn:∀i,i<l.length→aH gN (l.map wT,m.map wT,(i:Int),(0:Int),())=some (bif bP (Um l m i) then .inl (false,()) else .inr (.inl (l.map wT,m.map wT,(i:Int),()))):=fun i hi=>by
  have n1:nz (l.length:Int)=some (l.length:Int):=by unfold nz;rw[if_neg (by omega)]
  have key:∀j,j<m.length→gN (l.map wT,m.map wT,(i:Int),(j:Int),())=some (bif bP (Mt l m i j) then .inr (.inl (false,())) else .inl (l.map wT,m.map wT,(i:Int),((j+1:Nat):Int),())):=fun j hj=>by
   have n2:nz (m.length:Int)=some (m.length:Int):=by unfold nz;rw[if_neg (by omega)]
   have wi:wr .i64 ((i:Int)+1)=((i+1:Nat):Int):=by rw[dK (by omega) (by omega)];push_cast;rfl
   have wj:wr .i64 ((j:Int)+1)=((j+1:Nat):Int):=by rw[dK (by omega) (by omega)];push_cast;rfl
   have hm1:((i+1:Nat):Int).tmod (l.length:Int)=(((i+1)%l.length:Nat):Int):=rfl
   have hm2:((j+1:Nat):Int).tmod (m.length:Int)=(((j+1)%m.length:Nat):Int):=rfl
   have x1:=CA hi
   have x2:=E4 (l:=l) (by omega) (i+1)
   have x3:=CA hj
   have x4:=E4 (l:=m) (by omega) (j+1)
   obtain⟨a0,a1,a2,a3,a4,a5,a6,a7,a8⟩:=cells (aN l i)
   obtain⟨b0,b1,b2,b3,b4,b5,b6,b7,b8⟩:=cells (aN l (i+1))
   obtain⟨c0,c1,c2,c3,c4,c5,c6,c7,c8⟩:=cells (aN m j)
   obtain⟨d0,d1,d2,d3,d4,d5,d6,d7,d8⟩:=cells (aN m (j+1))
   have mt:=Lm (zS hl (by omega) i (i+1)) (zS hm (by omega) j (j+1)) (nQ hl (by omega) (i+1)) (nQ hm (by omega) (j+1))
   have hb:bP (Mt l m i j)=bP (kJ (cq (aN l i)) (cq (aN l (i+1))) (cq (aN m j)) (cq (aN m (j+1)))):=rfl
   unfold gN
   simp -implicitDefEqProofs only[aF,h1,h2,decide_eq_true (by omega:(j:Int)<(m.length:Int)),cond_true,n1,n2,x1,x2,x3,x4,aY,wi,wj,aO,oD,hm1,hm2,a0,a1,a2,a3,a4,a5,a6,a7,a8,b0,b1,b2,b3,b4,b5,b6,b7,b8,c0,c1,c2,c3,c4,c5,c6,c7,c8,d0,d1,d2,d3,d4,d5,d6,d7,d8,mt,hb]
   generalize bP (kJ (cq (aN l i)) (cq (aN l (i+1))) (cq (aN m j)) (cq (aN m (j+1))))=b
   cases b <;> rfl
  exact eR (F:=gN) (fun j=>(l.map wT,m.map wT,(i:Int),(j:Int),())) m.length (Mt l m i) _ _ (fun j hj hb=>by rw[key j hj,jO hb];rfl) (fun j hj hb=>by rw[key j hj,gU hb];rfl) (by
   unfold gN
   simp only[aF,h2,decide_eq_false (by omega:¬(m.length:Int)<(m.length:Int)),cond_false]) m.length 0 (by omega)
 have out:=eR (F:=gO) (fun i=>(l.map wT,m.map wT,(i:Int),())) l.length (Um l m) (.inl (false,())) (.inr (.inl ()))
  (fun i hi hb=>by
   unfold gO
   simp only[aF,h1,decide_eq_true (by omega:(i:Int)<(l.length:Int)),cond_true,inn i hi,jO hb,aY,aP])
  (fun i hi hb=>by
   have wi:wr .i64 ((i:Int)+1)=((i+1:Nat):Int):=by rw[dK (by omega) (by omega)];push_cast;rfl
   unfold gO
   simp only[aF,h1,decide_eq_true (by omega:(i:Int)<(l.length:Int)),cond_true,inn i hi,gU hb,cond_false,aY,aP,sB,aO,wi])
  (by
   unfold gO
   simp only[aF,h1,decide_eq_false (by omega:¬(l.length:Int)<(l.length:Int)),cond_false]) l.length 0 (by omega)
 have out:aH gO (l.map wT,m.map wT,(0:Int),())=_:=out
 unfold wR
 rw[out]
 have hb:bP (∃j,0≤j∧j<l.length∧Um l m j)=bP (RH l m):=rfl
 rw[hb]
 generalize bP (RH l m)=b
 cases b <;> rfl
end
end Go.Eng.Rt
namespace Go.Eng.Rt
open Go.Eng Go.Eng.Tw Go.Eng.Tm Go.Eng.Tg
theorem Hd{p:Z}(hp:Sp p):wQ (pt p)=some (true,()):=by
 have v1:=OE (n:=p.1) (by have:=hp.1;omega)
 have v2:=OE (n:=p.2) (by have:=hp.2;omega)
 have v3:=OE (n:=0) (by decide)
 rw[CU.1,CU.2.1,CU.2.2] at v3
 unfold wQ
 simp only[v1,v2,v3,aY,cond_true]
noncomputable def OH(ls:List (List Z))(i k:Nat):Int:=lJ k fun j=>if j=i then 0 else wn (bO ls j) (cq (zW ls i))
def Ql(ls:List (List Z))(i:Nat):Prop:=¬(0≤OH ls i ls.length∧OH ls i ls.length≤1∧0≤OH ls i ls.length+sA (bO ls i)∧OH ls i ls.length+sA (bO ls i)≤1)
section
variable {ls:List (List Z)} (hB:KO ls) (hm:ls.length≤1000)
include hB hm
omit hm in
theorem Xs{i:Nat}(hi:i<ls.length)(b:Bool):aH fF (ls.map lT,b,(i:Int),(0:Int),())=some (.inr (.inl (ls.map lT,b,(i:Int),()))):=by
 have hb:=hB _ (cJ hi)
 have hle:=hb.1
 have hl:T.len? (lT (bO ls i))=some ((bO ls i).length:Int):=by
  show (if (9:Nat)<1000000000 then some (lenL ((bO ls i).map wT)) else none)=_
  rw[if_pos (by decide),aL,List.length_map]
 have lp:=jT (F:=fF) (bO ls i).length (fun k=>(ls.map lT,b,(i:Int),(k:Int),())) fun k hk=>by
  have wk:wr .i64 ((k:Int)+1)=((k+1:Nat):Int):=by rw[dK (by omega) (by omega)];push_cast;rfl
  obtain⟨c0,c1,c2,c3,c4,c5,c6,c7,c8⟩:=cells (aN (bO ls i) k)
  have v:=Hd (nQ hb (by omega) k)
  have sg:fH (false,([]:List T),([]:List T),())=some (0,()):=by
   have:=N6 0
   rw[Ku,DP,DQ] at this
   exact this
  unfold fF
  simp -implicitDefEqProofs only[(kZ hi).1,aY,oL,hl,aF,decide_eq_true (by omega:(k:Int)<((bO ls i).length:Int)),cond_true,OG,CA hk,c0,c1,c2,c3,c4,c5,c6,c7,c8,v,Bool.not_true,cond_false,sg,aR,decide_true,aO,wk]
 have hout:fF (ls.map lT,b,(i:Int),((bO ls i).length:Int),())=some (.inr (.inr (.inl (ls.map lT,b,(i:Int),())))):=by
  unfold fF
  simp only[(kZ hi).1,aY,oL,hl,aF,decide_eq_false (by omega:¬((bO ls i).length:Int)<((bO ls i).length:Int)),cond_false]
 rw[aQ hout] at lp
 exact lp
theorem Yo(hl:∀l∈ls,l.length≤64):aH gP (ls.map lT,false,(0:Int),())=some (.inr (.inl (ls.map lT,false,()))):=by
 have lp:=jT (F:=gP) ls.length (fun k=>(ls.map lT,false,(k:Int),())) fun k hk=>by
  have wk:wr .i64 ((k:Int)+1)=((k+1:Nat):Int):=by rw[dK (by omega) (by omega)];push_cast;rfl
  have hp:=Xs hB hk false
  have hlen:=hl _ (cJ hk)
  have hl:T.len? (lT (bO ls k))=some ((bO ls k).length:Int):=by
   show (if (9:Nat)<1000000000 then some (lenL ((bO ls k).map wT)) else none)=_
   rw[if_pos (by decide),aL,List.length_map]
  unfold gP
  simp only[aF,rL,decide_eq_true (by omega:(k:Int)<(ls.length:Int)),cond_true,cond_false,(kZ hk).1,aY,oL,hl,decide_eq_false (by omega:¬(64:Int)<((bO ls k).length:Int)),hp,aP,sB,aO,wk]
 have hout:gP (ls.map lT,false,(ls.length:Int),())=some (.inr (.inr (.inl (ls.map lT,false,())))):=by
  unfold gP
  simp only[aF,rL,decide_eq_false (by omega:¬(ls.length:Int)<(ls.length:Int)),cond_false]
 rw[aQ hout] at lp
 exact lp
theorem Uu{i:Nat}(hi:i<ls.length):aH gQ (ls.map lT,(i:Int),(0:Int),()) =
 some (bif bP (∃k,0≤k∧k<i∧RH (bO ls i) (bO ls k)) then .inl (8,()) else .inr (.inl (ls.map lT,(i:Int),()))):=by
 have key:∀k,k<i→gQ (ls.map lT,(i:Int),(k:Int),())=some (bif bP (RH (bO ls i) (bO ls k)) then .inr (.inl (8,())) else .inl (ls.map lT,(i:Int),((k+1:Nat):Int),())):=fun k hk=>by
  have wk:wr .i64 ((k:Int)+1)=((k+1:Nat):Int):=by rw[dK (by omega) (by omega)];push_cast;rfl
  have ha:=Qk (hB _ (cJ hi)) (hB _ (cJ (i:=k) (by omega)))
  unfold gQ
  simp only[aF,decide_eq_true (by omega:(k:Int)<(i:Int)),cond_true,(kZ hi).1,(kZ (ls:=ls) (i:=k) (by omega)).1,aY,oL,E3,ha,Bool.not_not,aO,wk]
  generalize bP (RH (bO ls i) (bO ls k))=b
  cases b <;> rfl
 exact eR (F:=gQ) (fun k=>(ls.map lT,(i:Int),(k:Int),())) i (fun k=>RH (bO ls i) (bO ls k)) _ _
  (fun k hk hb=>by rw[key k hk,jO hb];rfl) (fun k hk hb=>by rw[key k hk,gU hb];rfl) (by
   unfold gQ
   simp only[aF,decide_eq_false (by omega:¬(i:Int)<(i:Int)),cond_false]) i 0 (by omega)
theorem Zo:aH gR (ls.map lT,(0:Int),())=some (bif bP (∃i,0≤i∧i<ls.length∧CY ls i) then .inl (8,()) else .inr (.inl (ls.map lT,()))):=by
 have key:∀i,i<ls.length→gR (ls.map lT,(i:Int),())=some (bif bP (CY ls i) then .inr (.inl (8,())) else .inl (ls.map lT,((i+1:Nat):Int),())):=fun i hi=>by
  have wi:wr .i64 ((i:Int)+1)=((i+1:Nat):Int):=by rw[dK (by omega) (by omega)];push_cast;rfl
  have hs:=Mg (hB _ (cJ hi))
  rw[jG Qj] at hs
  have pp:=Uu hB hm hi
  have hb:bP (CY ls i)=(!(bP (rM (bO ls i)))||bP (∃k,0≤k∧k<i∧RH (bO ls i) (bO ls k))):=by
   unfold CY
   rw[vY,IB]
  unfold gR
  simp only[aF,rL,decide_eq_true (by omega:(i:Int)<(ls.length:Int)),cond_true,(kZ hi).1,aY,oL,E3,hs,pp,aO]
  rw[hb]
  generalize bP (rM (bO ls i))=x
  generalize bP (∃k,0≤k∧k<i∧RH (bO ls i) (bO ls k))=y
  cases x <;> cases y <;> simp only[Bool.not_true,Bool.not_false,cond_true,cond_false,aY,aP,sB,wi,Bool.true_or,Bool.false_or]
 exact eR (F:=gR) (fun i=>(ls.map lT,(i:Int),())) ls.length (CY ls) _ _
  (fun k hk hb=>by rw[key k hk,jO hb];rfl) (fun k hk hb=>by rw[key k hk,gU hb];rfl) (by
   unfold gR
   simp only[aF,rL,decide_eq_false (by omega:¬(ls.length:Int)<(ls.length:Int)),cond_false]) ls.length 0 (by omega)
end
section
variable {ls:List (List Z)} (hB:KO ls)
include hB
def wW(ls:List (List Z))(p:Q):Prop:=∃j,0≤j∧j<ls.length∧EZ (fV (qs (bO ls j))) p
noncomputable def uV(ls:List (List Z))(p:Q)(k:Nat):Int:=lJ k fun j=>wd (fV (qs (bO ls j))) p
theorem XE(p:Q):∀k,k≤ls.length→(uV ls p k).natAbs≤1000*k
 | 0,_=>by show (0:Int).natAbs≤_;omega
 | k+1,hk=>by
  have h1:=XE p k (by omega)
  have h2:=Lr (bO ls k) p
  have h3:=(hB _ (cJ (i:=k) (by omega))).1
  unfold uV at *
  rw[gT,Nat.mul_succ];omega
section
variable (hm:ls.length≤1000) {D:Nat} {px py pz:Rat}
include hm
theorem K6(hp:Pp D 32 px py pz):gD (ls.map lT,c3 px (c3 py (c3 pz ())))=some (bif bP (wW ls (px,py)) then 0 else bif decide (uV ls (px,py) ls.length=1) then 1 else -1,()):=by
 have key:∀k,k<ls.length→iW ((),uV ls (px,py) k,ls.map lT,(ls.length:Int),(k:Int),c3 px (c3 py (c3 pz ())))=some (bif bP (EZ (fV (qs (bO ls k))) (px,py)) then .inr (.inl (0,())) else .inl ((),uV ls (px,py) (k+1),ls.map lT,(ls.length:Int),((k+1:Nat):Int),c3 px (c3 py (c3 pz ())))):=fun k hk=>by
  have wk:wr .i64 ((k:Int)+1)=((k+1:Nat):Int):=by rw[dK (by omega) (by omega)];push_cast;rfl
  have hw:=Ls (hB _ (cJ hk)) hp
  have h1:=XE hB (px,py) k (by omega)
  have h2:=Lr (bO ls k) (px,py)
  have h3:=(hB _ (cJ hk)).1
  have e2:uV ls (px,py) (k+1)=uV ls (px,py) k+wd (fV (qs (bO ls k))) (px,py):=gT _ _
  have ws:wr .i64 (uV ls (px,py) k+wd (fV (qs (bO ls k))) (px,py))=uV ls (px,py) k+wd (fV (qs (bO ls k))) (px,py):=dK (by omega) (by omega)
  rw[e2]
  unfold iW
  simp -implicitDefEqProofs only[aF,decide_eq_true (by omega:(k:Int)<(ls.length:Int)),cond_true,(kZ hk).1,aY,oL,E3,hw,aO,wk]
  generalize bP (EZ (fV (qs (bO ls k))) (px,py))=b
  cases b with
  | true=>rfl
  | false=>simp only[cond_false,Bool.not_true,ws]
 have sc:=eR (F:=iW) (fun k=>((),uV ls (px,py) k,ls.map lT,(ls.length:Int),(k:Int),c3 px (c3 py (c3 pz ())))) ls.length (fun k=>EZ (fV (qs (bO ls k))) (px,py)) (.inl (0,())) (.inr (.inl (uV ls (px,py) ls.length,())))
  (fun k hk hb=>by rw[key k hk,jO hb];rfl) (fun k hk hb=>by rw[key k hk,gU hb];rfl) (by
   unfold iW
   simp only[aF,decide_eq_false (by omega:¬(ls.length:Int)<(ls.length:Int)),cond_false]) ls.length 0 (by omega)
 have sc:aH iW ((),(0:Int),ls.map lT,(ls.length:Int),(0:Int),c3 px (c3 py (c3 pz ())))=_:=sc
 have hb:bP (∃j,0≤j∧j<ls.length∧EZ (fV (qs (bO ls j))) (px,py))=bP (wW ls (px,py)):=rfl
 rw[hb] at sc
 unfold gD
 simp only[rL]
 rw[sc]
 cases bP (wW ls (px,py)) with
 | true=>rfl
 | false=>
  simp only[cond_false,aY,aP,sB,aR]
  cases decide (uV ls (px,py) ls.length=1) <;> rfl
end
end
end Go.Eng.Rt
namespace Go.Eng.Rt
open Go.Eng Go.Eng.Tw Go.Eng.Tm Go.Eng.Tg
def pz(x y r:Int)(p:Z):Z:=(x+r*p.1,y+r*p.2)
def Xt(l:List Z):Prop:=∃x y r s,0<r∧W3 s=true∧l=s.map (pz x y r)
theorem Uv{s:List Z}(f:Z→Q):fV (s.map f)=(fV s).map fun e=>(f e.1,f e.2):=by
 unfold fV
 rw[List.map_map,List.length_map]
 refine List.map_congr_left fun i hi=>?_
 have hi:=List.mem_range.1 hi
 have hj:(i+1)%s.length<s.length:=Nat.mod_lt _ (by omega)
 have h:∀{j},j<s.length→(s.map f).getD j default=f (s.getD j default):=fun {j} hj=>by
  rw[List.getD_eq_getElem?_getD,List.getD_eq_getElem?_getD,List.getElem?_map,List.getElem?_eq_getElem hj];rfl
 rw[h hi,h hj]
 rfl
theorem Uw{α β:Type}(f:α→β)(E:List (α×α)):sw (E.map fun e=>(f e.1,f e.2))=(sw E).map fun e=>(f e.1,f e.2):=by
 unfold sw
 rw[List.map_map,List.map_map];rfl
theorem XF(s:List Z):∀k,k≤s.length→uZ s k=lJ k fun i=>PX (aN s i) (aN s (i+1))
 | 0,_=>rfl
 | k+1,h=>by
  rw[gT,←XF s k (by omega)]
  show uZ s k+PX (tI s k) (tI s ((k+1)%s.length))=_
  rw[←Z1 (by omega),←T8 (by omega)]
theorem CB(s:List Z):B2 s=lJ s.length fun i=>PX (aN s i) (aN s (i+1)):=by rw[←H9,XF s _ (Nat.le_refl _)]
theorem Qm(s:List Z):Yn s=B2 s:=by
 rw[CB]
 unfold Yn lJ fV
 rw[List.map_map]
 refine congrArg List.sum (List.map_congr_left fun i hi=>?_)
 have hi:=List.mem_range.1 hi
 show _=PX (aN s i) (aN s (i+1))
 unfold aN
 rw[Nat.mod_eq_of_lt hi]
 rfl
theorem Ux(x y r:Int)(p q:Z):PX (pz x y r p) (pz x y r q)=r*r*PX p q+r*(x*(q.2-p.2)-y*(q.1-p.1)):=by unfold PX pz;grind
theorem Dr(x y r:Int)(s:List Z):B2 (s.map (pz x y r))=r*r*B2 s:=by
 by_cases h0:s.length=0
 ·rw[List.length_eq_zero_iff.1 h0];show (0:Int)=r*r*0;omega
 have h0:0<s.length:=by omega
 rw[CB,CB,List.length_map]
 have key:∀k,lJ k (fun i=>PX (aN (s.map (pz x y r)) i) (aN (s.map (pz x y r)) (i+1)))=r*r*lJ k (fun i=>PX (aN s i) (aN s (i+1)))+r*(x*((aN s k).2-(aN s 0).2)-y*((aN s k).1-(aN s 0).1)):=fun k=>by
  induction k with
  | zero=>show (0:Int)=r*r*0+r*(x*((aN s 0).2-(aN s 0).2)-y*((aN s 0).1-(aN s 0).1));grind
  | succ k ih=>rw[gT,gT,ih,wV _ h0,wV _ h0,Ux];grind
 rw[key]
 have e:aN s s.length=aN s 0:=by unfold aN;rw[Nat.mod_self,Nat.zero_mod]
 rw[e];grind
theorem Ds{n:Int}:(0<n→kF (n:Rat)=1)∧(n<0→kF (n:Rat)=-1):=by
 rcases rK (n:Rat) with⟨h,k⟩ | ⟨h,k⟩ | ⟨h,k⟩
 ·have:n=0:=Rat.intCast_inj.1 k
  exact⟨fun c=>by omega,fun c=>by omega⟩
 ·have:n<0:=Rat.intCast_lt_intCast.1 k
  exact⟨fun c=>by omega,fun _=>h⟩
 ·have:0<n:=Rat.intCast_lt_intCast.1 k
  exact⟨fun _=>h,fun c=>by omega⟩
theorem Qn{l:List Z}(h:rM l):Ub (qs l):=by
 obtain⟨h3,hb⟩:=h
 have h0:0<l.length:=by omega
 unfold Ub
 rw[kX]
 refine⟨h3,fun i hi=>?_⟩
 have nb:¬ID l i:=fun c=>hb ⟨i,hi,c⟩
 rw[mX h0,mX h0,mX h0]
 refine⟨fun e=>nb (.inl (IC e)),fun e=>nb (.inr (.inl e)),fun j h1 h2 h3 hm=>nb (.inr (.inr ⟨j,h1,?_,?_⟩))⟩
 ·split
  ·exact h2
  ·omega
 ·rw[mX h0,mX h0] at hm;exact hm
theorem Uy{l:List Z}(hs:Xt l)(h:rM l):∃G,Lp (qs l) (sA l) G:=by
 obtain⟨x,y,r,s,hr,hc,rfl⟩:=hs
 have hq:qs (s.map (pz x y r))=s.map (pl x y r):=by unfold qs;rw[List.map_map];rfl
 have hp:=Qn h
 rw[hq] at hp
 have hb:=Ud hr hp
 have hE:fV (qs (s.map (pz x y r)))=(fV s).map (Vv x y r):=by rw[hq];exact Uv _
 have hS:sw (fV (qs (s.map (pz x y r))))=(sw (fV s)).map (Vv x y r):=by rw[hE];exact Uw _ _
 have r2:0<r*r:=Int.mul_pos hr hr
 unfold W3 at hc
 rw[hb] at hc
 simp only[Bool.not_true,Bool.or_false,Bool.or_eq_true,Bool.and_eq_true,Lh,Qm] at hc
 rcases hc with⟨h1,h2⟩ | ⟨h1,h2⟩
 ·refine⟨fV (qs (s.map (pz x y r))),?_,T6 _,.inl ⟨?_,rfl⟩⟩
  ·rw[hE]
   exact Rs hr h1 (by rw[←hE];exact T6 _) (by rw[←hE];exact fun e he=>Pv he)
  ·unfold sA;rw[Dr];exact Ds.1 (Int.mul_pos r2 h2)
 ·refine⟨sw (fV (qs (s.map (pz x y r)))),?_,ZY _,.inr ⟨?_,rfl⟩⟩
  ·rw[hS]
   exact Rs hr h1 (by rw[←hS];exact ZY _) (by rw[←hS];exact fun e he=>Lf he)
  ·unfold sA;rw[Dr];exact Ds.2 (Int.mul_neg_of_pos_of_neg r2 h2)
structure Reg (ls:List (List Z)) (G:Nat→List Ed):Prop where
 lp:∀i,i<ls.length→Lp (qs (bO ls i)) (sA (bO ls i)) (G i)
 pos:∀i,i<ls.length→0<(bO ls i).length
 ap:∀i,i<ls.length→∀j,j<ls.length→i≠j→Apart (fV (qs (bO ls i))) (fV (qs (bO ls j)))
theorem Mh{ls:List (List Z)}(hS:∀l∈ls,Xt l)(hA:¬∃i,0≤i∧i<ls.length∧CY ls i):∃G,Reg ls G:=by
 have h1:∀i,i<ls.length→rM (bO ls i):=fun i hi=>Classical.byContradiction fun c=>hA ⟨i,Nat.zero_le _,hi,.inl c⟩
 have h2:∀i,i<ls.length→∀k,k<i→Apart (fV (qs (bO ls i))) (fV (qs (bO ls k))):=fun i hi k hk=>
  IE.1 fun c=>hA ⟨i,Nat.zero_le _,hi,.inr ⟨k,Nat.zero_le _,hk,c⟩⟩
 have hG:∀i,i<ls.length→∃G,Lp (qs (bO ls i)) (sA (bO ls i)) G:=fun i hi=>Uy (hS _ (cJ hi)) (h1 i hi)
 refine⟨fun i=>if hi:i<ls.length then Classical.choose (hG i hi) else [],fun i hi=>?_,fun i hi=>by have:=(h1 i hi).1;omega,fun i hi j hj hne=>?_⟩
 ·rw[dif_pos hi];exact Classical.choose_spec (hG i hi)
 ·rcases Nat.lt_or_ge i j with h | h
  ·exact(h2 j hj i h).symm
  ·exact h2 i hi j (by omega)
section
variable {ls:List (List Z)} {G:Nat→List Ed} (hR:Reg ls G)
include hR
theorem Reg.ns:Ns ls.length G fun i=>cq (zW ls i):=
 ⟨fun i hi=>(hR.lp i hi).gd,fun i hi=>(hR.lp i hi).con,fun i hi j hj hne=>(hR.lp i hi).apart (hR.lp j hj) (hR.ap i hi j hj hne),fun i hi=>by
  have h0:=hR.pos i hi
  obtain⟨e,he,ev⟩:=(hR.lp i hi).at (by rw[kX];exact h0) 0
  exact⟨e,he,by rw[ev,mX h0];rfl⟩⟩
theorem Reg.off{i j:Nat}(hi:i<ls.length)(hj:j<ls.length)(hne:j≠i):¬EZ (fV (qs (bO ls j))) (cq (zW ls i)):=by
 rintro ⟨e,he,ho⟩
 have h0:=hR.pos i hi
 have:=E0 (L:=qs (bO ls i)) (i:=0) (by rw[kX];exact h0)
 rw[mX h0,mX h0] at this
 exact hR.ap i hi j hj (Ne.symm hne) _ this e he (.inr (.inr (.inl ho)))
theorem Reg.wn{p:Q}{j:Nat}(hj:j<ls.length)(ho:¬EZ (fV (qs (bO ls j))) p):wd (fV (qs (bO ls j))) p=ad G (fun j=>sA (bO ls j)) p j:=by
 rw[(hR.lp j hj).wind ho];rfl
theorem Reg.sum_at{i:Nat}(hi:i<ls.length):OH ls i ls.length=lJ ls.length fun j=>if j=i then 0 else ad G (fun j=>sA (bO ls j)) (cq (zW ls i)) j:=
 iB fun j hj=>by
  by_cases h:j=i
  ·rw[if_pos h,if_pos h]
  ·rw[if_neg h,if_neg h]
   have ho:=hR.off hi hj h
   unfold Rt.wn
   rw[gU ho,cond_false]
   exact hR.wn hj ho
theorem Reg.outs{i:Nat}(hi:i<ls.length):outs ls i=OH ls i ls.length:=by
 have key:∀k,k≤ls.length→((JN ls i k).map fun j=>sA (bO ls j)).sum=OH ls i k:=fun k hk=>by
  induction k with
  | zero=>rfl
  | succ k ih=>
   have e2:OH ls i (k+1)=OH ls i k+if k=i then 0 else Rt.wn (bO ls k) (cq (zW ls i)):=gT _ _
   rw[e2,XD,List.map_append,List.sum_append,ih (by omega)]
   by_cases h:k=i
   ·rw[if_pos h,gU (fun c=>c.1 h)];rfl
   ·rw[if_neg h]
    have ho:=hR.off hi (by omega) h
    have hw:Rt.wn (bO ls k) (cq (zW ls i))=ad G (fun j=>sA (bO ls j)) (cq (zW ls i)) k:=by
     unfold Rt.wn
     rw[gU ho,cond_false]
     exact hR.wn (by omega) ho
    by_cases h2:Rt.wn (bO ls k) (cq (zW ls i))=0
    ·rw[gU (fun c=>c.2 h2),h2];rfl
    ·rw[jO ⟨h,h2⟩]
     have:Rt.wn (bO ls k) (cq (zW ls i))=sA (bO ls k):=by
      rw[hw] at h2 ⊢
      unfold ad at h2 ⊢
      split
      ·rfl
      ·rename_i hh;rw[if_neg hh] at h2;exact absurd rfl h2
     rw[this]
     simp
 exact key _ (Nat.le_refl _)
theorem Reg.bad{i:Nat}(hi:i<ls.length):KP ls i↔Ql ls i:=by
 unfold KP Ql
 rw[hR.outs hi]
 have hs:=(hR.lp i hi).sg
 generalize OH ls i ls.length=o at *
 generalize sA (bO ls i)=s at *
 omega
end
theorem region{ls:List (List Z)}(hS:∀l∈ls,Xt l)(h:GZ ls=0){p:Q}(ho:¬wW ls p):uV ls p ls.length=0∨uV ls p ls.length=1:=by
 have hA:¬∃i,0≤i∧i<ls.length∧CY ls i:=fun c=>by unfold GZ at h;rw[jO c] at h;have h:(8:Int)=0:=h;omega
 have hN:¬∃i,0≤i∧i<ls.length∧KP ls i:=fun c=>by unfold GZ at h;rw[gU hA,jO c] at h;have h:(8:Int)=0:=h;omega
 obtain⟨G,hR⟩:=Mh hS hA
 have e:uV ls p ls.length=lJ ls.length (ad G (fun j=>sA (bO ls j)) p):=iB fun j hj=>hR.wn hj fun c=>ho ⟨j,Nat.zero_le _,hj,c⟩
 rw[e]
 refine Lk hR.ns (fun i hi n hn=>?_) p
 rw[←hR.sum_at hi] at hn
 have nb:¬KP ls i:=fun c=>hN ⟨i,Nat.zero_le _,hi,c⟩
 unfold KP at nb
 rw[hR.outs hi,←hn] at nb
 omega
end Go.Eng.Rt
namespace Go.Eng.Sq
open Go.Eng Go.Eng.Tm Go.Eng.Tw Go.Eng.Rt Go.Eng.Tg
def XG(turn:Bool):List Z:=bif turn then Ha.reverse else Ha
theorem Z3{L:List T}{a:Int}(hD:kY L a){x y r:Int}(hx:x.natAbs≤4)(hy:y.natAbs≤4)(hr0:1≤r)(hr:r≤5){ps:List (Int×Int)}(hl:ps.length<100){turn:Bool}{i:Int}(hi:i=0∨i=1∨i=2∨i=3∨i=4∨i=5∨i=6∨i=7):
 ∃a' ps',aC (DS L a x y r turn i (ps.map wT))=some (.inl (DS L a' x y r turn (i+1) (ps'.map wT)))∧kY L a'∧(ps'=ps∨ps'=ps++[pz x y r ((XG turn).getD i.toNat default)]):=by
 obtain⟨v,a',e,v0,v1,hD'⟩:=oS hD (n:=4) (by omega) (by omega)
 have bd:∀c:Int,-2≤c→c≤2→-10≤r*c∧r*c≤10:=fun c h1 h2=>by
  have:c=-2∨c=-1∨c=0∨c=1∨c=2:=by omega
  rcases this with rfl | rfl | rfl | rfl | rfl <;> omega
 have wl:∀k:Int,0≤k→k≤100→wr .i64 k=k:=fun k h1 h2=>sR (by omega) (by omega)
 have hm:∀c:Int,-2≤c→c≤2→wr .i64 (r*c)=r*c:=fun c h1 h2=>by have:=bd c h1 h2;exact dK (by omega) (by omega)
 have hax:∀c:Int,-2≤c→c≤2→wr .i64 (x+r*c)=x+r*c:=fun c h1 h2=>by have:=bd c h1 h2;exact dK (by omega) (by omega)
 have hay:∀c:Int,-2≤c→c≤2→wr .i64 (y+r*c)=y+r*c:=fun c h1 h2=>by have:=bd c h1 h2;exact dK (by omega) (by omega)
 have gx:∀c:Int,-2≤c→c≤2→aB (x+r*c,())=some (aM ((x+r*c:Int):Rat),aU ((x+r*c:Int):Rat),bA ((x+r*c:Int):Rat),()):=fun c h1 h2=>by have:=bd c h1 h2;exact WT (by omega) (by omega)
 have gy:∀c:Int,-2≤c→c≤2→aB (y+r*c,())=some (aM ((y+r*c:Int):Rat),aU ((y+r*c:Int):Rat),bA ((y+r*c:Int):Rat),()):=fun c h1 h2=>by have:=bd c h1 h2;exact WT (by omega) (by omega)
 have hroom:∀t:T,room (ps.map wT) [t] 168=some (ps.map wT++[t]):=fun t=>kR (by simp;omega) (by decide)
 by_cases h3:v=3
 ·subst h3
  refine⟨a',ps,?_,hD',.inl rfl⟩
  unfold aC
  conv=>lhs;unfold DS
  rcases hi with rfl | rfl | rfl | rfl | rfl | rfl | rfl | rfl <;> (simp only[aF,Int.reduceLT,decide_true,cond_true,e,aY,aR,aP,aO,Int.reduceAdd,wl,Int.reduceLE];rfl)
 ·have d3:decide (v=3)=false:=decide_eq_false h3
  rcases hi with rfl | rfl | rfl | rfl | rfl | rfl | rfl | rfl <;> cases turn
  ·refine⟨a',ps++[(x+r*(2),y+r*(0))],?_,hD',.inr rfl⟩
   unfold aC DS
   simp only[aF,Int.reduceLT,decide_true,decide_false,cond_true,cond_false,e,aY,aR,d3,aP,dE,aO,bK,eI,Int.reduceAdd,Int.reduceSub,Int.reduceEq,wl,hm,hax,hay,gx,gy,hroom,Int.reduceLE,Int.reduceNeg]
   rw[List.map_append];rfl
  ·refine⟨a',ps++[(x+r*(1),y+r*(-1))],?_,hD',.inr rfl⟩
   unfold aC DS
   simp only[aF,Int.reduceLT,decide_true,decide_false,cond_true,cond_false,e,aY,aR,d3,aP,dE,aO,bK,eI,Int.reduceAdd,Int.reduceSub,Int.reduceEq,wl,hm,hax,hay,gx,gy,hroom,Int.reduceLE,Int.reduceNeg]
   rw[List.map_append];rfl
  ·refine⟨a',ps++[(x+r*(2),y+r*(1))],?_,hD',.inr rfl⟩
   unfold aC DS
   simp only[aF,Int.reduceLT,decide_true,decide_false,cond_true,cond_false,e,aY,aR,d3,aP,dE,aO,bK,eI,Int.reduceAdd,Int.reduceSub,Int.reduceEq,wl,hm,hax,hay,gx,gy,hroom,Int.reduceLE,Int.reduceNeg]
   rw[List.map_append];rfl
  ·refine⟨a',ps++[(x+r*(0),y+r*(-2))],?_,hD',.inr rfl⟩
   unfold aC DS
   simp only[aF,Int.reduceLT,decide_true,decide_false,cond_true,cond_false,e,aY,aR,d3,aP,dE,aO,bK,eI,Int.reduceAdd,Int.reduceSub,Int.reduceEq,wl,hm,hax,hay,gx,gy,hroom,Int.reduceLE,Int.reduceNeg]
   rw[List.map_append];rfl
  ·refine⟨a',ps++[(x+r*(1),y+r*(2))],?_,hD',.inr rfl⟩
   unfold aC DS
   simp only[aF,Int.reduceLT,decide_true,decide_false,cond_true,cond_false,e,aY,aR,d3,aP,dE,aO,bK,eI,Int.reduceAdd,Int.reduceSub,Int.reduceEq,wl,hm,hax,hay,gx,gy,hroom,Int.reduceLE,Int.reduceNeg]
   rw[List.map_append];rfl
  ·refine⟨a',ps++[(x+r*(-2),y+r*(-1))],?_,hD',.inr rfl⟩
   unfold aC DS
   simp only[aF,Int.reduceLT,decide_true,decide_false,cond_true,cond_false,e,aY,aR,d3,aP,dE,aO,bK,eI,Int.reduceAdd,Int.reduceSub,Int.reduceEq,wl,hm,hax,hay,gx,gy,hroom,Int.reduceLE,Int.reduceNeg]
   rw[List.map_append];rfl
  ·refine⟨a',ps++[(x+r*(-1),y+r*(2))],?_,hD',.inr rfl⟩
   unfold aC DS
   simp only[aF,Int.reduceLT,decide_true,decide_false,cond_true,cond_false,e,aY,aR,d3,aP,dE,aO,bK,eI,Int.reduceAdd,Int.reduceSub,Int.reduceEq,wl,hm,hax,hay,gx,gy,hroom,Int.reduceLE,Int.reduceNeg]
   rw[List.map_append];rfl
  ·refine⟨a',ps++[(x+r*(-2),y+r*(0))],?_,hD',.inr rfl⟩
   unfold aC DS
   simp only[aF,Int.reduceLT,decide_true,decide_false,cond_true,cond_false,e,aY,aR,d3,aP,dE,aO,bK,eI,Int.reduceAdd,Int.reduceSub,Int.reduceEq,wl,hm,hax,hay,gx,gy,hroom,Int.reduceLE,Int.reduceNeg]
   rw[List.map_append];rfl
  ·refine⟨a',ps++[(x+r*(-2),y+r*(0))],?_,hD',.inr rfl⟩
   unfold aC DS
   simp only[aF,Int.reduceLT,decide_true,decide_false,cond_true,cond_false,e,aY,aR,d3,aP,dE,aO,bK,eI,Int.reduceAdd,Int.reduceSub,Int.reduceEq,wl,hm,hax,hay,gx,gy,hroom,Int.reduceLE,Int.reduceNeg]
   rw[List.map_append];rfl
  ·refine⟨a',ps++[(x+r*(-1),y+r*(2))],?_,hD',.inr rfl⟩
   unfold aC DS
   simp only[aF,Int.reduceLT,decide_true,decide_false,cond_true,cond_false,e,aY,aR,d3,aP,dE,aO,bK,eI,Int.reduceAdd,Int.reduceSub,Int.reduceEq,wl,hm,hax,hay,gx,gy,hroom,Int.reduceLE,Int.reduceNeg]
   rw[List.map_append];rfl
  ·refine⟨a',ps++[(x+r*(-2),y+r*(-1))],?_,hD',.inr rfl⟩
   unfold aC DS
   simp only[aF,Int.reduceLT,decide_true,decide_false,cond_true,cond_false,e,aY,aR,d3,aP,dE,aO,bK,eI,Int.reduceAdd,Int.reduceSub,Int.reduceEq,wl,hm,hax,hay,gx,gy,hroom,Int.reduceLE,Int.reduceNeg]
   rw[List.map_append];rfl
  ·refine⟨a',ps++[(x+r*(1),y+r*(2))],?_,hD',.inr rfl⟩
   unfold aC DS
   simp only[aF,Int.reduceLT,decide_true,decide_false,cond_true,cond_false,e,aY,aR,d3,aP,dE,aO,bK,eI,Int.reduceAdd,Int.reduceSub,Int.reduceEq,wl,hm,hax,hay,gx,gy,hroom,Int.reduceLE,Int.reduceNeg]
   rw[List.map_append];rfl
  ·refine⟨a',ps++[(x+r*(0),y+r*(-2))],?_,hD',.inr rfl⟩
   unfold aC DS
   simp only[aF,Int.reduceLT,decide_true,decide_false,cond_true,cond_false,e,aY,aR,d3,aP,dE,aO,bK,eI,Int.reduceAdd,Int.reduceSub,Int.reduceEq,wl,hm,hax,hay,gx,gy,hroom,Int.reduceLE,Int.reduceNeg]
   rw[List.map_append];rfl
  ·refine⟨a',ps++[(x+r*(2),y+r*(1))],?_,hD',.inr rfl⟩
   unfold aC DS
   simp only[aF,Int.reduceLT,decide_true,decide_false,cond_true,cond_false,e,aY,aR,d3,aP,dE,aO,bK,eI,Int.reduceAdd,Int.reduceSub,Int.reduceEq,wl,hm,hax,hay,gx,gy,hroom,Int.reduceLE,Int.reduceNeg]
   rw[List.map_append];rfl
  ·refine⟨a',ps++[(x+r*(1),y+r*(-1))],?_,hD',.inr rfl⟩
   unfold aC DS
   simp only[aF,Int.reduceLT,decide_true,decide_false,cond_true,cond_false,e,aY,aR,d3,aP,dE,aO,bK,eI,Int.reduceAdd,Int.reduceSub,Int.reduceEq,wl,hm,hax,hay,gx,gy,hroom,Int.reduceLE,Int.reduceNeg]
   rw[List.map_append];rfl
  ·refine⟨a',ps++[(x+r*(2),y+r*(0))],?_,hD',.inr rfl⟩
   unfold aC DS
   simp only[aF,Int.reduceLT,decide_true,decide_false,cond_true,cond_false,e,aY,aR,d3,aP,dE,aO,bK,eI,Int.reduceAdd,Int.reduceSub,Int.reduceEq,wl,hm,hax,hay,gx,gy,hroom,Int.reduceLE,Int.reduceNeg]
   rw[List.map_append];rfl
theorem He{l:List Z}{i:Nat}(h:i<l.length):l.take (i+1)=l.take i++[l.getD i default]:=by
 rw[List.take_add_one,List.getElem?_eq_getElem h,List.getD_eq_getElem?_getD,List.getElem?_eq_getElem h];rfl
theorem Dt(turn:Bool):(XG turn).length=8:=by cases turn <;> rfl
theorem RJ{L:List T}{x y r:Int}(hx:x.natAbs≤4)(hy:y.natAbs≤4)(hr0:1≤r)(hr:r≤5){turn:Bool}:∀(n:Nat) {a:Int} (_:kY L a) {s:List Z} {i:Nat} (_:i+n=8) (_:s.Sublist ((XG turn).take i)),
 ∃(a':Int) (s':List Z),aH aC (DS L a x y r turn (i:Int) ((s.map (pz x y r)).map wT))=some (.inl ((),(s'.map (pz x y r)).map wT,L,a',()))∧kY L a'∧s'.Sublist (XG turn)
 | 0,a,hD,s,i,hi,hs=>by
  refine⟨a,s,aQ ?_,hD,hs.trans (List.take_sublist _ _)⟩
  have hlt:decide ((i:Int)<8)=false:=decide_eq_false (by omega)
  unfold aC DS
  simp only[aF,hlt,cond_false]
 | n+1,a,hD,s,i,hi,hs=>by
  have hsl:s.length≤8:=by have:=hs.length_le;rw[List.length_take] at this;omega
  obtain⟨a',ps',e,hD',hc⟩:=Z3 hD hx hy hr0 hr (ps:=s.map (pz x y r)) (by rw[List.length_map];omega) (turn:=turn) (i:=(i:Int)) (by omega)
  have h8:=Dt turn
  obtain⟨s',hs',es⟩:∃s':List Z,s'.Sublist ((XG turn).take (i+1))∧ps'=s'.map (pz x y r):=by
   rw[He (by omega)]
   rcases hc with hc | hc
   ·exact⟨s,hs.trans (List.sublist_append_left _ _),hc⟩
   ·refine⟨s++[(XG turn).getD i default],hs.append (List.Sublist.refl _),?_⟩
    rw[hc,List.map_append];rfl
  subst es
  have hi1:(i:Int)+1=((i+1:Nat):Int):=by omega
  rw[hi1] at e
  obtain⟨a2,s2,e2,r2⟩:=RJ hx hy hr0 hr (turn:=turn) n hD' (s:=s') (i:=i+1) (by omega) hs'
  exact⟨a2,s2,by rw[dN e,e2],r2⟩
def BS(l:List Z):Prop:=Bx l∧Xt l∧l.length≤8
theorem Mi{turn:Bool}{s:List Z}(h:s.Sublist (XG turn)):W3 s=true∧W3 (Xf s)=true:=by
 have key:∀R:List Z,((Gz R).all fun s=>W3 s&&W3 (Xf s))=true→s.Sublist R→W3 s=true∧W3 (Xf s)=true:=fun R hR hs=>by
  rw[List.all_eq_true] at hR
  have:=hR s (OB hs)
  rw[Bool.and_eq_true] at this
  exact this
 cases turn with
 | true=>exact key _ Uf h
 | false=>exact key _ Ue h
theorem Mj{turn:Bool}{s:List Z}(h:s.Sublist (XG turn)):∀p∈s,p.1.natAbs≤2∧p.2.natAbs≤2:=fun p hp=>by
 have:=h.subset hp
 have hm:p∈Ha:=by
  cases turn with
  | true=>exact List.mem_reverse.1 this
  | false=>exact this
 simp only[Ha,List.mem_cons,List.not_mem_nil,or_false] at hm
 rcases hm with rfl | rfl | rfl | rfl | rfl | rfl | rfl | rfl <;> exact⟨by decide,by decide⟩
theorem Xu{x y r:Int}(hr0:1≤r)(hr:r≤5){s:List Z}(h:∀p∈s,p.1.natAbs≤2∧p.2.natAbs≤2):Zn x y (s.map (pz x y r)):=fun p hp=>by
 obtain⟨q,hq,rfl⟩:=List.mem_map.1 hp
 obtain⟨h1,h2⟩:=h q hq
 have bd:∀c:Int,c.natAbs≤2→(r*c).natAbs≤10:=fun c hc=>by
  rw[Int.natAbs_mul]
  have:=Nat.mul_le_mul (show r.natAbs≤5 by omega) hc
  omega
 have b1:=bd q.1 h1
 have b2:=bd q.2 h2
 unfold pz
 dsimp only
 omega
end Go.Eng.Sq
