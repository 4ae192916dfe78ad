/- The functions and the laws of this seat in plain words; each statement names its conditions. -/
import Derived.Test.YtdmeejlioobepaaGreatEng3
import Derived.Test.YtdmeejlioobepaaGreatGen
import Derived.Test.YtdmeejlioobepaaGreatGen2
set_option linter.unusedSimpArgs false
set_option linter.unusedVariables false
namespace Go.Eng.Rt
open Go.Eng
abbrev BB:Nat:=4294967296
def val:List Nat→Nat
 | []=>0
 | a::l=>a+BB*val l
def limbs(n:Nat):List Nat:=if h:n=0 then [] else (n%BB)::limbs (n/BB)
termination_by n
decreasing_by exact Nat.div_lt_self (Nat.pos_of_ne_zero h) (by decide)
def Lim(l:List Nat):Prop:=∀x∈l,x<BB
theorem limbs_zero:limbs 0=[]:=by rw[limbs];simp
theorem limbs_pos{n:Nat}(h:n≠0):limbs n=(n%BB)::limbs (n/BB):=by rw[limbs];simp[h]
theorem limbs_one{n:Nat}(h:n≠0)(hn:n<BB):limbs n=[n]:=by
 rw[limbs_pos h,Nat.mod_eq_of_lt hn,Nat.div_eq_of_lt hn,limbs_zero]
theorem limbs_two{n:Nat}(h:BB≤n)(hn:n<BB*BB):limbs n=[n%BB,n/BB]:=by
 rw[limbs_pos (by simp only[BB] at h;omega),limbs_one (n:=n/BB)]
 ·have:0<n/BB:=Nat.div_pos h (by decide)
  omega
 ·exact Nat.div_lt_of_lt_mul hn
theorem val_limbs(n:Nat):val (limbs n)=n:=by
 induction n using Nat.strongRecOn with
 | _ n ih=>
  by_cases h:n=0
  ·subst h;rw[limbs_zero];rfl
  ·rw[limbs_pos h,val,ih _ (Nat.div_lt_self (Nat.pos_of_ne_zero h) (by decide))]
   exact Nat.mod_add_div n BB
theorem lim_limbs(n:Nat):Lim (limbs n):=by
 induction n using Nat.strongRecOn with
 | _ n ih=>
  by_cases h:n=0
  ·subst h;rw[limbs_zero];intro x hx;cases hx
  ·rw[limbs_pos h]
   intro x hx
   rcases List.mem_cons.1 hx with rfl | hx
   ·exact Nat.mod_lt _ (by decide)
   ·exact ih _ (Nat.div_lt_self (Nat.pos_of_ne_zero h) (by decide)) x hx
theorem Lim.nil:Lim []:=fun x h=>by cases h
theorem Lim.cons{a:Nat}{l:List Nat}(h:a<BB)(hl:Lim l):Lim (a::l):=fun x hx=>by
 rcases List.mem_cons.1 hx with rfl | hx
 ·exact h
 ·exact hl x hx
theorem Lim.head{a:Nat}{l:List Nat}(h:Lim (a::l)):a<BB:=h a (by simp)
theorem Lim.tail{a:Nat}{l:List Nat}(h:Lim (a::l)):Lim l:=fun x hx=>h x (by simp[hx])
theorem Lim.append{l m:List Nat}(h:Lim l)(h':Lim m):Lim (l++m):=fun x hx=>(List.mem_append.1 hx).elim (h x) (h' x)
theorem val_lt{l:List Nat}(h:Lim l):val l<BB ^ l.length:=by
 induction l with
 | nil=>simp[val]
 | cons a l ih=>
  have h1:=h.head
  have h2:=ih h.tail
  rw[val,List.length_cons,Nat.pow_succ]
  have h3:val l+1≤BB ^ l.length:=h2
  have h4:BB*(val l+1)≤BB*BB ^ l.length:=Nat.mul_le_mul_left _ h3
  have h5:BB*(val l+1)=BB*val l+BB:=by rw[Nat.mul_add];simp
  rw[Nat.mul_comm (BB ^ l.length)]
  omega
def trimN(l:List Nat):List Nat:=(l.reverse.dropWhile (·==0)).reverse
theorem trimN_snoc0(l:List Nat):trimN (l++[0])=trimN l:=by
 unfold trimN;simp
theorem trimN_snoc{l:List Nat}{a:Nat}(h:a≠0):trimN (l++[a])=l++[a]:=by
 unfold trimN;simp[h]
theorem val_append(l m:List Nat):val (l++m)=val l+BB ^ l.length*val m:=by
 induction l with
 | nil=>simp[val]
 | cons a l ih=>
  rw[List.cons_append,val,val,ih,List.length_cons,Nat.pow_succ,Nat.mul_add,Nat.mul_comm (BB ^ l.length) BB,Nat.mul_assoc]
  omega
theorem limbs_ne{n:Nat}(h:n≠0):limbs n≠[]:=by rw[limbs_pos h];simp
theorem limbs_snoc{l:List Nat}{a:Nat}(hl:Lim l)(ha:a<BB)(h0:a≠0):limbs (val (l++[a]))=l++[a]:=by
 induction l with
 | nil=>rw[List.nil_append];show limbs (a+BB*0)=[a];rw[Nat.mul_zero,Nat.add_zero,limbs_one h0 ha]
 | cons b l ih=>
  have h1:=hl.head
  rw[List.cons_append,val]
  have hp:val (l++[a])≠0:=by
   intro h
   have:=ih hl.tail
   rw[h,limbs_zero] at this
   simp at this
  rw[limbs_pos (by simp only[BB];omega),Nat.add_mul_mod_self_left,Nat.mod_eq_of_lt h1,Nat.add_mul_div_left _ _ (by decide),Nat.div_eq_of_lt h1,Nat.zero_add,ih hl.tail]
theorem limbs_val{l:List Nat}(h:Lim l):limbs (val l)=trimN l:=by
 have key:∀k (l:List Nat),l.length=k→Lim l→limbs (val l)=trimN l:=by
  intro k
  induction k with
  | zero=>
   intro l hl _
   have:=List.eq_nil_of_length_eq_zero hl
   subst this
   exact limbs_zero
  | succ k ih=>
   intro l hl h
   have hne:l≠[]:=by intro e;subst e;simp at hl
   obtain⟨m,a,rfl⟩:∃m a,l=m++[a]:=⟨l.dropLast,l.getLast hne,(List.dropLast_concat_getLast hne).symm⟩
   have hm:Lim m:=fun x hx=>h x (List.mem_append.2 (.inl hx))
   have ha:a<BB:=h a (by simp)
   by_cases h0:a=0
   ·subst h0
    rw[trimN_snoc0,val_append,show val [0]=0 from rfl,Nat.mul_zero,Nat.add_zero]
    exact ih m (by simp at hl;exact hl) hm
   ·rw[limbs_snoc hm ha h0,trimN_snoc h0]
 exact key _ l rfl h
theorem limbs_inj{a b:Nat}(h:limbs a=limbs b):a=b:=by rw[←val_limbs a,h,val_limbs]
theorem limbs_len{n k:Nat}:(limbs n).length≤k↔n<BB ^ k:=by
 constructor
 ·intro h
  have:=val_lt (lim_limbs n)
  rw[val_limbs] at this
  exact Nat.lt_of_lt_of_le this (Nat.pow_le_pow_right (by decide) h)
 ·intro h
  induction k generalizing n with
  | zero=>
   have:n=0:=by simpa using h
   subst this;simp[limbs_zero]
  | succ k ih=>
   by_cases h0:n=0
   ·subst h0;simp[limbs_zero]
   ·rw[limbs_pos h0,List.length_cons]
    have:=ih (n:=n/BB) (Nat.div_lt_of_lt_mul (by rw[Nat.mul_comm,←Nat.pow_succ];exact h))
    omega
def limT(n:Nat):T:=.v (.int .u32 (n:Int))
def lmL(l:List Nat):List T:=l.map limT
def lm(n:Nat):List T:=lmL (limbs n)
def dn(d:Nat):List T:=if d=1 then [] else lm d
theorem lmL_len(l:List Nat):(lmL l).length=l.length:=by simp[lmL]
theorem lm_zero:lm 0=[]:=by rw[lm,limbs_zero];rfl
theorem lm_one{n:Nat}(h:n≠0)(hn:n<BB):lm n=[limT n]:=by rw[lm,limbs_one h hn];rfl
theorem lm_two{n:Nat}(h:BB≤n)(hn:n<BB*BB):lm n=[limT (n%BB),limT (n/BB)]:=by rw[lm,limbs_two h hn];rfl
theorem limT_inj{a b:Nat}(h:limT a=limT b):a=b:=by
 unfold limT at h
 injection h with h
 injection h with _ h
 omega
theorem lmL_inj{a b:List Nat}(h:lmL a=lmL b):a=b:=by
 induction a generalizing b with
 | nil=>cases b with
  | nil=>rfl
  | cons y b=>simp[lmL] at h
 | cons x a ih=>cases b with
  | nil=>simp[lmL] at h
  | cons y b=>
   simp only[lmL,List.map_cons,List.cons.injEq] at h
   rw[limT_inj h.1,ih h.2]
theorem lm_inj{a b:Nat}(h:lm a=lm b):a=b:=limbs_inj (lmL_inj h)
end Go.Eng.Rt
namespace Go.Eng.Rt
open Go.Eng
def rNeg(q:Rat):Bool:=decide (q.num<0)
def rNum(q:Rat):List T:=lm q.num.natAbs
def rDen(q:Rat):List T:=dn q.den
def sg(neg:Bool)(n:Nat):Int:=if neg then -(n:Int) else n
theorem sg_abs(neg:Bool)(n:Nat):(sg neg n).natAbs=n:=by cases neg <;> simp[sg]
theorem sg_num(q:Rat):sg (rNeg q) q.num.natAbs=q.num:=by
 unfold sg rNeg
 by_cases h:q.num<0
 ·rw[decide_eq_true h,if_pos rfl];omega
 ·rw[decide_eq_false h];simp;omega
theorem mk_den{n:Int}{d:Nat}(hd:d≠0):(mkRat n d).den=d/n.natAbs.gcd d:=by
 rw[Rat.mkRat_def,dif_neg hd,Rat.normalize_eq]
theorem mk_num{n:Int}{d:Nat}(hd:d≠0):(mkRat n d).num=n/(n.natAbs.gcd d:Nat):=by
 rw[Rat.mkRat_def,dif_neg hd,Rat.normalize_eq]
theorem mk_abs(neg:Bool){n d:Nat}(hd:d≠0):(mkRat (sg neg n) d).num.natAbs=n/n.gcd d:=by
 rw[mk_num hd,sg_abs]
 unfold sg
 have hg:0<n.gcd d:=Nat.gcd_pos_of_pos_right _ (Nat.pos_of_ne_zero hd)
 cases neg with
 | false=>simp only[Bool.false_eq_true,if_false];rw[←Int.natCast_ediv];exact Int.natAbs_natCast _
 | true=>
  simp only[if_true]
  rw[Int.neg_ediv_of_dvd (Int.natCast_dvd_natCast.2 (Nat.gcd_dvd_left n d)),Int.natAbs_neg,←Int.natCast_ediv];exact Int.natAbs_natCast _
theorem mk_neg(neg:Bool){n d:Nat}(hd:d≠0)(hn:n≠0):rNeg (mkRat (sg neg n) d)=neg:=by
 unfold rNeg
 rw[mk_num hd,sg_abs]
 have hg:0<n.gcd d:=Nat.gcd_pos_of_pos_right _ (Nat.pos_of_ne_zero hd)
 have hq:0<n/n.gcd d:=Nat.div_pos (Nat.le_of_dvd (Nat.pos_of_ne_zero hn) (Nat.gcd_dvd_left n d)) hg
 unfold sg
 cases neg with
 | false=>
  simp only[Bool.false_eq_true,if_false];rw[←Int.natCast_ediv]
  exact decide_eq_false (by omega)
 | true=>
  simp only[if_true]
  rw[Int.neg_ediv_of_dvd (Int.natCast_dvd_natCast.2 (Nat.gcd_dvd_left n d)),←Int.natCast_ediv]
  exact decide_eq_true (by omega)
theorem mk_zero(neg:Bool)(d:Nat):mkRat (sg neg 0) d=0:=by
 cases neg <;> simp[sg,Rat.zero_mkRat]
theorem rNum_mk(neg:Bool){n d:Nat}(hd:d≠0):rNum (mkRat (sg neg n) d)=lm (n/n.gcd d):=by unfold rNum;rw[mk_abs neg hd]
theorem rDen_mk(neg:Bool){n d:Nat}(hd:d≠0):rDen (mkRat (sg neg n) d)=dn (d/n.gcd d):=by unfold rDen;rw[mk_den hd,sg_abs]
theorem rNeg_zero:rNeg 0=false:=rfl
theorem rNum_zero:rNum 0=[]:=lm_zero
theorem rDen_zero:rDen 0=[]:=rfl
theorem dn_inj{a b:Nat}(ha:a≠0)(hb:b≠0)(h:dn a=dn b):a=b:=by
 unfold dn at h
 split at h <;> split at h
 ·omega
 ·rw[←lm_zero] at h;exact absurd (lm_inj h).symm hb
 ·rw[←lm_zero] at h;exact absurd (lm_inj h) ha
 ·exact lm_inj h
theorem rat_ext{p q:Rat}(h1:rNeg p=rNeg q)(h2:p.num.natAbs=q.num.natAbs)(h3:p.den=q.den):p=q:=by
 have:p.num=q.num:=by rw[←sg_num p,h1,h2,sg_num q]
 cases p;cases q
 simp only at this h3
 subst this;subst h3;rfl
theorem add_mk(p q:Rat):p+q=mkRat (p.num*q.den+q.num*p.den) (p.den*q.den):=by
 rw[Rat.add_def,Rat.mkRat_def,dif_neg (Nat.mul_ne_zero p.den_nz q.den_nz)]
theorem mul_mk(p q:Rat):p*q=mkRat (p.num*q.num) (p.den*q.den):=by
 rw[Rat.mul_def,Rat.mkRat_def,dif_neg (Nat.mul_ne_zero p.den_nz q.den_nz)]
theorem sgn_mul(a:Bool)(n:Nat)(m:Nat):sg a n*(m:Int)=sg a (n*m):=by
 cases a <;> simp[sg,Int.neg_mul]
theorem sg_add(a:Bool)(n m:Nat):sg a n+sg a m=sg a (n+m):=by
 cases a <;> simp[sg] <;> omega
theorem sg_sub{a b:Bool}(hab:a≠b){n m:Nat}(h:m≤n):sg a n+sg b m=sg a (n-m):=by
 cases a <;> cases b <;> simp[sg] at hab ⊢ <;> omega
theorem add_same{p q:Rat}(h:rNeg p=rNeg q):p+q=mkRat (sg (rNeg q) (p.num.natAbs*q.den+q.num.natAbs*p.den)) (p.den*q.den):=by
 rw[add_mk]
 congr 1
 rw[←sg_add,←sgn_mul,←sgn_mul,sg_num,←h,sg_num]
theorem add_diff{p q:Rat}(h:rNeg p≠rNeg q)(hle:q.num.natAbs*p.den≤p.num.natAbs*q.den):p+q=mkRat (sg (rNeg p) (p.num.natAbs*q.den-q.num.natAbs*p.den)) (p.den*q.den):=by
 rw[add_mk]
 congr 1
 rw[←sg_sub h hle,←sgn_mul,←sgn_mul,sg_num,sg_num]
theorem mul_sg(p q:Rat):p*q=mkRat (sg (rNeg p != rNeg q) (p.num.natAbs*q.num.natAbs)) (p.den*q.den):=by
 rw[mul_mk]
 congr 1
 have h1:=sg_num p
 have h2:=sg_num q
 generalize p.num.natAbs=a at *
 generalize q.num.natAbs=b at *
 rw[←h1,←h2]
 cases rNeg p <;> cases rNeg q <;> simp[sg,Int.neg_mul,Int.mul_neg]
def Sm(q:Rat):Prop:=q.num.natAbs<2147483648∧q.den<2147483648
theorem Sm.zero:Sm 0:=⟨by decide,by decide⟩
theorem rDen_sm{q:Rat}(h:q.den<BB):rDen q=if q.den=1 then [] else [limT q.den]:=by
 unfold rDen dn
 split
 ·rfl
 ·rw[lm_one q.den_nz h]
theorem num_zero{q:Rat}:q.num.natAbs=0↔q=0:=by
 constructor
 ·intro h;exact Rat.num_eq_zero.1 (by omega)
 ·rintro rfl;rfl
theorem lt_sizes{p q:Rat}:p<q↔p.num*q.den<q.num*p.den:=Rat.lt_iff p q
end Go.Eng.Rt
namespace Go.Eng.Rt
open Go.Eng
def En(D k:Nat)(q:Rat):Prop:=∃m:Nat,m≤k∧q=mkRat (m:Int) D
theorem En.add{D a b:Nat}{p q:Rat}(hD:D≠0)(hp:En D a p)(hq:En D b q):En D (a+b) (p+q):=by
 obtain⟨m,hm,rfl⟩:=hp
 obtain⟨n,hn,rfl⟩:=hq
 refine⟨m+n,by omega,?_⟩
 rw[Rat.mkRat_add_mkRat _ _ hD hD,Rat.mkRat_eq_iff (Nat.mul_ne_zero hD hD) hD]
 push_cast
 rw[←Int.add_mul,Int.mul_assoc]
theorem En.zero{D k:Nat}:En D k 0:=⟨0,Nat.zero_le _,by simp[Rat.zero_mkRat]⟩
theorem En.mono{D a b:Nat}{q:Rat}(h:En D a q)(hab:a≤b):En D b q:=by
 obtain⟨m,hm,e⟩:=h;exact⟨m,by omega,e⟩
theorem En.sm{D k:Nat}{q:Rat}(hD:D≠0)(hD':D<2147483648)(hk:k<2147483648)(h:En D k q):Sm q:=by
 obtain⟨m,hm,rfl⟩:=h
 have e:(m:Int)=sg false m:=rfl
 constructor
 ·rw[e,mk_abs false hD]
  exact Nat.lt_of_le_of_lt (Nat.div_le_self _ _) (by omega)
 ·rw[mk_den hD]
  exact Nat.lt_of_le_of_lt (Nat.div_le_self _ _) hD'
theorem En.nn{D k:Nat}{q:Rat}(hD:D≠0)(h:En D k q):rNeg q=false:=by
 obtain⟨m,hm,rfl⟩:=h
 by_cases h0:m=0
 ·subst h0;simp[Rat.zero_mkRat];rfl
 ·exact mk_neg false hD h0
end Go.Eng.Rt
namespace Go.Eng.Rt
open Go.Eng
abbrev B64:Nat:=18446744073709551616
theorem wr32n(n:Nat):wr .u32 (n:Int)=((n%BB:Nat):Int):=by
 unfold wr IntKind.wrap
 simp only[IntKind.bits,IntKind.signed,Bool.false_and,Bool.false_eq_true,if_false]
 rw[show ((2:Int) ^ 32)=((BB:Nat):Int) from rfl]
 omega
theorem wr64n(n:Nat):wr .u64 (n:Int)=((n%B64:Nat):Int):=by
 unfold wr IntKind.wrap
 simp only[IntKind.bits,IntKind.signed,Bool.false_and,Bool.false_eq_true,if_false]
 rw[show ((2:Int) ^ 64)=((B64:Nat):Int) from rfl]
 omega
theorem wr64s{n:Nat}(h:n<B64):wr .u64 (n:Int)=(n:Int):=by rw[wr64n,Nat.mod_eq_of_lt h]
theorem wr32s{n:Nat}(h:n<BB):wr .u32 (n:Int)=(n:Int):=by rw[wr32n,Nat.mod_eq_of_lt h]
theorem wri{n:Nat}(h:n<4611686018427387904):wr .i64 (n:Int)=(n:Int):=wr64 (by omega) (by omega)
theorem wri'{n:Int}(h0:-4611686018427387904<n)(h:n<4611686018427387904):wr .i64 n=n:=wr64 (by omega) (by omega)
theorem shr32(n:Nat):shrI .u64 (n:Int) 32=((n/BB:Nat):Int):=by
 unfold shrI
 rw[show ((2:Int) ^ (min (Int.toNat 32) (IntKind.bits .u64)))=((BB:Nat):Int) from rfl,Int.fdiv_eq_ediv_of_nonneg _ (by omega)]
 exact(Int.natCast_ediv n BB).symm
theorem shl32(n:Nat):shlI .u64 (n:Int) 32=((n*BB:Nat):Int):=by
 unfold shlI
 rw[show ((2:Int) ^ (min (Int.toNat 32) (IntKind.bits .u64)))=((BB:Nat):Int) from rfl]
 exact(Int.natCast_mul n BB).symm
theorem nn32:nn (32:Int)=some 32:=by unfold nn;rfl
theorem or_disj{a b:Nat}(h:a<BB):a ||| (b*BB)=a+b*BB:=by
 rw[Nat.or_comm,Nat.add_comm,show b*BB=b <<< 32 by rw[Nat.shiftLeft_eq]]
 exact(Nat.shiftLeft_add_eq_or_of_lt (by simpa using h) b).symm
theorem or64{a b:Nat}(ha:a<BB)(hb:b<BB):bitI .or .u64 (a:Int) ((b*BB:Nat):Int)=((a+b*BB:Nat):Int):=by
 have hlt:a+b*BB<B64:=by simp only[BB,B64] at *;omega
 unfold bitI
 have e:∀n:Nat,n<B64→(BitVec.ofInt 64 (n:Int)).toNat=n:=fun n hn=>by
  rw[BitVec.ofInt_natCast,BitVec.toNat_ofNat]
  exact Nat.mod_eq_of_lt (by simp only[B64] at hn;omega)
 show IntKind.wrap .u64 (((BitVec.ofInt 64 (a:Int) ||| BitVec.ofInt 64 ((b*BB:Nat):Int)).toNat:Nat):Int)=_
 rw[BitVec.toNat_or,e a (by simp only[BB,B64] at *;omega),e (b*BB) (by simp only[BB,B64] at *;omega),or_disj ha]
 have:=wr64s hlt
 unfold wr at this
 exact this
theorem or64'{a b:Nat}(ha:a<BB)(hb:b<BB):bitI .or .u64 ((b*BB:Nat):Int) (a:Int)=((a+b*BB:Nat):Int):=by
 rw[←or64 ha hb]
 unfold bitI
 simp only[BitVec.or_comm]
theorem lmL_get(l:List Nat)(i:Nat):(lmL l)[i]?=(l[i]?).map limT:=by simp[lmL]
theorem limT_cell(n:Nat):T.cell (limT n) 0=limT n:=rfl
theorem limT_int(n:Nat):T.int? .u32 (limT n)=some (n:Int):=by unfold limT;simp
theorem limT_any(n:Nat):T.anyInt? (limT n)=some (n:Int):=rfl
theorem limT_upd(x:T)(n:Nat)(h:∃m,x=limT m):T.upd 1 x 0 [T.v (.int .u32 (n:Int))]=limT n:=by
 obtain⟨m,rfl⟩:=h
 exact T_upd1 _ _
theorem lmL_set(l:List Nat)(i n:Nat):(lmL l).set i (limT n)=lmL (l.set i n):=by unfold lmL;rw[List.map_set]
theorem lmL_append(a b:List Nat):lmL a++lmL b=lmL (a++b):=by unfold lmL;simp
theorem lmL_take(l:List Nat)(k:Nat):(lmL l).take k=lmL (l.take k):=by unfold lmL;simp
theorem rep_lmL(n:Nat):List.replicate n (T.v (.int .u32 (0:Int)))=lmL (List.replicate n 0):=by unfold lmL;simp[limT]
theorem Lim.take{l:List Nat}(h:Lim l)(k:Nat):Lim (l.take k):=fun x hx=>h x (List.mem_of_mem_take hx)
theorem Lim.drop{l:List Nat}(h:Lim l)(k:Nat):Lim (l.drop k):=fun x hx=>h x (List.mem_of_mem_drop hx)
theorem Lim.get{l:List Nat}(h:Lim l){i:Nat}{x:Nat}(hi:l[i]?=some x):x<BB:=h x (List.mem_of_getElem? hi)
theorem Lim.set{l:List Nat}(h:Lim l){x:Nat}(hx:x<BB)(i:Nat):Lim (l.set i x):=fun y hy=>by
 rcases List.mem_or_eq_of_mem_set hy with h1 | h1
 ·exact h y h1
 ·subst h1;exact hx
theorem Lim.rep(n:Nat):Lim (List.replicate n 0):=fun x hx=>by rw[List.eq_of_mem_replicate hx];decide
theorem val_rep(n:Nat):val (List.replicate n 0)=0:=by
 induction n with
 | zero=>rfl
 | succ n ih=>rw[List.replicate_succ,val,ih,Nat.mul_zero]
theorem val_set{l:List Nat}{i x y:Nat}(hi:l[i]?=some y):val (l.set i x)+BB ^ i*y=val l+BB ^ i*x:=by
 induction l generalizing i with
 | nil=>simp at hi
 | cons a l ih=>
  cases i with
  | zero=>
   simp only[List.getElem?_cons_zero,Option.some.injEq] at hi
   subst hi
   simp only[List.set_cons_zero,val,Nat.pow_zero,Nat.one_mul]
   omega
  | succ i=>
   simp only[List.getElem?_cons_succ] at hi
   have:=ih hi
   simp only[List.set_cons_succ,val,Nat.pow_succ]
   rw[Nat.mul_comm (BB ^ i) BB,Nat.mul_assoc,Nat.mul_assoc]
   have h1:BB*(val (l.set i x)+BB ^ i*y)=BB*(val l+BB ^ i*x):=by rw[this]
   rw[Nat.mul_add,Nat.mul_add] at h1
   omega
theorem val_take_succ{l:List Nat}{i x:Nat}(hi:l[i]?=some x):val (l.take (i+1))=val (l.take i)+BB ^ i*x:=by
 have hlt:i<l.length:=(List.getElem?_eq_some_iff.1 hi).1
 have hx:l[i]=x:=by rw[List.getElem?_eq_getElem hlt] at hi;exact Option.some.inj hi
 rw[List.take_succ_eq_append_getElem hlt,val_append,hx]
 simp only[List.length_take,Nat.min_eq_left (Nat.le_of_lt hlt),val,Nat.mul_zero,Nat.add_zero]
theorem trimN_pre(l:List Nat):trimN l <+: l:=by
 unfold trimN
 have:=List.dropWhile_suffix (l:=l.reverse) (·==0)
 have h2:=List.reverse_prefix.2 this
 simpa using h2
theorem trimN_take(l:List Nat):l.take (trimN l).length=trimN l:=(List.prefix_iff_eq_take.1 (trimN_pre l)).symm
theorem trimN_le(l:List Nat):(trimN l).length≤l.length:=(trimN_pre l).length_le
theorem lim_trim{l:List Nat}(h:Lim l):lmL (trimN l)=lm (val l):=by rw[lm,limbs_val h]
theorem lm_len(n:Nat):(lm n).length=(limbs n).length:=by simp[lm,lmL]
theorem lm_len0{n:Nat}:(lm n).length=0↔n=0:=by
 rw[lm_len]
 constructor
 ·intro h
  rcases Nat.eq_zero_or_pos n with h0 | h0
  ·exact h0
  ·rw[limbs_pos (by omega)] at h;simp at h
 ·intro h;subst h;rw[limbs_zero];rfl
theorem lm_le1{n:Nat}:(lm n).length≤1↔n<BB:=by rw[lm_len,limbs_len];simp
def cmpN(a b:Nat):Int:=if a<b then -1 else if a=b then 0 else 1
theorem val_split{l:List Nat}{i x:Nat}(hi:l[i]?=some x):val l=val (l.take i)+BB ^ i*(x+BB*val (l.drop (i+1))):=by
 have hlt:i<l.length:=(List.getElem?_eq_some_iff.1 hi).1
 have hx:l[i]=x:=by rw[List.getElem?_eq_getElem hlt] at hi;exact Option.some.inj hi
 have h1:val (l.take i++l.drop i)=val l:=by rw[List.take_append_drop]
 rw[←h1,val_append,List.drop_eq_getElem_cons hlt,hx,val,List.length_take,Nat.min_eq_left (Nat.le_of_lt hlt)]
theorem val_lt_of{a b:List Nat}(ha:Lim a){i x y:Nat}(hx:a[i]?=some x)(hy:b[i]?=some y)(hxy:x<y)(hd:a.drop (i+1)=b.drop (i+1)):val a<val b:=by
 rw[val_split hx,val_split hy,hd]
 have hlt:i<a.length:=(List.getElem?_eq_some_iff.1 hx).1
 have h1:=val_lt (ha.take i)
 rw[List.length_take,Nat.min_eq_left (Nat.le_of_lt hlt)] at h1
 have h2:BB ^ i*(x+1+BB*val (b.drop (i+1)))≤BB ^ i*(y+BB*val (b.drop (i+1))):=Nat.mul_le_mul_left _ (by omega)
 rw[show x+1+BB*val (b.drop (i+1))=(x+BB*val (b.drop (i+1)))+1 by omega,Nat.mul_add] at h2
 omega
end Go.Eng.Rt
namespace Go.Eng.Rt
open Go.Eng
abbrev LM:Nat:=1000000
theorem r_trim_loop(l:List Nat)(hl:l.length<LM):∀n,n≤l.length→loopU u_ref01_Trim_l0 (lmL l,(n:Int),())=some (.inl (lmL l,(((trimN (l.take n)).length:Nat):Int),())):=by
 intro n
 induction n with
 | zero=>intro _;exact loopU_out (by simp[u_ref01_Trim_l0,trimN])
 | succ n ih=>
  intro hn
  have hlt:n<l.length:=hn
  have ht:l.take (n+1)=l.take n++[l[n]]:=List.take_succ_eq_append_getElem hlt
  have step:u_ref01_Trim_l0 (lmL l,((n+1:Nat):Int),())=if l[n]=0 then some (.inl (lmL l,(n:Int),())) else some (.inr (.inl (lmL l,((n+1:Nat):Int),()))):=by
   unfold u_ref01_Trim_l0
   simp only[ltI_eq,subI_eq]
   rw[decide_eq_true (by omega),show ((n+1:Nat):Int)-1=(n:Int) by omega,wri (by simp only[LM] at hl;omega),idxL_nat,lmL_get,List.getElem?_eq_getElem hlt]
   simp only[cond_true,Option.map_some,obS,limT_cell,limT_int,eqI_eq]
   by_cases h0:l[n]=0
   ·rw[if_pos h0,decide_eq_true (by omega)];rfl
   ·rw[if_neg h0,decide_eq_false (by omega)];rfl
  rw[ht]
  by_cases h0:l[n]=0
  ·rw[if_pos h0] at step
   rw[loopU_go step,ih (by omega),h0,trimN_snoc0]
  ·rw[if_neg h0] at step
   rw[loopU_out step,trimN_snoc h0]
   simp only[List.length_append,List.length_take,Nat.min_eq_left (Nat.le_of_lt hlt),List.length_cons,List.length_nil]
theorem lm_val_len{l:List Nat}(h:Lim l):(lm (val l)).length≤l.length:=by rw[←lim_trim h,lmL_len];exact trimN_le l
theorem r_Trim{l:List Nat}(h:Lim l)(hl:l.length<LM):u_ref01_Trim (lmL l,())=some (lm (val l),()):=by
 unfold u_ref01_Trim
 have e:=r_trim_loop l hl l.length (Nat.le_refl _)
 rw[List.take_length] at e
 simp only[lenL_eq,lmL_len,e,obS,onS_l]
 rw[cutL_int (by omega) (by omega) (by rw[lmL_len];have:=trimN_le l;omega)]
 simp only[Int.toNat_natCast,Int.toNat_zero,List.drop_zero,obS,lmL_take,trimN_take,lim_trim h]
 have hlen:=lm_val_len h
 rw[room_ok (by simp only[List.length_nil];simp only[LM] at hl;omega) (by decide)]
 rfl
theorem r_Trim'{n:Nat}(h:(limbs n).length<LM):u_ref01_Trim (lm n,())=some (lm n,()):=by
 have:=r_Trim (lim_limbs n) h
 rw[val_limbs] at this
 exact this
theorem lm_small{n:Nat}(h:n<B64):(limbs n).length<LM:=by
 have:(limbs n).length≤2:=limbs_len.2 h
 simp only[LM];omega
theorem r_Of{n:Nat}(h:n<B64):u_ref01_Of ((n:Int),())=some (lm n,()):=by
 unfold u_ref01_Of
 simp only[nn32,obS,wr32n,shr32]
 have hd:n/BB<BB:=Nat.div_lt_of_lt_mul h
 have e:=r_Trim (l:=[n%BB,n/BB%BB]) (Lim.cons (Nat.mod_lt _ (by decide)) (Lim.cons (Nat.mod_lt _ (by decide)) Lim.nil)) (by simp only[List.length_cons,List.length_nil,LM];omega)
 have hv:val [n%BB,n/BB%BB]=n:=by
  rw[Nat.mod_eq_of_lt hd]
  simp only[val,Nat.mul_zero,Nat.add_zero]
  exact Nat.mod_add_div n BB
 rw[hv] at e
 simp only[lmL,List.map_cons,List.map_nil,limT] at e
 rw[e]
 rfl
theorem r_small{l:List Nat}(h:Lim l):u_ref01_small (lmL l,())=some (if l.length≤2 then (val l:Int) else 0,decide (l.length≤2),()):=by
 match l,h with
 | [],_=>unfold u_ref01_small;simp[lmL,val]
 | [a],h=>
  have ha:=h.head
  unfold u_ref01_small
  simp only[lenL_eq,lmL_len,List.length_cons,List.length_nil,eqI_eq]
  rw[idxL_int _ (by omega)]
  simp[lmL,limT_cell,limT_any,val,wr64s (show a<B64 by simp only[BB,B64] at *;omega)]
 | [a,b],h=>
  have ha:=h.head
  have hb:=h.tail.head
  unfold u_ref01_small
  simp only[lenL_eq,lmL_len,List.length_cons,List.length_nil,eqI_eq]
  rw[idxL_int _ (by omega),idxL_int _ (by omega)]
  have e1:wr .u64 (a:Int)=(a:Int):=wr64s (by simp only[BB,B64] at *;omega)
  have e2:wr .u64 (b:Int)=(b:Int):=wr64s (by simp only[BB,B64] at *;omega)
  have e3:wr .u64 ((b*BB:Nat):Int)=((b*BB:Nat):Int):=wr64s (by simp only[BB,B64] at *;omega)
  have g0:(lmL [a,b])[(0:Int).toNat]?=some (limT a):=rfl
  have g1:(lmL [a,b])[(1:Int).toNat]?=some (limT b):=rfl
  rw[g0,g1,decide_eq_false (by omega),decide_eq_false (by omega),decide_eq_true (by omega)]
  simp only[cond_false,cond_true,obS,limT_cell,limT_any,nn32,e1,e2,shl32,e3,or64 ha hb]
  rw[if_pos (by omega),decide_eq_true (by omega)]
  simp only[val,Nat.mul_zero,Nat.add_zero]
  rw[Nat.mul_comm b BB]
 | a::b::c::l,h=>
  unfold u_ref01_small
  simp only[lenL_eq,lmL_len,List.length_cons,eqI_eq]
  rw[decide_eq_false (by omega),decide_eq_false (by omega),decide_eq_false (by omega),if_neg (by omega),decide_eq_false (by omega)]
  rfl
theorem r_cmp_loop{a b:List Nat}(ha:Lim a)(hb:Lim b)(hl:a.length=b.length)(hm:a.length<LM):∀n,n≤a.length→a.drop n=b.drop n →
 loopU u_ref01_Cmp_l0 (lmL a,lmL b,(n:Int)-1,())=some (if val a=val b then .inr (.inl ()) else .inl (cmpN (val a) (val b),())):=by
 intro n
 induction n with
 | zero=>
  intro _ hd
  have:a=b:=by simpa using hd
  subst this
  rw[if_pos rfl]
  exact loopU_out (by unfold u_ref01_Cmp_l0;simp only[leI_eq];rw[decide_eq_false (by omega)];rfl)
 | succ n ih=>
  intro hn hd
  have h1:n<a.length:=hn
  have h2:n<b.length:=by omega
  have ga:=List.getElem?_eq_getElem h1
  have gb:=List.getElem?_eq_getElem h2
  have step:u_ref01_Cmp_l0 (lmL a,lmL b,((n+1:Nat):Int)-1,())=if a[n]<b[n] then some (.inr (.inl (-1,()))) else if b[n]<a[n] then some (.inr (.inl (1,()))) else some (.inl (lmL a,lmL b,(n:Int)-1,())):=by
   unfold u_ref01_Cmp_l0
   rw[show ((n+1:Nat):Int)-1=(n:Int) by omega]
   simp only[leI_eq,ltI_eq,subI_eq]
   rw[decide_eq_true (by omega),idxL_nat,idxL_nat,lmL_get,lmL_get,ga,gb,wri' (by omega) (by simp only[LM] at hm;omega)]
   simp only[cond_true,Option.map_some,obS,limT_cell,limT_int]
   by_cases c1:a[n]<b[n]
   ·rw[if_pos c1,decide_eq_true (by omega)];rfl
   ·rw[if_neg c1,decide_eq_false (by omega)]
    by_cases c2:b[n]<a[n]
    ·rw[if_pos c2,decide_eq_true (by omega)];rfl
    ·rw[if_neg c2,decide_eq_false (by omega)];rfl
  by_cases c1:a[n]<b[n]
  ·rw[if_pos c1] at step
   have:=val_lt_of ha ga gb c1 hd
   rw[loopU_out step,if_neg (by omega)]
   unfold cmpN
   rw[if_pos this]
  ·rw[if_neg c1] at step
   by_cases c2:b[n]<a[n]
   ·rw[if_pos c2] at step
    have:=val_lt_of hb gb ga c2 hd.symm
    rw[loopU_out step,if_neg (by omega)]
    unfold cmpN
    rw[if_neg (by omega),if_neg (by omega)]
   ·rw[if_neg c2] at step
    rw[loopU_go step]
    refine ih (by omega) ?_
    rw[List.drop_eq_getElem_cons h1,List.drop_eq_getElem_cons h2,hd,show a[n]=b[n] by omega]
theorem len_lt{x y:Nat}(h:(limbs x).length<(limbs y).length):x<y:=by
 have h1:x<BB ^ (limbs x).length:=limbs_len.1 (Nat.le_refl _)
 have h2:¬y<BB ^ (limbs x).length:=fun hh=>by
  have:=limbs_len.2 hh
  omega
 omega
theorem r_Cmp{x y:Nat}(hx:(limbs x).length<LM)(hy:(limbs y).length<LM):u_ref01_Cmp (lm x,lm y,())=some (cmpN x y,()):=by
 unfold u_ref01_Cmp
 simp only[lenL_eq,lm_len,eqI_eq,ltI_eq,subI_eq]
 by_cases hl:(limbs x).length=(limbs y).length
 ·rw[decide_eq_true (by omega),wri' (by omega) (by simp only[LM] at hx;omega)]
  have:=r_cmp_loop (lim_limbs x) (lim_limbs y) hl hx (limbs x).length (Nat.le_refl _) (by rw[List.drop_length,hl,List.drop_length])
  rw[val_limbs,val_limbs] at this
  simp only[lm,Bool.not_true,cond_false,this,obS]
  by_cases he:x=y
  ·subst he;simp[cmpN]
  ·rw[if_neg he];rfl
 ·rw[decide_eq_false (by omega)]
  simp only[Bool.not_false,cond_true]
  by_cases hc:(limbs x).length<(limbs y).length
  ·have:=len_lt hc
   rw[decide_eq_true (by omega)]
   unfold cmpN
   rw[if_pos this];rfl
  ·have:=len_lt (x:=y) (y:=x) (by omega)
   rw[decide_eq_false (by omega)]
   unfold cmpN
   rw[if_neg (by omega),if_neg (by omega)];rfl
theorem mul_step{a b o:List Nat}(ha:Lim a)(hb:Lim b)(ho:Lim o){i j x y z c:Nat}(hi:a[i]?=some x)(hj:b[j]?=some y)(hz:o[i+j]?=some z)(hc:c<BB)(hla:a.length<LM)(hlb:b.length<LM):
 u_ref01_Mul_l1 (lmL a,lmL b,lmL o,(i:Int),(c:Int),(j:Int),())=some (.inl (lmL a,lmL b,lmL (o.set (i+j) ((c+(x*y+z))%BB)),(i:Int),(((c+(x*y+z))/BB:Nat):Int),((j+1:Nat):Int),())):=by
 have hx:=ha.get hi
 have hy:=hb.get hj
 have hzb:=ho.get hz
 have h1:i<a.length:=(List.getElem?_eq_some_iff.1 hi).1
 have h2:j<b.length:=(List.getElem?_eq_some_iff.1 hj).1
 have h3:i+j<o.length:=(List.getElem?_eq_some_iff.1 hz).1
 have hxy:x*y≤(BB-1)*(BB-1):=Nat.mul_le_mul (by omega) (by omega)
 have hbound:(BB-1)*(BB-1)+(BB-1)+(BB-1)<B64:=by decide
 unfold u_ref01_Mul_l1
 simp only[ltI_eq,lenL_eq,lmL_len,addI_eq,mulI_eq]
 rw[decide_eq_true (by omega)]
 simp only[cond_true,idxL_nat,lmL_get,hi,hj,Option.map_some,obS,limT_cell,limT_any]
 rw[show (i:Int)+(j:Int)=((i+j:Nat):Int) by omega,wri (by simp only[LM] at *;omega),chkI_nat (by omega)]
 simp only[obS,idxN_eq,lmL_get,hz,Option.map_some,limT_cell,limT_any,nn32]
 rw[wr64s (n:=x) (by simp only[BB,B64] at *;omega),wr64s (n:=y) (by simp only[BB,B64] at *;omega),wr64s (n:=z) (by simp only[BB,B64] at *;omega)]
 rw[show (x:Int)*(y:Int)=((x*y:Nat):Int) by push_cast;rfl,wr64s (n:=x*y) (by simp only[BB,B64] at *;omega)]
 rw[show ((x*y:Nat):Int)+(z:Int)=((x*y+z:Nat):Int) by omega,wr64s (n:=x*y+z) (by simp only[BB,B64] at *;omega)]
 rw[show (c:Int)+((x*y+z:Nat):Int)=((c+(x*y+z):Nat):Int) by omega,wr64s (n:=c+(x*y+z)) (by simp only[BB,B64] at *;omega)]
 rw[wr32n,shr32,show (j:Int)+1=((j+1:Nat):Int) by omega,wri (by simp only[LM] at *;omega),limT_upd _ _ ⟨z,rfl⟩,lmL_set]
theorem mul_inner{a b o:List Nat}(ha:Lim a)(hb:Lim b)(ho:Lim o){i x:Nat}(hi:a[i]?=some x)(hlo:o.length=a.length+b.length)(hla:a.length<LM)(hlb:b.length<LM):
 ∀k,k≤b.length→∃(o':List Nat) (c:Nat),loopU u_ref01_Mul_l1 (lmL a,lmL b,lmL o,(i:Int),(0:Int),(0:Int),())=loopU u_ref01_Mul_l1 (lmL a,lmL b,lmL o',(i:Int),(c:Int),(k:Int),()) ∧
  o'.length=o.length∧Lim o'∧c<BB∧val o'+BB ^ (i+k)*c=val o+BB ^ i*(x*val (b.take k))∧∀m,i+k≤m→o'[m]?=o[m]?:=by
 intro k
 induction k with
 | zero=>intro _;exact⟨o,0,rfl,rfl,ho,by decide,by simp[val],fun _ _=>rfl⟩
 | succ k ih=>
  intro hk
  obtain⟨o',c,h1,h2,h3,h4,h5,h6⟩:=ih (by omega)
  have hik:i<a.length:=(List.getElem?_eq_some_iff.1 hi).1
  have hj:=List.getElem?_eq_getElem (show k<b.length from hk)
  have hz:=List.getElem?_eq_getElem (show i+k<o'.length by omega)
  have hs:=mul_step ha hb h3 hi hj hz h4 hla hlb
  refine⟨_,_,h1.trans (loopU_go hs),by rw[List.length_set,h2],h3.set (Nat.mod_lt _ (by decide)) _,?_,?_,fun m hm=>?_⟩
  ·have hx:=ha.get hi
   have hy:=hb.get hj
   have hzb:=h3.get hz
   have hxy:x*b[k]≤(BB-1)*(BB-1):=Nat.mul_le_mul (by omega) (by omega)
   have hbound:(BB-1)*(BB-1)+(BB-1)+(BB-1)<BB*BB:=by decide
   exact Nat.div_lt_of_lt_mul (by omega)
  ·have hv:=val_set (x:=(c+(x*b[k]+o'[i+k]))%BB) hz
   rw[val_take_succ hj]
   have hm:=Nat.mod_add_div (c+(x*b[k]+o'[i+k])) BB
   generalize (c+(x*b[k]+o'[i+k]))%BB=r at *
   generalize (c+(x*b[k]+o'[i+k]))/BB=q at *
   generalize o'[i+k]=z at *
   generalize b[k]=y at *
   generalize val (o'.set (i+k) r)=v' at *
   have e1:BB ^ (i+(k+1))*q=BB ^ (i+k)*(BB*q):=by rw[←Nat.add_assoc,Nat.pow_succ,Nat.mul_assoc]
   have e2:BB ^ (i+k)*(r+BB*q)=BB ^ (i+k)*(c+(x*y+z)):=by rw[hm]
   have e3:BB ^ i*(x*(val (b.take k)+BB ^ k*y))=BB ^ i*(x*val (b.take k))+BB ^ (i+k)*(x*y):=by
    rw[Nat.mul_add,Nat.mul_add,Nat.pow_add,Nat.mul_assoc (BB ^ i) (BB ^ k),←Nat.mul_assoc x (BB ^ k) y,Nat.mul_comm x (BB ^ k),Nat.mul_assoc (BB ^ k) x y]
   rw[e1,e3]
   rw[Nat.mul_add,Nat.mul_add,Nat.mul_add] at e2
   omega
  ·rw[List.getElem?_set_ne (by omega)]
   exact h6 m (by omega)
theorem mul_outer_step{a b o:List Nat}(ha:Lim a)(hb:Lim b)(ho:Lim o){i:Nat}(hi:i<a.length)(hlo:o.length=a.length+b.length)(hla:a.length<LM)(hlb:b.length<LM)(hv:val o=val (a.take i)*val b)(h0:∀m,i+b.length≤m→m<o.length→o[m]?=some 0):
 ∃o',u_ref01_Mul_l0 (lmL a,lmL b,lmL o,(i:Int),())=some (.inl (lmL a,lmL b,lmL o',((i+1:Nat):Int),()))∧o'.length=o.length∧Lim o'∧val o'=val (a.take (i+1))*val b∧∀m,i+1+b.length≤m→m<o'.length→o'[m]?=some 0:=by
 have gi:=List.getElem?_eq_getElem hi
 obtain⟨o',c,h1,h2,h3,h4,h5,h6⟩:=mul_inner ha hb ho gi hlo hla hlb b.length (Nat.le_refl _)
 have hend:u_ref01_Mul_l1 (lmL a,lmL b,lmL o',(i:Int),(c:Int),(b.length:Int),())=some (.inr (.inl (lmL a,lmL b,lmL o',(i:Int),(c:Int),()))):=by
  unfold u_ref01_Mul_l1
  simp only[ltI_eq,lenL_eq,lmL_len]
  rw[decide_eq_false (by omega)];rfl
 have hz:o'[i+b.length]?=some 0:=by rw[h6 _ (Nat.le_refl _)];exact h0 _ (Nat.le_refl _) (by omega)
 refine⟨o'.set (i+b.length) c,?_,by rw[List.length_set,h2],h3.set h4 _,?_,fun m hm hlt=>?_⟩
 ·unfold u_ref01_Mul_l0
  simp only[ltI_eq,lenL_eq,lmL_len,addI_eq]
  rw[decide_eq_true (by omega)]
  simp only[cond_true]
  rw[h1.trans (loopU_out hend)]
  simp only[obS,onS_l,lmL_len]
  rw[show (i:Int)+(b.length:Int)=((i+b.length:Nat):Int) by omega,wri (by simp only[LM] at *;omega),chkI_nat (by omega)]
  simp only[obS,idxN_eq,lmL_get,hz,Option.map_some]
  rw[wr32s h4,show (i:Int)+1=((i+1:Nat):Int) by omega,wri (by simp only[LM] at *;omega),limT_upd _ _ ⟨0,rfl⟩,lmL_set]
 ·have e1:=val_set (x:=c) hz
  rw[val_take_succ gi,Nat.add_mul,←hv]
  rw[List.take_length] at h5
  rw[Nat.mul_assoc]
  omega
 ·rw[List.getElem?_set_ne (by omega),h6 m (by omega)]
  rw[List.length_set,h2] at hlt
  exact h0 m (by omega) hlt
theorem r_MulL{a b:List Nat}(ha:Lim a)(hb:Lim b)(hab:a.length+b.length<LM):u_ref01_Mul (lmL a,lmL b,())=some (lm (val a*val b),()):=by
 have hla:a.length<LM:=by omega
 have hlb:b.length<LM:=by omega
 have key:∀k,k≤a.length→∃o,loopU u_ref01_Mul_l0 (lmL a,lmL b,lmL (List.replicate (a.length+b.length) 0),(0:Int),())=loopU u_ref01_Mul_l0 (lmL a,lmL b,lmL o,(k:Int),()) ∧
  o.length=a.length+b.length∧Lim o∧val o=val (a.take k)*val b∧∀m,k+b.length≤m→m<o.length→o[m]?=some 0:=by
  intro k
  induction k with
  | zero=>
   intro _
   refine⟨_,rfl,by simp,Lim.rep _,by simp[val_rep,val],fun m _ hm=>?_⟩
   rw[List.getElem?_replicate,if_pos (by simpa using hm)]
  | succ k ih=>
   intro hk
   obtain⟨o,h1,h2,h3,h4,h5⟩:=ih (by omega)
   obtain⟨o',g1,g2,g3,g4,g5⟩:=mul_outer_step ha hb h3 (show k<a.length from hk) h2 hla hlb h4 h5
   exact⟨o',h1.trans (loopU_go g1),g2.trans h2,g3,g4,g5⟩
 obtain⟨o,h1,h2,h3,h4,_⟩:=key a.length (Nat.le_refl _)
 have hend:u_ref01_Mul_l0 (lmL a,lmL b,lmL o,(a.length:Int),())=some (.inr (.inl (lmL o,()))):=by
  unfold u_ref01_Mul_l0
  simp only[ltI_eq,lenL_eq,lmL_len]
  rw[decide_eq_false (by omega)];rfl
 unfold u_ref01_Mul
 simp only[lenL_eq,lmL_len,addI_eq]
 rw[show (a.length:Int)+(b.length:Int)=((a.length+b.length:Nat):Int) by omega,wri (by simp only[LM] at *;omega),mkLen_ok (by omega) (by omega) (by simp only[LM] at *;omega) (by decide)]
 simp only[obS,Int.toNat_natCast,repL_eq,rep_lmL]
 rw[h1.trans (loopU_out hend)]
 simp only[obS,onS_l]
 rw[r_Trim h3 (by omega)]
 rw[List.take_length] at h4
 simp only[obS,h4]
theorem r_Mul{x y:Nat}(h:(limbs x).length+(limbs y).length<LM):u_ref01_Mul (lm x,lm y,())=some (lm (x*y),()):=by
 have:=r_MulL (lim_limbs x) (lim_limbs y) h
 rw[val_limbs,val_limbs] at this
 exact this
theorem r_smallN{n:Nat}(h:n<B64):u_ref01_small (lm n,())=some ((n:Int),true,()):=by
 have h2:(limbs n).length≤2:=limbs_len.2 h
 have:=r_small (lim_limbs n)
 rw[if_pos h2,decide_eq_true h2,val_limbs] at this
 exact this
theorem tdivN(a b:Nat):(a:Int).tdiv (b:Int)=((a/b:Nat):Int):=rfl
theorem tmodN(a b:Nat):(a:Int).tmod (b:Int)=((a%b:Nat):Int):=rfl
theorem r_Div{a b:Nat}(ha:a<B64)(hb:b<B64)(h0:b≠0):u_ref01_Div (lm a,lm b,())=some (lm (a/b),lm (a%b),0,()):=by
 unfold u_ref01_Div
 simp only[lenL_eq,eqI_eq,ltI_eq]
 have hbl:(lm b).length≠0:=fun h=>h0 (lm_len0.1 h)
 rw[decide_eq_false (by omega)]
 simp only[cond_false,r_Cmp (lm_small ha) (lm_small hb),obS]
 unfold cmpN
 by_cases hlt:a<b
 ·rw[if_pos hlt,decide_eq_true (by omega)]
  simp only[cond_true,r_Trim' (lm_small ha),obS]
  rw[Nat.div_eq_of_lt hlt,Nat.mod_eq_of_lt hlt,lm_zero]
 ·rw[if_neg hlt]
  have:decide ((if a=b then (0:Int) else 1)<0)=false:=decide_eq_false (by split <;> omega)
  rw[this]
  simp only[cond_false,r_smallN ha,r_smallN hb,obS,cond_true,divI_eq,modI_eq,tdivN,tmodN]
  rw[nz_eq (by omega)]
  have hd:a/b<B64:=Nat.lt_of_le_of_lt (Nat.div_le_self _ _) ha
  have hm:a%b<B64:=Nat.lt_of_le_of_lt (Nat.mod_le _ _) ha
  simp only[obS,tdivN,tmodN,wr64s hd,r_Of hd,r_Of hm]
theorem gcd_loop{a b:Nat}:loopU u_ref01_Gcd_l1 ((a:Int),(b:Int),())=some (.inl (((a.gcd b:Nat):Int),())):=by
 induction b using Nat.strongRecOn generalizing a with
 | _ b ih=>
  by_cases h0:b=0
  ·subst h0
   exact loopU_out (by unfold u_ref01_Gcd_l1;simp[Nat.gcd_zero_right])
  ·have step:u_ref01_Gcd_l1 ((a:Int),(b:Int),())=some (.inl ((b:Int),((a%b:Nat):Int),())):=by
    unfold u_ref01_Gcd_l1
    simp only[eqI_eq,modI_eq]
    rw[decide_eq_false (by omega),nz_eq (by omega)]
    rfl
   rw[loopU_go step,ih (a%b) (Nat.mod_lt _ (Nat.pos_of_ne_zero h0)),Nat.gcd_comm a b,Nat.gcd_rec b a,Nat.gcd_comm]
theorem r_Gcd{a b:Nat}(ha:a<B64)(hb:b<B64):u_ref01_Gcd (lm a,lm b,())=some (lm (a.gcd b),()):=by
 unfold u_ref01_Gcd
 simp only[r_Trim' (lm_small ha),r_Trim' (lm_small hb),obS]
 by_cases h0:b=0
 ·subst h0
  rw[loopU_out (e:=.inr (.inl (lm a,()))) (by unfold u_ref01_Gcd_l0;simp[lm_zero])]
  simp[Nat.gcd_zero_right]
 ·have hbl:(lm b).length≠0:=fun h=>h0 (lm_len0.1 h)
  have hg:a.gcd b<B64:=Nat.lt_of_le_of_lt (Nat.gcd_le_right _ (Nat.pos_of_ne_zero h0)) hb
  rw[loopU_out (e:=.inl (lm (a.gcd b),())) (by
   unfold u_ref01_Gcd_l0
   simp only[ltI_eq,lenL_eq]
   rw[decide_eq_true (by omega)]
   simp only[cond_true,r_smallN ha,r_smallN hb,obS,gcd_loop,onS_l,r_Of hg])]
  rfl
theorem one_len{d:Nat}(hd:d<B64)(h0:d≠0):(lm d).length=1↔d<BB:=by
 constructor
 ·intro h;exact lm_le1.1 (by omega)
 ·intro h;rw[lm_one h0 h];rfl
theorem r_reduce(neg:Bool){n d:Nat}(hn:n<B64)(hd:d<B64)(h0:d≠0):u_ref02_reduce (neg,lm n,lm d,())=some (rNeg (mkRat (sg neg n) d),rNum (mkRat (sg neg n) d),rDen (mkRat (sg neg n) d),()):=by
 unfold u_ref02_reduce
 simp only[r_Trim' (lm_small hn),r_Trim' (lm_small hd),obS,lenL_eq,eqI_eq]
 by_cases hz:n=0
 ·subst hz
  rw[decide_eq_true (by rw[lm_zero];rfl),mk_zero,rNeg_zero,rNum_zero,rDen_zero]
  rfl
 ·have hnl:(lm n).length≠0:=fun h=>hz (lm_len0.1 h)
  have hg:n.gcd d<B64:=Nat.lt_of_le_of_lt (Nat.gcd_le_right _ (Nat.pos_of_ne_zero h0)) hd
  have hg0:n.gcd d≠0:=Nat.gcd_ne_zero_right h0
  rw[decide_eq_false (by omega),mk_neg neg h0 hz,rNum_mk neg h0,rDen_mk neg h0]
  have hq0:d/n.gcd d≠0:=by
   have:=Nat.div_pos (Nat.le_of_dvd (Nat.pos_of_ne_zero h0) (Nat.gcd_dvd_right n d)) (Nat.pos_of_ne_zero hg0)
   omega
  have hq:d/n.gcd d<B64:=Nat.lt_of_le_of_lt (Nat.div_le_self _ _) hd
  have fin:∀(N:List T) (e:Nat),e<B64→e≠0→(ob (α:=((Bool×List T×List T×Unit×Bool×T×T×Unit)⊕Empty)) (bif (eqI (lenL (lm e)) (1:Int)) then (ob (idxL (lm e) (0:Int)) fun x11=>(ob (T.int? .u32 (T.cell x11 0)) fun x12=>(bif (eqI x12 (1:Int)) then (some (Sum.inl (neg,N,[],(),false,(T.v (.slice none 0 0)),(T.v (.slice none 0 0)),()))) else (some (Sum.inl (neg,N,lm e,(),false,(T.v (.slice none 0 0)),(T.v (.slice none 0 0)),())))))) else (some (Sum.inl (neg,N,lm e,(),false,(T.v (.slice none 0 0)),(T.v (.slice none 0 0)),()))))
   fun q13=>onS q13 (fun t14=>(some (t14.1,t14.2.1,t14.2.2.1,()))) fun q15=>noS q15)=some (neg,N,dn e,()):=by
   intro N e he he0
   simp only[lenL_eq,eqI_eq]
   by_cases h1:e<BB
   ·rw[decide_eq_true (by rw[lm_one he0 h1];rfl)]
    simp only[cond_true]
    rw[lm_one he0 h1,idxL_int _ (by omega)]
    simp only[Int.toNat_zero,List.getElem?_cons_zero,obS,limT_cell,limT_int]
    unfold dn
    by_cases h2:e=1
    ·subst h2;rfl
    ·rw[if_neg h2,decide_eq_false (by omega),lm_one he0 h1];rfl
   ·rw[decide_eq_false (by have:=(one_len he he0).1;omega)]
    unfold dn
    rw[if_neg (by simp only[BB] at h1;omega)]
    rfl
  simp only[cond_false,r_Gcd hn hd,obS,lenL_eq]
  have tail:=fin (lm (n/n.gcd d)) (d/n.gcd d) hq hq0
  simp only[lenL_eq,eqI_eq] at tail
  by_cases h1:n.gcd d=1
  ·have e1:lm (n.gcd d)=[limT 1]:=by rw[h1];exact lm_one (by decide) (by decide)
   rw[e1]
   rw[h1,Nat.div_one,Nat.div_one] at tail ⊢
   simp only[List.length_cons,List.length_nil]
   rw[decide_eq_true (by omega),idxL_int _ (by omega)]
   simp only[Bool.not_true,cond_false,Int.toNat_zero,List.getElem?_cons_zero,obS,limT_cell,limT_int]
   rw[decide_eq_true (by omega)]
   simp only[Bool.not_true,cond_false,obS,onS_l]
   exact tail
  ·by_cases h2:n.gcd d<BB
   ·have e1:lm (n.gcd d)=[limT (n.gcd d)]:=lm_one hg0 h2
    rw[decide_eq_true (by rw[e1];rfl)]
    have e2:idxL (lm (n.gcd d)) 0=some (limT (n.gcd d)):=by rw[e1,idxL_int _ (by omega)];rfl
    simp only[Bool.not_true,cond_false,e2,obS,limT_cell,limT_int]
    rw[decide_eq_false (by omega)]
    simp only[Bool.not_false,cond_true,r_Div hn hg hg0,r_Div hd hg hg0,obS,onS_l]
    exact tail
   ·rw[decide_eq_false (by have:=(one_len hg hg0).1;omega)]
    simp only[Bool.not_false,cond_true,r_Div hn hg hg0,r_Div hd hg hg0,obS,onS_l]
    exact tail
theorem r_size{n:Int}(h1:-4611686018427387904<n)(h2:n<4611686018427387904):u_ref02_size (n,())=some (lm n.natAbs,decide (n<0),()):=by
 unfold u_ref02_size
 simp only[ltI_eq,addI_eq,subI_eq]
 by_cases h:n<0
 ·rw[decide_eq_true h]
  have e:wr .u64 (wr .u64 (wr .i64 (0-wr .i64 (n+1)))+1)=((n.natAbs:Nat):Int):=by
   rw[wri' (n:=n+1) (by omega) (by omega),wri' (by omega) (by omega),show 0-(n+1)=((n.natAbs-1:Nat):Int) by omega,wr64s (by simp only[B64];omega),
    show ((n.natAbs-1:Nat):Int)+1=((n.natAbs:Nat):Int) by omega,wr64s (by simp only[B64];omega)]
  simp only[cond_true,e,r_Of (n:=n.natAbs) (by simp only[B64];omega),obS]
 ·rw[decide_eq_false h]
  have e:wr .u64 n=((n.natAbs:Nat):Int):=by
   rw[show n=((n.natAbs:Nat):Int) by omega,wr64s (by simp only[B64];omega)];rfl
  simp only[cond_false,e,r_Of (n:=n.natAbs) (by simp only[B64];omega),obS]
def fracQ(n d:Int):Rat:=mkRat (sg (decide (n<0) != decide (d<0)) n.natAbs) d.natAbs
theorem bneq(a b:Bool):(!(a==b))=(a != b):=rfl
theorem r_Make{n d:Int}(h1:-4611686018427387904<n)(h2:n<4611686018427387904)(h3:-4611686018427387904<d)(h4:d<4611686018427387904)(h0:d≠0):
 u_ref02_Make (n,d,())=some (rNeg (fracQ n d),rNum (fracQ n d),rDen (fracQ n d),0,()):=by
 unfold u_ref02_Make
 simp only[eqI_eq]
 rw[decide_eq_false h0]
 simp only[cond_false,r_size h1 h2,r_size h3 h4,obS,eqB_eq,bneq]
 rw[r_reduce _ (by simp only[B64];omega) (by simp only[B64];omega) (by omega)]
 rfl
theorem r_Frac{n d:Int}(h1:-4611686018427387904<n)(h2:n<4611686018427387904)(h3:-4611686018427387904<d)(h4:d<4611686018427387904)(h0:d≠0):
 u_ref02_Frac (n,d,())=some (rNeg (fracQ n d),rNum (fracQ n d),rDen (fracQ n d),()):=by
 unfold u_ref02_Frac
 simp only[r_Make h1 h2 h3 h4 h0,obS]
def Fit(q:Rat):Prop:=(limbs q.num.natAbs).length<LM∧(limbs q.den).length<LM
theorem Sm.fit{q:Rat}(h:Sm q):Fit q:=⟨lm_small (by have:=h.1;simp only[B64];omega),lm_small (by have:=h.2;simp only[B64];omega)⟩
theorem dn_lm(d:Nat):∃m,dn d=lm m∧(m=d∨m=0):=by
 unfold dn
 split
 ·exact⟨0,lm_zero.symm,.inr rfl⟩
 ·exact⟨d,rfl,.inl rfl⟩
theorem cmpN_zero{a b:Nat}:cmpN a b=0↔a=b:=by
 unfold cmpN
 by_cases h1:a<b
 ·rw[if_pos h1];omega
 ·rw[if_neg h1];split <;> omega
theorem r_Same{p q:Rat}(hp:Fit p)(hq:Fit q):u_ref02_Same (rNeg p,rNum p,rDen p,rNeg q,rNum q,rDen q,())=some (decide (p=q),()):=by
 unfold u_ref02_Same
 simp only[eqB_eq]
 by_cases hn:rNeg p=rNeg q
 ·rw[hn]
  simp only[beq_self_eq_true,cond_true]
  unfold rNum
  rw[r_Cmp hp.1 hq.1]
  simp only[obS,eqI_eq]
  by_cases h1:p.num.natAbs=q.num.natAbs
  ·rw[decide_eq_true (cmpN_zero.2 h1)]
   simp only[cond_true]
   obtain⟨m,e1,c1⟩:=dn_lm p.den
   obtain⟨m',e2,c2⟩:=dn_lm q.den
   have l1:(limbs m).length<LM:=by rcases c1 with rfl | rfl;exact hp.2;rw[limbs_zero];decide
   have l2:(limbs m').length<LM:=by rcases c2 with rfl | rfl;exact hq.2;rw[limbs_zero];decide
   unfold rDen
   rw[e1,e2,r_Cmp l1 l2]
   simp only[obS]
   congr 2
   rw[decide_eq_decide,cmpN_zero]
   constructor
   ·intro h
    exact rat_ext hn h1 (dn_inj p.den_nz q.den_nz (by rw[e1,e2,h]))
   ·intro h
    subst h
    exact lm_inj (e1.symm.trans e2)
  ·rw[decide_eq_false (fun h=>h1 (cmpN_zero.1 h)),decide_eq_false (fun h=>h1 (by rw[h]))]
   rfl
 ·have hb:(rNeg p==rNeg q)=false:=by simpa using hn
  rw[hb,decide_eq_false (fun h=>hn (by rw[h]))]
  rfl
def sgnQ(q:Rat):Int:=if q=0 then 0 else if rNeg q then -1 else 1
theorem rNum_len{q:Rat}:(rNum q).length=0↔q=0:=by unfold rNum;rw[lm_len0,num_zero]
theorem neg_parts(q:Rat):rNum (-q)=rNum q∧rDen (-q)=rDen q∧rNeg (-q)=(!rNeg q&&decide (q≠0)):=by
 refine⟨by unfold rNum;rw[Rat.neg_num,Int.natAbs_neg],by unfold rDen;rw[Rat.neg_den],?_⟩
 unfold rNeg
 rw[Rat.neg_num]
 have h0:q.num=0↔q=0:=Rat.num_eq_zero
 by_cases h:q=0
 ·subst h;rfl
 ·have:q.num≠0:=fun hh=>h (h0.1 hh)
  rw[decide_eq_true h,Bool.and_true]
  by_cases hl:q.num<0
  ·rw[decide_eq_true hl,decide_eq_false (by omega)];rfl
  ·rw[decide_eq_false hl,decide_eq_true (by omega)];rfl
theorem r_Neg(q:Rat):u_ref02_Neg (rNeg q,rNum q,rDen q,())=some (rNeg (-q),rNum (-q),rDen (-q),()):=by
 obtain⟨e1,e2,e3⟩:=neg_parts q
 unfold u_ref02_Neg
 simp only[ltI_eq,lenL_eq,e1,e2,e3]
 cases hn:rNeg q with
 | true=>simp
 | false=>
  simp only[Bool.not_false,cond_true,Bool.true_and]
  congr 3
  apply propext
  have:=rNum_len (q:=q)
  constructor
  ·intro h hq;have:=this.2 hq;omega
  ·intro h;have:(rNum q).length≠0:=fun hh=>h (this.1 hh);omega
end Go.Eng.Rt
namespace Go.Eng.Rt
open Go.Eng
theorem n_trim_loop(l:List Nat)(hl:l.length<LM):∀n,n≤l.length→loopU u_natural_trim_l0 (lmL l,(n:Int),())=some (.inl (lmL l,(((trimN (l.take n)).length:Nat):Int),())):=
 r_trim_loop l hl
theorem n_trim{l:List Nat}(h:Lim l)(hl:l.length<LM):u_natural_trim (lmL l,())=some (lm (val l),()):=by
 unfold u_natural_trim
 have e:=n_trim_loop l hl l.length (Nat.le_refl _)
 rw[List.take_length] at e
 simp only[lenL_eq,lmL_len,e,obS,onS_l]
 rw[cutL_int (by omega) (by omega) (by rw[lmL_len];have:=trimN_le l;omega)]
 simp only[Int.toNat_natCast,Int.toNat_zero,List.drop_zero,obS,lmL_take,trimN_take,lim_trim h]
theorem n_trim'{n:Nat}(h:(limbs n).length<LM):u_natural_trim (lm n,())=some (lm n,()):=by
 have:=n_trim (lim_limbs n) h
 rw[val_limbs] at this
 exact this
def lenBody(s:ByteArray)(t:(Int×Unit)):Option (Int×Unit):=
 (ob (α:=((Int×Int×Unit)⊕Empty)) (bif (leI (65536:Int) t.1) then (ob (nn (16:Int)) fun x0=>(some (Sum.inl ((shrI .u32 t.1 x0),(16:Int),())))) else (some (Sum.inl (t.1,(0:Int),())))) fun q1=>onS q1 (fun t2=>(ob (α:=((Int×Int×Unit)⊕Empty)) (bif (leI (256:Int) t2.1) then (ob (nn (8:Int)) fun x3=>(some (Sum.inl ((shrI .u32 t2.1 x3),(wr .i64 (addI t2.2.1 (8:Int))),())))) else (some (Sum.inl (t2.1,t2.2.1,())))) fun q4=>onS q4 (fun t5=>(ob (idxS s (wr .u8 t5.1)) fun x6=>(some ((wr .i64 (addI t5.2.1 (wr .i64 x6))),())))) fun q7=>noS q7)) fun q8=>noS q8)
def tabOK(s:ByteArray):Bool:=(List.range 256).all fun y=>match idxS s (y:Int) with
 | some k=>decide (0≤k)&&decide (k≤8)&&(y==0||decide (1≤k))
 | none=>false
theorem len_tab:∃s,(∀t,u_math_bits_Len32 t=lenBody s t)∧tabOK s=true:=⟨_,fun _=>rfl,by decide +kernel⟩
theorem shr16(n:Nat):shrI .u32 (n:Int) 16=((n/65536:Nat):Int):=by
 unfold shrI
 rw[show ((2:Int) ^ (min (Int.toNat 16) (IntKind.bits .u32)))=((65536:Nat):Int) from rfl,Int.fdiv_eq_ediv_of_nonneg _ (by omega)]
 exact(Int.natCast_ediv n _).symm
theorem shr8(n:Nat):shrI .u32 (n:Int) 8=((n/256:Nat):Int):=by
 unfold shrI
 rw[show ((2:Int) ^ (min (Int.toNat 8) (IntKind.bits .u32)))=((256:Nat):Int) from rfl,Int.fdiv_eq_ediv_of_nonneg _ (by omega)]
 exact(Int.natCast_ediv n _).symm
theorem n_Len32{x:Nat}(hx:x<BB):∃k:Nat,u_math_bits_Len32 ((x:Int),())=some ((k:Int),())∧k≤32∧(x≠0→k≠0):=by
 obtain⟨s,hs,ht⟩:=len_tab
 have tab:∀y:Nat,y<256→∃k:Nat,idxS s (wr .u8 (y:Int))=some (k:Int)∧k≤8∧(y≠0→k≠0):=fun y hy=>by
  have:=List.all_eq_true.1 ht y (List.mem_range.2 hy)
  rw[wrU8 (by omega) (by omega)]
  cases hi:idxS s (y:Int) with
  | none=>rw[hi] at this;cases this
  | some k=>
   rw[hi] at this
   simp only[Bool.and_eq_true,decide_eq_true_eq,Bool.or_eq_true,beq_iff_eq] at this
   obtain⟨k',rfl⟩:=Int.eq_ofNat_of_zero_le this.1.1
   exact⟨k',rfl,by omega,fun h=>by omega⟩
 rw[hs]
 unfold lenBody
 have n16:nn (16:Int)=some 16:=by unfold nn;rfl
 have n8:nn (8:Int)=some 8:=by unfold nn;rfl
 simp only[leI_eq,addI_eq]
 have last:∀(y c:Nat),y<256→c≤24→∃k:Nat,(ob (idxS s (wr .u8 (y:Int))) fun x6=>(some ((wr .i64 ((c:Int)+(wr .i64 x6))),())))=some ((k:Int),())∧k≤32∧(y≠0∨c≠0→k≠0):=fun y c hy hc=>by
  obtain⟨k,h1,h2,h3⟩:=tab y hy
  rw[h1]
  simp only[obS]
  rw[wri (n:=k) (by omega),show (c:Int)+(k:Int)=((c+k:Nat):Int) by omega,wri (by omega)]
  exact⟨c+k,rfl,by omega,fun h=>by omega⟩
 by_cases h1:65536≤x
 ·rw[decide_eq_true (by omega)]
  simp only[cond_true,n16,obS,shr16,onS_l]
  by_cases h2:256≤x/65536
  ·rw[decide_eq_true (by omega)]
   simp only[cond_true,n8,obS,shr8,onS_l]
   rw[show (16:Int)+8=((24:Nat):Int) from rfl,wri (by omega)]
   obtain⟨k,e1,e2,e3⟩:=last (x/65536/256) 24 (by simp only[BB] at hx;omega) (by omega)
   exact⟨k,e1,e2,fun _=>e3 (.inr (by omega))⟩
  ·rw[decide_eq_false (by omega)]
   simp only[cond_false,obS,onS_l]
   obtain⟨k,e1,e2,e3⟩:=last (x/65536) 16 (by omega) (by omega)
   exact⟨k,e1,e2,fun _=>e3 (.inr (by omega))⟩
 ·rw[decide_eq_false (by omega)]
  simp only[cond_false,obS,onS_l]
  by_cases h2:256≤x
  ·rw[decide_eq_true (by omega)]
   simp only[cond_true,n8,obS,shr8,onS_l]
   rw[show (0:Int)+8=((8:Nat):Int) from rfl,wri (by omega)]
   obtain⟨k,e1,e2,e3⟩:=last (x/256) 8 (by omega) (by omega)
   exact⟨k,e1,e2,fun _=>e3 (.inr (by omega))⟩
  ·rw[decide_eq_false (by omega)]
   simp only[cond_false,obS,onS_l]
   obtain⟨k,e1,e2,e3⟩:=last x 0 (by omega) (by omega)
   exact⟨k,e1,e2,fun h=>e3 (.inl h)⟩
theorem limbs_last{n:Nat}(h:n≠0):∃x,(limbs n)[(limbs n).length-1]?=some x∧x≠0∧x<BB:=by
 have hne:limbs n≠[]:=limbs_ne h
 obtain⟨m,a,e⟩:∃m a,limbs n=m++[a]:=⟨(limbs n).dropLast,(limbs n).getLast hne,(List.dropLast_concat_getLast hne).symm⟩
 have hl:=lim_limbs n
 refine⟨a,by rw[e];simp,?_,hl a (by rw[e];simp)⟩
 intro h0
 subst h0
 have h1:limbs (val (limbs n))=trimN (limbs n):=limbs_val hl
 rw[val_limbs,e,trimN_snoc0] at h1
 have h2:=congrArg List.length h1
 have h3:=trimN_le m
 simp at h2
 omega
theorem n_Bits{n:Nat}(h:(limbs n).length<LM):∃k:Nat,u_natural_Bits (lm n,())=some ((k:Int),())∧(k=0↔n=0):=by
 unfold u_natural_Bits
 simp only[n_trim' h,obS,lenL_eq,eqI_eq,subI_eq,mulI_eq,addI_eq]
 by_cases h0:n=0
 ·subst h0
  rw[decide_eq_true (by rw[lm_zero];rfl)]
  exact⟨0,rfl,by simp⟩
 ·have hl:(lm n).length≠0:=fun hh=>h0 (lm_len0.1 hh)
  obtain⟨x,h1,h2,h3⟩:=limbs_last h0
  obtain⟨k,g1,g2,g3⟩:=n_Len32 h3
  rw[decide_eq_false (by omega),wri' (by omega) (by rw[lm_len];simp only[LM] at h;omega)]
  have hll:=lm_len n
  rw[show ((lm n).length:Int)-1=(((limbs n).length-1:Nat):Int) by omega]
  simp only[cond_false,idxL_nat]
  unfold lm
  simp only[lmL_get,h1,Option.map_some,obS,limT_cell,limT_int,g1]
  rw[show (32:Int)*(((limbs n).length-1:Nat):Int)=((32*((limbs n).length-1):Nat):Int) by push_cast;rfl,wri (by simp only[LM] at h;omega),
   show ((32*((limbs n).length-1):Nat):Int)+(k:Int)=((32*((limbs n).length-1)+k:Nat):Int) by omega,wri (by simp only[LM] at h;omega)]
  exact⟨_,rfl,by constructor <;> intro hh <;> have:=g3 h2 <;> omega⟩
theorem n_cmp_loop{a b:List Nat}(ha:Lim a)(hb:Lim b)(hl:a.length=b.length)(hm:a.length<LM):∀n,n≤a.length→a.drop n=b.drop n →
 loopU u_natural_Cmp_l0 (lmL a,lmL b,(n:Int)-1,())=some (if val a=val b then .inr (.inl ()) else .inl (cmpN (val a) (val b),())):=by
 intro n
 induction n with
 | zero=>
  intro _ hd
  have:a=b:=by simpa using hd
  subst this
  rw[if_pos rfl]
  exact loopU_out (by unfold u_natural_Cmp_l0;simp only[leI_eq];rw[decide_eq_false (by omega)];rfl)
 | succ n ih=>
  intro hn hd
  have h1:n<a.length:=hn
  have h2:n<b.length:=by omega
  have ga:=List.getElem?_eq_getElem h1
  have gb:=List.getElem?_eq_getElem h2
  have step:u_natural_Cmp_l0 (lmL a,lmL b,((n+1:Nat):Int)-1,())=if a[n]<b[n] then some (.inr (.inl (-1,()))) else if b[n]<a[n] then some (.inr (.inl (1,()))) else some (.inl (lmL a,lmL b,(n:Int)-1,())):=by
   unfold u_natural_Cmp_l0
   rw[show ((n+1:Nat):Int)-1=(n:Int) by omega]
   simp only[leI_eq,ltI_eq,subI_eq,eqI_eq]
   rw[decide_eq_true (by omega),idxL_nat,idxL_nat,lmL_get,lmL_get,ga,gb,wri' (by omega) (by simp only[LM] at hm;omega)]
   simp only[cond_true,Option.map_some,obS,limT_cell,limT_int]
   by_cases c1:a[n]<b[n]
   ·rw[if_pos c1,decide_eq_false (by omega),decide_eq_true (by omega)];rfl
   ·rw[if_neg c1]
    by_cases c2:b[n]<a[n]
    ·rw[if_pos c2,decide_eq_false (by omega),decide_eq_false (by omega)];rfl
    ·rw[if_neg c2,decide_eq_true (by omega)];rfl
  by_cases c1:a[n]<b[n]
  ·rw[if_pos c1] at step
   have:=val_lt_of ha ga gb c1 hd
   rw[loopU_out step,if_neg (by omega)]
   unfold cmpN
   rw[if_pos this]
  ·rw[if_neg c1] at step
   by_cases c2:b[n]<a[n]
   ·rw[if_pos c2] at step
    have:=val_lt_of hb gb ga c2 hd.symm
    rw[loopU_out step,if_neg (by omega)]
    unfold cmpN
    rw[if_neg (by omega),if_neg (by omega)]
   ·rw[if_neg c2] at step
    rw[loopU_go step]
    refine ih (by omega) ?_
    rw[List.drop_eq_getElem_cons h1,List.drop_eq_getElem_cons h2,hd,show a[n]=b[n] by omega]
theorem n_Cmp{x y:Nat}(hx:(limbs x).length<LM)(hy:(limbs y).length<LM):u_natural_Cmp (lm x,lm y,())=some (cmpN x y,()):=by
 unfold u_natural_Cmp
 simp only[n_trim' hx,n_trim' hy,obS,lenL_eq,lm_len,eqI_eq,ltI_eq,subI_eq]
 by_cases hl:(limbs x).length=(limbs y).length
 ·rw[decide_eq_true (by omega),wri' (by omega) (by simp only[LM] at hx;omega)]
  have:=n_cmp_loop (lim_limbs x) (lim_limbs y) hl hx (limbs x).length (Nat.le_refl _) (by rw[List.drop_length,hl,List.drop_length])
  rw[val_limbs,val_limbs] at this
  simp only[lm,Bool.not_true,cond_false,this,obS]
  by_cases he:x=y
  ·subst he;simp[cmpN]
  ·rw[if_neg he];rfl
 ·rw[decide_eq_false (by omega)]
  simp only[Bool.not_false,cond_true]
  by_cases hc:(limbs x).length<(limbs y).length
  ·have:=len_lt hc
   rw[decide_eq_true (by omega)]
   unfold cmpN
   rw[if_pos this];rfl
  ·have:=len_lt (x:=y) (y:=x) (by omega)
   rw[decide_eq_false (by omega)]
   unfold cmpN
   rw[if_neg (by omega),if_neg (by omega)];rfl
theorem p_word{n:Nat}(h:n<BB):u_rational_word (lm n,())=some ((n:Int),()):=by
 unfold u_rational_word
 by_cases h0:n=0
 ·subst h0
  rw[lm_zero]
  rw[loopU_out (e:=.inl (0,())) (by simp[u_rational_word_l0,wri'])]
  rfl
 ·rw[lm_one h0 h]
  have e:bitI .or .u64 (0:Int) (n:Int)=(n:Int):=by
   have:=or64' (a:=n) (b:=0) h (by decide)
   simpa using this
  rw[loopU_go (s':=([limT n],(n:Int),-1,())) (by
   unfold u_rational_word_l0
   simp only[leI_eq,lenL_eq,subI_eq,List.length_cons,List.length_nil]
   rw[wri' (by omega) (by omega),decide_eq_true (by omega),idxL_int _ (by omega),wri' (by omega) (by omega)]
   simp only[cond_true,nn32,obS]
   have e2:shlI .u64 (0:Int) 32=0:=by have:=shl32 0;simpa using this
   have e3:wr .u64 (0:Int)=0:=wr64s (n:=0) (by decide)
   simp[limT_cell,limT_any,e2,e3,wr64s (show n<B64 by simp only[BB,B64] at *;omega),e])]
  rw[loopU_out (e:=.inl ((n:Int),())) (by simp[u_rational_word_l0])]
  rfl
def S1q(q:Rat):Prop:=q.num.natAbs<BB∧q.den<BB
theorem Sm.s1{q:Rat}(h:Sm q):S1q q:=⟨by have:=h.1;simp only[BB];omega,by have:=h.2;simp only[BB];omega⟩
theorem p_parts{q:Rat}(h:S1q q)(b:Bool):u_rational_parts (b,rNum q,rDen q,())=some ((q.num.natAbs:Int),(q.den:Int),true,()):=by
 obtain⟨h1,h2⟩:=h
 have hd:=q.den_nz
 have l1:(rNum q).length≤1:=lm_le1.2 h1
 unfold u_rational_parts
 simp only[ltI_eq,lenL_eq,eqI_eq]
 rw[decide_eq_false (by omega)]
 have w:u_rational_word (rNum q,())=some ((q.num.natAbs:Int),()):=p_word h1
 rw[rDen_sm h2]
 by_cases hd1:q.den=1
 ·rw[if_pos hd1]
  simp only[List.length_nil]
  rw[decide_eq_false (by omega),decide_eq_false (by omega)]
  simp only[cond_false,obS,onS_l,w]
  rw[hd1];rfl
 ·rw[if_neg hd1]
  simp only[List.length_cons,List.length_nil]
  rw[decide_eq_false (by omega),decide_eq_true (by omega),idxL_int _ (by omega)]
  simp only[cond_false,cond_true,Int.toNat_zero,List.getElem?_cons_zero,obS,limT_cell,limT_any,onS_l,w]
  rw[wr64s (by simp only[BB,B64] at *;omega),decide_eq_false (by omega)]
  rfl
theorem p_divisor(a b:Nat):u_rational_divisor ((a:Int),(b:Int),())=some (((a.gcd b:Nat):Int),()):=by
 unfold u_rational_divisor
 have:loopU u_rational_divisor_l0 ((a:Int),(b:Int),())=some (.inl (((a.gcd b:Nat):Int),())):=gcd_loop
 rw[this];rfl
theorem cutN_eq{α:Type}(l:List α)(a n:Nat):cutN l a n=(l.drop a).take n:=by unfold cutN;rfl
theorem cut3_nat{L l h:Nat}(h1:l≤h)(h2:h≤L):cut3 (L:Int) (l:Int) (h:Int) (h:Int)=some (l,h-l):=by
 unfold cut3
 rw[if_pos ⟨by omega,by omega,rfl,by omega⟩]
 simp
theorem cutI_nat{L l h:Nat}(h1:l≤h)(h2:h≤L):cutI (L:Int) (l:Int) (h:Int)=some (l,h-l):=by
 unfold cutI
 rw[if_pos ⟨by omega,by omega,by omega⟩]
 simp
theorem addN_eq(a b:Nat):addN a b=a+b:=by unfold addN;rfl
theorem rep4:repL 4 (T.v (.int .u32 (0:Int)))=[limT 0,limT 0,limT 0,limT 0]:=by rw[repL_eq];rfl
theorem mkLen4:mkLen (4:Int) 4 4=some (4,4):=by unfold mkLen;rfl
theorem chk0{n:Int}(h:0<n):chkI n 0=some 0:=by rw[chkI_int (by omega) h];rfl
theorem lim_wr(n:Nat):T.v (.int .u32 (wr .u32 (n:Int)))=limT (n%BB):=by rw[wr32n];rfl
theorem upd0(n m:Nat):T.upd 1 (limT n) 0 [limT m]=limT m:=T_upd1 _ _
theorem k1:cut3 4 0 1 1=some (0,1):=by unfold cut3;rfl
theorem k2:cut3 4 1 2 2=some (1,1):=by unfold cut3;rfl
theorem k3:cut3 4 1 3 3=some (1,2):=by unfold cut3;rfl
theorem k4:cut3 4 0 2 2=some (0,2):=by unfold cut3;rfl
theorem k5:cut3 4 2 3 3=some (2,1):=by unfold cut3;rfl
theorem k6:cut3 4 2 4 4=some (2,2):=by unfold cut3;rfl
theorem k7:cutI 4 1 4=some (1,3):=by unfold cutI;rfl
theorem k8:cutI 4 2 4=some (2,2):=by unfold cutI;rfl
theorem k9:wr .i64 (1+1)=2:=wr64 (by omega) (by omega)
theorem k10:wr .i64 (1+2)=3:=wr64 (by omega) (by omega)
theorem k11:wr .i64 (2+1)=3:=wr64 (by omega) (by omega)
theorem k12:wr .i64 (2+2)=4:=wr64 (by omega) (by omega)
theorem k19:natI 3=3:=by unfold natI;rfl
theorem k20:natI 2=2:=by unfold natI;rfl
theorem k13:chkI 4 0=some 0:=by unfold chkI;rfl
theorem k14:chkI 4 1=some 1:=by unfold chkI;rfl
theorem k15:chkI 3 0=some 0:=by unfold chkI;rfl
theorem k16:chkI 3 1=some 1:=by unfold chkI;rfl
theorem k17:chkI 2 0=some 0:=by unfold chkI;rfl
theorem k18:chkI 2 1=some 1:=by unfold chkI;rfl
theorem p_short(neg:Bool){n d:Nat}(hn:n<B64)(hd:d<B64)(h0:d≠0):
 u_rational_short (neg,(n:Int),(d:Int),())=some (rNeg (mkRat (sg neg n) d),rNum (mkRat (sg neg n) d),rDen (mkRat (sg neg n) d),()):=by
 unfold u_rational_short
 simp only[eqI_eq]
 by_cases hz:n=0
 ·subst hz
  rw[decide_eq_true (by omega),mk_zero,rNeg_zero,rNum_zero,rDen_zero]
  rfl
 ·rw[decide_eq_false (by omega)]
  have hg0:n.gcd d≠0:=Nat.gcd_ne_zero_right h0
  have hq1:n/n.gcd d≠0:=by
   have:=Nat.div_pos (Nat.le_of_dvd (Nat.pos_of_ne_zero hz) (Nat.gcd_dvd_left n d)) (Nat.pos_of_ne_zero hg0)
   omega
  have hq2:d/n.gcd d≠0:=by
   have:=Nat.div_pos (Nat.le_of_dvd (Nat.pos_of_ne_zero h0) (Nat.gcd_dvd_right n d)) (Nat.pos_of_ne_zero hg0)
   omega
  have b1:n/n.gcd d<B64:=Nat.lt_of_le_of_lt (Nat.div_le_self _ _) hn
  have b2:d/n.gcd d<B64:=Nat.lt_of_le_of_lt (Nat.div_le_self _ _) hd
  rw[mk_neg neg h0 hz,rNum_mk neg h0,rDen_mk neg h0]
  simp only[cond_false,p_divisor,obS,nz_eq (show ((n.gcd d:Nat):Int)≠0 by omega),mkLen4,rep4,lenL_eq,List.length_cons,List.length_nil,divI_eq,tdivN,wr64s b1,wr64s b2]
  generalize n/n.gcd d=N at *
  generalize d/n.gcd d=M at *
  clear hn hd hz h0 hg0
  have m1:N%BB<BB:=Nat.mod_lt _ (by decide)
  have m2:M%BB<BB:=Nat.mod_lt _ (by decide)
  have c1:N/BB<BB:=Nat.div_lt_of_lt_mul b1
  have c2:M/BB<BB:=Nat.div_lt_of_lt_mul b2
  rw[chk0 (by omega)]
  simp only[obS,idxN_eq,List.getElem?_cons_zero,nn32,shr32,lim_wr,upd0,List.set_cons_zero,ltI_eq,addI_eq]
  have l4:∀a b c d:T,(([a,b,c,d]:List T).length:Int)=4:=fun _ _ _ _=>rfl
  have dm:∀(m:Nat),m<B64→decide (((m/BB:Nat):Int)=0)=decide (m<BB):=fun m hm=>by
   rw[decide_eq_decide]
   constructor
   ·intro h
    have:m/BB=0:=by omega
    exact(Nat.div_eq_zero_iff.1 this).resolve_left (by decide)
   ·intro h;rw[Nat.div_eq_of_lt h];rfl
  have d1:decide ((1:Int)<(M:Int))=!decide (M=1):=by
   by_cases h:M=1
   ·subst h;rfl
   ·rw[decide_eq_true (by omega),decide_eq_false h];rfl
  rw[dm N b1]
  have r1:N/BB%BB=N/BB:=Nat.mod_eq_of_lt c1
  have r2:M/BB%BB=M/BB:=Nat.mod_eq_of_lt c2
  have two:∀m:Nat,¬m<BB→m<B64→lm m=[limT (m%BB),limT (m/BB)]:=fun m h1 h2=>lm_two (by omega) h2
  unfold dn
  have fN:N<BB→lm N=[limT (N%BB)]:=fun h=>by rw[Nat.mod_eq_of_lt h,lm_one hq1 h]
  have fM:M<BB→lm M=[limT (M%BB)]:=fun h=>by rw[Nat.mod_eq_of_lt h,lm_one hq2 h]
  have e1:decide (M=1)=true∨decide (M=1)=false:=by cases decide (M=1) <;> simp
  have e2:decide (N<BB)=true∧lm N=[limT (N%BB)]∨decide (N<BB)=false∧lm N=[limT (N%BB),limT (N/BB)]:=by
   by_cases h:N<BB
   ·exact .inl ⟨decide_eq_true h,fN h⟩
   ·exact .inr ⟨decide_eq_false h,two N h b1⟩
  have e3:decide (M<BB)=true∧lm M=[limT (M%BB)]∨decide (M<BB)=false∧lm M=[limT (M%BB),limT (M/BB)]:=by
   by_cases h:M<BB
   ·exact .inl ⟨decide_eq_true h,fM h⟩
   ·exact .inr ⟨decide_eq_false h,two M h b2⟩
  have e4:(if M=1 then ([]:List T) else lm M)=bif decide (M=1) then [] else lm M:=by
   by_cases h:M=1
   ·rw[if_pos h,decide_eq_true h];rfl
   ·rw[if_neg h,decide_eq_false h];rfl
  rw[e4,d1,dm M b2]
  rcases e1 with h1 | h1 <;> rcases e2 with⟨h2,g2⟩ | ⟨h2,g2⟩ <;> rcases e3 with⟨h3,g3⟩ | ⟨h3,g3⟩
  all_goals simp only[h1,h2,h3,g2,g3,Bool.not_true,Bool.not_false,cond_true,cond_false,k1,k2,k3,k4,k5,k6,k7,k8,k9,k10,k11,k12,k13,k14,k15,k16,k17,k18,k19,k20,obS,l4,idxN_eq,List.length_set,List.set_cons_zero,List.set_cons_succ,List.getElem?_cons_zero,List.getElem?_cons_succ,addN_eq,Nat.add_zero,Nat.reduceAdd,upd0,r1,r2,onS_l,cutN_eq,List.drop_zero,List.drop_succ_cons,List.take_succ_cons,List.take_zero]
theorem n_Equal{a b:List Nat}(ha:a.length<LM):u_slices_Equal___uint32_uint32_ (lmL a,lmL b,())=some (decide (a=b),()):=by
 unfold u_slices_Equal___uint32_uint32_
 simp only[lenL_eq,lmL_len,eqI_eq]
 by_cases hl:a.length=b.length
 ·rw[decide_eq_true (by omega)]
  simp only[Bool.not_true,cond_false]
  have key:∀d i,i+d=a.length→a.take i=b.take i→loopU u_slices_Equal___uint32_uint32__l0 (lmL a,lmL b,(a.length:Int),(i:Int),())=some (if a=b then .inr (.inl ()) else .inl (false,())):=by
   intro d
   induction d with
   | zero=>
    intro i hi ht
    have:i=a.length:=by omega
    subst this
    rw[List.take_length,hl,List.take_length] at ht
    rw[if_pos ht]
    exact loopU_out (by unfold u_slices_Equal___uint32_uint32__l0;simp only[ltI_eq];rw[decide_eq_false (by omega)];rfl)
   | succ d ih=>
    intro i hi ht
    have h1:i<a.length:=by omega
    have h2:i<b.length:=by omega
    have ga:=List.getElem?_eq_getElem h1
    have gb:=List.getElem?_eq_getElem h2
    have step:u_slices_Equal___uint32_uint32__l0 (lmL a,lmL b,(a.length:Int),(i:Int),())=if a[i]=b[i] then some (.inl (lmL a,lmL b,(a.length:Int),((i+1:Nat):Int),())) else some (.inr (.inl (false,()))):=by
     unfold u_slices_Equal___uint32_uint32__l0
     simp only[ltI_eq,addI_eq,eqI_eq]
     rw[decide_eq_true (by omega),idxL_nat,idxL_nat,lmL_get,lmL_get,ga,gb,show (i:Int)+1=((i+1:Nat):Int) by omega,wri (by simp only[LM] at ha;omega)]
     simp only[cond_true,Option.map_some,obS,limT_cell,limT_int]
     by_cases h:a[i]=b[i]
     ·rw[if_pos h,decide_eq_true (by omega)];rfl
     ·rw[if_neg h,decide_eq_false (by omega)];rfl
    by_cases h:a[i]=b[i]
    ·rw[if_pos h] at step
     rw[loopU_go step]
     refine ih (i+1) (by omega) ?_
     rw[List.take_succ_eq_append_getElem h1,List.take_succ_eq_append_getElem h2,ht,h]
    ·rw[if_neg h] at step
     rw[loopU_out step,if_neg]
     intro hab
     subst hab
     exact h rfl
  have:=key a.length 0 (by omega) (by simp)
  rw[show ((0:Nat):Int)=0 from rfl] at this
  rw[this]
  by_cases hab:a=b
  ·rw[if_pos hab,decide_eq_true hab];rfl
  ·rw[if_neg hab,decide_eq_false hab];rfl
 ·rw[decide_eq_false (by omega),decide_eq_false (fun h=>hl (by rw[h]))]
  rfl
theorem p_Sign{q:Rat}(h:Fit q):u_rational_Sign (rNeg q,rNum q,rDen q,())=some (sgnQ q,()):=by
 unfold u_rational_Sign
 obtain⟨k,h1,h2⟩:=n_Bits h.1
 have h1':u_natural_Bits (rNum q,())=some ((k:Int),()):=h1
 simp only[h1',obS,eqI_eq]
 unfold sgnQ
 by_cases h0:q=0
 ·rw[if_pos h0,decide_eq_true (by have:=h2.2 (num_zero.2 h0);omega)];rfl
 ·rw[if_neg h0,decide_eq_false (fun hh=>h0 (num_zero.1 (h2.1 (by omega))))]
  cases rNeg q <;> rfl
theorem sgnQ_vals(q:Rat):(sgnQ q=0∧q=0)∨(sgnQ q=-1∧q.num<0)∨(sgnQ q=1∧0<q.num):=by
 unfold sgnQ
 by_cases h:q=0
 ·exact .inl ⟨if_pos h,h⟩
 ·have h0:q.num≠0:=fun hh=>h (Rat.num_eq_zero.1 hh)
  rw[if_neg h]
  unfold rNeg
  by_cases hl:q.num<0
  ·rw[decide_eq_true hl];exact .inr (.inl ⟨rfl,hl⟩)
  ·rw[decide_eq_false hl];exact .inr (.inr ⟨rfl,by omega⟩)
def cmpQ(p q:Rat):Int:=if p<q then -1 else if p=q then 0 else 1
theorem cmpQ_of{p q:Rat}:(p.num*q.den<q.num*p.den→cmpQ p q=-1)∧(p.num*q.den=q.num*p.den→cmpQ p q=0)∧(q.num*p.den<p.num*q.den→cmpQ p q=1):=by
 refine⟨fun h=>?_,fun h=>?_,fun h=>?_⟩
 ·unfold cmpQ;rw[if_pos (lt_sizes.2 h)]
 ·have e:p=q:=by
   rw[←Rat.mkRat_self p,←Rat.mkRat_self q]
   exact(Rat.mkRat_eq_iff p.den_nz q.den_nz).2 h
  unfold cmpQ
  rw[if_neg (fun hh=>by have:=lt_sizes.1 hh;omega),if_pos e]
 ·unfold cmpQ
  rw[if_neg (fun hh=>by have:=lt_sizes.1 hh;omega),if_neg (fun hh=>by subst hh;omega)]
theorem p_Cmp{p q:Rat}(hp:Sm p)(hq:Sm q):u_rational_Cmp (rNeg p,rNum p,rDen p,rNeg q,rNum q,rDen q,())=some (cmpQ p q,()):=by
 have p0:=p.den_nz
 have q0:=q.den_nz
 unfold u_rational_Cmp
 simp only[p_Sign hp.fit,p_Sign hq.fit,obS,eqI_eq,ltI_eq,subI_eq]
 have pd:(0:Int)<p.den:=by omega
 have qd:(0:Int)<q.den:=by omega
 have key:∀s:Int,(s<0→s*q.den<0)∧(0<s→0<s*q.den):=fun s=>⟨fun h=>Int.mul_neg_of_neg_of_pos h qd,fun h=>Int.mul_pos h qd⟩
 have key':∀s:Int,(s<0→s*p.den<0)∧(0<s→0<s*p.den):=fun s=>⟨fun h=>Int.mul_neg_of_neg_of_pos h pd,fun h=>Int.mul_pos h pd⟩
 obtain⟨c1,c2,c3⟩:=cmpQ_of (p:=p) (q:=q)
 have zp:p=0→p.num*q.den=0:=fun h=>by subst h;simp
 have zq:q=0→q.num*p.den=0:=fun h=>by subst h;simp
 by_cases hs:sgnQ p=sgnQ q
 ·rw[decide_eq_true hs]
  simp only[Bool.not_true,cond_false,p_parts hp.s1,p_parts hq.s1,obS]
  obtain⟨m1,f1,g1⟩:=dn_lm p.den
  obtain⟨m2,f2,g2⟩:=dn_lm q.den
  have eqd:u_slices_Equal___uint32_uint32_ (rDen p,rDen q,())=some (decide (p.den=q.den),()):=by
   have l1:(limbs m1).length<LM:=by rcases g1 with rfl | rfl;exact hp.fit.2;rw[limbs_zero];decide
   unfold rDen
   rw[f1,f2]
   have:=n_Equal (a:=limbs m1) (b:=limbs m2) l1
   unfold lm
   rw[this]
   congr 2
   rw[decide_eq_decide]
   constructor
   ·intro h;exact dn_inj p0 q0 (by rw[f1,f2,limbs_inj h])
   ·intro h;rw[h] at f1;exact congrArg limbs (lm_inj (f1.symm.trans f2))
  have natc:u_natural_Cmp (rNum p,rNum q,())=some (cmpN p.num.natAbs q.num.natAbs,()):=n_Cmp hp.fit.1 hq.fit.1
  have sizes:∀(x y:Int) (a b:Nat),x=sg (rNeg p) a→y=sg (rNeg p) b→p.num*q.den=x→q.num*p.den=y→some ((bif rNeg p then 0-cmpN a b else cmpN a b),())=some (cmpQ p q,()):=fun x y a b hx hy e1 e2=>by
   rw[e1,e2] at c1 c2 c3
   congr 2
   unfold cmpN
   cases hn:rNeg p with
   | true=>
    rw[hn] at hx hy
    simp only[sg,if_true] at hx hy
    simp only[cond_true]
    by_cases h1:a<b
    ·rw[if_pos h1,c3 (by omega)];rfl
    ·rw[if_neg h1]
     by_cases h2:a=b
     ·rw[if_pos h2,c2 (by omega)];rfl
     ·rw[if_neg h2,c1 (by omega)];rfl
   | false=>
    rw[hn] at hx hy
    simp only[sg,Bool.false_eq_true,if_false] at hx hy
    simp only[cond_false]
    by_cases h1:a<b
    ·rw[if_pos h1,c1 (by omega)]
    ·rw[if_neg h1]
     by_cases h2:a=b
     ·rw[if_pos h2,c2 (by omega)]
     ·rw[if_neg h2,c3 (by omega)]
  have hneg:rNeg p=rNeg q:=by
   unfold rNeg
   rcases sgnQ_vals p with⟨a1,a2⟩ | ⟨a1,a2⟩ | ⟨a1,a2⟩ <;> rcases sgnQ_vals q with⟨b1,b2⟩ | ⟨b1,b2⟩ | ⟨b1,b2⟩ <;> first
    | (rw[a1,b1] at hs;cases hs;done)
    | (subst a2;subst b2;rfl)
    | (rw[decide_eq_true a2,decide_eq_true b2])
    | (rw[decide_eq_false (by omega),decide_eq_false (by omega)])
  have wc:∀a b:Nat,wr .i64 (0-cmpN a b)=0-cmpN a b:=fun a b=>by
   have:cmpN a b=-1∨cmpN a b=0∨cmpN a b=1:=by
    unfold cmpN
    by_cases h1:a<b
    ·rw[if_pos h1];exact .inl rfl
    ·rw[if_neg h1]
     by_cases h2:a=b
     ·rw[if_pos h2];exact .inr (.inl rfl)
     ·rw[if_neg h2];exact .inr (.inr rfl)
   exact wri' (by omega) (by omega)
  rw[eqd]
  simp only[obS]
  have hpn:=sg_num p
  have hqn:=sg_num q
  by_cases hd:p.den=q.den
  ·rw[decide_eq_true hd]
   simp only[cond_true,natc,obS,onS_l,wc]
   have pos:∀s:Bool,sg s p.num.natAbs*(q.den:Int)=sg s (p.num.natAbs*q.den):=fun s=>sgn_mul s _ _
   have hcm:cmpN p.num.natAbs q.num.natAbs=cmpN (p.num.natAbs*q.den) (q.num.natAbs*p.den):=by
    rw[hd]
    unfold cmpN
    have i1:p.num.natAbs*q.den<q.num.natAbs*q.den↔p.num.natAbs<q.num.natAbs:=Nat.mul_lt_mul_right (Nat.pos_of_ne_zero q0)
    have i2:p.num.natAbs*q.den=q.num.natAbs*q.den↔p.num.natAbs=q.num.natAbs:=Nat.mul_left_inj q0
    simp only[i1,i2]
   rw[hcm]
   have fin:=sizes _ _ (p.num.natAbs*q.den) (q.num.natAbs*p.den) rfl rfl (by rw[←sgn_mul,hpn]) (by rw[←sgn_mul,hneg,hqn])
   cases hn:rNeg p <;> rw[hn] at fin <;> exact fin
  ·rw[decide_eq_false hd]
   have bp:=hp.1;have bq:=hq.1;have bpd:=hp.2;have bqd:=hq.2
   have m1:p.num.natAbs*q.den<2147483648*2147483648:=Nat.mul_lt_mul'' bp bqd
   have m2:q.num.natAbs*p.den<2147483648*2147483648:=Nat.mul_lt_mul'' bq bpd
   simp only[cond_false,cond_true,obS,mulI_eq]
   rw[show ((p.num.natAbs:Nat):Int)*(q.den:Int)=((p.num.natAbs*q.den:Nat):Int) from(Int.natCast_mul _ _).symm,show ((q.num.natAbs:Nat):Int)*(p.den:Int)=((q.num.natAbs*p.den:Nat):Int) from(Int.natCast_mul _ _).symm,
    wr64s (by simp only[B64];omega),wr64s (by simp only[B64];omega)]
   have fin:=sizes _ _ (p.num.natAbs*q.den) (q.num.natAbs*p.den) rfl rfl (by rw[←sgn_mul,hpn]) (by rw[←sgn_mul,hneg,hqn])
   generalize p.num.natAbs*q.den=a at *
   generalize q.num.natAbs*p.den=b at *
   by_cases h1:a<b
   ·rw[decide_eq_true (by omega)]
    have hc:cmpN a b=-1:=by unfold cmpN;rw[if_pos h1]
    rw[hc] at fin
    simp only[cond_true,obS,onS_l]
    rw[wri' (n:=0 - -1) (by omega) (by omega)]
    cases hn:rNeg p <;> rw[hn] at fin <;> exact fin
   ·rw[decide_eq_false (by omega)]
    by_cases h2:b<a
    ·rw[decide_eq_true (by omega)]
     have hc:cmpN a b=1:=by unfold cmpN;rw[if_neg h1,if_neg (by omega)]
     rw[hc] at fin
     simp only[cond_false,cond_true,obS,onS_l]
     rw[wri' (n:=0-1) (by omega) (by omega)]
     cases hn:rNeg p <;> rw[hn] at fin <;> exact fin
    ·rw[decide_eq_false (by omega)]
     have hc:cmpN a b=0:=cmpN_zero.2 (by omega)
     rw[hc] at fin
     simp only[cond_false,obS,onS_l]
     rw[wri' (n:=0-0) (by omega) (by omega)]
     cases hn:rNeg p <;> rw[hn] at fin <;> exact fin
 ·rw[decide_eq_false hs]
  simp only[Bool.not_false,cond_true]
  rcases sgnQ_vals p with⟨a1,a2⟩ | ⟨a1,a2⟩ | ⟨a1,a2⟩ <;> rcases sgnQ_vals q with⟨b1,b2⟩ | ⟨b1,b2⟩ | ⟨b1,b2⟩ <;> rw[a1,b1]
  ·exact absurd (a1.trans b1.symm) hs
  ·have:=(key' _).1 b2
   rw[c3 (by rw[zp a2];exact this)];rfl
  ·have:=(key' _).2 b2
   rw[c1 (by rw[zp a2];exact this)];rfl
  ·have:=(key _).1 a2
   rw[c1 (by rw[zq b2];exact this)];rfl
  ·exact absurd (a1.trans b1.symm) hs
  ·have h1:=(key _).1 a2
   have h2:=(key' _).2 b2
   rw[c1 (by omega)];rfl
  ·have:=(key _).2 a2
   rw[c3 (by rw[zq b2];exact this)];rfl
  ·have h1:=(key _).2 a2
   have h2:=(key' _).1 b2
   rw[c3 (by omega)];rfl
  ·exact absurd (a1.trans b1.symm) hs
theorem add64S0(a b:Nat):add64S (a:Int) (b:Int) 0=some (((a+b)%B64:Nat):Int):=by
 unfold add64S
 rw[if_pos ⟨by omega,by omega,by omega,by omega⟩]
 congr 1
theorem add64C0{a b:Nat}(h:a+b<B64):add64C (a:Int) (b:Int) 0=0:=by
 unfold add64C
 simp only[B64] at h
 omega
theorem p_add{p q:Rat}(hp:Sm p)(hq:Sm q)(neg:Bool):u_rational_add (rNeg p,rNum p,rDen p,rNeg q,rNum q,rDen q,neg,()) =
 (let r:=mkRat (sg (rNeg p) (p.num.natAbs*q.den)+sg neg (q.num.natAbs*p.den)) (p.den*q.den);some (rNeg r,rNum r,rDen r,())):=by
 have p0:=p.den_nz
 have q0:=q.den_nz
 have bp:=hp.1;have bq:=hq.1;have bpd:=hp.2;have bqd:=hq.2
 have m1:p.num.natAbs*q.den<2147483648*2147483648:=Nat.mul_lt_mul'' bp bqd
 have m2:q.num.natAbs*p.den<2147483648*2147483648:=Nat.mul_lt_mul'' bq bpd
 have m3:p.den*q.den<2147483648*2147483648:=Nat.mul_lt_mul'' bpd bqd
 have d0:p.den*q.den≠0:=Nat.mul_ne_zero p0 q0
 unfold u_rational_add
 simp only[p_parts hp.s1,p_parts hq.s1,obS,cond_true,mulI_eq,subI_eq,leI_eq,eqI_eq,eqB_eq]
 rw[show ((p.num.natAbs:Nat):Int)*(q.den:Int)=((p.num.natAbs*q.den:Nat):Int) from(Int.natCast_mul _ _).symm,show ((q.num.natAbs:Nat):Int)*(p.den:Int)=((q.num.natAbs*p.den:Nat):Int) from(Int.natCast_mul _ _).symm,
  show ((p.den:Nat):Int)*(q.den:Int)=((p.den*q.den:Nat):Int) from(Int.natCast_mul _ _).symm,wr64s (n:=p.num.natAbs*q.den) (by simp only[B64];omega),wr64s (n:=q.num.natAbs*p.den) (by simp only[B64];omega),wr64s (n:=p.den*q.den) (by simp only[B64];omega)]
 generalize p.num.natAbs*q.den=a at *
 generalize q.num.natAbs*p.den=b at *
 generalize p.den*q.den=d at *
 rw[add64S0,add64C0 (by simp only[B64];omega),Nat.mod_eq_of_lt (by simp only[B64];omega)]
 simp only[obS]
 by_cases hn:rNeg p=neg
 ·rw[hn]
  simp only[beq_self_eq_true,cond_true,decide_true]
  rw[p_short neg (by simp only[B64];omega) (by simp only[B64];omega) d0]
  simp only[obS,onS_l,sg_add]
 ·have hb:(rNeg p==neg)=false:=by simpa using hn
  simp only[hb,cond_false,Bool.not_false,cond_true]
  by_cases hle:b≤a
  ·rw[decide_eq_true (by omega),show (a:Int)-(b:Int)=((a-b:Nat):Int) by omega,wr64s (n:=a-b) (by simp only[B64];omega),p_short (rNeg p) (by simp only[B64];omega) (by simp only[B64];omega) d0]
   simp only[cond_true,obS,onS_l,sg_sub hn hle]
  ·rw[decide_eq_false (by omega),show (b:Int)-(a:Int)=((b-a:Nat):Int) by omega,wr64s (n:=b-a) (by simp only[B64];omega),p_short neg (by simp only[B64];omega) (by simp only[B64];omega) d0]
   simp only[cond_false,obS,onS_l]
   rw[Int.add_comm,sg_sub (Ne.symm hn) (by omega)]
theorem p_Add{p q:Rat}(hp:Sm p)(hq:Sm q):u_rational_Add (rNeg p,rNum p,rDen p,rNeg q,rNum q,rDen q,())=some (rNeg (p+q),rNum (p+q),rDen (p+q),()):=by
 unfold u_rational_Add
 simp only[p_add hp hq,obS]
 rw[←sgn_mul,←sgn_mul,sg_num,sg_num,←add_mk]
theorem p_Clone{l:List T}(h:l.length<1000000000):u_slices_Clone___uint32_uint32_ (l,())=some (l,()):=by
 have hr:room [] l 4=some l:=by rw[room_ok (by simp only[List.length_nil];omega) (by decide)];rfl
 unfold u_slices_Clone___uint32_uint32_
 simp only[hr,obS]
 unfold nilL
 cases l with
 | nil=>exact bothU_eq rfl rfl
 | cons a l=>rfl
theorem fit_num{q:Rat}(h:Fit q):(rNum q).length<1000000000:=by
 have:=h.1
 unfold rNum
 rw[lm_len]
 simp only[LM] at this;omega
theorem fit_den{q:Rat}(h:Fit q):(rDen q).length<1000000000:=by
 obtain⟨m,e,c⟩:=dn_lm q.den
 unfold rDen
 rw[e,lm_len]
 rcases c with rfl | rfl
 ·have:=h.2;simp only[LM] at this;omega
 ·rw[limbs_zero];decide
end Go.Eng.Rt
namespace Go.Eng.Rt
open Go.Eng
def at0(l:List Nat)(i:Nat):Nat:=l.getD i 0
theorem at0_lt{l:List Nat}(h:Lim l)(i:Nat):at0 l i<BB:=by
 unfold at0
 rw[List.getD_eq_getElem?_getD]
 cases hg:l[i]? with
 | none=>decide
 | some x=>exact h.get hg
theorem at0_get{l:List Nat}{i:Nat}(h:i<l.length):l[i]?=some (at0 l i):=by
 unfold at0;rw[List.getD_eq_getElem?_getD,List.getElem?_eq_getElem h];rfl
theorem at0_out{l:List Nat}{i:Nat}(h:l.length≤i):at0 l i=0:=by
 unfold at0;rw[List.getD_eq_getElem?_getD,List.getElem?_eq_none h];rfl
theorem val_take0(l:List Nat)(i:Nat):val (l.take (i+1))=val (l.take i)+BB ^ i*at0 l i:=by
 by_cases h:i<l.length
 ·exact val_take_succ (at0_get h)
 ·rw[at0_out (by omega),List.take_of_length_le (by omega),List.take_of_length_le (by omega)];simp
theorem add_step{a b:List Nat}(ha:Lim a)(hb:Lim b)(hla:a.length<LM)(hlb:b.length<LM){o:List Nat}{c i:Nat}(hc:c<BB)(hi:i<LM)(ho:o.length=i):
 u_ref01_Add_l0 (lmL a,lmL b,lmL o,(c:Int),(i:Int),())=if i<a.length∨i<b.length∨c≠0 then
  some (.inl (lmL a,lmL b,lmL (o++[(c+at0 a i+at0 b i)%BB]),(((c+at0 a i+at0 b i)/BB:Nat):Int),((i+1:Nat):Int),())) else some (.inr (.inl (lmL o,()))):=by
 have xa:=at0_lt ha i
 have xb:=at0_lt hb i
 have hroom:∀n:Nat,room (lmL o) [T.v (.int .u32 ((n%BB:Nat):Int))] 4=some (lmL (o++[n%BB])):=fun n=>by
  rw[room_ok (by rw[lmL_len,ho];simp only[List.length_cons,List.length_nil,LM] at *;omega) (by decide)]
  rw[←lmL_append];rfl
 have wi:wr .i64 ((i:Int)+1)=((i+1:Nat):Int):=by rw[show (i:Int)+1=((i+1:Nat):Int) by omega,wri (by simp only[LM] at *;omega)]
 have w1:wr .u64 ((at0 a i:Nat):Int)=((at0 a i:Nat):Int):=wr64s (by simp only[BB,B64] at *;omega)
 have w2:wr .u64 ((at0 b i:Nat):Int)=((at0 b i:Nat):Int):=wr64s (by simp only[BB,B64] at *;omega)
 have w3:wr .u64 ((c:Int)+((at0 a i:Nat):Int))=((c+at0 a i:Nat):Int):=by rw[show (c:Int)+((at0 a i:Nat):Int)=((c+at0 a i:Nat):Int) by omega,wr64s (by simp only[BB,B64] at *;omega)]
 have w4:wr .u64 (((c+at0 a i:Nat):Int)+((at0 b i:Nat):Int))=((c+at0 a i+at0 b i:Nat):Int):=by rw[show ((c+at0 a i:Nat):Int)+((at0 b i:Nat):Int)=((c+at0 a i+at0 b i:Nat):Int) by omega,wr64s (by simp only[BB,B64] at *;omega)]
 have w5:wr .u64 ((c:Int)+((at0 b i:Nat):Int))=((c+at0 b i:Nat):Int):=by rw[show (c:Int)+((at0 b i:Nat):Int)=((c+at0 b i:Nat):Int) by omega,wr64s (by simp only[BB,B64] at *;omega)]
 unfold u_ref01_Add_l0
 simp only[ltI_eq,lenL_eq,lmL_len,addI_eq,eqI_eq]
 by_cases h1:i<a.length <;> by_cases h2:i<b.length
 ·rw[decide_eq_true (show (i:Int)<(a.length:Int) by omega),if_pos (.inl h1)]
  simp only[cond_true,idxL_nat,lmL_get,at0_get h1,at0_get h2,Option.map_some,obS,limT_cell,limT_any,onS_l,w1,w2,w3,w4,lmL_len]
  rw[decide_eq_true (show (i:Int)<(b.length:Int) by omega)]
  simp only[cond_true,idxL_nat,lmL_get,at0_get h1,at0_get h2,Option.map_some,obS,limT_cell,limT_any,onS_l,w1,w2,w3,w4,nn32,wr32n,hroom,shr32,wi]
 ·rw[decide_eq_true (show (i:Int)<(a.length:Int) by omega),if_pos (.inl h1)]
  simp only[cond_true,idxL_nat,lmL_get,at0_get h1,Option.map_some,obS,limT_cell,limT_any,onS_l,w1,w3,lmL_len]
  rw[decide_eq_false (show ¬(i:Int)<(b.length:Int) by omega)]
  simp only[cond_false,obS,onS_l,nn32,wr32n,hroom,shr32,wi,at0_out (show b.length≤i by omega),Nat.add_zero]
 ·rw[decide_eq_false (show ¬(i:Int)<(a.length:Int) by omega),decide_eq_true (show (i:Int)<(b.length:Int) by omega),if_pos (.inr (.inl h2))]
  simp only[cond_false,cond_true,obS,onS_l,lmL_len]
  rw[decide_eq_true (show (i:Int)<(b.length:Int) by omega)]
  simp only[cond_true,idxL_nat,lmL_get,at0_get h2,Option.map_some,obS,limT_cell,limT_any,onS_l,w2,w5,nn32,wr32n,hroom,shr32,wi,at0_out (show a.length≤i by omega),Nat.add_zero]
 ·rw[decide_eq_false (show ¬(i:Int)<(a.length:Int) by omega),decide_eq_false (show ¬(i:Int)<(b.length:Int) by omega)]
  by_cases h3:c=0
  ·subst h3
   rw[decide_eq_true (by omega),if_neg (by omega)]
   rfl
  ·rw[decide_eq_false (by omega),if_pos (.inr (.inr h3))]
   simp only[cond_false,cond_true,Bool.not_false,obS,onS_l,lmL_len]
   rw[decide_eq_false (show ¬(i:Int)<(b.length:Int) by omega)]
   simp only[cond_false,obS,onS_l,nn32,wr32n,hroom,shr32,wi,at0_out (show a.length≤i by omega),at0_out (show b.length≤i by omega),Nat.add_zero]
def Top(l:List Nat):Prop:=∀x,l.getLast?=some x→x≠0
theorem top_limbs(n:Nat):Top (limbs n):=fun x hx=>by
 by_cases h:n=0
 ·subst h;rw[limbs_zero] at hx;cases hx
 ·obtain⟨y,h1,h2,_⟩:=limbs_last h
  rw[List.getLast?_eq_getElem?] at hx
  rw[hx] at h1
  cases h1
  exact h2
theorem limbs_top{l:List Nat}(h:Lim l)(ht:Top l):limbs (val l)=l:=by
 rw[limbs_val h]
 by_cases hne:l=[]
 ·subst hne;rfl
 ·obtain⟨m,a,rfl⟩:∃m a,l=m++[a]:=⟨l.dropLast,l.getLast hne,(List.dropLast_concat_getLast hne).symm⟩
  exact trimN_snoc (ht a (by simp))
theorem r_Add{x y:Nat}(hx:(limbs x).length<100000)(hy:(limbs y).length<100000):u_ref01_Add (lm x,lm y,())=some (lm (x+y),()):=by
 have ha:=lim_limbs x
 have hb:=lim_limbs y
 have ta:=top_limbs x
 have tb:=top_limbs y
 have va:=val_limbs x
 have vb:=val_limbs y
 unfold lm
 generalize limbs x=a at *
 generalize limbs y=b at *
 let N:=max a.length b.length
 have key:∀i,i≤N→∃(o:List Nat) (c:Nat),loopU u_ref01_Add_l0 (lmL a,lmL b,lmL [],(0:Int),(0:Int),())=loopU u_ref01_Add_l0 (lmL a,lmL b,lmL o,(c:Int),(i:Int),()) ∧
  o.length=i∧Lim o∧c<2∧val o+BB ^ i*c=val (a.take i)+val (b.take i)∧(∀x,o.getLast?=some x→i=N→c=0→x≠0):=by
  intro i
  induction i with
  | zero=>intro _;exact⟨[],0,rfl,rfl,Lim.nil,by decide,by simp[val],fun x hx=>by cases hx⟩
  | succ i ih=>
   intro hi
   obtain⟨o,c,h1,h2,h3,h4,h5,_⟩:=ih (by omega)
   have hs:=add_step ha hb (by simp only[LM];omega) (by simp only[LM];omega) (o:=o) (c:=c) (i:=i) (by simp only[BB];omega) (by simp only[LM];omega) h2
   rw[if_pos (by omega)] at hs
   have xa:=at0_lt ha i
   have xb:=at0_lt hb i
   have hm:=Nat.mod_add_div (c+at0 a i+at0 b i) BB
   refine⟨_,_,h1.trans (loopU_go hs),by rw[List.length_append,h2];rfl,h3.append (Lim.cons (Nat.mod_lt _ (by decide)) Lim.nil),?_,?_,?_⟩
   ·simp only[BB] at *;omega
   ·rw[val_append,h2,val_take0,val_take0]
    simp only[val,Nat.mul_zero,Nat.add_zero]
    generalize (c+at0 a i+at0 b i)%BB=r at *
    generalize (c+at0 a i+at0 b i)/BB=q at *
    have e1:BB ^ (i+1)*q=BB ^ i*(BB*q):=by rw[Nat.pow_succ,Nat.mul_assoc]
    have e2:BB ^ i*(r+BB*q)=BB ^ i*(c+at0 a i+at0 b i):=by rw[hm]
    rw[e1]
    rw[Nat.mul_add,Nat.mul_add,Nat.mul_add] at e2
    omega
   ·intro z hz hN hq
    simp at hz
    have hsum:c+at0 a i+at0 b i<BB:=by
     rcases Nat.lt_or_ge (c+at0 a i+at0 b i) BB with h | h
     ·exact h
     ·have:=Nat.div_pos h (show 0<BB by decide);omega
    rw[Nat.mod_eq_of_lt hsum] at hz
    have hlast:at0 a i≠0∨at0 b i≠0:=by
     have:a.length=i+1∨b.length=i+1:=by omega
     rcases this with hl | hl
     ·left
      exact ta _ (by rw[List.getLast?_eq_getElem?,hl,Nat.add_sub_cancel,at0_get (by omega)])
     ·right
      exact tb _ (by rw[List.getLast?_eq_getElem?,hl,Nat.add_sub_cancel,at0_get (by omega)])
    omega
 obtain⟨o,c,h1,h2,h3,h4,h5,h6⟩:=key N (Nat.le_refl _)
 have hN1:a.length≤N:=Nat.le_max_left _ _
 have hN2:b.length≤N:=Nat.le_max_right _ _
 have hNl:N<100000:=by omega
 rw[List.take_of_length_le hN1,List.take_of_length_le hN2,va,vb] at h5
 have hs:=add_step ha hb (by simp only[LM];omega) (by simp only[LM];omega) (o:=o) (c:=c) (i:=N) (by simp only[BB];omega) (by simp only[LM];omega) h2
 unfold u_ref01_Add
 rw[show ([]:List T)=lmL [] from rfl,h1]
 by_cases hc:c=0
 ·subst hc
  rw[if_neg (by omega)] at hs
  rw[loopU_out hs]
  simp only[obS,onS_l]
  rw[←limbs_top h3 (fun z hz=>h6 z hz rfl rfl)]
  rw[show val o=x+y by simpa using h5]
 ·rw[if_pos (by omega),at0_out hN1,at0_out hN2] at hs
  have c1:c=1:=by omega
  subst c1
  rw[loopU_go hs]
  have hs2:=add_step ha hb (by simp only[LM];omega) (by simp only[LM];omega) (o:=o++[(1+0+0)%BB]) (c:=0) (i:=N+1) (by decide) (by simp only[LM];omega) (by rw[List.length_append,h2];rfl)
  rw[if_neg (by omega)] at hs2
  have e0:((1+0+0)/BB:Nat)=0:=by decide
  rw[e0,loopU_out hs2]
  simp only[obS,onS_l]
  have e1:(1+0+0)%BB=1:=by decide
  rw[e1]
  have hl:Lim (o++[1]):=h3.append (Lim.cons (by decide) Lim.nil)
  rw[←limbs_top hl (fun z hz=>by simp at hz;omega)]
  have hv:val (o++[1])=x+y:=by
   rw[val_append,h2]
   simp only[val,Nat.mul_zero,Nat.add_zero]
   exact h5
  rw[hv]
theorem minus_step{a b:List Nat}(ha:Lim a)(hb:Lim b)(hla:a.length<LM)(hlb:b.length<LM){o:List Nat}{c i:Nat}(hc:c≤1)(hi:i<a.length)(ho:o.length=a.length)(hz:o[i]?=some 0):
 ∃c' d,c'≤1∧d<BB∧d+(c+at0 b i)=at0 a i+BB*c' ∧
  u_ref01_minus_l0 (lmL a,lmL b,lmL o,(c:Int),(i:Int),())=some (.inl (lmL a,lmL b,lmL (o.set i d),(c':Int),((i+1:Nat):Int),())):=by
 have xa:=at0_lt ha i
 have xb:=at0_lt hb i
 have wi:wr .i64 ((i:Int)+1)=((i+1:Nat):Int):=by rw[show (i:Int)+1=((i+1:Nat):Int) by omega,wri (by simp only[LM] at *;omega)]
 have w1:wr .u64 ((at0 a i:Nat):Int)=((at0 a i:Nat):Int):=wr64s (by simp only[BB,B64] at *;omega)
 have w2:wr .u64 ((at0 b i:Nat):Int)=((at0 b i:Nat):Int):=wr64s (by simp only[BB,B64] at *;omega)
 have w3:wr .u64 ((c:Int)+((at0 b i:Nat):Int))=((c+at0 b i:Nat):Int):=by rw[show (c:Int)+((at0 b i:Nat):Int)=((c+at0 b i:Nat):Int) by omega,wr64s (by simp only[BB,B64] at *;omega)]
 have w4:wr .u64 (((at0 a i:Nat):Int)+4294967296)=((at0 a i+BB:Nat):Int):=by rw[show ((at0 a i:Nat):Int)+4294967296=((at0 a i+BB:Nat):Int) by simp only[BB];omega,wr64s (by simp only[BB,B64] at *;omega)]
 have first:∀(R:Type) (k:(List T×List T×List T×Int×Int×Unit)→Option R),(ob (α:=((List T×List T×List T×Int×Int×Unit)⊕Empty)) (bif decide ((i:Int)<(b.length:Int)) then (ob ((b[i]?).map limT) fun x2=>(ob (T.anyInt? (T.cell x2 0)) fun x3=>(some (Sum.inl (lmL a,lmL b,lmL o,(i:Int),(wr .u64 ((c:Int)+(wr .u64 x3))),()))))) else (some (Sum.inl (lmL a,lmL b,lmL o,(i:Int),(c:Int),()))))
  fun q4=>onS q4 k fun q13=>noS q13)=k (lmL a,lmL b,lmL o,(i:Int),((c+at0 b i:Nat):Int),()):=fun R k=>by
  by_cases h2:i<b.length
  ·rw[decide_eq_true (by omega)]
   simp only[cond_true,at0_get h2,Option.map_some,obS,limT_cell,limT_any,w2,w3,onS_l]
  ·rw[decide_eq_false (by omega),at0_out (show b.length≤i by omega)]
   rfl
 have e:u_ref01_minus_l0 (lmL a,lmL b,lmL o,(c:Int),(i:Int),())=if at0 a i<c+at0 b i then some (.inl (lmL a,lmL b,lmL (o.set i (at0 a i+BB-(c+at0 b i))),(1:Int),((i+1:Nat):Int),()))
  else some (.inl (lmL a,lmL b,lmL (o.set i (at0 a i-(c+at0 b i))),(0:Int),((i+1:Nat):Int),())):=by
  unfold u_ref01_minus_l0
  simp only[ltI_eq,lenL_eq,lmL_len,addI_eq,subI_eq]
  rw[decide_eq_true (show (i:Int)<(a.length:Int) by omega)]
  simp only[cond_true,idxL_nat,lmL_get]
  rw[first]
  simp only[idxL_nat,lmL_get,at0_get hi,Option.map_some,obS,limT_cell,limT_any,w1]
  by_cases h3:at0 a i<c+at0 b i
  ·rw[if_pos h3,decide_eq_true (by omega)]
   simp only[cond_true,obS,onS_l,w4,lmL_len]
   rw[chkI_nat (by omega),show ((at0 a i+BB:Nat):Int)-((c+at0 b i:Nat):Int)=((at0 a i+BB-(c+at0 b i):Nat):Int) by simp only[BB] at *;omega,wr64s (by simp only[BB,B64] at *;omega),wr32s (by simp only[BB] at *;omega)]
   simp only[obS,idxN_eq,lmL_get,hz,Option.map_some,wi]
   rw[limT_upd _ _ ⟨0,rfl⟩,lmL_set]
  ·rw[if_neg h3,decide_eq_false (by omega)]
   simp only[cond_false,obS,onS_l,lmL_len]
   rw[chkI_nat (by omega),show ((at0 a i:Nat):Int)-((c+at0 b i:Nat):Int)=((at0 a i-(c+at0 b i):Nat):Int) by omega,wr64s (by simp only[BB,B64] at *;omega),wr32s (by simp only[BB] at *;omega)]
   simp only[obS,idxN_eq,lmL_get,hz,Option.map_some,wi]
   rw[limT_upd _ _ ⟨0,rfl⟩,lmL_set]
 by_cases h3:at0 a i<c+at0 b i
 ·rw[if_pos h3] at e
  exact⟨1,at0 a i+BB-(c+at0 b i),by omega,by simp only[BB] at *;omega,by simp only[BB] at *;omega,e⟩
 ·rw[if_neg h3] at e
  exact⟨0,at0 a i-(c+at0 b i),by omega,by simp only[BB] at *;omega,by omega,e⟩
theorem r_minus{x y:Nat}(hx:(limbs x).length<LM)(hxy:y≤x):u_ref01_minus (lm x,lm y,())=some (lm (x-y),()):=by
 have ha:=lim_limbs x
 have hb:=lim_limbs y
 have va:=val_limbs x
 have vb:=val_limbs y
 have hll:(limbs y).length≤(limbs x).length:=limbs_len.2 (Nat.lt_of_le_of_lt hxy (limbs_len.1 (Nat.le_refl _)))
 unfold lm
 have fin:∀d,lmL (limbs d)=lm d:=fun _=>rfl
 rw[fin (x-y)]
 generalize limbs x=a at *
 generalize limbs y=b at *
 have key:∀i,i≤a.length→∃(o:List Nat) (c:Nat),loopU u_ref01_minus_l0 (lmL a,lmL b,lmL (List.replicate a.length 0),(0:Int),(0:Int),())=loopU u_ref01_minus_l0 (lmL a,lmL b,lmL o,(c:Int),(i:Int),()) ∧
  o.length=a.length∧Lim o∧c≤1∧val o+val (b.take i)=val (a.take i)+BB ^ i*c∧∀m,i≤m→m<a.length→o[m]?=some 0:=by
  intro i
  induction i with
  | zero=>
   intro _
   refine⟨_,0,rfl,by simp,Lim.rep _,by decide,by simp[val,val_rep],fun m _ hm=>?_⟩
   rw[List.getElem?_replicate,if_pos hm]
  | succ i ih=>
   intro hi
   obtain⟨o,c,h1,h2,h3,h4,h5,h6⟩:=ih (by omega)
   have hz:=h6 i (Nat.le_refl _) hi
   obtain⟨c',d,g1,g2,g3,g4⟩:=minus_step ha hb hx (by omega) h4 hi h2 hz
   refine⟨_,c',h1.trans (loopU_go g4),by rw[List.length_set,h2],h3.set g2 _,g1,?_,fun m hm hlt=>?_⟩
   ·have hv:=val_set (x:=d) hz
    rw[val_take0,val_take0]
    have e1:BB ^ (i+1)*c'=BB ^ i*(BB*c'):=by rw[Nat.pow_succ,Nat.mul_assoc]
    have e2:BB ^ i*(d+(c+at0 b i))=BB ^ i*(at0 a i+BB*c'):=by rw[g3]
    rw[e1]
    rw[Nat.mul_add,Nat.mul_add,Nat.mul_add] at e2
    omega
   ·rw[List.getElem?_set_ne (by omega)]
    exact h6 m (by omega) hlt
 obtain⟨o,c,h1,h2,h3,h4,h5,_⟩:=key a.length (Nat.le_refl _)
 rw[List.take_length,List.take_of_length_le hll,va,vb] at h5
 have hvo:=val_lt h3
 rw[h2] at hvo
 have hval:val o=x-y:=by
  have:c=0∨c=1:=by omega
  rcases this with rfl | rfl
  ·simp at h5;omega
  ·simp at h5;omega
 unfold u_ref01_minus
 simp only[lenL_eq,lmL_len]
 rw[mkLen_ok (by omega) (by omega) (by simp only[LM] at hx;omega) (by decide)]
 simp only[obS,Int.toNat_natCast,repL_eq,rep_lmL]
 rw[h1,loopU_out (e:=.inl (lmL o,())) (by
  unfold u_ref01_minus_l0
  simp only[ltI_eq,lenL_eq,lmL_len]
  rw[decide_eq_false (by omega)];rfl)]
 simp only[obS,onS_l]
 rw[r_Trim h3 (by omega),hval]
 rfl
theorem r_Sub{x y:Nat}(hx:(limbs x).length<LM)(hxy:y≤x):u_ref01_Sub (lm x,lm y,())=some (lm (x-y),0,()):=by
 have hll:(limbs y).length≤(limbs x).length:=limbs_len.2 (Nat.lt_of_le_of_lt hxy (limbs_len.1 (Nat.le_refl _)))
 unfold u_ref01_Sub
 rw[r_Cmp hx (by omega)]
 simp only[obS,ltI_eq]
 rw[decide_eq_false (by unfold cmpN;rw[if_neg (by omega)];split <;> omega)]
 simp only[cond_false,r_minus hx hxy,obS]
theorem r_Den(q:Rat):u_ref02_Den (rNeg q,rNum q,rDen q,())=some (lm q.den,()):=by
 unfold u_ref02_Den rDen dn
 simp only[lenL_eq,eqI_eq]
 by_cases h:q.den=1
 ·rw[if_pos h,h,lm_one (by decide) (by decide)]
  rfl
 ·rw[if_neg h,decide_eq_false (fun hh=>q.den_nz (lm_len0.1 (by omega)))]
  rfl
theorem lm_small'{n:Nat}(h:n<B64):(limbs n).length≤2:=limbs_len.2 h
theorem r_Mul64{x y:Nat}(hx:x<B64)(hy:y<B64):u_ref01_Mul (lm x,lm y,())=some (lm (x*y),()):=
 r_Mul (by have h1:=lm_small' hx;have h2:=lm_small' hy;simp only[LM];omega)
theorem sm_b{q:Rat}(h:Sm q):q.num.natAbs<B64∧q.den<B64:=by
 obtain⟨h1,h2⟩:=h;simp only[B64];omega
theorem rNum_len0{q:Rat}:((rNum q).length:Int)=0↔q=0:=by
 rw[←rNum_len];omega
theorem r_QAdd{p q:Rat}(hp:Sm p)(hq:Sm q):u_ref02_Add (rNeg p,rNum p,rDen p,rNeg q,rNum q,rDen q,())=some (rNeg (p+q),rNum (p+q),rDen (p+q),()):=by
 obtain⟨p1,p2⟩:=sm_b hp
 obtain⟨q1,q2⟩:=sm_b hq
 have bp:=hp.1;have bq:=hq.1;have bpd:=hp.2;have bqd:=hq.2
 have m1:p.num.natAbs*q.den<2147483648*2147483648:=Nat.mul_lt_mul'' bp bqd
 have m2:q.num.natAbs*p.den<2147483648*2147483648:=Nat.mul_lt_mul'' bq bpd
 have m3:p.den*q.den<2147483648*2147483648:=Nat.mul_lt_mul'' bpd bqd
 have d0:p.den*q.den≠0:=Nat.mul_ne_zero p.den_nz q.den_nz
 unfold u_ref02_Add
 simp only[lenL_eq,eqI_eq]
 by_cases hp0:p=0
 ·rw[decide_eq_true (rNum_len0.2 hp0)]
  rw[hp0,Rat.zero_add]
  rfl
 rw[decide_eq_false (fun h=>hp0 (rNum_len0.1 h))]
 by_cases hq0:q=0
 ·rw[decide_eq_true (rNum_len0.2 hq0)]
  rw[hq0,Rat.add_zero]
  rfl
 rw[decide_eq_false (fun h=>hq0 (rNum_len0.1 h))]
 have e1:u_ref01_Mul (rNum p,lm q.den,())=some (lm (p.num.natAbs*q.den),()):=r_Mul64 p1 q2
 have e2:u_ref01_Mul (rNum q,lm p.den,())=some (lm (q.num.natAbs*p.den),()):=r_Mul64 q1 p2
 simp only[cond_false,r_Den,obS,e1,e2,r_Mul64 p2 q2,eqB_eq]
 have l1:=lm_small' (n:=p.num.natAbs*q.den) (by simp only[B64];omega)
 have l2:=lm_small' (n:=q.num.natAbs*p.den) (by simp only[B64];omega)
 by_cases hn:rNeg p=rNeg q
 ·rw[show (rNeg p==rNeg q)=true by simpa using hn]
  simp only[cond_true]
  rw[r_Add (by omega) (by omega)]
  simp only[obS]
  rw[r_reduce _ (by simp only[B64];omega) (by simp only[B64];omega) d0]
  simp only[obS]
  rw[hn,←add_same hn]
 ·rw[show (rNeg p==rNeg q)=false by simpa using hn]
  simp only[cond_false]
  rw[r_Cmp (by simp only[LM];omega) (by simp only[LM];omega)]
  simp only[obS,ltI_eq]
  by_cases hlt:p.num.natAbs*q.den<q.num.natAbs*p.den
  ·rw[decide_eq_true (by unfold cmpN;rw[if_pos hlt];omega)]
   simp only[cond_true]
   rw[r_Sub (by simp only[LM];omega) (by omega)]
   simp only[obS]
   rw[r_reduce _ (by simp only[B64];omega) (by simp only[B64];omega) d0]
   simp only[obS]
   have:=add_diff (p:=q) (q:=p) (Ne.symm hn) (by omega)
   rw[Rat.add_comm,this,Nat.mul_comm p.den]
  ·rw[decide_eq_false (by unfold cmpN;rw[if_neg hlt];split <;> omega)]
   simp only[cond_false]
   rw[r_Sub (by simp only[LM];omega) (by omega)]
   simp only[obS]
   rw[r_reduce _ (by simp only[B64];omega) (by simp only[B64];omega) d0]
   simp only[obS]
   rw[←add_diff hn (by omega)]
theorem Sm.neg{q:Rat}(h:Sm q):Sm (-q):=by
 unfold Sm at *
 rw[Rat.neg_num,Int.natAbs_neg,Rat.neg_den]
 exact h
def maxQ(p q:Rat):Rat:=if 0<cmpQ q p then q else p
theorem r_Int{n:Int}(h1:-4611686018427387904<n)(h2:n<4611686018427387904):u_ref02_Int (n,())=some (rNeg (n:Rat),rNum (n:Rat),rDen (n:Rat),()):=by
 unfold u_ref02_Int
 simp only[r_size h1 h2,obS]
 rfl
theorem p_Sub{p q:Rat}(hp:Sm p)(hq:Sm q):u_rational_Sub (rNeg p,rNum p,rDen p,rNeg q,rNum q,rDen q,())=some (rNeg (p-q),rNum (p-q),rDen (p-q),()):=by
 unfold u_rational_Sub
 simp only[p_add hp hq,obS]
 have e:sg (!rNeg q) (q.num.natAbs*p.den)=(-q).num*((p.den:Nat):Int):=by
  have key:∀(b:Bool) (n:Nat),sg (!b) n=-(sg b n):=fun b n=>by cases b <;> simp[sg]
  rw[←sgn_mul,Rat.neg_num,key,sg_num]
 rw[e,←sgn_mul,sg_num,Rat.sub_eq_add_neg,add_mk,Rat.neg_den]
theorem p_Mul{p q:Rat}(hp:Sm p)(hq:Sm q):u_rational_Mul (rNeg p,rNum p,rDen p,rNeg q,rNum q,rDen q,())=some (rNeg (p*q),rNum (p*q),rDen (p*q),()):=by
 have bp:=hp.1;have bq:=hq.1;have bpd:=hp.2;have bqd:=hq.2
 have m1:p.num.natAbs*q.num.natAbs<2147483648*2147483648:=Nat.mul_lt_mul'' bp bq
 have m3:p.den*q.den<2147483648*2147483648:=Nat.mul_lt_mul'' bpd bqd
 unfold u_rational_Mul
 simp only[lenL_eq,eqI_eq]
 by_cases hp0:p=0
 ·rw[decide_eq_true (rNum_len0.2 hp0)]
  rw[hp0,Rat.zero_mul,rNeg_zero,rNum_zero,rDen_zero]
  rfl
 rw[decide_eq_false (fun h=>hp0 (rNum_len0.1 h))]
 by_cases hq0:q=0
 ·rw[decide_eq_true (rNum_len0.2 hq0)]
  rw[hq0,Rat.mul_zero,rNeg_zero,rNum_zero,rDen_zero]
  rfl
 rw[decide_eq_false (fun h=>hq0 (rNum_len0.1 h))]
 simp only[cond_false,p_parts hp.s1,p_parts hq.s1,obS,cond_true,mulI_eq,eqB_eq,bneq]
 rw[show ((p.num.natAbs:Nat):Int)*((q.num.natAbs:Nat):Int)=((p.num.natAbs*q.num.natAbs:Nat):Int) from(Int.natCast_mul _ _).symm,show ((p.den:Nat):Int)*(q.den:Int)=((p.den*q.den:Nat):Int) from(Int.natCast_mul _ _).symm,
  wr64s (n:=p.num.natAbs*q.num.natAbs) (by simp only[B64];omega),wr64s (n:=p.den*q.den) (by simp only[B64];omega),p_short _ (by simp only[B64];omega) (by simp only[B64];omega) (Nat.mul_ne_zero p.den_nz q.den_nz),←mul_sg]
 rfl
theorem p_copied{q:Rat}(h:Fit q):u_rational_copied (rNeg q,rNum q,rDen q,())=some (rNeg q,rNum q,rDen q,()):=by
 unfold u_rational_copied
 simp only[p_Clone (fit_num h),p_Clone (fit_den h),obS]
theorem p_Max{p q:Rat}(hp:Sm p)(hq:Sm q):u_rational_Max (rNeg p,rNum p,rDen p,rNeg q,rNum q,rDen q,())=some (rNeg (maxQ p q),rNum (maxQ p q),rDen (maxQ p q),()):=by
 unfold u_rational_Max maxQ
 simp only[p_Cmp hq hp,obS,ltI_eq]
 by_cases h:0<cmpQ q p
 ·rw[if_pos h,decide_eq_true h]
  simp only[cond_true,obS,onS_l,p_copied hq.fit]
 ·rw[if_neg h,decide_eq_false h]
  simp only[cond_false,obS,onS_l,p_copied hp.fit]
end Go.Eng.Rt
namespace Go.Eng
theorem tmod_lo(a:Int){b:Int}(h:0<b):-b<a.tmod b:=by
 rcases Int.lt_or_le a 0 with ha | ha
 ·have h1:(-(-a)).tmod b=-((-a).tmod b):=Int.neg_tmod (-a) b
  rw[Int.neg_neg] at h1
  have h2:(-a).tmod b<b:=by rw[Int.tmod_eq_emod_of_nonneg (by omega)];exact Int.emod_lt_of_pos _ h
  omega
 ·have:0≤a.tmod b:=by rw[Int.tmod_eq_emod_of_nonneg ha];exact Int.emod_nonneg _ (by omega)
  omega
theorem tmod_hi(a:Int){b:Int}(h:0<b):a.tmod b<b:=by
 rcases Int.lt_or_le a 0 with ha | ha
 ·have h1:(-(-a)).tmod b=-((-a).tmod b):=Int.neg_tmod (-a) b
  rw[Int.neg_neg] at h1
  have h2:0≤(-a).tmod b:=by rw[Int.tmod_eq_emod_of_nonneg (by omega)];exact Int.emod_nonneg _ (by omega)
  omega
 ·rw[Int.tmod_eq_emod_of_nonneg ha];exact Int.emod_lt_of_pos _ h
def modV(a n:Int):Int:=if a.tmod n<0 then a.tmod n+n else a.tmod n
theorem modV_lo(a:Int){n:Int}(h:0<n):0≤modV a n:=by
 unfold modV
 have:=tmod_lo a h
 split <;> omega
theorem modV_hi(a:Int){n:Int}(h:0<n):modV a n<n:=by
 unfold modV
 have:=tmod_hi a h
 split <;> omega
theorem s_Mod(a:Int){n:Int}(h1:0<n)(h2:n≤4611686018427387904):u_brepkernelmade_Mod (a,n,())=some (modV a n,()):=by
 unfold u_brepkernelmade_Mod modV
 have:=tmod_lo a h1
 have:=tmod_hi a h1
 rw[nz_eq (show n≠0 by omega)]
 simp only[obS,modI_eq,ltI_eq,addI_eq]
 by_cases h:a.tmod n<0
 ·rw[decide_eq_true h,if_pos h,wr64 (by omega) (by omega)];rfl
 ·rw[decide_eq_false h,if_neg h];rfl
def intT(z:Int):T:=.v (.int .i64 z)
def DiceOK(L:List T)(a:Int):Prop:=∃zs:List Int,L=zs.map intT∧zs.length≤1000000∧0≤a∧a≤zs.length
theorem s_Next{L:List T}{a:Int}(h:DiceOK L a){n:Int}(h1:0<n)(h2:n≤4611686018427387904):
 ∃v a',u___brepkernelmade_Dice__Next ((),n,L,a,())=some (v,L,a',())∧0≤v∧v<n∧DiceOK L a':=by
 obtain⟨zs,rfl,hz,ha0,ha1⟩:=h
 unfold u___brepkernelmade_Dice__Next
 simp only[leI_eq,lenL_eq,List.length_map,addI_eq,subI_eq]
 by_cases hc:(zs.length:Int)≤a
 ·rw[decide_eq_true hc]
  exact⟨0,a,rfl,Int.le_refl _,h1,zs,rfl,hz,ha0,ha1⟩
 ·rw[decide_eq_false hc]
  obtain⟨i,rfl⟩:=Int.eq_ofNat_of_zero_le ha0
  have hi:i<zs.length:=by omega
  rw[wr64 (n:=(i:Int)+1) (by omega) (by omega),wr64 (n:=(i:Int)+1-1) (by omega) (by omega),Int.add_sub_cancel,idxL_nat,List.getElem?_map,List.getElem?_eq_getElem hi]
  simp only[cond_false,Option.map_some,obS,intT,T_cell_v,T_int,s_Mod _ h1 h2]
  exact⟨_,_,rfl,modV_lo _ h1,modV_hi _ h1,zs,rfl,hz,by omega,by omega⟩
theorem s_Light(L:List T):u_brepkernelmade_Light (L,())=some (decide (L.length≤500),()):=by
 unfold u_brepkernelmade_Light
 simp only[leI_eq,lenL_eq]
 congr 2
 rw[Bool.eq_iff_iff];simp;omega
theorem s_Roll(L:List T):u_brepkernelmade_Roll (L,())=some (L,0,()):=rfl
end Go.Eng
namespace Go.Eng.Tm
def crs(p q:Int×Int):Int:=p.1*q.2-q.1*p.2
def path:List (Int×Int)→Int
 | a::b::l=>crs a b+path (b::l)
 | _=>0
def area:List (Int×Int)→Int
 | []=>0
 | p::l=>path (p::l++[p])
theorem path_mid:∀(u:List (Int×Int)) (a:Int×Int) (v:List (Int×Int)),path (u++a::v)=path (u++[a])+path (a::v)
 | [],a,v=>by simp[path]
 | [x],a,v=>by simp[path]
 | x::y::u,a,v=>by
  have h:=path_mid (y::u) a v
  simp only[List.cons_append,path] at h ⊢
  omega
theorem path_snoc(l:List (Int×Int))(a b:Int×Int):path (l++[a,b])=path (l++[a])+crs a b:=by
 rw[path_mid l a [b]]
 simp[path]
def at'(l:List (Int×Int))(i:Nat):Int×Int:=l.getD i (0,0)
def psum(l:List (Int×Int)):Nat→Int
 | 0=>0
 | i+1=>psum l i+crs (at' l i) (at' l ((i+1)%l.length))
theorem psum_path{l:List (Int×Int)}:∀{i:Nat},i<l.length→psum l i=path (l.take (i+1))
 | 0,h=>by
  cases l with
  | nil=>simp at h
  | cons a l=>simp[psum,path]
 | i+1,h=>by
  have ih:=psum_path (l:=l) (i:=i) (by omega)
  simp only[psum]
  rw[ih,Nat.mod_eq_of_lt h]
  have ha:l[i]?=some (at' l i):=by unfold at';rw[List.getD_eq_getElem?_getD,List.getElem?_eq_getElem (by omega)];rfl
  have hb:l[i+1]?=some (at' l (i+1)):=by unfold at';rw[List.getD_eq_getElem?_getD,List.getElem?_eq_getElem h];rfl
  rw[List.take_add_one (i:=i+1),hb,List.take_add_one (i:=i),ha]
  simp only[Option.toList_some,List.append_assoc,List.cons_append,List.nil_append]
  rw[path_snoc]
theorem psum_area(l:List (Int×Int)):psum l l.length=area l:=by
 cases l with
 | nil=>rfl
 | cons p l=>
  have h:=psum_path (l:=p::l) (i:=l.length) (by simp)
  have e:psum (p::l) (p::l).length=psum (p::l) l.length+crs (at' (p::l) l.length) (at' (p::l) ((l.length+1)%(l.length+1))):=rfl
  rw[e,h,Nat.mod_self]
  have ht:(p::l).take (l.length+1)=p::l:=List.take_of_length_le (by simp)
  rw[ht]
  show path (p::l)+crs (at' (p::l) l.length) p=path (p::l++[p])
  have hlast:p::l=(p::l).dropLast++[at' (p::l) l.length]:=by
   have h1:=List.dropLast_concat_getLast (l:=p::l) (by simp)
   have h2:(p::l).getLast (by simp)=at' (p::l) l.length:=by
    unfold at'
    rw[List.getD_eq_getElem?_getD,List.getLast_eq_getElem]
    simp
   rw[h2] at h1
   exact h1.symm
  generalize at' (p::l) l.length=z at *
  have e2:p::l++[p]=(p::l).dropLast++[z,p]:=by
   conv=>lhs;rw[hlast]
   simp
  rw[e2,path_snoc,←hlast]
end Go.Eng.Tm
namespace Go.Eng.Rt
open Go.Eng Go.Eng.Tm
def wT(p:Int×Int):T:=.agg [.v (.bool (rNeg (p.1:Rat))),.sl 1 (rNum (p.1:Rat)),.sl 1 (rDen (p.1:Rat)),.v (.bool (rNeg (p.2:Rat))),.sl 1 (rNum (p.2:Rat)),.sl 1 (rDen (p.2:Rat)),.v (.bool false),.sl 1 [],.sl 1 []]
def SmW(p:Int×Int):Prop:=p.1.natAbs<100∧p.2.natAbs<100
theorem sm_int{n:Int}(h:n.natAbs<2147483648):Sm (n:Rat):=⟨by rw[Rat.num_intCast];exact h,by rw[Rat.den_intCast];decide⟩
theorem p_edge{l:List (Int×Int)}(hl:l.length<1000000){i:Nat}(hi:i<l.length){p q:Int×Int}(hp:l[i]?=some p)(hq:l[(i+1)%l.length]?=some q):
 u_trim_edge (l.map wT,(i:Int),())=some (rNeg (p.1:Rat),rNum (p.1:Rat),rDen (p.1:Rat),rNeg (p.2:Rat),rNum (p.2:Rat),rDen (p.2:Rat),false,[],[],rNeg (q.1:Rat),rNum (q.1:Rat),rDen (q.1:Rat),rNeg (q.2:Rat),rNum (q.2:Rat),rDen (q.2:Rat),false,[],[],()):=by
 have wi:wr .i64 ((i:Int)+1)=((i+1:Nat):Int):=by rw[wri' (by omega) (by omega)];push_cast;rfl
 have hgp:(l.map wT)[i]?=some (wT p):=by simp[hp]
 have hgq:(l.map wT)[(i+1)%l.length]?=some (wT q):=by simp[hq]
 have hpl:((l.map wT).length:Int)=(l.length:Int):=by rw[List.length_map]
 have hnz:nz (l.length:Int)=some (l.length:Int):=by unfold nz;rw[if_neg (by omega)]
 have hmod:((i+1:Nat):Int).tmod (l.length:Int)=(((i+1)%l.length:Nat):Int):=rfl
 have cs:∀p,T.bool? (T.cell (wT p) 0)=some (rNeg (p.1:Rat))∧T.sl? 1 (T.cell (wT p) 1)=some (rNum (p.1:Rat))∧T.sl? 1 (T.cell (wT p) 2)=some (rDen (p.1:Rat)) ∧
  T.bool? (T.cell (wT p) 3)=some (rNeg (p.2:Rat))∧T.sl? 1 (T.cell (wT p) 4)=some (rNum (p.2:Rat))∧T.sl? 1 (T.cell (wT p) 5)=some (rDen (p.2:Rat)) ∧
  T.bool? (T.cell (wT p) 6)=some false∧T.sl? 1 (T.cell (wT p) 7)=some []∧T.sl? 1 (T.cell (wT p) 8)=some []:=fun p=>⟨rfl,T_sl _ _,T_sl _ _,rfl,T_sl _ _,T_sl _ _,rfl,T_sl _ _,T_sl _ _⟩
 obtain⟨a0,a1,a2,a3,a4,a5,a6,a7,a8⟩:=cs p
 obtain⟨b0,b1,b2,b3,b4,b5,b6,b7,b8⟩:=cs q
 unfold u_trim_edge
 simp only[lenL_eq,hpl,hnz,addI_eq,wi,modI_eq,hmod,idxL_nat,hgp,hgq,obS,a0,a1,a2,a3,a4,a5,a6,a7,a8,b0,b1,b2,b3,b4,b5,b6,b7,b8]
theorem crs_small{p q:Int×Int}(hp:SmW p)(hq:SmW q):(crs p q).natAbs≤20000:=by
 have h1:(p.1*q.2).natAbs≤10000:=by
  rw[Int.natAbs_mul]
  exact Nat.mul_le_mul (show _≤100 from Nat.le_of_lt hp.1) (show _≤100 from Nat.le_of_lt hq.2)
 have h2:(q.1*p.2).natAbs≤10000:=by
  rw[Int.natAbs_mul]
  exact Nat.mul_le_mul (show _≤100 from Nat.le_of_lt hq.1) (show _≤100 from Nat.le_of_lt hp.2)
 unfold crs
 omega
theorem at_mem{l:List (Int×Int)}{i:Nat}(h:i<l.length):l[i]?=some (at' l i)∧at' l i∈l:=by
 have e:l[i]?=some (at' l i):=by unfold at';rw[List.getD_eq_getElem?_getD,List.getElem?_eq_getElem h];rfl
 exact⟨e,List.mem_of_getElem? e⟩
theorem psum_small{l:List (Int×Int)}(hl:∀p∈l,SmW p):∀{i:Nat},i≤l.length→(psum l i).natAbs≤20000*i
 | 0,_=>by simp[psum]
 | i+1,h=>by
  have ih:=psum_small hl (i:=i) (by omega)
  have hc:=crs_small (hl _ (at_mem (l:=l) (i:=i) (by omega)).2) (hl _ (at_mem (l:=l) (i:=(i+1)%l.length) (Nat.mod_lt _ (by omega))).2)
  simp only[psum]
  omega
def AS(l:List (Int×Int))(i:Nat):(List T×Unit×Unit×Int×Int×Bool×T×T×Bool×List T×List T×Unit):=
 (l.map wT,(),(),(l.length:Int),(i:Int),false,.v (.slice none 0 0),.v (.slice none 0 0),rNeg (psum l i:Rat),rNum (psum l i:Rat),rDen (psum l i:Rat),())
theorem area_step{l:List (Int×Int)}(hl:∀p∈l,SmW p)(hn:l.length≤1000){i:Nat}(hi:i<l.length):u_trim_Area_l0 (AS l i)=some (.inl (AS l (i+1))):=by
 obtain⟨e1,m1⟩:=at_mem hi
 obtain⟨e2,m2⟩:=at_mem (l:=l) (i:=(i+1)%l.length) (Nat.mod_lt _ (by omega))
 have hb:=psum_small hl (i:=i) (by omega)
 have hc:=crs_small (hl _ m1) (hl _ m2)
 have wi:wr .i64 ((i:Int)+1)=((i+1:Nat):Int):=by rw[wri' (by omega) (by omega)];push_cast;rfl
 have hlt:decide ((i:Int)<(l.length:Int))=true:=decide_eq_true (by omega)
 have hed:=p_edge (l:=l) (by omega) hi e1 e2
 have hs:psum l (i+1)=psum l i+crs (at' l i) (at' l ((i+1)%l.length)):=rfl
 generalize at' l i=p at *
 generalize at' l ((i+1)%l.length)=q at *
 have sp:=hl _ m1
 have sq:=hl _ m2
 have sm:∀{n:Int},n.natAbs<100→Sm (n:Rat):=fun h=>sm_int (by omega)
 have k1:(p.1*q.2).natAbs≤10000:=by
  rw[Int.natAbs_mul]
  exact Nat.mul_le_mul (show _≤100 from Nat.le_of_lt sp.1) (show _≤100 from Nat.le_of_lt sq.2)
 have k2:(q.1*p.2).natAbs≤10000:=by
  rw[Int.natAbs_mul]
  exact Nat.mul_le_mul (show _≤100 from Nat.le_of_lt sq.1) (show _≤100 from Nat.le_of_lt sp.2)
 have f1:=p_Mul (sm sp.1) (sm sq.2)
 have f2:=p_Mul (sm sq.1) (sm sp.2)
 rw[←Rat.intCast_mul] at f1 f2
 have f3:=p_Sub (sm_int (n:=p.1*q.2) (by omega)) (sm_int (n:=q.1*p.2) (by omega))
 rw[←Rat.intCast_sub] at f3
 have f4:=p_Add (sm_int (n:=psum l i) (by omega)) (sm_int (n:=crs p q) (by omega))
 rw[←Rat.intCast_add,←hs] at f4
 unfold crs at f4
 unfold u_trim_Area_l0
 conv=>lhs;unfold AS
 simp only[ltI_eq,hlt,cond_true,hed,obS,f1,f2,f3,f4,addI_eq,wi]
 rfl
theorem p_Area{l:List (Int×Int)}(hl:∀p∈l,SmW p)(hn:l.length≤1000):u_trim_Area (l.map wT,())=some (rNeg (area l:Rat),rNum (area l:Rat),rDen (area l:Rat),()):=by
 have h:=loopU_for (F:=u_trim_Area_l0) l.length (AS l) fun i hi=>area_step hl hn hi
 have hpl:((l.map wT).length:Int)=(l.length:Int):=by rw[List.length_map]
 have fold:(l.map wT,(),(),(l.length:Int),(0:Int),false,T.v (Value.slice none 0 0),T.v (Value.slice none 0 0),false,([]:List T),([]:List T),())=AS l 0:=by
  have e:((psum l 0:Int):Rat)=0:=rfl
  unfold AS
  rw[e,rNeg_zero,rNum_zero,rDen_zero];rfl
 have hout:loopU u_trim_Area_l0 (AS l l.length)=some (.inl ((),(),false,T.v (Value.slice none 0 0),T.v (Value.slice none 0 0),rNeg (psum l l.length:Rat),rNum (psum l l.length:Rat),rDen (psum l l.length:Rat),())):=by
  refine loopU_out ?_
  have hlt:decide ((l.length:Int)<(l.length:Int))=false:=decide_eq_false (by omega)
  unfold u_trim_Area_l0 AS
  simp only[ltI_eq,hlt,cond_false]
 rw[←psum_area]
 unfold u_trim_Area
 simp only[lenL_eq,hpl,fold,h,hout,obS,onS_l]
end Go.Eng.Rt
namespace Go.Eng.Rt
open Go.Eng Go.Eng.Tm
def DS(L:List T)(a x y r:Int)(turn:Bool)(i:Int)(l:List T):(Unit×Int×Int×Int×Unit×List T×Bool×Int×List T×Int×Int×Int×Int×Int×Int×Int×Int×Int×Int×Int×Int×Int×Int×Int×Int×Int×Unit):=
 ((),x,y,r,(),l,turn,i,L,a,2,0,2,1,1,2,-1,2,-2,0,-2,-1,0,-2,1,-1,())
def SmS(x y:Int)(ps:List (Int×Int)):Prop:=∀p∈ps,(p.1-x).natAbs≤10∧(p.2-y).natAbs≤10
theorem loop_step{L:List T}{a:Int}(hD:DiceOK L a){x y r:Int}(hx:x.natAbs≤4)(hy:y.natAbs≤4)(hr0:1≤r)(hr:r≤5){ps:List (Int×Int)}(hl:ps.length<100){turn:Bool}{i:Int}(hi:i=0∨i=1∨i=2∨i=3∨i=4∨i=5∨i=6∨i=7):
 ∃a' ps',u___brepkernelmade_Dice__Loop_l0 (DS L a x y r turn i (ps.map wT))=some (.inl (DS L a' x y r turn (i+1) (ps'.map wT)))∧DiceOK L a'∧ps'.length≤ps.length+1∧(SmS x y ps→SmS x y ps'):=by
 obtain⟨v,a',e,v0,v1,hD'⟩:=s_Next hD (n:=4) (by omega) (by omega)
 have bd:∀c:Int,-2≤c→c≤2→-10≤r*c∧r*c≤10:=fun c h1 h2=>by
  have:c=-2∨c=-1∨c=0∨c=1∨c=2:=by omega
  rcases this with rfl | rfl | rfl | rfl | rfl <;> omega
 have wl:∀k:Int,0≤k→k≤100→wr .i64 k=k:=fun k h1 h2=>wr64 (by omega) (by omega)
 have hm:∀c:Int,-2≤c→c≤2→wr .i64 (r*c)=r*c:=fun c h1 h2=>by have:=bd c h1 h2;exact wri' (by omega) (by omega)
 have hax:∀c:Int,-2≤c→c≤2→wr .i64 (x+r*c)=x+r*c:=fun c h1 h2=>by have:=bd c h1 h2;exact wri' (by omega) (by omega)
 have hay:∀c:Int,-2≤c→c≤2→wr .i64 (y+r*c)=y+r*c:=fun c h1 h2=>by have:=bd c h1 h2;exact wri' (by omega) (by omega)
 have gx:∀c:Int,-2≤c→c≤2→u_ref02_Int (x+r*c,())=some (rNeg ((x+r*c:Int):Rat),rNum ((x+r*c:Int):Rat),rDen ((x+r*c:Int):Rat),()):=fun c h1 h2=>by have:=bd c h1 h2;exact r_Int (by omega) (by omega)
 have gy:∀c:Int,-2≤c→c≤2→u_ref02_Int (y+r*c,())=some (rNeg ((y+r*c:Int):Rat),rNum ((y+r*c:Int):Rat),rDen ((y+r*c:Int):Rat),()):=fun c h1 h2=>by have:=bd c h1 h2;exact r_Int (by omega) (by omega)
 have hroom:∀t:T,room (ps.map wT) [t] 168=some (ps.map wT++[t]):=fun t=>room_ok (by simp;omega) (by decide)
 have fin:∀c d:Int,-2≤c→c≤2→-2≤d→d≤2→(ps++[(x+r*c,y+r*d)]).length≤ps.length+1∧(SmS x y ps→SmS x y (ps++[(x+r*c,y+r*d)])):=fun c d h1 h2 h3 h4=>⟨by simp,fun hs p hp=>by
  have b1:=bd c h1 h2
  have b2:=bd d h3 h4
  rcases List.mem_append.1 hp with hp | hp
  ·exact hs p hp
  ·rw[List.mem_singleton.1 hp]
   exact⟨by show (x+r*c-x).natAbs≤10;omega,by show (y+r*d-y).natAbs≤10;omega⟩⟩
 by_cases h3:v=3
 ·subst h3
  refine⟨a',ps,?_,hD',by omega,id⟩
  unfold u___brepkernelmade_Dice__Loop_l0
  conv=>lhs;unfold DS
  rcases hi with rfl | rfl | rfl | rfl | rfl | rfl | rfl | rfl <;> (simp only[ltI_eq,Int.reduceLT,decide_true,cond_true,e,obS,eqI_eq,onS_l,addI_eq,Int.reduceAdd,wl,Int.reduceLE];rfl)
 ·have d3:decide (v=3)=false:=decide_eq_false h3
  rcases hi with rfl | rfl | rfl | rfl | rfl | rfl | rfl | rfl <;> cases turn
  ·refine⟨a',ps++[(x+r*(2),y+r*(0))],?_,hD',fin (2) (0) (by decide) (by decide) (by decide) (by decide)⟩
   unfold u___brepkernelmade_Dice__Loop_l0 DS
   simp only[ltI_eq,Int.reduceLT,decide_true,decide_false,cond_true,cond_false,e,obS,eqI_eq,d3,onS_l,noS,addI_eq,subI_eq,mulI_eq,Int.reduceAdd,Int.reduceSub,Int.reduceEq,wl,hm,hax,hay,gx,gy,hroom,Int.reduceLE,Int.reduceNeg]
   rw[List.map_append];rfl
  ·refine⟨a',ps++[(x+r*(1),y+r*(-1))],?_,hD',fin (1) (-1) (by decide) (by decide) (by decide) (by decide)⟩
   unfold u___brepkernelmade_Dice__Loop_l0 DS
   simp only[ltI_eq,Int.reduceLT,decide_true,decide_false,cond_true,cond_false,e,obS,eqI_eq,d3,onS_l,noS,addI_eq,subI_eq,mulI_eq,Int.reduceAdd,Int.reduceSub,Int.reduceEq,wl,hm,hax,hay,gx,gy,hroom,Int.reduceLE,Int.reduceNeg]
   rw[List.map_append];rfl
  ·refine⟨a',ps++[(x+r*(2),y+r*(1))],?_,hD',fin (2) (1) (by decide) (by decide) (by decide) (by decide)⟩
   unfold u___brepkernelmade_Dice__Loop_l0 DS
   simp only[ltI_eq,Int.reduceLT,decide_true,decide_false,cond_true,cond_false,e,obS,eqI_eq,d3,onS_l,noS,addI_eq,subI_eq,mulI_eq,Int.reduceAdd,Int.reduceSub,Int.reduceEq,wl,hm,hax,hay,gx,gy,hroom,Int.reduceLE,Int.reduceNeg]
   rw[List.map_append];rfl
  ·refine⟨a',ps++[(x+r*(0),y+r*(-2))],?_,hD',fin (0) (-2) (by decide) (by decide) (by decide) (by decide)⟩
   unfold u___brepkernelmade_Dice__Loop_l0 DS
   simp only[ltI_eq,Int.reduceLT,decide_true,decide_false,cond_true,cond_false,e,obS,eqI_eq,d3,onS_l,noS,addI_eq,subI_eq,mulI_eq,Int.reduceAdd,Int.reduceSub,Int.reduceEq,wl,hm,hax,hay,gx,gy,hroom,Int.reduceLE,Int.reduceNeg]
   rw[List.map_append];rfl
  ·refine⟨a',ps++[(x+r*(1),y+r*(2))],?_,hD',fin (1) (2) (by decide) (by decide) (by decide) (by decide)⟩
   unfold u___brepkernelmade_Dice__Loop_l0 DS
   simp only[ltI_eq,Int.reduceLT,decide_true,decide_false,cond_true,cond_false,e,obS,eqI_eq,d3,onS_l,noS,addI_eq,subI_eq,mulI_eq,Int.reduceAdd,Int.reduceSub,Int.reduceEq,wl,hm,hax,hay,gx,gy,hroom,Int.reduceLE,Int.reduceNeg]
   rw[List.map_append];rfl
  ·refine⟨a',ps++[(x+r*(-2),y+r*(-1))],?_,hD',fin (-2) (-1) (by decide) (by decide) (by decide) (by decide)⟩
   unfold u___brepkernelmade_Dice__Loop_l0 DS
   simp only[ltI_eq,Int.reduceLT,decide_true,decide_false,cond_true,cond_false,e,obS,eqI_eq,d3,onS_l,noS,addI_eq,subI_eq,mulI_eq,Int.reduceAdd,Int.reduceSub,Int.reduceEq,wl,hm,hax,hay,gx,gy,hroom,Int.reduceLE,Int.reduceNeg]
   rw[List.map_append];rfl
  ·refine⟨a',ps++[(x+r*(-1),y+r*(2))],?_,hD',fin (-1) (2) (by decide) (by decide) (by decide) (by decide)⟩
   unfold u___brepkernelmade_Dice__Loop_l0 DS
   simp only[ltI_eq,Int.reduceLT,decide_true,decide_false,cond_true,cond_false,e,obS,eqI_eq,d3,onS_l,noS,addI_eq,subI_eq,mulI_eq,Int.reduceAdd,Int.reduceSub,Int.reduceEq,wl,hm,hax,hay,gx,gy,hroom,Int.reduceLE,Int.reduceNeg]
   rw[List.map_append];rfl
  ·refine⟨a',ps++[(x+r*(-2),y+r*(0))],?_,hD',fin (-2) (0) (by decide) (by decide) (by decide) (by decide)⟩
   unfold u___brepkernelmade_Dice__Loop_l0 DS
   simp only[ltI_eq,Int.reduceLT,decide_true,decide_false,cond_true,cond_false,e,obS,eqI_eq,d3,onS_l,noS,addI_eq,subI_eq,mulI_eq,Int.reduceAdd,Int.reduceSub,Int.reduceEq,wl,hm,hax,hay,gx,gy,hroom,Int.reduceLE,Int.reduceNeg]
   rw[List.map_append];rfl
  ·refine⟨a',ps++[(x+r*(-2),y+r*(0))],?_,hD',fin (-2) (0) (by decide) (by decide) (by decide) (by decide)⟩
   unfold u___brepkernelmade_Dice__Loop_l0 DS
   simp only[ltI_eq,Int.reduceLT,decide_true,decide_false,cond_true,cond_false,e,obS,eqI_eq,d3,onS_l,noS,addI_eq,subI_eq,mulI_eq,Int.reduceAdd,Int.reduceSub,Int.reduceEq,wl,hm,hax,hay,gx,gy,hroom,Int.reduceLE,Int.reduceNeg]
   rw[List.map_append];rfl
  ·refine⟨a',ps++[(x+r*(-1),y+r*(2))],?_,hD',fin (-1) (2) (by decide) (by decide) (by decide) (by decide)⟩
   unfold u___brepkernelmade_Dice__Loop_l0 DS
   simp only[ltI_eq,Int.reduceLT,decide_true,decide_false,cond_true,cond_false,e,obS,eqI_eq,d3,onS_l,noS,addI_eq,subI_eq,mulI_eq,Int.reduceAdd,Int.reduceSub,Int.reduceEq,wl,hm,hax,hay,gx,gy,hroom,Int.reduceLE,Int.reduceNeg]
   rw[List.map_append];rfl
  ·refine⟨a',ps++[(x+r*(-2),y+r*(-1))],?_,hD',fin (-2) (-1) (by decide) (by decide) (by decide) (by decide)⟩
   unfold u___brepkernelmade_Dice__Loop_l0 DS
   simp only[ltI_eq,Int.reduceLT,decide_true,decide_false,cond_true,cond_false,e,obS,eqI_eq,d3,onS_l,noS,addI_eq,subI_eq,mulI_eq,Int.reduceAdd,Int.reduceSub,Int.reduceEq,wl,hm,hax,hay,gx,gy,hroom,Int.reduceLE,Int.reduceNeg]
   rw[List.map_append];rfl
  ·refine⟨a',ps++[(x+r*(1),y+r*(2))],?_,hD',fin (1) (2) (by decide) (by decide) (by decide) (by decide)⟩
   unfold u___brepkernelmade_Dice__Loop_l0 DS
   simp only[ltI_eq,Int.reduceLT,decide_true,decide_false,cond_true,cond_false,e,obS,eqI_eq,d3,onS_l,noS,addI_eq,subI_eq,mulI_eq,Int.reduceAdd,Int.reduceSub,Int.reduceEq,wl,hm,hax,hay,gx,gy,hroom,Int.reduceLE,Int.reduceNeg]
   rw[List.map_append];rfl
  ·refine⟨a',ps++[(x+r*(0),y+r*(-2))],?_,hD',fin (0) (-2) (by decide) (by decide) (by decide) (by decide)⟩
   unfold u___brepkernelmade_Dice__Loop_l0 DS
   simp only[ltI_eq,Int.reduceLT,decide_true,decide_false,cond_true,cond_false,e,obS,eqI_eq,d3,onS_l,noS,addI_eq,subI_eq,mulI_eq,Int.reduceAdd,Int.reduceSub,Int.reduceEq,wl,hm,hax,hay,gx,gy,hroom,Int.reduceLE,Int.reduceNeg]
   rw[List.map_append];rfl
  ·refine⟨a',ps++[(x+r*(2),y+r*(1))],?_,hD',fin (2) (1) (by decide) (by decide) (by decide) (by decide)⟩
   unfold u___brepkernelmade_Dice__Loop_l0 DS
   simp only[ltI_eq,Int.reduceLT,decide_true,decide_false,cond_true,cond_false,e,obS,eqI_eq,d3,onS_l,noS,addI_eq,subI_eq,mulI_eq,Int.reduceAdd,Int.reduceSub,Int.reduceEq,wl,hm,hax,hay,gx,gy,hroom,Int.reduceLE,Int.reduceNeg]
   rw[List.map_append];rfl
  ·refine⟨a',ps++[(x+r*(1),y+r*(-1))],?_,hD',fin (1) (-1) (by decide) (by decide) (by decide) (by decide)⟩
   unfold u___brepkernelmade_Dice__Loop_l0 DS
   simp only[ltI_eq,Int.reduceLT,decide_true,decide_false,cond_true,cond_false,e,obS,eqI_eq,d3,onS_l,noS,addI_eq,subI_eq,mulI_eq,Int.reduceAdd,Int.reduceSub,Int.reduceEq,wl,hm,hax,hay,gx,gy,hroom,Int.reduceLE,Int.reduceNeg]
   rw[List.map_append];rfl
  ·refine⟨a',ps++[(x+r*(2),y+r*(0))],?_,hD',fin (2) (0) (by decide) (by decide) (by decide) (by decide)⟩
   unfold u___brepkernelmade_Dice__Loop_l0 DS
   simp only[ltI_eq,Int.reduceLT,decide_true,decide_false,cond_true,cond_false,e,obS,eqI_eq,d3,onS_l,noS,addI_eq,subI_eq,mulI_eq,Int.reduceAdd,Int.reduceSub,Int.reduceEq,wl,hm,hax,hay,gx,gy,hroom,Int.reduceLE,Int.reduceNeg]
   rw[List.map_append];rfl
theorem loop_all{L:List T}{x y r:Int}(hx:x.natAbs≤4)(hy:y.natAbs≤4)(hr0:1≤r)(hr:r≤5){turn:Bool}:∀(n:Nat) {a:Int} (_:DiceOK L a) {ps:List (Int×Int)} {i:Int} (_:i=8-n) (_:0≤i) (_:(ps.length:Int)≤i) (_:SmS x y ps),
 ∃a' ps',loopU u___brepkernelmade_Dice__Loop_l0 (DS L a x y r turn i (ps.map wT))=some (.inl ((),ps'.map wT,L,a',()))∧DiceOK L a'∧ps'.length≤8∧SmS x y ps'
 | 0,a,hD,ps,i,hi,h0,hl,hs=>by
  refine⟨a,ps,loopU_out ?_,hD,by omega,hs⟩
  have hlt:decide (i<8)=false:=decide_eq_false (by omega)
  unfold u___brepkernelmade_Dice__Loop_l0 DS
  simp only[ltI_eq,hlt,cond_false]
 | n+1,a,hD,ps,i,hi,h0,hl,hs=>by
  obtain⟨a',ps',e,hD',hl',hs'⟩:=loop_step hD hx hy hr0 hr (ps:=ps) (by omega) (turn:=turn) (i:=i) (by omega)
  obtain⟨a2,ps2,e2,r2⟩:=loop_all hx hy hr0 hr (turn:=turn) n hD' (ps:=ps') (i:=i+1) (by omega) (by omega) (by omega) (hs' hs)
  exact⟨a2,ps2,by rw[loopU_go e,e2],r2⟩
end Go.Eng.Rt
namespace Go.Eng.Tw
def Fr(D k:Nat)(q:Rat):Prop:=0<D∧∃m:Int,m.natAbs≤k∧q*(D:Rat)=(m:Rat)
theorem Fr.mono{D k l:Nat}{q:Rat}(h:Fr D k q)(hl:k≤l):Fr D l q:=by
 obtain⟨h0,m,h1,h2⟩:=h
 exact⟨h0,m,Nat.le_trans h1 hl,h2⟩
theorem Fr.int(n:Int):Fr 1 n.natAbs (n:Rat):=⟨by decide,n,Nat.le_refl _,by grind⟩
theorem Fr.zero{D:Nat}(h:0<D):Fr D 0 0:=⟨h,0,Nat.le_refl _,by grind⟩
theorem Fr.add{D k l:Nat}{p q:Rat}(h:Fr D k p)(h':Fr D l q):Fr D (k+l) (p+q):=by
 obtain⟨h0,m,h1,h2⟩:=h
 obtain⟨_,m',h1',h2'⟩:=h'
 exact⟨h0,m+m',by omega,by rw[Rat.add_mul,h2,h2',Rat.intCast_add]⟩
theorem Fr.neg{D k:Nat}{p:Rat}(h:Fr D k p):Fr D k (-p):=by
 obtain⟨h0,m,h1,h2⟩:=h
 exact⟨h0,-m,by omega,by rw[Rat.neg_mul,h2,Rat.intCast_neg]⟩
theorem Fr.sub{D k l:Nat}{p q:Rat}(h:Fr D k p)(h':Fr D l q):Fr D (k+l) (p-q):=by
 rw[Rat.sub_eq_add_neg];exact h.add h'.neg
theorem Fr.mul{D E k l:Nat}{p q:Rat}(h:Fr D k p)(h':Fr E l q):Fr (D*E) (k*l) (p*q):=by
 obtain⟨h0,m,h1,h2⟩:=h
 obtain⟨h0',m',h1',h2'⟩:=h'
 refine⟨Nat.mul_pos h0 h0',m*m',by rw[Int.natAbs_mul];exact Nat.mul_le_mul h1 h1',?_⟩
 rw[Rat.natCast_mul,Rat.intCast_mul,←h2,←h2']
 grind
theorem Fr.up{D k:Nat}{p:Rat}(E:Nat)(hE:0<E)(h:Fr D k p):Fr (D*E) (k*E) p:=by
 have:=h.mul (Fr.int (E:Int):Fr 1 _ _)
 obtain⟨h0,m,h1,h2⟩:=h
 refine⟨Nat.mul_pos h0 hE,m*E,by rw[Int.natAbs_mul,Int.natAbs_natCast];exact Nat.mul_le_mul_right _ h1,?_⟩
 rw[Rat.natCast_mul,Rat.intCast_mul,←h2,Rat.intCast_natCast]
 grind
theorem fr_eq{D:Nat}{q:Rat}{m:Int}(h0:0<D)(h:q*(D:Rat)=(m:Rat)):q=mkRat m D:=by
 have hD:(D:Rat)≠0:=by
  intro e
  have:((D:Int):Rat)=((0:Int):Rat):=by rw[Rat.intCast_natCast];exact e
  have:=Rat.intCast_inj.1 this
  omega
 have h2:mkRat m D*(D:Rat)=(m:Rat):=by
  rw[Rat.mkRat_eq_div,Rat.div_mul_cancel hD]
 grind
theorem mk_num'{n:Int}{d:Nat}(hd:d≠0):(mkRat n d).num.natAbs≤n.natAbs∧(mkRat n d).den≤d:=by
 rw[Rat.mkRat_def,dif_neg hd,Rat.normalize_eq]
 refine⟨?_,Nat.div_le_self _ _⟩
 show (n/((n.natAbs.gcd d:Nat):Int)).natAbs≤_
 have h1:((n.natAbs.gcd d:Nat):Int) ∣ n:=Int.dvd_trans (Int.natCast_dvd_natCast.2 (Nat.gcd_dvd_left n.natAbs d)) (Int.natAbs_dvd.2 (Int.dvd_refl n))
 obtain⟨c,hc⟩:=h1
 have hg:0<n.natAbs.gcd d:=Nat.gcd_pos_of_pos_right _ (Nat.pos_of_ne_zero hd)
 have h2:n/((n.natAbs.gcd d:Nat):Int)=c:=by
  have e:=Int.mul_ediv_cancel_left c (show ((n.natAbs.gcd d:Nat):Int)≠0 by omega)
  rw[←hc] at e
  exact e
 rw[h2]
 have h3:n.natAbs=n.natAbs.gcd d*c.natAbs:=by
  have:=congrArg Int.natAbs hc
  rw[Int.natAbs_mul,Int.natAbs_natCast] at this
  exact this
 have h4:=Nat.mul_le_mul_right c.natAbs hg
 omega
theorem Fr.bnd{D k:Nat}{q:Rat}(h:Fr D k q):q.num.natAbs≤k∧q.den≤D:=by
 obtain⟨h0,m,h1,h2⟩:=h
 rw[fr_eq h0 h2]
 have:=mk_num' (n:=m) (d:=D) (by omega)
 omega
theorem Fr.of_mul{D N k:Nat}{q r:Rat}(hN:0<N)(h:Fr D k r)(e:(N:Rat)*q=r):Fr (D*N) k q:=by
 obtain⟨h0,m,h1,h2⟩:=h
 refine⟨Nat.mul_pos h0 hN,m,h1,?_⟩
 rw[Rat.natCast_mul,←h2,←e]
 grind
theorem Fr.imul{D k l:Nat}{n:Int}{q:Rat}(hn:n.natAbs≤l)(h:Fr D k q):Fr D (l*k) ((n:Rat)*q):=by
 have:=(Fr.int n).mul h
 rw[Nat.one_mul] at this
 exact this.mono (Nat.mul_le_mul_right _ hn)
theorem Fr.ofInt{D l:Nat}{n:Int}(hD:0<D)(hn:n.natAbs≤l):Fr D (l*D) (n:Rat):=by
 have:=(Fr.int n).up D hD
 rw[Nat.one_mul] at this
 exact this.mono (Nat.mul_le_mul_right _ hn)
theorem Fr.mk{n:Int}{D:Nat}(hD:0<D):Fr D n.natAbs (mkRat n D):=by
 refine⟨hD,n,Nat.le_refl _,?_⟩
 have hD':(D:Rat)≠0:=by
  intro e
  have:((D:Int):Rat)=((0:Int):Rat):=by rw[Rat.intCast_natCast];exact e
  have:=Rat.intCast_inj.1 this
  omega
 rw[Rat.mkRat_eq_div,Rat.div_mul_cancel hD']
end Go.Eng.Tw
namespace Go.Eng.Tw
theorem neg_nn{a:Rat}(h:a≤0):0≤-a:=by grind
theorem nn_of{n u:Rat}(hn:0<n)(h:0≤n*u):0≤u:=by
 rcases Rat.le_total (a:=0) (b:=u) with h1 | h1
 ·exact h1
 ·by_cases e:u=0
  ·grind
  ·have h2:0 < -u:=by grind
   have:=Rat.mul_pos hn h2
   grind
theorem sq_nn(a:Rat):0≤a*a:=by
 rcases Rat.le_total (a:=0) (b:=a) with h | h
 ·exact Rat.mul_nonneg h h
 ·have:=Rat.mul_nonneg (neg_nn h) (neg_nn h)
  grind
theorem sq_z{a:Rat}(h:a*a=0):a=0:=by
 rcases Rat.mul_eq_zero.1 h with h | h <;> exact h
theorem two_sq{a b:Rat}(h:a*a+b*b=0):a=0∧b=0:=by
 have h1:=sq_nn a
 have h2:=sq_nn b
 have e1:a*a=0:=by grind
 have e2:b*b=0:=by grind
 exact⟨sq_z e1,sq_z e2⟩
def Bt(d u:Rat):Prop:=(0≤u∧u≤d)∨(d≤u∧u≤0)
theorem bt_mul{d u:Rat}(h:Bt d u):0≤u*d∧0≤(d-u)*d:=by
 rcases h with⟨h1,h2⟩ | ⟨h1,h2⟩
 ·exact⟨Rat.mul_nonneg h1 (by grind),Rat.mul_nonneg (by grind) (by grind)⟩
 ·have a1:=Rat.mul_nonneg (neg_nn h2) (show (0:Rat)≤-d by grind)
  have a2:=Rat.mul_nonneg (show (0:Rat)≤-(d-u) by grind) (show (0:Rat)≤-d by grind)
  exact⟨by grind,by grind⟩
theorem bt_z{d u:Rat}(h:Bt d u)(h0:u*d=0):u=0:=by
 rcases Rat.mul_eq_zero.1 h0 with e | e
 ·exact e
 ·subst e
  rcases h with⟨h1,h2⟩ | ⟨h1,h2⟩ <;> grind
theorem bt_e{d u:Rat}(h:Bt d u)(h0:(d-u)*d=0):u=d:=by
 rcases Rat.mul_eq_zero.1 h0 with e | e
 ·grind
 ·subst e
  rcases h with⟨h1,h2⟩ | ⟨h1,h2⟩ <;> grind
theorem bt_part{d u x n:Rat}(hn:0<n)(hx:0≤x)(hxn:x≤n)(h:n*u=x*d):Bt d u:=by
 rcases Rat.le_total (a:=0) (b:=d) with hd | hd
 ·left
  have a1:=Rat.mul_nonneg hx hd
  have a2:=Rat.mul_nonneg (show (0:Rat)≤n-x by grind) hd
  have b1:0≤n*u:=by grind
  have b2:0≤n*(d-u):=by grind
  exact⟨nn_of hn b1,by have:=nn_of hn b2;grind⟩
 ·right
  have a1:=Rat.mul_nonneg hx (show (0:Rat)≤-d by grind)
  have a2:=Rat.mul_nonneg (show (0:Rat)≤n-x by grind) (show (0:Rat)≤-d by grind)
  have b1:0≤n*(-u):=by grind
  have b2:0≤n*(u-d):=by grind
  exact⟨by have:=nn_of hn b2;grind,by have:=nn_of hn b1;grind⟩
def segQ(dx dy ux uy:Rat):Rat:=
 if ux*dx+uy*dy≤0 then ux*ux+uy*uy
 else if dx*dx+dy*dy≤ux*dx+uy*dy then (ux-dx)*(ux-dx)+(uy-dy)*(uy-dy)
 else (ux-(ux*dx+uy*dy)/(dx*dx+dy*dy)*dx)*(ux-(ux*dx+uy*dy)/(dx*dx+dy*dy)*dx)+(uy-(ux*dx+uy*dy)/(dx*dx+dy*dy)*dy)*(uy-(ux*dx+uy*dy)/(dx*dx+dy*dy)*dy)
theorem seg_on(dx dy ux uy:Rat):segQ dx dy ux uy=0↔dx*uy-dy*ux=0∧Bt dx ux∧Bt dy uy:=by
 unfold segQ
 have n0:=sq_nn dx
 have n1:=sq_nn dy
 by_cases h1:ux*dx+uy*dy≤0
 ·rw[if_pos h1]
  constructor
  ·intro h
   obtain⟨e1,e2⟩:=two_sq h
   subst e1;subst e2
   refine⟨by grind,?_,?_⟩
   ·rcases Rat.le_total (a:=0) (b:=dx) with h | h
    ·exact .inl ⟨Rat.le_refl,h⟩
    ·exact .inr ⟨h,Rat.le_refl⟩
   ·rcases Rat.le_total (a:=0) (b:=dy) with h | h
    ·exact .inl ⟨Rat.le_refl,h⟩
    ·exact .inr ⟨h,Rat.le_refl⟩
  ·rintro ⟨hc,b1,b2⟩
   have m1:=(bt_mul b1).1
   have m2:=(bt_mul b2).1
   have e1:=bt_z b1 (by grind)
   have e2:=bt_z b2 (by grind)
   subst e1;subst e2
   grind
 ·rw[if_neg h1]
  by_cases h2:dx*dx+dy*dy≤ux*dx+uy*dy
  ·rw[if_pos h2]
   constructor
   ·intro h
    obtain⟨e1,e2⟩:=two_sq h
    have f1:ux=dx:=by grind
    have f2:uy=dy:=by grind
    subst f1;subst f2
    refine⟨by grind,?_,?_⟩
    ·rcases Rat.le_total (a:=0) (b:=ux) with h | h
     ·exact .inl ⟨h,Rat.le_refl⟩
     ·exact .inr ⟨Rat.le_refl,h⟩
    ·rcases Rat.le_total (a:=0) (b:=uy) with h | h
     ·exact .inl ⟨h,Rat.le_refl⟩
     ·exact .inr ⟨Rat.le_refl,h⟩
   ·rintro ⟨hc,b1,b2⟩
    have m1:=(bt_mul b1).2
    have m2:=(bt_mul b2).2
    have e1:=bt_e b1 (by grind)
    have e2:=bt_e b2 (by grind)
    subst e1;subst e2
    grind
  ·rw[if_neg h2]
   obtain⟨x,hx⟩:∃x,x=ux*dx+uy*dy:=⟨_,rfl⟩
   obtain⟨n,hn⟩:∃n,n=dx*dx+dy*dy:=⟨_,rfl⟩
   rw[←hx,←hn] at h2 ⊢
   rw[←hx] at h1
   have x0:0≤x:=by grind
   have n0:0<n:=by grind
   have nz:n≠0:=by grind
   obtain⟨t,ht⟩:∃t,t=x/n:=⟨_,rfl⟩
   have htn:t*n=x:=by rw[ht,Rat.div_mul_cancel nz]
   rw[←ht]
   have k1:n*(ux-t*dx)=-(dy*(dx*uy-dy*ux)):=by grind
   have k2:n*(uy-t*dy)=dx*(dx*uy-dy*ux):=by grind
   constructor
   ·intro h
    obtain⟨e1,e2⟩:=two_sq h
    refine⟨?_,bt_part n0 x0 (by grind) (by grind),bt_part n0 x0 (by grind) (by grind)⟩
    grind
   ·rintro ⟨hc,_,_⟩
    rw[hc] at k1 k2
    have e1:ux-t*dx=0:=by
     rcases Rat.mul_eq_zero.1 (show n*(ux-t*dx)=0 by grind) with e | e
     ·exact absurd e nz
     ·exact e
    have e2:uy-t*dy=0:=by
     rcases Rat.mul_eq_zero.1 (show n*(uy-t*dy)=0 by grind) with e | e
     ·exact absurd e nz
     ·exact e
    rw[e1,e2]
    grind
end Go.Eng.Tw
namespace Go.Eng.Rt
open Go.Eng Go.Eng.Tw
theorem r_Sign(q:Rat):u_ref02_Sign (rNeg q,rNum q,rDen q,())=some (sgnQ q,()):=by
 unfold u_ref02_Sign sgnQ
 simp only[lenL_eq,eqI_eq]
 by_cases h:q=0
 ·rw[if_pos h,decide_eq_true (by have:=rNum_len.2 h;omega)];rfl
 ·rw[if_neg h,decide_eq_false (fun hh=>h (rNum_len.1 (by omega)))]
  cases rNeg q <;> rfl
theorem r_QMul{p q:Rat}(hp:Sm p)(hq:Sm q):u_ref02_Mul (rNeg p,rNum p,rDen p,rNeg q,rNum q,rDen q,())=some (rNeg (p*q),rNum (p*q),rDen (p*q),()):=by
 obtain⟨p1,p2⟩:=sm_b hp
 obtain⟨q1,q2⟩:=sm_b hq
 have bp:=hp.1;have bq:=hq.1;have bpd:=hp.2;have bqd:=hq.2
 have m1:p.num.natAbs*q.num.natAbs<2147483648*2147483648:=Nat.mul_lt_mul'' bp bq
 have m3:p.den*q.den<2147483648*2147483648:=Nat.mul_lt_mul'' bpd bqd
 unfold u_ref02_Mul
 have e1:u_ref01_Mul (rNum p,rNum q,())=some (lm (p.num.natAbs*q.num.natAbs),()):=r_Mul64 p1 q1
 simp only[e1,r_Den,obS,r_Mul64 p2 q2,eqB_eq,bneq]
 rw[r_reduce _ (by simp only[B64];omega) (by simp only[B64];omega) (Nat.mul_ne_zero p.den_nz q.den_nz),←mul_sg]
 rfl
theorem r_QSub{p q:Rat}(hp:Sm p)(hq:Sm q):u_ref02_Sub (rNeg p,rNum p,rDen p,rNeg q,rNum q,rDen q,())=some (rNeg (p-q),rNum (p-q),rDen (p-q),()):=by
 unfold u_ref02_Sub
 simp only[r_Neg,obS,r_QAdd hp hq.neg]
 rw[Rat.sub_eq_add_neg]
theorem r_QCmp{p q:Rat}(hp:Sm p)(hq:Sm q):u_ref02_Cmp (rNeg p,rNum p,rDen p,rNeg q,rNum q,rDen q,())=some (cmpQ p q,()):=by
 obtain⟨p1,p2⟩:=sm_b hp
 obtain⟨q1,q2⟩:=sm_b hq
 have bp:=hp.1;have bq:=hq.1;have bpd:=hp.2;have bqd:=hq.2
 have m1:p.num.natAbs*q.den<2147483648*2147483648:=Nat.mul_lt_mul'' bp bqd
 have m2:q.num.natAbs*p.den<2147483648*2147483648:=Nat.mul_lt_mul'' bq bpd
 have l1:=lm_small' (n:=p.num.natAbs*q.den) (by simp only[B64];omega)
 have l2:=lm_small' (n:=q.num.natAbs*p.den) (by simp only[B64];omega)
 have e1:u_ref01_Mul (rNum p,lm q.den,())=some (lm (p.num.natAbs*q.den),()):=r_Mul64 p1 q2
 have e2:u_ref01_Mul (rNum q,lm p.den,())=some (lm (q.num.natAbs*p.den),()):=r_Mul64 q1 p2
 have hprog:=p_Cmp hp hq
 unfold u_rational_Cmp at hprog
 unfold u_ref02_Cmp
 simp only[r_Sign,obS,eqI_eq,ltI_eq,subI_eq]
 simp only[p_Sign hp.fit,p_Sign hq.fit,obS,eqI_eq,ltI_eq] at hprog
 by_cases hs:sgnQ p=sgnQ q
 ·rw[decide_eq_true hs]
  simp only[Bool.not_true,cond_false,r_Den,obS,e1,e2]
  rw[r_Cmp (by simp only[LM];omega) (by simp only[LM];omega)]
  simp only[obS]
  obtain⟨c1,c2,c3⟩:=cmpQ_of (p:=p) (q:=q)
  have hneg:rNeg p=rNeg q:=by
   unfold rNeg
   rcases sgnQ_vals p with⟨a1,a2⟩ | ⟨a1,a2⟩ | ⟨a1,a2⟩ <;> rcases sgnQ_vals q with⟨b1,b2⟩ | ⟨b1,b2⟩ | ⟨b1,b2⟩ <;> first
    | (rw[a1,b1] at hs;cases hs;done)
    | (subst a2;subst b2;rfl)
    | (rw[decide_eq_true a2,decide_eq_true b2])
    | (rw[decide_eq_false (by omega),decide_eq_false (by omega)])
  have hx:p.num*(q.den:Int)=sg (rNeg p) (p.num.natAbs*q.den):=by rw[←sgn_mul,sg_num]
  have hy:q.num*(p.den:Int)=sg (rNeg p) (q.num.natAbs*p.den):=by rw[←sgn_mul,hneg,sg_num]
  rw[hx,hy] at c1 c2 c3
  generalize p.num.natAbs*q.den=a at *
  generalize q.num.natAbs*p.den=b at *
  unfold cmpN
  cases hn:rNeg p with
  | true=>
   rw[hn] at c1 c2 c3
   simp only[sg,if_true] at c1 c2 c3
   simp only[cond_true]
   by_cases h1:a<b
   ·rw[if_pos h1,c3 (by omega),wri' (by omega) (by omega)];rfl
   ·rw[if_neg h1]
    by_cases h2:a=b
    ·rw[if_pos h2,c2 (by omega),wri' (by omega) (by omega)];rfl
    ·rw[if_neg h2,c1 (by omega),wri' (by omega) (by omega)];rfl
  | false=>
   rw[hn] at c1 c2 c3
   simp only[sg,Bool.false_eq_true,if_false] at c1 c2 c3
   simp only[cond_false]
   by_cases h1:a<b
   ·rw[if_pos h1,c1 (by omega)]
   ·rw[if_neg h1]
    by_cases h2:a=b
    ·rw[if_pos h2,c2 (by omega)]
    ·rw[if_neg h2,c3 (by omega)]
 ·rw[decide_eq_false hs] at hprog ⊢
  exact hprog
theorem r_QAddB{p q:Rat}(m1:p.num.natAbs*q.den<4611686018427387904)(m2:q.num.natAbs*p.den<4611686018427387904)(m3:p.den*q.den<4611686018427387904):u_ref02_Add (rNeg p,rNum p,rDen p,rNeg q,rNum q,rDen q,())=some (rNeg (p+q),rNum (p+q),rDen (p+q),()):=by
 have pd:=p.den_pos
 have qd:=q.den_pos
 have p1:p.num.natAbs<B64:=by have:=Nat.le_mul_of_pos_right p.num.natAbs qd;simp only[B64];omega
 have q1:q.num.natAbs<B64:=by have:=Nat.le_mul_of_pos_right q.num.natAbs pd;simp only[B64];omega
 have p2:p.den<B64:=by have:=Nat.le_mul_of_pos_right p.den qd;simp only[B64];omega
 have q2:q.den<B64:=by have:=Nat.le_mul_of_pos_left q.den pd;simp only[B64];omega
 have d0:p.den*q.den≠0:=Nat.mul_ne_zero p.den_nz q.den_nz
 unfold u_ref02_Add
 simp only[lenL_eq,eqI_eq]
 by_cases hp0:p=0
 ·rw[decide_eq_true (rNum_len0.2 hp0)]
  rw[hp0,Rat.zero_add]
  rfl
 rw[decide_eq_false (fun h=>hp0 (rNum_len0.1 h))]
 by_cases hq0:q=0
 ·rw[decide_eq_true (rNum_len0.2 hq0)]
  rw[hq0,Rat.add_zero]
  rfl
 rw[decide_eq_false (fun h=>hq0 (rNum_len0.1 h))]
 have e1:u_ref01_Mul (rNum p,lm q.den,())=some (lm (p.num.natAbs*q.den),()):=r_Mul64 p1 q2
 have e2:u_ref01_Mul (rNum q,lm p.den,())=some (lm (q.num.natAbs*p.den),()):=r_Mul64 q1 p2
 simp only[cond_false,r_Den,obS,e1,e2,r_Mul64 p2 q2,eqB_eq]
 have l1:=lm_small' (n:=p.num.natAbs*q.den) (by simp only[B64];omega)
 have l2:=lm_small' (n:=q.num.natAbs*p.den) (by simp only[B64];omega)
 by_cases hn:rNeg p=rNeg q
 ·rw[show (rNeg p==rNeg q)=true by simpa using hn]
  simp only[cond_true]
  rw[r_Add (by omega) (by omega)]
  simp only[obS]
  rw[r_reduce _ (by simp only[B64];omega) (by simp only[B64];omega) d0]
  simp only[obS]
  rw[hn,←add_same hn]
 ·rw[show (rNeg p==rNeg q)=false by simpa using hn]
  simp only[cond_false]
  rw[r_Cmp (by simp only[LM];omega) (by simp only[LM];omega)]
  simp only[obS,ltI_eq]
  by_cases hlt:p.num.natAbs*q.den<q.num.natAbs*p.den
  ·rw[decide_eq_true (by unfold cmpN;rw[if_pos hlt];omega)]
   simp only[cond_true]
   rw[r_Sub (by simp only[LM];omega) (by omega)]
   simp only[obS]
   rw[r_reduce _ (by simp only[B64];omega) (by simp only[B64];omega) d0]
   simp only[obS]
   have:=add_diff (p:=q) (q:=p) (Ne.symm hn) (by omega)
   rw[Rat.add_comm,this,Nat.mul_comm p.den]
  ·rw[decide_eq_false (by unfold cmpN;rw[if_neg hlt];split <;> omega)]
   simp only[cond_false]
   rw[r_Sub (by simp only[LM];omega) (by omega)]
   simp only[obS]
   rw[r_reduce _ (by simp only[B64];omega) (by simp only[B64];omega) d0]
   simp only[obS]
   rw[←add_diff hn (by omega)]
theorem div_sg{p q:Rat}(h:q≠0):p/q=mkRat (sg (rNeg p != rNeg q) (p.num.natAbs*q.den)) (p.den*q.num.natAbs):=by
 have hn:q.num≠0:=fun e=>h (Rat.num_eq_zero.1 e)
 have h1:(q⁻¹).num.natAbs=q.den:=by
  rw[Rat.num_inv,Int.natAbs_mul,Int.natAbs_natCast,Int.natAbs_sign_of_ne_zero hn,Nat.one_mul]
 have h2:(q⁻¹).den=q.num.natAbs:=by rw[Rat.den_inv,if_neg hn]
 have h3:rNeg q⁻¹=rNeg q:=by
  unfold rNeg
  rw[Rat.num_inv]
  have hd:(0:Int)<q.den:=by have:=q.den_pos;omega
  congr 1
  rcases Int.lt_trichotomy q.num 0 with e | e | e
  ·rw[Int.sign_eq_neg_one_of_neg e];simp only[eq_iff_iff];constructor <;> intro <;> omega
  ·exact absurd e hn
  ·rw[Int.sign_eq_one_of_pos e];simp only[eq_iff_iff];constructor <;> intro <;> omega
 rw[Rat.div_def,mul_sg,h1,h2,h3]
theorem r_Over{p q:Rat}(hp:Sm p)(hq:Sm q)(h:q≠0):u_ref02_Over (rNeg p,rNum p,rDen p,rNeg q,rNum q,rDen q,())=some (rNeg (p/q),rNum (p/q),rDen (p/q),()):=by
 obtain⟨p1,p2⟩:=sm_b hp
 obtain⟨q1,q2⟩:=sm_b hq
 have bp:=hp.1;have bq:=hq.1;have bpd:=hp.2;have bqd:=hq.2
 have m1:p.num.natAbs*q.den<2147483648*2147483648:=Nat.mul_lt_mul'' bp bqd
 have m3:p.den*q.num.natAbs<2147483648*2147483648:=Nat.mul_lt_mul'' bpd bq
 have hn:q.num.natAbs≠0:=fun e=>h (Rat.num_eq_zero.1 (by omega))
 have e1:u_ref01_Mul (rNum p,lm q.den,())=some (lm (p.num.natAbs*q.den),()):=r_Mul64 p1 q2
 have e2:u_ref01_Mul (lm p.den,rNum q,())=some (lm (p.den*q.num.natAbs),()):=r_Mul64 p2 q1
 unfold u_ref02_Over u_ref02_Quo
 simp only[lenL_eq,eqI_eq]
 rw[decide_eq_false (fun e=>h (rNum_len0.1 e))]
 simp only[cond_false,r_Den,obS,e1,e2,eqB_eq,bneq]
 rw[r_reduce _ (by simp only[B64];omega) (by simp only[B64];omega) (Nat.mul_ne_zero p.den_nz hn),div_sg h]
 rfl
def minQ(p q:Rat):Rat:=if cmpQ q p<0 then q else p
theorem p_Min{p q:Rat}(hp:Sm p)(hq:Sm q):u_rational_Min (rNeg p,rNum p,rDen p,rNeg q,rNum q,rDen q,())=some (rNeg (minQ p q),rNum (minQ p q),rDen (minQ p q),()):=by
 unfold u_rational_Min minQ
 simp only[p_Cmp hq hp,obS,ltI_eq]
 by_cases h:cmpQ q p<0
 ·rw[if_pos h,decide_eq_true h]
  simp only[cond_true,obS,onS_l,p_copied hq.fit]
 ·rw[if_neg h,decide_eq_false h]
  simp only[cond_false,obS,onS_l,p_copied hp.fit]
theorem cmpQ_le{p q:Rat}:cmpQ p q≤0↔p≤q:=by
 unfold cmpQ
 by_cases h:p<q
 ·rw[if_pos h];constructor
  ·intro;exact Rat.le_of_lt h
  ·intro;omega
 ·rw[if_neg h]
  by_cases e:p=q
  ·rw[if_pos e,e];constructor
   ·intro;exact Rat.le_refl
   ·intro;omega
  ·rw[if_neg e]
   constructor
   ·intro h2;omega
   ·intro h2;exact absurd (by grind) e
theorem cmpQ_lt{p q:Rat}:cmpQ p q<0↔p<q:=by
 unfold cmpQ
 by_cases h:p<q
 ·rw[if_pos h];constructor <;> intro <;> first | exact h | omega
 ·rw[if_neg h]
  by_cases e:p=q
  ·rw[if_pos e];constructor
   ·intro;omega
   ·intro h2;exact absurd h2 h
  ·rw[if_neg e]
   constructor
   ·intro h2;omega
   ·intro h2;exact absurd h2 h
theorem cmpQ_gt{p q:Rat}:0<cmpQ p q↔q<p:=by
 have:=cmpQ_le (p:=p) (q:=q)
 constructor
 ·intro h
  have:¬p≤q:=fun e=>by have:=this.2 e;omega
  grind
 ·intro h
  have:¬cmpQ p q≤0:=fun e=>by have:=this.1 e;grind
  omega
end Go.Eng.Rt
namespace Go.Eng.Rt
open Go.Eng Go.Eng.Tw
abbrev c3{β:Type}(q:Rat)(r:β):Bool×List T×List T×β:=(rNeg q,rNum q,rDen q,r)
theorem rNum0:rNum 0=[]:=by
 show lmL (limbs 0)=[]
 unfold limbs
 rfl
theorem rDen0:rDen 0=[]:=by
 show dn 1=[]
 exact if_pos rfl
theorem z3{β:Type}(r:β):c3 0 r=(false,([]:List T),([]:List T),r):=by
 show (rNeg 0,rNum 0,rDen 0,r)=_
 rw[rNum0,rDen0];rfl
theorem sm0:Sm 0:=⟨by decide,by decide⟩
def Bd(k D:Nat)(q:Rat):Prop:=q.num.natAbs≤k∧q.den≤D
theorem Bd.sm{k D:Nat}{q:Rat}(h:Bd k D q)(hk:k<2147483648)(hD:D<2147483648):Sm q:=⟨Nat.lt_of_le_of_lt h.1 hk,Nat.lt_of_le_of_lt h.2 hD⟩
theorem frBd{D k l E:Nat}{q:Rat}(h:Fr D k q)(hk:k≤l)(hD:D≤E):Bd l E q:=⟨Nat.le_trans h.bnd.1 hk,Nat.le_trans h.bnd.2 hD⟩
theorem intSm{n:Int}{k:Nat}(h:n.natAbs≤k)(hk:k<2147483648):Sm (n:Rat):=⟨by rw[Rat.num_intCast];omega,by rw[Rat.den_intCast];decide⟩
theorem Fr.muli{D k l:Nat}{n:Int}{q:Rat}(hn:n.natAbs≤l)(h:Fr D k q):Fr D (l*k) (q*(n:Rat)):=by
 rw[Rat.mul_comm];exact h.imul hn
theorem r_QAdd0(q:Rat):u_ref02_Add (false,[],[],c3 q ())=some (c3 q ()):=by
 unfold u_ref02_Add
 simp only[lenL_eq,eqI_eq,List.length_nil]
 rfl
theorem r_QAddz(q:Rat):u_ref02_Add (c3 q (c3 0 ()))=some (c3 q ()):=by
 unfold u_ref02_Add
 simp only[lenL_eq,eqI_eq]
 by_cases h:q=0
 ·rw[decide_eq_true (rNum_len0.2 h),h];rfl
 ·rw[decide_eq_false (fun e=>h (rNum_len0.1 e)),decide_eq_true (rNum_len0.2 rfl)];rfl
theorem v_Sub{a b c d e f:Rat}(ha:Sm a)(hb:Sm b)(hc:Sm c)(hd:Sm d)(he:Sm e)(hf:Sm f):u_ref04_Sub (c3 a (c3 b (c3 c (c3 d (c3 e (c3 f ()))))))=some (c3 (a-d) (c3 (b-e) (c3 (c-f) ()))):=by
 unfold u_ref04_Sub
 simp only[r_QSub ha hd,r_QSub hb he,r_QSub hc hf,obS,onS_l]
theorem v_Sub2{a b d e:Rat}(ha:Sm a)(hb:Sm b)(hd:Sm d)(he:Sm e):u_ref04_Sub (c3 a (c3 b (c3 0 (c3 d (c3 e (c3 0 ()))))))=some (c3 (a-d) (c3 (b-e) (c3 0 ()))):=by
 have:=v_Sub ha hb sm0 hd he sm0
 rw[Rat.sub_self] at this
 exact this
theorem v_Add2{a b d e:Rat}(ha:Sm a)(hb:Sm b)(hd:Sm d)(he:Sm e):u_ref04_Add (c3 a (c3 b (c3 0 (c3 d (c3 e (c3 0 ()))))))=some (c3 (a+d) (c3 (b+e) (c3 0 ()))):=by
 have h:=r_QAdd sm0 sm0
 rw[Rat.add_zero] at h
 unfold u_ref04_Add
 simp only[r_QAdd ha hd,r_QAdd hb he,h,obS,onS_l]
theorem v_Scale2{t a b:Rat}(ht:Sm t)(ha:Sm a)(hb:Sm b):u_ref04_Scale (c3 t (c3 a (c3 b (c3 0 ()))))=some (c3 (t*a) (c3 (t*b) (c3 0 ()))):=by
 have h:=r_QMul ht sm0
 rw[Rat.mul_zero] at h
 unfold u_ref04_Scale
 simp only[r_QMul ht ha,r_QMul ht hb,h,obS,onS_l]
theorem v_Dot2{a b d e:Rat}{k l D E:Nat}(ha:Sm a)(hb:Sm b)(hd:Sm d)(he:Sm e)(h1:Bd k D (a*d))(h2:Bd l E (b*e))(c1:k*E<4611686018427387904)(c2:l*D<4611686018427387904)(c4:D*E<4611686018427387904):
 u_ref04_Dot (c3 a (c3 b (c3 0 (c3 d (c3 e (c3 0 ()))))))=some (c3 (a*d+b*e) ()):=by
 have h:=r_QMul sm0 sm0
 rw[Rat.mul_zero] at h
 have hs:=r_QAddB (p:=a*d) (q:=b*e) (Nat.lt_of_le_of_lt (Nat.mul_le_mul h1.1 h2.2) c1) (Nat.lt_of_le_of_lt (Nat.mul_le_mul h2.1 h1.2) c2) (Nat.lt_of_le_of_lt (Nat.mul_le_mul h1.2 h2.2) c4)
 unfold u_ref04_Dot
 simp only[r_QMul ha hd,r_QMul hb he,h,obS,onS_l,r_QAdd0,hs,r_QAddz]
theorem num_neg'{q:Rat}:q.num<0↔q<0:=by
 rw[Rat.lt_iff]
 have:(0:Rat).num=0:=rfl
 have h2:(0:Rat).den=1:=rfl
 rw[this,h2]
 omega
theorem num_pos'{q:Rat}:0<q.num↔0<q:=by
 rw[Rat.lt_iff]
 have:(0:Rat).num=0:=rfl
 have h2:(0:Rat).den=1:=rfl
 rw[this,h2]
 omega
theorem sgnQ_le{q:Rat}:sgnQ q≤0↔q≤0:=by
 rcases sgnQ_vals q with⟨h1,h2⟩ | ⟨h1,h2⟩ | ⟨h1,h2⟩
 ·rw[h1,h2];exact⟨fun _=>Rat.le_refl,fun _=>Int.le_refl _⟩
 ·rw[h1];exact⟨fun _=>Rat.le_of_lt (num_neg'.1 h2),fun _=>by decide⟩
 ·rw[h1];exact⟨fun h=>absurd h (by decide),fun h=>by have:=num_pos'.1 h2;grind⟩
theorem sgnQ_eq{q:Rat}:sgnQ q=0↔q=0:=by
 rcases sgnQ_vals q with⟨h1,h2⟩ | ⟨h1,h2⟩ | ⟨h1,h2⟩
 ·rw[h1,h2];exact⟨fun _=>rfl,fun _=>rfl⟩
 ·rw[h1];exact⟨fun h=>absurd h (by decide),fun h=>by rw[h] at h2;exact absurd h2 (by decide)⟩
 ·rw[h1];exact⟨fun h=>absurd h (by decide),fun h=>by rw[h] at h2;exact absurd h2 (by decide)⟩
theorem v_Segment{ax ay dx dy:Int}{px py:Rat}{D:Nat}(hD:D≤8)(ha:ax.natAbs≤32)(hb:ay.natAbs≤32)(hdx:dx.natAbs≤20)(hdy:dy.natAbs≤20)(hpx:Fr D 20 px)(hpy:Fr D 20 py):
 u_ref04_Segment (c3 (ax:Rat) (c3 (ay:Rat) (c3 0 (c3 ((ax+dx:Int):Rat) (c3 ((ay+dy:Int):Rat) (c3 0 (c3 px (c3 py (c3 0 ())))))))))=some (c3 (segQ dx dy (px-ax) (py-ay)) ()):=by
 have D0:=hpx.1
 have sax:Sm (ax:Rat):=intSm ha (by decide)
 have say:Sm (ay:Rat):=intSm hb (by decide)
 have sbx:Sm ((ax+dx:Int):Rat):=intSm (k:=52) (by omega) (by decide)
 have sby:Sm ((ay+dy:Int):Rat):=intSm (k:=52) (by omega) (by decide)
 have sdx:Sm (dx:Rat):=intSm hdx (by decide)
 have sdy:Sm (dy:Rat):=intSm hdy (by decide)
 have spx:Sm px:=(frBd hpx (Nat.le_refl _) hD).sm (by decide) (by decide)
 have spy:Sm py:=(frBd hpy (Nat.le_refl _) hD).sm (by decide) (by decide)
 have ebx:((ax+dx:Int):Rat)-(ax:Rat)=(dx:Rat):=by rw[Rat.intCast_add];grind
 have eby:((ay+dy:Int):Rat)-(ay:Rat)=(dy:Rat):=by rw[Rat.intCast_add];grind
 obtain⟨ux,hux⟩:∃ux,ux=px-(ax:Rat):=⟨_,rfl⟩
 obtain⟨uy,huy⟩:∃uy,uy=py-(ay:Rat):=⟨_,rfl⟩
 have fux:Fr D 276 ux:=by rw[hux];exact(hpx.sub (Fr.ofInt D0 ha)).mono (by omega)
 have fuy:Fr D 276 uy:=by rw[huy];exact(hpy.sub (Fr.ofInt D0 hb)).mono (by omega)
 have sux:Sm ux:=(frBd fux (Nat.le_refl _) hD).sm (by decide) (by decide)
 have suy:Sm uy:=(frBd fuy (Nat.le_refl _) hD).sm (by decide) (by decide)
 have q1:=v_Sub2 sbx sby sax say
 rw[ebx,eby] at q1
 have q2:=v_Sub2 spx spy sax say
 rw[←hux,←huy] at q2
 have fx1:Fr D 5520 (ux*(dx:Rat)):=(Fr.muli hdx fux)
 have fx2:Fr D 5520 (uy*(dy:Rat)):=(Fr.muli hdy fuy)
 have q3:=v_Dot2 sux suy sdx sdy (frBd fx1 (Nat.le_refl _) hD) (frBd fx2 (Nat.le_refl _) hD) (by decide) (by decide) (by decide)
 have fn1:Fr 1 400 ((dx:Rat)*(dx:Rat)):=(Fr.muli hdx (Fr.mono (Fr.int dx) hdx))
 have fn2:Fr 1 400 ((dy:Rat)*(dy:Rat)):=(Fr.muli hdy (Fr.mono (Fr.int dy) hdy))
 have q4:=v_Dot2 sdx sdy sdx sdy (frBd fn1 (Nat.le_refl _) (Nat.le_refl _)) (frBd fn2 (Nat.le_refl _) (Nat.le_refl _)) (by decide) (by decide) (by decide)
 have fx:=(fx1.add fx2)
 have fn:=(fn1.add fn2)
 have sx:=(frBd fx (Nat.le_refl _) hD).sm (by decide) (by decide)
 have sn:=(frBd fn (Nat.le_refl _) (Nat.le_refl 1)).sm (by decide) (by decide)
 rw[←hux,←huy]
 unfold u_ref04_Segment segQ
 simp only[q1,q2,q3,q4,obS,r_Sign,leI_eq]
 by_cases h1:ux*(dx:Rat)+uy*(dy:Rat)≤0
 ·rw[decide_eq_true (sgnQ_le.2 h1),if_pos h1]
  have gx:Bd 76176 64 (ux*ux):=frBd (fux.mul fux) (by decide) (Nat.mul_le_mul hD hD)
  have gy:Bd 76176 64 (uy*uy):=frBd (fuy.mul fuy) (by decide) (Nat.mul_le_mul hD hD)
  have q5:=v_Dot2 sux suy sux suy gx gy (by decide) (by decide) (by decide)
  simp only[cond_true,q5,obS]
 ·rw[decide_eq_false (fun e=>h1 (sgnQ_le.1 e)),if_neg h1]
  simp only[cond_false,r_QCmp sx sn,obS]
  by_cases h2:(dx:Rat)*(dx:Rat)+(dy:Rat)*(dy:Rat)≤ux*(dx:Rat)+uy*(dy:Rat)
  ·have h2':0≤cmpQ (ux*(dx:Rat)+uy*(dy:Rat)) ((dx:Rat)*(dx:Rat)+(dy:Rat)*(dy:Rat)):=by
    have:=cmpQ_lt (p:=ux*(dx:Rat)+uy*(dy:Rat)) (q:=(dx:Rat)*(dx:Rat)+(dy:Rat)*(dy:Rat))
    have hn:¬(ux*(dx:Rat)+uy*(dy:Rat)<(dx:Rat)*(dx:Rat)+(dy:Rat)*(dy:Rat)):=by grind
    have:¬_:=fun e=>hn (this.1 e)
    omega
   rw[decide_eq_true h2',if_pos h2]
   have e1:px-((ax+dx:Int):Rat)=ux-dx:=by rw[hux,Rat.intCast_add];grind
   have e2:py-((ay+dy:Int):Rat)=uy-dy:=by rw[huy,Rat.intCast_add];grind
   have q5:=v_Sub2 spx spy sbx sby
   rw[e1,e2] at q5
   have gx0:Fr D 436 (ux-dx):=(fux.sub (Fr.ofInt D0 hdx)).mono (by omega)
   have gy0:Fr D 436 (uy-dy):=(fuy.sub (Fr.ofInt D0 hdy)).mono (by omega)
   have s1:=(frBd gx0 (Nat.le_refl _) hD).sm (by decide) (by decide)
   have s2:=(frBd gy0 (Nat.le_refl _) hD).sm (by decide) (by decide)
   have q6:=v_Dot2 s1 s2 s1 s2 (frBd (gx0.mul gx0) (Nat.le_refl _) (Nat.mul_le_mul hD hD)) (frBd (gy0.mul gy0) (Nat.le_refl _) (Nat.mul_le_mul hD hD)) (by decide) (by decide) (by decide)
   simp only[cond_true,q5,q6,obS]
  ·have h2':¬0≤cmpQ (ux*(dx:Rat)+uy*(dy:Rat)) ((dx:Rat)*(dx:Rat)+(dy:Rat)*(dy:Rat)):=by
    have:=cmpQ_lt (p:=ux*(dx:Rat)+uy*(dy:Rat)) (q:=(dx:Rat)*(dx:Rat)+(dy:Rat)*(dy:Rat))
    have:=this.2 (by grind)
    omega
   rw[decide_eq_false h2',if_neg h2]
   simp only[cond_false]
   obtain⟨N,hN⟩:∃N:Nat,((dx*dx+dy*dy:Int))=(N:Int):=⟨(dx*dx+dy*dy).toNat,by
    have a1:0≤dx*dx:=by rw[←Int.natAbs_mul_self];exact Int.natCast_nonneg _
    have a2:0≤dy*dy:=by rw[←Int.natAbs_mul_self];exact Int.natCast_nonneg _
    omega⟩
   have hNr:(dx:Rat)*(dx:Rat)+(dy:Rat)*(dy:Rat)=(N:Rat):=by
    rw[←Rat.intCast_mul,←Rat.intCast_mul,←Rat.intCast_add,hN,Rat.intCast_natCast]
   have hN1:N≤800:=by
    have a1:=Nat.mul_le_mul hdx hdx
    have a2:=Nat.mul_le_mul hdy hdy
    have b1:=Int.natAbs_mul_self (a:=dx)
    have b2:=Int.natAbs_mul_self (a:=dy)
    omega
   obtain⟨x,hx⟩:∃x,x=ux*(dx:Rat)+uy*(dy:Rat):=⟨_,rfl⟩
   rw[hNr] at h2 sn ⊢
   rw[←hx] at h1 h2 sx fx ⊢
   have hN0:N≠0:=by
    intro e
    subst e
    have:((0:Nat):Rat)=0:=rfl
    rw[this] at h2
    grind
   have nz:(N:Rat)≠0:=by
    intro e
    have:((N:Int):Rat)=((0:Int):Rat):=by rw[Rat.intCast_natCast];exact e
    have:=Rat.intCast_inj.1 this
    omega
   obtain⟨t,ht⟩:∃t,t=x/(N:Rat):=⟨_,rfl⟩
   have htn:(N:Rat)*t=x:=by rw[ht,Rat.mul_comm,Rat.div_mul_cancel nz]
   have hDN:D*N≤6400:=Nat.mul_le_mul hD hN1
   have DN0:0<D*N:=Nat.mul_pos D0 (Nat.pos_of_ne_zero hN0)
   have ft:Fr (D*N) 11040 t:=Fr.of_mul (Nat.pos_of_ne_zero hN0) fx htn
   have st:=(frBd ft (Nat.le_refl _) hDN).sm (by decide) (by decide)
   have q5:=r_Over sx sn nz
   rw[←ht] at q5 ⊢
   have q6:=v_Scale2 st sdx sdy
   have f1:Fr (D*N) 220800 (t*(dx:Rat)):=Fr.muli hdx ft
   have f2:Fr (D*N) 220800 (t*(dy:Rat)):=Fr.muli hdy ft
   have s1:=(frBd f1 (Nat.le_refl _) hDN).sm (by decide) (by decide)
   have s2:=(frBd f2 (Nat.le_refl _) hDN).sm (by decide) (by decide)
   have q7:=v_Add2 sax say s1 s2
   have f3:Fr (D*N) 425600 ((ax:Rat)+t*(dx:Rat)):=((Fr.ofInt DN0 ha).add f1).mono (by omega)
   have f4:Fr (D*N) 425600 ((ay:Rat)+t*(dy:Rat)):=((Fr.ofInt DN0 hb).add f2).mono (by omega)
   have s3:=(frBd f3 (Nat.le_refl _) hDN).sm (by decide) (by decide)
   have s4:=(frBd f4 (Nat.le_refl _) hDN).sm (by decide) (by decide)
   have q8:=v_Sub2 spx spy s3 s4
   have e1:px-((ax:Rat)+t*(dx:Rat))=ux-t*dx:=by rw[hux];grind
   have e2:py-((ay:Rat)+t*(dy:Rat))=uy-t*dy:=by rw[huy];grind
   rw[e1,e2] at q8
   have fc:Fr D 11040 ((dx:Rat)*uy-(dy:Rat)*ux):=((fuy.imul hdx).sub (fux.imul hdy))
   have k1:(N:Rat)*(ux-t*dx)=-((dy:Rat)*((dx:Rat)*uy-(dy:Rat)*ux)):=by grind
   have k2:(N:Rat)*(uy-t*dy)=(dx:Rat)*((dx:Rat)*uy-(dy:Rat)*ux):=by grind
   have g1:Fr (D*N) 220800 (ux-t*dx):=Fr.of_mul (Nat.pos_of_ne_zero hN0) (fc.imul hdy).neg k1
   have g2:Fr (D*N) 220800 (uy-t*dy):=Fr.of_mul (Nat.pos_of_ne_zero hN0) (fc.imul hdx) k2
   have s5:=(frBd g1 (Nat.le_refl _) hDN).sm (by decide) (by decide)
   have s6:=(frBd g2 (Nat.le_refl _) hDN).sm (by decide) (by decide)
   have q9:=v_Dot2 s5 s6 s5 s6 (frBd (g1.mul g1) (Nat.le_refl _) (Nat.mul_le_mul hDN hDN)) (frBd (g2.mul g2) (Nat.le_refl _) (Nat.mul_le_mul hDN hDN)) (by decide) (by decide) (by decide)
   simp only[q5,q6,q7,q8,q9,obS]
end Go.Eng.Rt
namespace Go.Eng.Rt
open Go.Eng Go.Eng.Tw Go.Eng.Tm
theorem p_vSub{a b c d e f:Rat}(ha:Sm a)(hb:Sm b)(hc:Sm c)(hd:Sm d)(he:Sm e)(hf:Sm f):u_vector_Sub (c3 a (c3 b (c3 c (c3 d (c3 e (c3 f ()))))))=some (c3 (a-d) (c3 (b-e) (c3 (c-f) ()))):=by
 unfold u_vector_Sub u_vector_each_Sub
 simp only[p_Sub ha hd,p_Sub hb he,p_Sub hc hf,obS,onS_l]
theorem sub0(q:Rat):q-0=q:=by grind
theorem zmul(q:Rat):0*q=0:=Rat.zero_mul q
section
variable {ax ay dx dy:Int} {px py pz:Rat} {D:Nat} (hD:D≤8) (ha:ax.natAbs≤32) (hb:ay.natAbs≤32) (hdx:dx.natAbs≤20) (hdy:dy.natAbs≤20) (hpx:Fr D 32 px) (hpy:Fr D 32 py) (hpz:Fr 2 32 pz)
include hD ha hb hdx hdy hpx hpy hpz
theorem orient_both:u_vector_Orient2 (c3 (ax:Rat) (c3 (ay:Rat) (c3 0 (c3 ((ax+dx:Int):Rat) (c3 ((ay+dy:Int):Rat) (c3 0 (c3 px (c3 py (c3 pz ())))))))))=some (sgnQ ((dx:Rat)*(py-ay)-(dy:Rat)*(px-ax)),()) ∧
 u_ref04_Orient2 (c3 (ax:Rat) (c3 (ay:Rat) (c3 0 (c3 ((ax+dx:Int):Rat) (c3 ((ay+dy:Int):Rat) (c3 0 (c3 px (c3 py (c3 pz ())))))))))=some (sgnQ ((dx:Rat)*(py-ay)-(dy:Rat)*(px-ax)),()):=by
 have D0:=hpx.1
 have sax:Sm (ax:Rat):=intSm ha (by decide)
 have say:Sm (ay:Rat):=intSm hb (by decide)
 have sbx:Sm ((ax+dx:Int):Rat):=intSm (k:=52) (by omega) (by decide)
 have sby:Sm ((ay+dy:Int):Rat):=intSm (k:=52) (by omega) (by decide)
 have sdx:Sm (dx:Rat):=intSm hdx (by decide)
 have sdy:Sm (dy:Rat):=intSm hdy (by decide)
 have spx:Sm px:=(frBd hpx (Nat.le_refl _) hD).sm (by decide) (by decide)
 have spy:Sm py:=(frBd hpy (Nat.le_refl _) hD).sm (by decide) (by decide)
 have spz:Sm pz:=(frBd hpz (Nat.le_refl _) (Nat.le_refl 2)).sm (by decide) (by decide)
 have ebx:((ax+dx:Int):Rat)-(ax:Rat)=(dx:Rat):=by rw[Rat.intCast_add];grind
 have eby:((ay+dy:Int):Rat)-(ay:Rat)=(dy:Rat):=by rw[Rat.intCast_add];grind
 obtain⟨ux,hux⟩:∃ux,ux=px-(ax:Rat):=⟨_,rfl⟩
 obtain⟨uy,huy⟩:∃uy,uy=py-(ay:Rat):=⟨_,rfl⟩
 have fux:Fr D 288 ux:=by rw[hux];exact(hpx.sub (Fr.ofInt D0 ha)).mono (by omega)
 have fuy:Fr D 288 uy:=by rw[huy];exact(hpy.sub (Fr.ofInt D0 hb)).mono (by omega)
 have sux:Sm ux:=(frBd fux (Nat.le_refl _) hD).sm (by decide) (by decide)
 have suy:Sm uy:=(frBd fuy (Nat.le_refl _) hD).sm (by decide) (by decide)
 have f1:Fr D 5760 ((dx:Rat)*uy):=fuy.imul hdx
 have f2:Fr D 5760 ((dy:Rat)*ux):=fux.imul hdy
 have s1:=(frBd f1 (Nat.le_refl _) hD).sm (by decide) (by decide)
 have s2:=(frBd f2 (Nat.le_refl _) hD).sm (by decide) (by decide)
 have sc:=(frBd (f1.sub f2) (Nat.le_refl _) hD).sm (by decide) (by decide)
 have f3:Fr 2 640 ((dx:Rat)*pz):=hpz.imul hdx
 have f4:Fr 2 640 ((dy:Rat)*pz):=hpz.imul hdy
 have s3:=(frBd f3 (Nat.le_refl _) (Nat.le_refl 2)).sm (by decide) (by decide)
 have s4:=(frBd f4 (Nat.le_refl _) (Nat.le_refl 2)).sm (by decide) (by decide)
 rw[←hux,←huy]
 constructor
 ·have q1:=p_vSub sbx sby sm0 sax say sm0
  have q2:=p_vSub spx spy spz sax say sm0
  rw[ebx,eby,sub0] at q1
  rw[←hux,←huy,sub0] at q2
  have m1:=p_Mul sm0 suy
  have m2:=p_Mul sm0 sux
  rw[zmul] at m1 m2
  unfold u_vector_Orient2 u_vector_Cross
  simp only[q1,q2,obS,p_Mul sdx suy,p_Mul sdy sux,p_Mul sdx spz,p_Mul sdy spz,m1,m2,p_Sub s1 s2,p_Sub s4 sm0,p_Sub sm0 s3,onS_l,p_Sign sc.fit]
 ·have q1:=v_Sub sbx sby sm0 sax say sm0
  have q2:=v_Sub spx spy spz sax say sm0
  rw[ebx,eby,sub0] at q1
  rw[←hux,←huy,sub0] at q2
  have m1:=r_QMul sm0 suy
  have m2:=r_QMul sm0 sux
  rw[zmul] at m1 m2
  unfold u_ref04_Orient2 u_ref04_Cross
  simp only[q1,q2,obS,r_QMul sdx suy,r_QMul sdy sux,r_QMul sdx spz,r_QMul sdy spz,m1,m2,r_QSub s1 s2,r_QSub s4 sm0,r_QSub sm0 s3,onS_l,r_Sign]
end
theorem minQ_sm{a b:Rat}(ha:Sm a)(hb:Sm b):Sm (minQ a b):=by unfold minQ;split <;> assumption
theorem maxQ_sm{a b:Rat}(ha:Sm a)(hb:Sm b):Sm (maxQ a b):=by unfold maxQ;split <;> assumption
theorem p_between{a b x:Rat}(ha:Sm a)(hb:Sm b)(hx:Sm x):u_trim_between (c3 a (c3 b (c3 x ())))=some (decide (minQ a b≤x∧x≤maxQ a b),()):=by
 unfold u_trim_between
 simp only[p_Min ha hb,p_Max ha hb,p_Cmp (minQ_sm ha hb) hx,p_Cmp hx (maxQ_sm ha hb),obS,leI_eq]
 by_cases h1:minQ a b≤x
 ·rw[decide_eq_true (cmpQ_le.2 h1)]
  by_cases h2:x≤maxQ a b
  ·rw[decide_eq_true (cmpQ_le.2 h2),decide_eq_true ⟨h1,h2⟩];rfl
  ·rw[decide_eq_false (show ¬cmpQ x (maxQ a b)≤0 from fun e=>h2 (cmpQ_le.1 e)),decide_eq_false (show ¬(minQ a b≤x∧x≤maxQ a b) from fun e=>h2 e.2)];rfl
 ·rw[decide_eq_false (show ¬cmpQ (minQ a b) x≤0 from fun e=>h1 (cmpQ_le.1 e)),decide_eq_false (show ¬(minQ a b≤x∧x≤maxQ a b) from fun e=>h1 e.1)];rfl
theorem btw_iff{a x:Rat}{d b:Rat}(hb:b=a+d):(minQ a b≤x∧x≤maxQ a b)↔Bt d (x-a):=by
 unfold minQ maxQ Bt
 simp only[cmpQ_lt,cmpQ_gt]
 by_cases h1:b<a
 ·rw[if_pos h1,if_neg (show ¬a<b by grind)]
  constructor
  ·intro h;right;grind
  ·rintro (h | h) <;> grind
 ·rw[if_neg h1]
  by_cases h2:a<b
  ·rw[if_pos h2]
   constructor
   ·intro h;left;grind
   ·rintro (h | h) <;> grind
  ·rw[if_neg h2]
   constructor
   ·intro h;left;grind
   ·rintro (h | h) <;> grind
def OnE(dx dy ux uy:Rat):Prop:=dx*uy-dy*ux=0∧Bt dx ux∧Bt dy uy
open Classical in
noncomputable def onB(dx dy ux uy:Rat):Bool:=decide (OnE dx dy ux uy)
open Classical in
theorem onB_t{dx dy ux uy:Rat}(h:OnE dx dy ux uy):onB dx dy ux uy=true:=by unfold onB;exact decide_eq_true h
open Classical in
theorem onB_f{dx dy ux uy:Rat}(h:¬OnE dx dy ux uy):onB dx dy ux uy=false:=by unfold onB;exact decide_eq_false h
section
variable {ax ay dx dy:Int} {px py pz:Rat} {D:Nat} (hD:D≤8) (ha:ax.natAbs≤32) (hb:ay.natAbs≤32) (hdx:dx.natAbs≤20) (hdy:dy.natAbs≤20) (hpx:Fr D 32 px) (hpy:Fr D 32 py) (hpz:Fr 2 32 pz)
include hD ha hb hdx hdy hpx hpy hpz
theorem p_on:u_trim_on (c3 (ax:Rat) (c3 (ay:Rat) (c3 0 (c3 ((ax+dx:Int):Rat) (c3 ((ay+dy:Int):Rat) (c3 0 (c3 px (c3 py (c3 pz ())))))))))=some (onB dx dy (px-ax) (py-ay),()):=by
 have sax:Sm (ax:Rat):=intSm ha (by decide)
 have say:Sm (ay:Rat):=intSm hb (by decide)
 have sbx:Sm ((ax+dx:Int):Rat):=intSm (k:=52) (by omega) (by decide)
 have sby:Sm ((ay+dy:Int):Rat):=intSm (k:=52) (by omega) (by decide)
 have spx:Sm px:=(frBd hpx (Nat.le_refl _) hD).sm (by decide) (by decide)
 have spy:Sm py:=(frBd hpy (Nat.le_refl _) hD).sm (by decide) (by decide)
 unfold u_trim_on
 simp only[(orient_both hD ha hb hdx hdy hpx hpy hpz).1,obS,eqI_eq,p_between sax sbx spx,p_between say sby spy]
 have b1:=btw_iff (a:=(ax:Rat)) (x:=px) (d:=(dx:Rat)) (b:=((ax+dx:Int):Rat)) (Rat.intCast_add ..)
 have b2:=btw_iff (a:=(ay:Rat)) (x:=py) (d:=(dy:Rat)) (b:=((ay+dy:Int):Rat)) (Rat.intCast_add ..)
 have d1:∀{a b x:Rat} {d:Rat},((minQ a b≤x∧x≤maxQ a b)↔Bt d (x-a))→Bt d (x-a)→decide (minQ a b≤x∧x≤maxQ a b)=true:=fun h h'=>decide_eq_true (h.2 h')
 have d2:∀{a b x:Rat} {d:Rat},((minQ a b≤x∧x≤maxQ a b)↔Bt d (x-a))→¬Bt d (x-a)→decide (minQ a b≤x∧x≤maxQ a b)=false:=fun h h'=>decide_eq_false fun e=>h' (h.1 e)
 by_cases h0:(dx:Rat)*(py-ay)-(dy:Rat)*(px-ax)=0
 ·rw[decide_eq_true (sgnQ_eq.2 h0)]
  by_cases h1:Bt (dx:Rat) (px-ax)
  ·rw[d1 b1 h1]
   by_cases h2:Bt (dy:Rat) (py-ay)
   ·rw[d1 b2 h2,onB_t ⟨h0,h1,h2⟩];rfl
   ·rw[d2 b2 h2,onB_f fun e=>h2 e.2.2];rfl
  ·rw[d2 b1 h1,onB_f fun e=>h1 e.2.1];rfl
 ·rw[decide_eq_false (fun e=>h0 (sgnQ_eq.1 e)),onB_f fun e=>h0 e.1];rfl
end
theorem r_on{ax ay dx dy:Int}{px py pz:Rat}{D:Nat}(hD:D≤8)(ha:ax.natAbs≤32)(hb:ay.natAbs≤32)(hdx:dx.natAbs≤20)(hdy:dy.natAbs≤20)(hpx:Fr D 20 px)(hpy:Fr D 20 py):
 u_ref21_on (c3 (ax:Rat) (c3 (ay:Rat) (c3 0 (c3 ((ax+dx:Int):Rat) (c3 ((ay+dy:Int):Rat) (c3 0 (c3 px (c3 py (c3 pz ())))))))))=some (onB dx dy (px-ax) (py-ay),()):=by
 have hs:=v_Segment hD ha hb hdx hdy hpx hpy
 have hf:∀a b c:Rat,u_ref21_flat (c3 a (c3 b (c3 c ())))=some (c3 a (c3 b (c3 0 ()))):=fun a b c=>by
  unfold u_ref21_flat
  show some (rNeg a,rNum a,rDen a,rNeg b,rNum b,rDen b,false,[],[],())=some (rNeg a,rNum a,rDen a,rNeg b,rNum b,rDen b,rNeg 0,rNum 0,rDen 0,())
  rw[rNum0,rDen0];rfl
 unfold u_ref21_on
 simp only[hf,hs,obS,r_Sign,eqI_eq]
 by_cases h:OnE (dx:Rat) dy (px-ax) (py-ay)
 ·rw[onB_t h,decide_eq_true (sgnQ_eq.2 ((seg_on ..).2 h))]
 ·rw[onB_f h,decide_eq_false fun e=>h ((seg_on ..).1 (sgnQ_eq.1 e))]
end Go.Eng.Rt
namespace Go.Eng.Rt
open Go.Eng Go.Eng.Tw Go.Eng.Tm
def Bx(l:List (Int×Int)):Prop:=l.length≤1000∧(∀p∈l,p.1.natAbs≤32∧p.2.natAbs≤32)∧∀p∈l,∀q∈l,(q.1-p.1).natAbs≤20∧(q.2-p.2).natAbs≤20
def Pp(D k:Nat)(px py pz:Rat):Prop:=D≤8∧Fr D k px∧Fr D k py∧Fr 2 k pz
abbrev lit{β:Type}(p q:Int×Int)(r:β):Bool×List T×List T×Bool×List T×List T×Bool×List T×List T×Bool×List T×List T×Bool×List T×List T×Bool×List T×List T×β:=(rNeg (p.1:Rat),rNum (p.1:Rat),rDen (p.1:Rat),rNeg (p.2:Rat),rNum (p.2:Rat),rDen (p.2:Rat),false,[],[],rNeg (q.1:Rat),rNum (q.1:Rat),rDen (q.1:Rat),rNeg (q.2:Rat),rNum (q.2:Rat),rDen (q.2:Rat),false,[],[],r)
theorem lit_eq{β:Type}(p q:Int×Int)(r:β):c3 (p.1:Rat) (c3 (p.2:Rat) (c3 0 (c3 ((p.1+(q.1-p.1):Int):Rat) (c3 ((p.2+(q.2-p.2):Int):Rat) (c3 0 r)))))=lit p q r:=by
 have e1:p.1+(q.1-p.1)=q.1:=by omega
 have e2:p.2+(q.2-p.2)=q.2:=by omega
 rw[z3,e1,e2,z3]
theorem cells(p:Int×Int):T.bool? (T.cell (wT p) 0)=some (rNeg (p.1:Rat))∧T.sl? 1 (T.cell (wT p) 1)=some (rNum (p.1:Rat))∧T.sl? 1 (T.cell (wT p) 2)=some (rDen (p.1:Rat)) ∧
 T.bool? (T.cell (wT p) 3)=some (rNeg (p.2:Rat))∧T.sl? 1 (T.cell (wT p) 4)=some (rNum (p.2:Rat))∧T.sl? 1 (T.cell (wT p) 5)=some (rDen (p.2:Rat)) ∧
 T.bool? (T.cell (wT p) 6)=some false∧T.sl? 1 (T.cell (wT p) 7)=some []∧T.sl? 1 (T.cell (wT p) 8)=some []:=⟨rfl,T_sl _ _,T_sl _ _,rfl,T_sl _ _,T_sl _ _,rfl,T_sl _ _,T_sl _ _⟩
def sE(p q:Int×Int)(px py:Rat):Int:=sgnQ (((q.1-p.1:Int):Rat)*(py-p.2)-((q.2-p.2:Int):Rat)*(px-p.1))
theorem edge_p{p q:Int×Int}(h1:p.1.natAbs≤32)(h2:p.2.natAbs≤32)(h3:(q.1-p.1).natAbs≤20)(h4:(q.2-p.2).natAbs≤20){D:Nat}{px py pz:Rat}(hp:Pp D 32 px py pz):
 u_trim_on (lit p q (c3 px (c3 py (c3 pz ()))))=some (onB ((q.1-p.1:Int):Rat) ((q.2-p.2:Int):Rat) (px-p.1) (py-p.2),())∧u_vector_Orient2 (lit p q (c3 px (c3 py (c3 pz ()))))=some (sE p q px py,())∧u_ref04_Orient2 (lit p q (c3 px (c3 py (c3 pz ()))))=some (sE p q px py,()):=by
 obtain⟨hD,f1,f2,f3⟩:=hp
 have a1:=p_on hD h1 h2 h3 h4 f1 f2 f3
 have a2:=orient_both hD h1 h2 h3 h4 f1 f2 f3
 rw[lit_eq] at a1 a2
 exact⟨a1,a2.1,a2.2⟩
theorem edge_r{p q:Int×Int}(h1:p.1.natAbs≤32)(h2:p.2.natAbs≤32)(h3:(q.1-p.1).natAbs≤20)(h4:(q.2-p.2).natAbs≤20){D:Nat}{px py pz:Rat}(hp:Pp D 20 px py pz):
 u_ref21_on (lit p q (c3 px (c3 py (c3 pz ()))))=some (onB ((q.1-p.1:Int):Rat) ((q.2-p.2:Int):Rat) (px-p.1) (py-p.2),()):=by
 obtain⟨hD,f1,f2,f3⟩:=hp
 have a1:=r_on (pz:=pz) hD h1 h2 h3 h4 f1 f2
 rw[lit_eq] at a1
 exact a1
theorem Pp.up{D:Nat}{px py pz:Rat}(h:Pp D 20 px py pz):Pp D 32 px py pz:=⟨h.1,h.2.1.mono (by decide),h.2.2.1.mono (by decide),h.2.2.2.mono (by decide)⟩
def PS(l:List (Int×Int))(px py pz:Rat)(i:Nat)(n:Int):List T×Unit×Int×Int×Int×Bool×List T×List T×Bool×List T×List T×Bool×List T×List T×Unit:=(l.map wT,(),n,(l.length:Int),(i:Int),c3 px (c3 py (c3 pz ())))
def RS(l:List (Int×Int))(px py pz:Rat)(i:Nat)(n:Int):List T×Unit×Int×Int×Bool×List T×List T×Bool×List T×List T×Bool×List T×List T×Unit:=(l.map wT,(),n,(i:Int),c3 px (c3 py (c3 pz ())))
def nxt(f g:Bool)(s n:Int):Int:=bif f then (bif g then n else bif decide (0<s) then wr .i64 (n+1) else n) else (bif g then (bif decide (s<0) then wr .i64 (n-1) else n) else n)
section
variable {l:List (Int×Int)} (hB:Bx l) {D:Nat} {px py pz:Rat} {i:Nat} (hi:i<l.length) (n:Int)
include hB hi
theorem pstep(hp:Pp D 32 px py pz):u_trim_Winding_l0 (PS l px py pz i n)=(bif onB (((at' l ((i+1)%l.length)).1-(at' l i).1:Int):Rat) (((at' l ((i+1)%l.length)).2-(at' l i).2:Int):Rat) (px-(at' l i).1) (py-(at' l i).2) then some (.inr (.inl (0,false,()))) else some (.inl (PS l px py pz (i+1) (nxt (decide (cmpQ ((at' l i).2:Rat) py≤0)) (decide (cmpQ ((at' l ((i+1)%l.length)).2:Rat) py≤0)) (sE (at' l i) (at' l ((i+1)%l.length)) px py) n)))):=by
 obtain⟨b1,b2,b3⟩:=hB
 have hj:(i+1)%l.length<l.length:=Nat.mod_lt _ (by omega)
 obtain⟨g1,m1⟩:=at_mem hi
 obtain⟨g2,m2⟩:=at_mem hj
 obtain⟨p,hpe⟩:∃p,p=at' l i:=⟨_,rfl⟩
 obtain⟨q,hqe⟩:∃q,q=at' l ((i+1)%l.length):=⟨_,rfl⟩
 rw[←hpe] at g1 m1
 rw[←hqe] at g2 m2
 rw[←hpe,←hqe]
 have c1:=b2 p m1
 have c2:=b2 q m2
 have c5:=b3 p m1 q m2
 have sy:Sm py:=(frBd hp.2.2.1 (Nat.le_refl _) hp.1).sm (by decide) (by decide)
 have wi:wr .i64 ((i:Int)+1)=((i+1:Nat):Int):=by rw[wri' (by omega) (by omega)];push_cast;rfl
 have hlt:decide ((i:Int)<(l.length:Int))=true:=decide_eq_true (by omega)
 obtain⟨e1,e2,_⟩:=edge_p (q:=q) c1.1 c1.2 c5.1 c5.2 hp
 have he:=p_edge (by omega) hi g1 g2
 have k1:=p_Cmp (intSm c1.2 (by decide)) sy
 have k2:=p_Cmp (intSm c2.2 (by decide)) sy
 unfold u_trim_Winding_l0 PS nxt
 simp -implicitDefEqProofs only[ltI_eq,leI_eq,addI_eq,subI_eq,hlt,cond_true,he,obS,e1,k1,k2,e2]
 generalize onB ((q.1-p.1:Int):Rat) ((q.2-p.2:Int):Rat) (px-p.1) (py-p.2)=b
 generalize sE p q px py=s
 generalize decide (cmpQ (p.2:Rat) py≤0)=f
 generalize decide (cmpQ (q.2:Rat) py≤0)=g
 generalize decide (0<s)=h1
 generalize decide (s<0)=h2
 cases b with
 | true=>simp -implicitDefEqProofs only[cond_true,obS,onS_l]
 | false=>cases f <;> cases g <;> cases h1 <;> cases h2 <;> simp -implicitDefEqProofs only[cond_true,cond_false,Bool.not_true,Bool.not_false,obS,onS_l,onS_r,wi]
theorem rstep(hp:Pp D 20 px py pz):u_ref21_Winding_l0 (RS l px py pz i n)=(bif onB (((at' l ((i+1)%l.length)).1-(at' l i).1:Int):Rat) (((at' l ((i+1)%l.length)).2-(at' l i).2:Int):Rat) (px-(at' l i).1) (py-(at' l i).2) then some (.inr (.inl (0,false,()))) else some (.inl (RS l px py pz (i+1) (nxt (decide (cmpQ ((at' l i).2:Rat) py≤0)) (decide (cmpQ ((at' l ((i+1)%l.length)).2:Rat) py≤0)) (sE (at' l i) (at' l ((i+1)%l.length)) px py) n)))):=by
 obtain⟨b1,b2,b3⟩:=hB
 have hj:(i+1)%l.length<l.length:=Nat.mod_lt _ (by omega)
 obtain⟨g1,m1⟩:=at_mem hi
 obtain⟨g2,m2⟩:=at_mem hj
 obtain⟨p,hpe⟩:∃p,p=at' l i:=⟨_,rfl⟩
 obtain⟨q,hqe⟩:∃q,q=at' l ((i+1)%l.length):=⟨_,rfl⟩
 rw[←hpe] at g1 m1
 rw[←hqe] at g2 m2
 rw[←hpe,←hqe]
 have c1:=b2 p m1
 have c2:=b2 q m2
 have c5:=b3 p m1 q m2
 have sy:Sm py:=(frBd hp.2.2.1 (Nat.le_refl _) hp.1).sm (by decide) (by decide)
 have wi:wr .i64 ((i:Int)+1)=((i+1:Nat):Int):=by rw[wri' (by omega) (by omega)];push_cast;rfl
 have hlt:decide ((i:Int)<(l.length:Int))=true:=decide_eq_true (by omega)
 obtain⟨_,_,e4⟩:=edge_p (q:=q) c1.1 c1.2 c5.1 c5.2 hp.up
 have e3:=edge_r (q:=q) c1.1 c1.2 c5.1 c5.2 hp
 have k3:=r_QCmp (intSm c1.2 (by decide)) sy
 have k4:=r_QCmp (intSm c2.2 (by decide)) sy
 have hgp:(l.map wT)[i]?=some (wT p):=by simp[g1]
 have hgq:(l.map wT)[(i+1)%l.length]?=some (wT q):=by simp[g2]
 have hpl:((l.map wT).length:Int)=(l.length:Int):=by rw[List.length_map]
 have hnz:nz (l.length:Int)=some (l.length:Int):=by unfold nz;rw[if_neg (by omega)]
 have hmod:((i+1:Nat):Int).tmod (l.length:Int)=(((i+1)%l.length:Nat):Int):=rfl
 obtain⟨a0,a1,a2,a3,a4,a5,a6,a7,a8⟩:=cells p
 obtain⟨d0,d1,d2,d3,d4,d5,d6,d7,d8⟩:=cells q
 unfold u_ref21_Winding_l0 RS nxt
 simp -implicitDefEqProofs only[ltI_eq,leI_eq,addI_eq,subI_eq,lenL_eq,hpl,hlt,cond_true,hnz,wi,modI_eq,hmod,idxL_nat,hgp,hgq,obS,a0,a1,a2,a3,a4,a5,a6,a7,a8,d0,d1,d2,d3,d4,d5,d6,d7,d8,e3,k3,k4,e4]
 generalize onB ((q.1-p.1:Int):Rat) ((q.2-p.2:Int):Rat) (px-p.1) (py-p.2)=b
 generalize sE p q px py=s
 generalize decide (cmpQ (p.2:Rat) py≤0)=f
 generalize decide (cmpQ (q.2:Rat) py≤0)=g
 cases b with
 | true=>simp -implicitDefEqProofs only[cond_true,obS,onS_l]
 | false=>cases f <;> cases g <;> cases h1:decide (0<s) <;> cases h2:decide (s<0) <;> simp -implicitDefEqProofs only[cond_true,cond_false,Bool.not_true,Bool.not_false,obS,onS_l,onS_r,wi,h1,h2]
end
theorem wind_loops{l:List (Int×Int)}(hB:Bx l){D:Nat}{px py pz:Rat}(hp:Pp D 20 px py pz):∀(k i:Nat) (n:Int),i+k=l.length→∃e,loopU u_trim_Winding_l0 (PS l px py pz i n)=some e∧loopU u_ref21_Winding_l0 (RS l px py pz i n)=some e:=by
 intro k
 induction k with
 | zero=>
  intro i n hi
  have hlt:decide ((i:Int)<(l.length:Int))=false:=decide_eq_false (by omega)
  refine⟨.inr (.inl (n,())),loopU_out ?_,loopU_out ?_⟩
  ·unfold u_trim_Winding_l0 PS
   simp only[ltI_eq,hlt,cond_false]
  ·unfold u_ref21_Winding_l0 RS
   simp only[ltI_eq,lenL_eq,List.length_map,hlt,cond_false]
 | succ k ih=>
  intro i n hi
  have h1:=pstep hB (i:=i) (by omega) n hp.up
  have h2:=rstep hB (i:=i) (by omega) n hp
  cases hb:onB (((at' l ((i+1)%l.length)).1-(at' l i).1:Int):Rat) (((at' l ((i+1)%l.length)).2-(at' l i).2:Int):Rat) (px-(at' l i).1) (py-(at' l i).2) with
  | true=>
   rw[hb,cond_true] at h1 h2
   exact⟨_,loopU_out h1,loopU_out h2⟩
  | false=>
   rw[hb,cond_false] at h1 h2
   obtain⟨e,e1,e2⟩:=ih (i+1) (nxt (decide (cmpQ ((at' l i).2:Rat) py≤0)) (decide (cmpQ ((at' l ((i+1)%l.length)).2:Rat) py≤0)) (sE (at' l i) (at' l ((i+1)%l.length)) px py) n) (by omega)
   exact⟨e,by rw[loopU_go h1];exact e1,by rw[loopU_go h2];exact e2⟩
theorem wind_eq{l:List (Int×Int)}(hB:Bx l){D:Nat}{px py pz:Rat}(hp:Pp D 20 px py pz):∃n b,u_trim_Winding (l.map wT,c3 px (c3 py (c3 pz ())))=some (n,b,())∧u_ref21_Winding (l.map wT,c3 px (c3 py (c3 pz ())))=some (n,b,()):=by
 obtain⟨e,e1,e2⟩:=wind_loops hB hp l.length 0 0 (Nat.zero_add _)
 replace e1:loopU u_trim_Winding_l0 (l.map wT,(),(0:Int),(l.length:Int),(0:Int),c3 px (c3 py (c3 pz ())))=some e:=e1
 replace e2:loopU u_ref21_Winding_l0 (l.map wT,(),(0:Int),(0:Int),c3 px (c3 py (c3 pz ())))=some e:=e2
 have hpl:((l.map wT).length:Int)=(l.length:Int):=by rw[List.length_map]
 unfold u_trim_Winding u_ref21_Winding
 simp only[lenL_eq,hpl]
 rw[e1,e2]
 match e with
 | .inl (n,b,_)=>exact⟨n,b,rfl,rfl⟩
 | .inr (.inl (n,_))=>exact⟨n,true,rfl,rfl⟩
theorem wind_at{l:List (Int×Int)}(hB:Bx l)(h0:0<l.length):u_trim_Winding (l.map wT,c3 ((at' l 0).1:Rat) (c3 ((at' l 0).2:Rat) (c3 0 ())))=some (0,false,()):=by
 have m:=(at_mem h0).2
 have c:=hB.2.1 _ m
 have hp:Pp 1 32 ((at' l 0).1:Rat) ((at' l 0).2:Rat) 0:=⟨by decide,(Fr.int _).mono c.1,(Fr.int _).mono c.2,(Fr.zero (by decide)).mono (by decide)⟩
 have h1:=pstep hB (i:=0) h0 0 hp
 have hon:OnE (((at' l ((0+1)%l.length)).1-(at' l 0).1:Int):Rat) (((at' l ((0+1)%l.length)).2-(at' l 0).2:Int):Rat) (((at' l 0).1:Rat)-(at' l 0).1) (((at' l 0).2:Rat)-(at' l 0).2):=by
  rw[Rat.sub_self,Rat.sub_self]
  refine⟨by grind,?_,?_⟩
  ·unfold Bt;grind
  ·unfold Bt;grind
 rw[onB_t hon,cond_true] at h1
 have h2:=loopU_out h1
 replace h2:loopU u_trim_Winding_l0 (l.map wT,(),(0:Int),(l.length:Int),(0:Int),c3 ((at' l 0).1:Rat) (c3 ((at' l 0).2:Rat) (c3 0 ())))=some (.inl (0,false,())):=h2
 have hpl:((l.map wT).length:Int)=(l.length:Int):=by rw[List.length_map]
 unfold u_trim_Winding
 simp only[lenL_eq,hpl]
 rw[h2]
 rfl
end Go.Eng.Rt
namespace Go.Eng.Rt
open Go.Eng Go.Eng.Tw Go.Eng.Tm
def ASr(l:List (Int×Int))(i:Nat):(List T×Unit×Unit×Int×Bool×T×T×Bool×List T×List T×Unit):=
 (l.map wT,(),(),(i:Int),false,.v (.slice none 0 0),.v (.slice none 0 0),rNeg (psum l i:Rat),rNum (psum l i:Rat),rDen (psum l i:Rat),())
theorem area_stepR{l:List (Int×Int)}(hl:∀p∈l,SmW p)(hn:l.length≤1000){i:Nat}(hi:i<l.length):u_ref21_Area_l0 (ASr l i)=some (.inl (ASr l (i+1))):=by
 have hj:(i+1)%l.length<l.length:=Nat.mod_lt _ (by omega)
 obtain⟨e1,m1⟩:=at_mem hi
 obtain⟨e2,m2⟩:=at_mem hj
 have hb:=psum_small hl (i:=i) (by omega)
 have hc:=crs_small (hl _ m1) (hl _ m2)
 have wi:wr .i64 ((i:Int)+1)=((i+1:Nat):Int):=by rw[wri' (by omega) (by omega)];push_cast;rfl
 have hlt:decide ((i:Int)<(l.length:Int))=true:=decide_eq_true (by omega)
 have hpl:((l.map wT).length:Int)=(l.length:Int):=by rw[List.length_map]
 have hnz:nz (l.length:Int)=some (l.length:Int):=by unfold nz;rw[if_neg (by omega)]
 have hmod:((i+1:Nat):Int).tmod (l.length:Int)=(((i+1)%l.length:Nat):Int):=rfl
 have hs:psum l (i+1)=psum l i+crs (at' l i) (at' l ((i+1)%l.length)):=rfl
 generalize at' l i=p at *
 generalize at' l ((i+1)%l.length)=q at *
 have hgp:(l.map wT)[i]?=some (wT p):=by simp[e1]
 have hgq:(l.map wT)[(i+1)%l.length]?=some (wT q):=by simp[e2]
 obtain⟨a0,a1,a2,a3,a4,a5,a6,a7,a8⟩:=cells p
 obtain⟨d0,d1,d2,d3,d4,d5,d6,d7,d8⟩:=cells q
 have sp:=hl _ m1
 have sq:=hl _ m2
 have sm:∀{n:Int},n.natAbs<100→Sm (n:Rat):=fun h=>sm_int (by omega)
 have k1:(p.1*q.2).natAbs≤10000:=by
  rw[Int.natAbs_mul]
  exact Nat.mul_le_mul (show _≤100 from Nat.le_of_lt sp.1) (show _≤100 from Nat.le_of_lt sq.2)
 have k2:(q.1*p.2).natAbs≤10000:=by
  rw[Int.natAbs_mul]
  exact Nat.mul_le_mul (show _≤100 from Nat.le_of_lt sq.1) (show _≤100 from Nat.le_of_lt sp.2)
 have f1:=r_QMul (sm sp.1) (sm sq.2)
 have f2:=r_QMul (sm sq.1) (sm sp.2)
 rw[←Rat.intCast_mul] at f1 f2
 have f3:=r_QSub (sm_int (n:=p.1*q.2) (by omega)) (sm_int (n:=q.1*p.2) (by omega))
 rw[←Rat.intCast_sub] at f3
 have f4:=r_QAdd (sm_int (n:=psum l i) (by omega)) (sm_int (n:=crs p q) (by omega))
 rw[←Rat.intCast_add,←hs] at f4
 unfold crs at f4
 unfold u_ref21_Area_l0
 conv=>lhs;unfold ASr
 simp only[ltI_eq,lenL_eq,hpl,hlt,cond_true,hnz,modI_eq,addI_eq,wi,hmod,idxL_nat,hgp,hgq,obS,a0,a1,a2,a3,a4,a5,d0,d1,d2,d3,d4,d5,f1,f2,f3,f4]
 rfl
theorem r_Area{l:List (Int×Int)}(hl:∀p∈l,SmW p)(hn:l.length≤1000):u_ref21_Area (l.map wT,())=some (rNeg (area l:Rat),rNum (area l:Rat),rDen (area l:Rat),()):=by
 have h:=loopU_for (F:=u_ref21_Area_l0) l.length (ASr l) fun i hi=>area_stepR hl hn hi
 have hpl:((l.map wT).length:Int)=(l.length:Int):=by rw[List.length_map]
 have fold:(l.map wT,(),(),(0:Int),false,T.v (Value.slice none 0 0),T.v (Value.slice none 0 0),false,([]:List T),([]:List T),())=ASr l 0:=by
  have e:((psum l 0:Int):Rat)=0:=rfl
  unfold ASr
  rw[e,rNeg_zero,rNum_zero,rDen_zero];rfl
 have hout:loopU u_ref21_Area_l0 (ASr l l.length)=some (.inl ((),(),false,T.v (Value.slice none 0 0),T.v (Value.slice none 0 0),rNeg (psum l l.length:Rat),rNum (psum l l.length:Rat),rDen (psum l l.length:Rat),())):=by
  refine loopU_out ?_
  have hlt:decide ((l.length:Int)<(l.length:Int))=false:=decide_eq_false (by omega)
  unfold u_ref21_Area_l0 ASr
  simp only[ltI_eq,lenL_eq,hpl,hlt,cond_false]
 rw[←psum_area]
 unfold u_ref21_Area
 simp only[fold,h,hout,obS,onS_l]
theorem psum_bnd{l:List (Int×Int)}(hl:∀p∈l,SmW p):(area l).natAbs≤20000*l.length:=by
 rw[←psum_area];exact psum_small hl (Nat.le_refl _)
end Go.Eng.Rt
