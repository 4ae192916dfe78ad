/- The functions and the laws of this seat in plain words; each statement names its conditions. -/
import Derived.Test.YtdomcfhppficpaaGreatEng3
import Derived.Test.YtdomcfhppficpaaGreatGen
import Derived.Test.YtdomcfhppficpaaGreatGen3
import Derived.Test.YtdomcfhppficpaaGreatGen4
set_option linter.unusedSimpArgs false
set_option linter.unusedVariables false
namespace Go.Eng.Rt
open Go.Eng
abbrev BB:Nat:=4294967296
def val:List Nat→Nat
 | []=>0
 | a::l=>a+BB*val l
def limbs(n:Nat):List Nat:=if h:n=0 then [] else (n%BB)::limbs (n/BB)
termination_by n
decreasing_by exact Nat.div_lt_self (Nat.pos_of_ne_zero h) (by decide)
def Lim(l:List Nat):Prop:=∀x∈l,x<BB
theorem limbs_zero:limbs 0=[]:=by rw[limbs];simp
theorem limbs_pos{n:Nat}(h:n≠0):limbs n=(n%BB)::limbs (n/BB):=by rw[limbs];simp[h]
theorem limbs_one{n:Nat}(h:n≠0)(hn:n<BB):limbs n=[n]:=by
 rw[limbs_pos h,Nat.mod_eq_of_lt hn,Nat.div_eq_of_lt hn,limbs_zero]
theorem limbs_two{n:Nat}(h:BB≤n)(hn:n<BB*BB):limbs n=[n%BB,n/BB]:=by
 rw[limbs_pos (by simp only[BB] at h;omega),limbs_one (n:=n/BB)]
 ·have:0<n/BB:=Nat.div_pos h (by decide)
  omega
 ·exact Nat.div_lt_of_lt_mul hn
theorem val_limbs(n:Nat):val (limbs n)=n:=by
 induction n using Nat.strongRecOn with
 | _ n ih=>
  by_cases h:n=0
  ·subst h;rw[limbs_zero];rfl
  ·rw[limbs_pos h,val,ih _ (Nat.div_lt_self (Nat.pos_of_ne_zero h) (by decide))]
   exact Nat.mod_add_div n BB
theorem lim_limbs(n:Nat):Lim (limbs n):=by
 induction n using Nat.strongRecOn with
 | _ n ih=>
  by_cases h:n=0
  ·subst h;rw[limbs_zero];intro x hx;cases hx
  ·rw[limbs_pos h]
   intro x hx
   rcases List.mem_cons.1 hx with rfl | hx
   ·exact Nat.mod_lt _ (by decide)
   ·exact ih _ (Nat.div_lt_self (Nat.pos_of_ne_zero h) (by decide)) x hx
theorem Lim.nil:Lim []:=fun x h=>by cases h
theorem Lim.cons{a:Nat}{l:List Nat}(h:a<BB)(hl:Lim l):Lim (a::l):=fun x hx=>by
 rcases List.mem_cons.1 hx with rfl | hx
 ·exact h
 ·exact hl x hx
theorem Lim.head{a:Nat}{l:List Nat}(h:Lim (a::l)):a<BB:=h a (by simp)
theorem Lim.tail{a:Nat}{l:List Nat}(h:Lim (a::l)):Lim l:=fun x hx=>h x (by simp[hx])
theorem Lim.append{l m:List Nat}(h:Lim l)(h':Lim m):Lim (l++m):=fun x hx=>(List.mem_append.1 hx).elim (h x) (h' x)
theorem val_lt{l:List Nat}(h:Lim l):val l<BB ^ l.length:=by
 induction l with
 | nil=>simp[val]
 | cons a l ih=>
  have h1:=h.head
  have h2:=ih h.tail
  rw[val,List.length_cons,Nat.pow_succ]
  have h3:val l+1≤BB ^ l.length:=h2
  have h4:BB*(val l+1)≤BB*BB ^ l.length:=Nat.mul_le_mul_left _ h3
  have h5:BB*(val l+1)=BB*val l+BB:=by rw[Nat.mul_add];simp
  rw[Nat.mul_comm (BB ^ l.length)]
  omega
def trimN(l:List Nat):List Nat:=(l.reverse.dropWhile (·==0)).reverse
theorem trimN_snoc0(l:List Nat):trimN (l++[0])=trimN l:=by
 unfold trimN;simp
theorem trimN_snoc{l:List Nat}{a:Nat}(h:a≠0):trimN (l++[a])=l++[a]:=by
 unfold trimN;simp[h]
theorem val_append(l m:List Nat):val (l++m)=val l+BB ^ l.length*val m:=by
 induction l with
 | nil=>simp[val]
 | cons a l ih=>
  rw[List.cons_append,val,val,ih,List.length_cons,Nat.pow_succ,Nat.mul_add,Nat.mul_comm (BB ^ l.length) BB,Nat.mul_assoc]
  omega
theorem limbs_ne{n:Nat}(h:n≠0):limbs n≠[]:=by rw[limbs_pos h];simp
theorem limbs_snoc{l:List Nat}{a:Nat}(hl:Lim l)(ha:a<BB)(h0:a≠0):limbs (val (l++[a]))=l++[a]:=by
 induction l with
 | nil=>rw[List.nil_append];show limbs (a+BB*0)=[a];rw[Nat.mul_zero,Nat.add_zero,limbs_one h0 ha]
 | cons b l ih=>
  have h1:=hl.head
  rw[List.cons_append,val]
  have hp:val (l++[a])≠0:=by
   intro h
   have:=ih hl.tail
   rw[h,limbs_zero] at this
   simp at this
  rw[limbs_pos (by simp only[BB];omega),Nat.add_mul_mod_self_left,Nat.mod_eq_of_lt h1,Nat.add_mul_div_left _ _ (by decide),Nat.div_eq_of_lt h1,Nat.zero_add,ih hl.tail]
theorem limbs_val{l:List Nat}(h:Lim l):limbs (val l)=trimN l:=by
 have key:∀k (l:List Nat),l.length=k→Lim l→limbs (val l)=trimN l:=by
  intro k
  induction k with
  | zero=>
   intro l hl _
   have:=List.eq_nil_of_length_eq_zero hl
   subst this
   exact limbs_zero
  | succ k ih=>
   intro l hl h
   have hne:l≠[]:=by intro e;subst e;simp at hl
   obtain⟨m,a,rfl⟩:∃m a,l=m++[a]:=⟨l.dropLast,l.getLast hne,(List.dropLast_concat_getLast hne).symm⟩
   have hm:Lim m:=fun x hx=>h x (List.mem_append.2 (.inl hx))
   have ha:a<BB:=h a (by simp)
   by_cases h0:a=0
   ·subst h0
    rw[trimN_snoc0,val_append,show val [0]=0 from rfl,Nat.mul_zero,Nat.add_zero]
    exact ih m (by simp at hl;exact hl) hm
   ·rw[limbs_snoc hm ha h0,trimN_snoc h0]
 exact key _ l rfl h
theorem limbs_inj{a b:Nat}(h:limbs a=limbs b):a=b:=by rw[←val_limbs a,h,val_limbs]
theorem limbs_len{n k:Nat}:(limbs n).length≤k↔n<BB ^ k:=by
 constructor
 ·intro h
  have:=val_lt (lim_limbs n)
  rw[val_limbs] at this
  exact Nat.lt_of_lt_of_le this (Nat.pow_le_pow_right (by decide) h)
 ·intro h
  induction k generalizing n with
  | zero=>
   have:n=0:=by simpa using h
   subst this;simp[limbs_zero]
  | succ k ih=>
   by_cases h0:n=0
   ·subst h0;simp[limbs_zero]
   ·rw[limbs_pos h0,List.length_cons]
    have:=ih (n:=n/BB) (Nat.div_lt_of_lt_mul (by rw[Nat.mul_comm,←Nat.pow_succ];exact h))
    omega
def limT(n:Nat):T:=.v (.int .u32 (n:Int))
def lmL(l:List Nat):List T:=l.map limT
def lm(n:Nat):List T:=lmL (limbs n)
def dn(d:Nat):List T:=if d=1 then [] else lm d
theorem lmL_len(l:List Nat):(lmL l).length=l.length:=by simp[lmL]
theorem lm_zero:lm 0=[]:=by rw[lm,limbs_zero];rfl
theorem lm_one{n:Nat}(h:n≠0)(hn:n<BB):lm n=[limT n]:=by rw[lm,limbs_one h hn];rfl
theorem lm_two{n:Nat}(h:BB≤n)(hn:n<BB*BB):lm n=[limT (n%BB),limT (n/BB)]:=by rw[lm,limbs_two h hn];rfl
theorem limT_inj{a b:Nat}(h:limT a=limT b):a=b:=by
 unfold limT at h
 injection h with h
 injection h with _ h
 omega
theorem lmL_inj{a b:List Nat}(h:lmL a=lmL b):a=b:=by
 induction a generalizing b with
 | nil=>cases b with
  | nil=>rfl
  | cons y b=>simp[lmL] at h
 | cons x a ih=>cases b with
  | nil=>simp[lmL] at h
  | cons y b=>
   simp only[lmL,List.map_cons,List.cons.injEq] at h
   rw[limT_inj h.1,ih h.2]
theorem lm_inj{a b:Nat}(h:lm a=lm b):a=b:=limbs_inj (lmL_inj h)
end Go.Eng.Rt
namespace Go.Eng.Rt
open Go.Eng
def rNeg(q:Rat):Bool:=decide (q.num<0)
def rNum(q:Rat):List T:=lm q.num.natAbs
def rDen(q:Rat):List T:=dn q.den
def sg(neg:Bool)(n:Nat):Int:=if neg then -(n:Int) else n
theorem sg_abs(neg:Bool)(n:Nat):(sg neg n).natAbs=n:=by cases neg <;> simp[sg]
theorem sg_num(q:Rat):sg (rNeg q) q.num.natAbs=q.num:=by
 unfold sg rNeg
 by_cases h:q.num<0
 ·rw[decide_eq_true h,if_pos rfl];omega
 ·rw[decide_eq_false h];simp;omega
theorem mk_den{n:Int}{d:Nat}(hd:d≠0):(mkRat n d).den=d/n.natAbs.gcd d:=by
 rw[Rat.mkRat_def,dif_neg hd,Rat.normalize_eq]
theorem mk_num{n:Int}{d:Nat}(hd:d≠0):(mkRat n d).num=n/(n.natAbs.gcd d:Nat):=by
 rw[Rat.mkRat_def,dif_neg hd,Rat.normalize_eq]
theorem mk_abs(neg:Bool){n d:Nat}(hd:d≠0):(mkRat (sg neg n) d).num.natAbs=n/n.gcd d:=by
 rw[mk_num hd,sg_abs]
 unfold sg
 have hg:0<n.gcd d:=Nat.gcd_pos_of_pos_right _ (Nat.pos_of_ne_zero hd)
 cases neg with
 | false=>simp only[Bool.false_eq_true,if_false];rw[←Int.natCast_ediv];exact Int.natAbs_natCast _
 | true=>
  simp only[if_true]
  rw[Int.neg_ediv_of_dvd (Int.natCast_dvd_natCast.2 (Nat.gcd_dvd_left n d)),Int.natAbs_neg,←Int.natCast_ediv];exact Int.natAbs_natCast _
theorem mk_neg(neg:Bool){n d:Nat}(hd:d≠0)(hn:n≠0):rNeg (mkRat (sg neg n) d)=neg:=by
 unfold rNeg
 rw[mk_num hd,sg_abs]
 have hg:0<n.gcd d:=Nat.gcd_pos_of_pos_right _ (Nat.pos_of_ne_zero hd)
 have hq:0<n/n.gcd d:=Nat.div_pos (Nat.le_of_dvd (Nat.pos_of_ne_zero hn) (Nat.gcd_dvd_left n d)) hg
 unfold sg
 cases neg with
 | false=>
  simp only[Bool.false_eq_true,if_false];rw[←Int.natCast_ediv]
  exact decide_eq_false (by omega)
 | true=>
  simp only[if_true]
  rw[Int.neg_ediv_of_dvd (Int.natCast_dvd_natCast.2 (Nat.gcd_dvd_left n d)),←Int.natCast_ediv]
  exact decide_eq_true (by omega)
theorem mk_zero(neg:Bool)(d:Nat):mkRat (sg neg 0) d=0:=by
 cases neg <;> simp[sg,Rat.zero_mkRat]
theorem rNum_mk(neg:Bool){n d:Nat}(hd:d≠0):rNum (mkRat (sg neg n) d)=lm (n/n.gcd d):=by unfold rNum;rw[mk_abs neg hd]
theorem rDen_mk(neg:Bool){n d:Nat}(hd:d≠0):rDen (mkRat (sg neg n) d)=dn (d/n.gcd d):=by unfold rDen;rw[mk_den hd,sg_abs]
theorem rNeg_zero:rNeg 0=false:=rfl
theorem rNum_zero:rNum 0=[]:=lm_zero
theorem rDen_zero:rDen 0=[]:=rfl
theorem dn_inj{a b:Nat}(ha:a≠0)(hb:b≠0)(h:dn a=dn b):a=b:=by
 unfold dn at h
 split at h <;> split at h
 ·omega
 ·rw[←lm_zero] at h;exact absurd (lm_inj h).symm hb
 ·rw[←lm_zero] at h;exact absurd (lm_inj h) ha
 ·exact lm_inj h
theorem rat_ext{p q:Rat}(h1:rNeg p=rNeg q)(h2:p.num.natAbs=q.num.natAbs)(h3:p.den=q.den):p=q:=by
 have:p.num=q.num:=by rw[←sg_num p,h1,h2,sg_num q]
 cases p;cases q
 simp only at this h3
 subst this;subst h3;rfl
theorem add_mk(p q:Rat):p+q=mkRat (p.num*q.den+q.num*p.den) (p.den*q.den):=by
 rw[Rat.add_def,Rat.mkRat_def,dif_neg (Nat.mul_ne_zero p.den_nz q.den_nz)]
theorem sgn_mul(a:Bool)(n:Nat)(m:Nat):sg a n*(m:Int)=sg a (n*m):=by
 cases a <;> simp[sg,Int.neg_mul]
theorem sg_add(a:Bool)(n m:Nat):sg a n+sg a m=sg a (n+m):=by
 cases a <;> simp[sg] <;> omega
theorem sg_sub{a b:Bool}(hab:a≠b){n m:Nat}(h:m≤n):sg a n+sg b m=sg a (n-m):=by
 cases a <;> cases b <;> simp[sg] at hab ⊢ <;> omega
theorem add_same{p q:Rat}(h:rNeg p=rNeg q):p+q=mkRat (sg (rNeg q) (p.num.natAbs*q.den+q.num.natAbs*p.den)) (p.den*q.den):=by
 rw[add_mk]
 congr 1
 rw[←sg_add,←sgn_mul,←sgn_mul,sg_num,←h,sg_num]
theorem add_diff{p q:Rat}(h:rNeg p≠rNeg q)(hle:q.num.natAbs*p.den≤p.num.natAbs*q.den):p+q=mkRat (sg (rNeg p) (p.num.natAbs*q.den-q.num.natAbs*p.den)) (p.den*q.den):=by
 rw[add_mk]
 congr 1
 rw[←sg_sub h hle,←sgn_mul,←sgn_mul,sg_num,sg_num]
def Sm(q:Rat):Prop:=q.num.natAbs<2147483648∧q.den<2147483648
theorem Sm.zero:Sm 0:=⟨by decide,by decide⟩
theorem rDen_sm{q:Rat}(h:q.den<BB):rDen q=if q.den=1 then [] else [limT q.den]:=by
 unfold rDen dn
 split
 ·rfl
 ·rw[lm_one q.den_nz h]
theorem num_zero{q:Rat}:q.num.natAbs=0↔q=0:=by
 constructor
 ·intro h;exact Rat.num_eq_zero.1 (by omega)
 ·rintro rfl;rfl
theorem lt_sizes{p q:Rat}:p<q↔p.num*q.den<q.num*p.den:=Rat.lt_iff p q
end Go.Eng.Rt
namespace Go.Eng.Rt
open Go.Eng
def En(D k:Nat)(q:Rat):Prop:=∃m:Nat,m≤k∧q=mkRat (m:Int) D
theorem En.add{D a b:Nat}{p q:Rat}(hD:D≠0)(hp:En D a p)(hq:En D b q):En D (a+b) (p+q):=by
 obtain⟨m,hm,rfl⟩:=hp
 obtain⟨n,hn,rfl⟩:=hq
 refine⟨m+n,by omega,?_⟩
 rw[Rat.mkRat_add_mkRat _ _ hD hD,Rat.mkRat_eq_iff (Nat.mul_ne_zero hD hD) hD]
 push_cast
 rw[←Int.add_mul,Int.mul_assoc]
theorem En.zero{D k:Nat}:En D k 0:=⟨0,Nat.zero_le _,by simp[Rat.zero_mkRat]⟩
theorem En.mono{D a b:Nat}{q:Rat}(h:En D a q)(hab:a≤b):En D b q:=by
 obtain⟨m,hm,e⟩:=h;exact⟨m,by omega,e⟩
theorem En.sm{D k:Nat}{q:Rat}(hD:D≠0)(hD':D<2147483648)(hk:k<2147483648)(h:En D k q):Sm q:=by
 obtain⟨m,hm,rfl⟩:=h
 have e:(m:Int)=sg false m:=rfl
 constructor
 ·rw[e,mk_abs false hD]
  exact Nat.lt_of_le_of_lt (Nat.div_le_self _ _) (by omega)
 ·rw[mk_den hD]
  exact Nat.lt_of_le_of_lt (Nat.div_le_self _ _) hD'
theorem En.nn{D k:Nat}{q:Rat}(hD:D≠0)(h:En D k q):rNeg q=false:=by
 obtain⟨m,hm,rfl⟩:=h
 by_cases h0:m=0
 ·subst h0;simp[Rat.zero_mkRat];rfl
 ·exact mk_neg false hD h0
theorem En.frac{n d D k:Nat}(hd:d≠0)(hD:D≠0)(hdD:d ∣ D)(h:n*(D/d)≤k):En D k (mkRat (n:Int) d):=by
 refine⟨n*(D/d),h,?_⟩
 rw[Rat.mkRat_eq_iff hd hD]
 obtain⟨c,rfl⟩:=hdD
 rw[Nat.mul_div_cancel_left _ (Nat.pos_of_ne_zero hd)]
 push_cast
 rw[Int.mul_assoc,Int.mul_comm (c:Int) d]
end Go.Eng.Rt
namespace Go.Eng.Rt
open Go.Eng
abbrev B64:Nat:=18446744073709551616
theorem wr32n(n:Nat):wr .u32 (n:Int)=((n%BB:Nat):Int):=by
 unfold wr IntKind.wrap
 simp only[IntKind.bits,IntKind.signed,Bool.false_and,Bool.false_eq_true,if_false]
 rw[show ((2:Int) ^ 32)=((BB:Nat):Int) from rfl]
 omega
theorem wr64n(n:Nat):wr .u64 (n:Int)=((n%B64:Nat):Int):=by
 unfold wr IntKind.wrap
 simp only[IntKind.bits,IntKind.signed,Bool.false_and,Bool.false_eq_true,if_false]
 rw[show ((2:Int) ^ 64)=((B64:Nat):Int) from rfl]
 omega
theorem wr64s{n:Nat}(h:n<B64):wr .u64 (n:Int)=(n:Int):=by rw[wr64n,Nat.mod_eq_of_lt h]
theorem wr32s{n:Nat}(h:n<BB):wr .u32 (n:Int)=(n:Int):=by rw[wr32n,Nat.mod_eq_of_lt h]
theorem wri{n:Nat}(h:n<4611686018427387904):wr .i64 (n:Int)=(n:Int):=wr64 (by omega) (by omega)
theorem wri'{n:Int}(h0:-4611686018427387904<n)(h:n<4611686018427387904):wr .i64 n=n:=wr64 (by omega) (by omega)
theorem shr32(n:Nat):shrI .u64 (n:Int) 32=((n/BB:Nat):Int):=by
 unfold shrI
 rw[show ((2:Int) ^ (min (Int.toNat 32) (IntKind.bits .u64)))=((BB:Nat):Int) from rfl,Int.fdiv_eq_ediv_of_nonneg _ (by omega)]
 exact(Int.natCast_ediv n BB).symm
theorem shl32(n:Nat):shlI .u64 (n:Int) 32=((n*BB:Nat):Int):=by
 unfold shlI
 rw[show ((2:Int) ^ (min (Int.toNat 32) (IntKind.bits .u64)))=((BB:Nat):Int) from rfl]
 exact(Int.natCast_mul n BB).symm
theorem nn32:nn (32:Int)=some 32:=by unfold nn;rfl
theorem or_disj{a b:Nat}(h:a<BB):a ||| (b*BB)=a+b*BB:=by
 rw[Nat.or_comm,Nat.add_comm,show b*BB=b <<< 32 by rw[Nat.shiftLeft_eq]]
 exact(Nat.shiftLeft_add_eq_or_of_lt (by simpa using h) b).symm
theorem or64{a b:Nat}(ha:a<BB)(hb:b<BB):bitI .or .u64 (a:Int) ((b*BB:Nat):Int)=((a+b*BB:Nat):Int):=by
 have hlt:a+b*BB<B64:=by simp only[BB,B64] at *;omega
 unfold bitI
 have e:∀n:Nat,n<B64→(BitVec.ofInt 64 (n:Int)).toNat=n:=fun n hn=>by
  rw[BitVec.ofInt_natCast,BitVec.toNat_ofNat]
  exact Nat.mod_eq_of_lt (by simp only[B64] at hn;omega)
 show IntKind.wrap .u64 (((BitVec.ofInt 64 (a:Int) ||| BitVec.ofInt 64 ((b*BB:Nat):Int)).toNat:Nat):Int)=_
 rw[BitVec.toNat_or,e a (by simp only[BB,B64] at *;omega),e (b*BB) (by simp only[BB,B64] at *;omega),or_disj ha]
 have:=wr64s hlt
 unfold wr at this
 exact this
theorem or64'{a b:Nat}(ha:a<BB)(hb:b<BB):bitI .or .u64 ((b*BB:Nat):Int) (a:Int)=((a+b*BB:Nat):Int):=by
 rw[←or64 ha hb]
 unfold bitI
 simp only[BitVec.or_comm]
theorem lmL_get(l:List Nat)(i:Nat):(lmL l)[i]?=(l[i]?).map limT:=by simp[lmL]
theorem limT_cell(n:Nat):T.cell (limT n) 0=limT n:=rfl
theorem limT_int(n:Nat):T.int? .u32 (limT n)=some (n:Int):=by unfold limT;simp
theorem limT_any(n:Nat):T.anyInt? (limT n)=some (n:Int):=rfl
theorem limT_upd(x:T)(n:Nat)(h:∃m,x=limT m):T.upd 1 x 0 [T.v (.int .u32 (n:Int))]=limT n:=by
 obtain⟨m,rfl⟩:=h
 exact T_upd1 _ _
theorem lmL_set(l:List Nat)(i n:Nat):(lmL l).set i (limT n)=lmL (l.set i n):=by unfold lmL;rw[List.map_set]
theorem lmL_append(a b:List Nat):lmL a++lmL b=lmL (a++b):=by unfold lmL;simp
theorem lmL_take(l:List Nat)(k:Nat):(lmL l).take k=lmL (l.take k):=by unfold lmL;simp
theorem rep_lmL(n:Nat):List.replicate n (T.v (.int .u32 (0:Int)))=lmL (List.replicate n 0):=by unfold lmL;simp[limT]
theorem Lim.take{l:List Nat}(h:Lim l)(k:Nat):Lim (l.take k):=fun x hx=>h x (List.mem_of_mem_take hx)
theorem Lim.drop{l:List Nat}(h:Lim l)(k:Nat):Lim (l.drop k):=fun x hx=>h x (List.mem_of_mem_drop hx)
theorem Lim.get{l:List Nat}(h:Lim l){i:Nat}{x:Nat}(hi:l[i]?=some x):x<BB:=h x (List.mem_of_getElem? hi)
theorem Lim.set{l:List Nat}(h:Lim l){x:Nat}(hx:x<BB)(i:Nat):Lim (l.set i x):=fun y hy=>by
 rcases List.mem_or_eq_of_mem_set hy with h1 | h1
 ·exact h y h1
 ·subst h1;exact hx
theorem Lim.rep(n:Nat):Lim (List.replicate n 0):=fun x hx=>by rw[List.eq_of_mem_replicate hx];decide
theorem val_rep(n:Nat):val (List.replicate n 0)=0:=by
 induction n with
 | zero=>rfl
 | succ n ih=>rw[List.replicate_succ,val,ih,Nat.mul_zero]
theorem val_set{l:List Nat}{i x y:Nat}(hi:l[i]?=some y):val (l.set i x)+BB ^ i*y=val l+BB ^ i*x:=by
 induction l generalizing i with
 | nil=>simp at hi
 | cons a l ih=>
  cases i with
  | zero=>
   simp only[List.getElem?_cons_zero,Option.some.injEq] at hi
   subst hi
   simp only[List.set_cons_zero,val,Nat.pow_zero,Nat.one_mul]
   omega
  | succ i=>
   simp only[List.getElem?_cons_succ] at hi
   have:=ih hi
   simp only[List.set_cons_succ,val,Nat.pow_succ]
   rw[Nat.mul_comm (BB ^ i) BB,Nat.mul_assoc,Nat.mul_assoc]
   have h1:BB*(val (l.set i x)+BB ^ i*y)=BB*(val l+BB ^ i*x):=by rw[this]
   rw[Nat.mul_add,Nat.mul_add] at h1
   omega
theorem val_take_succ{l:List Nat}{i x:Nat}(hi:l[i]?=some x):val (l.take (i+1))=val (l.take i)+BB ^ i*x:=by
 have hlt:i<l.length:=(List.getElem?_eq_some_iff.1 hi).1
 have hx:l[i]=x:=by rw[List.getElem?_eq_getElem hlt] at hi;exact Option.some.inj hi
 rw[List.take_succ_eq_append_getElem hlt,val_append,hx]
 simp only[List.length_take,Nat.min_eq_left (Nat.le_of_lt hlt),val,Nat.mul_zero,Nat.add_zero]
theorem trimN_pre(l:List Nat):trimN l <+: l:=by
 unfold trimN
 have:=List.dropWhile_suffix (l:=l.reverse) (·==0)
 have h2:=List.reverse_prefix.2 this
 simpa using h2
theorem trimN_take(l:List Nat):l.take (trimN l).length=trimN l:=(List.prefix_iff_eq_take.1 (trimN_pre l)).symm
theorem trimN_le(l:List Nat):(trimN l).length≤l.length:=(trimN_pre l).length_le
theorem lim_trim{l:List Nat}(h:Lim l):lmL (trimN l)=lm (val l):=by rw[lm,limbs_val h]
theorem lm_len(n:Nat):(lm n).length=(limbs n).length:=by simp[lm,lmL]
theorem lm_len0{n:Nat}:(lm n).length=0↔n=0:=by
 rw[lm_len]
 constructor
 ·intro h
  rcases Nat.eq_zero_or_pos n with h0 | h0
  ·exact h0
  ·rw[limbs_pos (by omega)] at h;simp at h
 ·intro h;subst h;rw[limbs_zero];rfl
theorem lm_le1{n:Nat}:(lm n).length≤1↔n<BB:=by rw[lm_len,limbs_len];simp
def cmpN(a b:Nat):Int:=if a<b then -1 else if a=b then 0 else 1
theorem val_split{l:List Nat}{i x:Nat}(hi:l[i]?=some x):val l=val (l.take i)+BB ^ i*(x+BB*val (l.drop (i+1))):=by
 have hlt:i<l.length:=(List.getElem?_eq_some_iff.1 hi).1
 have hx:l[i]=x:=by rw[List.getElem?_eq_getElem hlt] at hi;exact Option.some.inj hi
 have h1:val (l.take i++l.drop i)=val l:=by rw[List.take_append_drop]
 rw[←h1,val_append,List.drop_eq_getElem_cons hlt,hx,val,List.length_take,Nat.min_eq_left (Nat.le_of_lt hlt)]
theorem val_lt_of{a b:List Nat}(ha:Lim a){i x y:Nat}(hx:a[i]?=some x)(hy:b[i]?=some y)(hxy:x<y)(hd:a.drop (i+1)=b.drop (i+1)):val a<val b:=by
 rw[val_split hx,val_split hy,hd]
 have hlt:i<a.length:=(List.getElem?_eq_some_iff.1 hx).1
 have h1:=val_lt (ha.take i)
 rw[List.length_take,Nat.min_eq_left (Nat.le_of_lt hlt)] at h1
 have h2:BB ^ i*(x+1+BB*val (b.drop (i+1)))≤BB ^ i*(y+BB*val (b.drop (i+1))):=Nat.mul_le_mul_left _ (by omega)
 rw[show x+1+BB*val (b.drop (i+1))=(x+BB*val (b.drop (i+1)))+1 by omega,Nat.mul_add] at h2
 omega
end Go.Eng.Rt
namespace Go.Eng.Rt
open Go.Eng
abbrev LM:Nat:=1000000
theorem r_trim_loop(l:List Nat)(hl:l.length<LM):∀n,n≤l.length→loopU u_ref01_Trim_l0 (lmL l,(n:Int),())=some (.inl (lmL l,(((trimN (l.take n)).length:Nat):Int),())):=by
 intro n
 induction n with
 | zero=>intro _;exact loopU_out (by simp[u_ref01_Trim_l0,trimN])
 | succ n ih=>
  intro hn
  have hlt:n<l.length:=hn
  have ht:l.take (n+1)=l.take n++[l[n]]:=List.take_succ_eq_append_getElem hlt
  have step:u_ref01_Trim_l0 (lmL l,((n+1:Nat):Int),())=if l[n]=0 then some (.inl (lmL l,(n:Int),())) else some (.inr (.inl (lmL l,((n+1:Nat):Int),()))):=by
   unfold u_ref01_Trim_l0
   simp only[ltI_eq,subI_eq]
   rw[decide_eq_true (by omega),show ((n+1:Nat):Int)-1=(n:Int) by omega,wri (by simp only[LM] at hl;omega),idxL_nat,lmL_get,List.getElem?_eq_getElem hlt]
   simp only[cond_true,Option.map_some,obS,limT_cell,limT_int,eqI_eq]
   by_cases h0:l[n]=0
   ·rw[if_pos h0,decide_eq_true (by omega)];rfl
   ·rw[if_neg h0,decide_eq_false (by omega)];rfl
  rw[ht]
  by_cases h0:l[n]=0
  ·rw[if_pos h0] at step
   rw[loopU_go step,ih (by omega),h0,trimN_snoc0]
  ·rw[if_neg h0] at step
   rw[loopU_out step,trimN_snoc h0]
   simp only[List.length_append,List.length_take,Nat.min_eq_left (Nat.le_of_lt hlt),List.length_cons,List.length_nil]
theorem lm_val_len{l:List Nat}(h:Lim l):(lm (val l)).length≤l.length:=by rw[←lim_trim h,lmL_len];exact trimN_le l
theorem r_Trim{l:List Nat}(h:Lim l)(hl:l.length<LM):u_ref01_Trim (lmL l,())=some (lm (val l),()):=by
 unfold u_ref01_Trim
 have e:=r_trim_loop l hl l.length (Nat.le_refl _)
 rw[List.take_length] at e
 simp only[lenL_eq,lmL_len,e,obS,onS_l]
 rw[cutL_int (by omega) (by omega) (by rw[lmL_len];have:=trimN_le l;omega)]
 simp only[Int.toNat_natCast,Int.toNat_zero,List.drop_zero,obS,lmL_take,trimN_take,lim_trim h]
 have hlen:=lm_val_len h
 rw[room_ok (by simp only[List.length_nil];simp only[LM] at hl;omega) (by decide)]
 rfl
theorem r_Trim'{n:Nat}(h:(limbs n).length<LM):u_ref01_Trim (lm n,())=some (lm n,()):=by
 have:=r_Trim (lim_limbs n) h
 rw[val_limbs] at this
 exact this
theorem lm_small{n:Nat}(h:n<B64):(limbs n).length<LM:=by
 have:(limbs n).length≤2:=limbs_len.2 h
 simp only[LM];omega
theorem r_Of{n:Nat}(h:n<B64):u_ref01_Of ((n:Int),())=some (lm n,()):=by
 unfold u_ref01_Of
 simp only[nn32,obS,wr32n,shr32]
 have hd:n/BB<BB:=Nat.div_lt_of_lt_mul h
 have e:=r_Trim (l:=[n%BB,n/BB%BB]) (Lim.cons (Nat.mod_lt _ (by decide)) (Lim.cons (Nat.mod_lt _ (by decide)) Lim.nil)) (by simp only[List.length_cons,List.length_nil,LM];omega)
 have hv:val [n%BB,n/BB%BB]=n:=by
  rw[Nat.mod_eq_of_lt hd]
  simp only[val,Nat.mul_zero,Nat.add_zero]
  exact Nat.mod_add_div n BB
 rw[hv] at e
 simp only[lmL,List.map_cons,List.map_nil,limT] at e
 rw[e]
 rfl
theorem r_small{l:List Nat}(h:Lim l):u_ref01_small (lmL l,())=some (if l.length≤2 then (val l:Int) else 0,decide (l.length≤2),()):=by
 match l,h with
 | [],_=>unfold u_ref01_small;simp[lmL,val]
 | [a],h=>
  have ha:=h.head
  unfold u_ref01_small
  simp only[lenL_eq,lmL_len,List.length_cons,List.length_nil,eqI_eq]
  rw[idxL_int _ (by omega)]
  simp[lmL,limT_cell,limT_any,val,wr64s (show a<B64 by simp only[BB,B64] at *;omega)]
 | [a,b],h=>
  have ha:=h.head
  have hb:=h.tail.head
  unfold u_ref01_small
  simp only[lenL_eq,lmL_len,List.length_cons,List.length_nil,eqI_eq]
  rw[idxL_int _ (by omega),idxL_int _ (by omega)]
  have e1:wr .u64 (a:Int)=(a:Int):=wr64s (by simp only[BB,B64] at *;omega)
  have e2:wr .u64 (b:Int)=(b:Int):=wr64s (by simp only[BB,B64] at *;omega)
  have e3:wr .u64 ((b*BB:Nat):Int)=((b*BB:Nat):Int):=wr64s (by simp only[BB,B64] at *;omega)
  have g0:(lmL [a,b])[(0:Int).toNat]?=some (limT a):=rfl
  have g1:(lmL [a,b])[(1:Int).toNat]?=some (limT b):=rfl
  rw[g0,g1,decide_eq_false (by omega),decide_eq_false (by omega),decide_eq_true (by omega)]
  simp only[cond_false,cond_true,obS,limT_cell,limT_any,nn32,e1,e2,shl32,e3,or64 ha hb]
  rw[if_pos (by omega),decide_eq_true (by omega)]
  simp only[val,Nat.mul_zero,Nat.add_zero]
  rw[Nat.mul_comm b BB]
 | a::b::c::l,h=>
  unfold u_ref01_small
  simp only[lenL_eq,lmL_len,List.length_cons,eqI_eq]
  rw[decide_eq_false (by omega),decide_eq_false (by omega),decide_eq_false (by omega),if_neg (by omega),decide_eq_false (by omega)]
  rfl
theorem r_cmp_loop{a b:List Nat}(ha:Lim a)(hb:Lim b)(hl:a.length=b.length)(hm:a.length<LM):∀n,n≤a.length→a.drop n=b.drop n →
 loopU u_ref01_Cmp_l0 (lmL a,lmL b,(n:Int)-1,())=some (if val a=val b then .inr (.inl ()) else .inl (cmpN (val a) (val b),())):=by
 intro n
 induction n with
 | zero=>
  intro _ hd
  have:a=b:=by simpa using hd
  subst this
  rw[if_pos rfl]
  exact loopU_out (by unfold u_ref01_Cmp_l0;simp only[leI_eq];rw[decide_eq_false (by omega)];rfl)
 | succ n ih=>
  intro hn hd
  have h1:n<a.length:=hn
  have h2:n<b.length:=by omega
  have ga:=List.getElem?_eq_getElem h1
  have gb:=List.getElem?_eq_getElem h2
  have step:u_ref01_Cmp_l0 (lmL a,lmL b,((n+1:Nat):Int)-1,())=if a[n]<b[n] then some (.inr (.inl (-1,()))) else if b[n]<a[n] then some (.inr (.inl (1,()))) else some (.inl (lmL a,lmL b,(n:Int)-1,())):=by
   unfold u_ref01_Cmp_l0
   rw[show ((n+1:Nat):Int)-1=(n:Int) by omega]
   simp only[leI_eq,ltI_eq,subI_eq]
   rw[decide_eq_true (by omega),idxL_nat,idxL_nat,lmL_get,lmL_get,ga,gb,wri' (by omega) (by simp only[LM] at hm;omega)]
   simp only[cond_true,Option.map_some,obS,limT_cell,limT_int]
   by_cases c1:a[n]<b[n]
   ·rw[if_pos c1,decide_eq_true (by omega)];rfl
   ·rw[if_neg c1,decide_eq_false (by omega)]
    by_cases c2:b[n]<a[n]
    ·rw[if_pos c2,decide_eq_true (by omega)];rfl
    ·rw[if_neg c2,decide_eq_false (by omega)];rfl
  by_cases c1:a[n]<b[n]
  ·rw[if_pos c1] at step
   have:=val_lt_of ha ga gb c1 hd
   rw[loopU_out step,if_neg (by omega)]
   unfold cmpN
   rw[if_pos this]
  ·rw[if_neg c1] at step
   by_cases c2:b[n]<a[n]
   ·rw[if_pos c2] at step
    have:=val_lt_of hb gb ga c2 hd.symm
    rw[loopU_out step,if_neg (by omega)]
    unfold cmpN
    rw[if_neg (by omega),if_neg (by omega)]
   ·rw[if_neg c2] at step
    rw[loopU_go step]
    refine ih (by omega) ?_
    rw[List.drop_eq_getElem_cons h1,List.drop_eq_getElem_cons h2,hd,show a[n]=b[n] by omega]
theorem len_lt{x y:Nat}(h:(limbs x).length<(limbs y).length):x<y:=by
 have h1:x<BB ^ (limbs x).length:=limbs_len.1 (Nat.le_refl _)
 have h2:¬y<BB ^ (limbs x).length:=fun hh=>by
  have:=limbs_len.2 hh
  omega
 omega
theorem r_Cmp{x y:Nat}(hx:(limbs x).length<LM)(hy:(limbs y).length<LM):u_ref01_Cmp (lm x,lm y,())=some (cmpN x y,()):=by
 unfold u_ref01_Cmp
 simp only[lenL_eq,lm_len,eqI_eq,ltI_eq,subI_eq]
 by_cases hl:(limbs x).length=(limbs y).length
 ·rw[decide_eq_true (by omega),wri' (by omega) (by simp only[LM] at hx;omega)]
  have:=r_cmp_loop (lim_limbs x) (lim_limbs y) hl hx (limbs x).length (Nat.le_refl _) (by rw[List.drop_length,hl,List.drop_length])
  rw[val_limbs,val_limbs] at this
  simp only[lm,Bool.not_true,cond_false,this,obS]
  by_cases he:x=y
  ·subst he;simp[cmpN]
  ·rw[if_neg he];rfl
 ·rw[decide_eq_false (by omega)]
  simp only[Bool.not_false,cond_true]
  by_cases hc:(limbs x).length<(limbs y).length
  ·have:=len_lt hc
   rw[decide_eq_true (by omega)]
   unfold cmpN
   rw[if_pos this];rfl
  ·have:=len_lt (x:=y) (y:=x) (by omega)
   rw[decide_eq_false (by omega)]
   unfold cmpN
   rw[if_neg (by omega),if_neg (by omega)];rfl
theorem mul_step{a b o:List Nat}(ha:Lim a)(hb:Lim b)(ho:Lim o){i j x y z c:Nat}(hi:a[i]?=some x)(hj:b[j]?=some y)(hz:o[i+j]?=some z)(hc:c<BB)(hla:a.length<LM)(hlb:b.length<LM):
 u_ref01_Mul_l1 (lmL a,lmL b,lmL o,(i:Int),(c:Int),(j:Int),())=some (.inl (lmL a,lmL b,lmL (o.set (i+j) ((c+(x*y+z))%BB)),(i:Int),(((c+(x*y+z))/BB:Nat):Int),((j+1:Nat):Int),())):=by
 have hx:=ha.get hi
 have hy:=hb.get hj
 have hzb:=ho.get hz
 have h1:i<a.length:=(List.getElem?_eq_some_iff.1 hi).1
 have h2:j<b.length:=(List.getElem?_eq_some_iff.1 hj).1
 have h3:i+j<o.length:=(List.getElem?_eq_some_iff.1 hz).1
 have hxy:x*y≤(BB-1)*(BB-1):=Nat.mul_le_mul (by omega) (by omega)
 have hbound:(BB-1)*(BB-1)+(BB-1)+(BB-1)<B64:=by decide
 unfold u_ref01_Mul_l1
 simp only[ltI_eq,lenL_eq,lmL_len,addI_eq,mulI_eq]
 rw[decide_eq_true (by omega)]
 simp only[cond_true,idxL_nat,lmL_get,hi,hj,Option.map_some,obS,limT_cell,limT_any]
 rw[show (i:Int)+(j:Int)=((i+j:Nat):Int) by omega,wri (by simp only[LM] at *;omega),chkI_nat (by omega)]
 simp only[obS,idxN_eq,lmL_get,hz,Option.map_some,limT_cell,limT_any,nn32]
 rw[wr64s (n:=x) (by simp only[BB,B64] at *;omega),wr64s (n:=y) (by simp only[BB,B64] at *;omega),wr64s (n:=z) (by simp only[BB,B64] at *;omega)]
 rw[show (x:Int)*(y:Int)=((x*y:Nat):Int) by push_cast;rfl,wr64s (n:=x*y) (by simp only[BB,B64] at *;omega)]
 rw[show ((x*y:Nat):Int)+(z:Int)=((x*y+z:Nat):Int) by omega,wr64s (n:=x*y+z) (by simp only[BB,B64] at *;omega)]
 rw[show (c:Int)+((x*y+z:Nat):Int)=((c+(x*y+z):Nat):Int) by omega,wr64s (n:=c+(x*y+z)) (by simp only[BB,B64] at *;omega)]
 rw[wr32n,shr32,show (j:Int)+1=((j+1:Nat):Int) by omega,wri (by simp only[LM] at *;omega),limT_upd _ _ ⟨z,rfl⟩,lmL_set]
theorem mul_inner{a b o:List Nat}(ha:Lim a)(hb:Lim b)(ho:Lim o){i x:Nat}(hi:a[i]?=some x)(hlo:o.length=a.length+b.length)(hla:a.length<LM)(hlb:b.length<LM):
 ∀k,k≤b.length→∃(o':List Nat) (c:Nat),loopU u_ref01_Mul_l1 (lmL a,lmL b,lmL o,(i:Int),(0:Int),(0:Int),())=loopU u_ref01_Mul_l1 (lmL a,lmL b,lmL o',(i:Int),(c:Int),(k:Int),()) ∧
  o'.length=o.length∧Lim o'∧c<BB∧val o'+BB ^ (i+k)*c=val o+BB ^ i*(x*val (b.take k))∧∀m,i+k≤m→o'[m]?=o[m]?:=by
 intro k
 induction k with
 | zero=>intro _;exact⟨o,0,rfl,rfl,ho,by decide,by simp[val],fun _ _=>rfl⟩
 | succ k ih=>
  intro hk
  obtain⟨o',c,h1,h2,h3,h4,h5,h6⟩:=ih (by omega)
  have hik:i<a.length:=(List.getElem?_eq_some_iff.1 hi).1
  have hj:=List.getElem?_eq_getElem (show k<b.length from hk)
  have hz:=List.getElem?_eq_getElem (show i+k<o'.length by omega)
  have hs:=mul_step ha hb h3 hi hj hz h4 hla hlb
  refine⟨_,_,h1.trans (loopU_go hs),by rw[List.length_set,h2],h3.set (Nat.mod_lt _ (by decide)) _,?_,?_,fun m hm=>?_⟩
  ·have hx:=ha.get hi
   have hy:=hb.get hj
   have hzb:=h3.get hz
   have hxy:x*b[k]≤(BB-1)*(BB-1):=Nat.mul_le_mul (by omega) (by omega)
   have hbound:(BB-1)*(BB-1)+(BB-1)+(BB-1)<BB*BB:=by decide
   exact Nat.div_lt_of_lt_mul (by omega)
  ·have hv:=val_set (x:=(c+(x*b[k]+o'[i+k]))%BB) hz
   rw[val_take_succ hj]
   have hm:=Nat.mod_add_div (c+(x*b[k]+o'[i+k])) BB
   generalize (c+(x*b[k]+o'[i+k]))%BB=r at *
   generalize (c+(x*b[k]+o'[i+k]))/BB=q at *
   generalize o'[i+k]=z at *
   generalize b[k]=y at *
   generalize val (o'.set (i+k) r)=v' at *
   have e1:BB ^ (i+(k+1))*q=BB ^ (i+k)*(BB*q):=by rw[←Nat.add_assoc,Nat.pow_succ,Nat.mul_assoc]
   have e2:BB ^ (i+k)*(r+BB*q)=BB ^ (i+k)*(c+(x*y+z)):=by rw[hm]
   have e3:BB ^ i*(x*(val (b.take k)+BB ^ k*y))=BB ^ i*(x*val (b.take k))+BB ^ (i+k)*(x*y):=by
    rw[Nat.mul_add,Nat.mul_add,Nat.pow_add,Nat.mul_assoc (BB ^ i) (BB ^ k),←Nat.mul_assoc x (BB ^ k) y,Nat.mul_comm x (BB ^ k),Nat.mul_assoc (BB ^ k) x y]
   rw[e1,e3]
   rw[Nat.mul_add,Nat.mul_add,Nat.mul_add] at e2
   omega
  ·rw[List.getElem?_set_ne (by omega)]
   exact h6 m (by omega)
theorem mul_outer_step{a b o:List Nat}(ha:Lim a)(hb:Lim b)(ho:Lim o){i:Nat}(hi:i<a.length)(hlo:o.length=a.length+b.length)(hla:a.length<LM)(hlb:b.length<LM)(hv:val o=val (a.take i)*val b)(h0:∀m,i+b.length≤m→m<o.length→o[m]?=some 0):
 ∃o',u_ref01_Mul_l0 (lmL a,lmL b,lmL o,(i:Int),())=some (.inl (lmL a,lmL b,lmL o',((i+1:Nat):Int),()))∧o'.length=o.length∧Lim o'∧val o'=val (a.take (i+1))*val b∧∀m,i+1+b.length≤m→m<o'.length→o'[m]?=some 0:=by
 have gi:=List.getElem?_eq_getElem hi
 obtain⟨o',c,h1,h2,h3,h4,h5,h6⟩:=mul_inner ha hb ho gi hlo hla hlb b.length (Nat.le_refl _)
 have hend:u_ref01_Mul_l1 (lmL a,lmL b,lmL o',(i:Int),(c:Int),(b.length:Int),())=some (.inr (.inl (lmL a,lmL b,lmL o',(i:Int),(c:Int),()))):=by
  unfold u_ref01_Mul_l1
  simp only[ltI_eq,lenL_eq,lmL_len]
  rw[decide_eq_false (by omega)];rfl
 have hz:o'[i+b.length]?=some 0:=by rw[h6 _ (Nat.le_refl _)];exact h0 _ (Nat.le_refl _) (by omega)
 refine⟨o'.set (i+b.length) c,?_,by rw[List.length_set,h2],h3.set h4 _,?_,fun m hm hlt=>?_⟩
 ·unfold u_ref01_Mul_l0
  simp only[ltI_eq,lenL_eq,lmL_len,addI_eq]
  rw[decide_eq_true (by omega)]
  simp only[cond_true]
  rw[h1.trans (loopU_out hend)]
  simp only[obS,onS_l,lmL_len]
  rw[show (i:Int)+(b.length:Int)=((i+b.length:Nat):Int) by omega,wri (by simp only[LM] at *;omega),chkI_nat (by omega)]
  simp only[obS,idxN_eq,lmL_get,hz,Option.map_some]
  rw[wr32s h4,show (i:Int)+1=((i+1:Nat):Int) by omega,wri (by simp only[LM] at *;omega),limT_upd _ _ ⟨0,rfl⟩,lmL_set]
 ·have e1:=val_set (x:=c) hz
  rw[val_take_succ gi,Nat.add_mul,←hv]
  rw[List.take_length] at h5
  rw[Nat.mul_assoc]
  omega
 ·rw[List.getElem?_set_ne (by omega),h6 m (by omega)]
  rw[List.length_set,h2] at hlt
  exact h0 m (by omega) hlt
theorem r_MulL{a b:List Nat}(ha:Lim a)(hb:Lim b)(hab:a.length+b.length<LM):u_ref01_Mul (lmL a,lmL b,())=some (lm (val a*val b),()):=by
 have hla:a.length<LM:=by omega
 have hlb:b.length<LM:=by omega
 have key:∀k,k≤a.length→∃o,loopU u_ref01_Mul_l0 (lmL a,lmL b,lmL (List.replicate (a.length+b.length) 0),(0:Int),())=loopU u_ref01_Mul_l0 (lmL a,lmL b,lmL o,(k:Int),()) ∧
  o.length=a.length+b.length∧Lim o∧val o=val (a.take k)*val b∧∀m,k+b.length≤m→m<o.length→o[m]?=some 0:=by
  intro k
  induction k with
  | zero=>
   intro _
   refine⟨_,rfl,by simp,Lim.rep _,by simp[val_rep,val],fun m _ hm=>?_⟩
   rw[List.getElem?_replicate,if_pos (by simpa using hm)]
  | succ k ih=>
   intro hk
   obtain⟨o,h1,h2,h3,h4,h5⟩:=ih (by omega)
   obtain⟨o',g1,g2,g3,g4,g5⟩:=mul_outer_step ha hb h3 (show k<a.length from hk) h2 hla hlb h4 h5
   exact⟨o',h1.trans (loopU_go g1),g2.trans h2,g3,g4,g5⟩
 obtain⟨o,h1,h2,h3,h4,_⟩:=key a.length (Nat.le_refl _)
 have hend:u_ref01_Mul_l0 (lmL a,lmL b,lmL o,(a.length:Int),())=some (.inr (.inl (lmL o,()))):=by
  unfold u_ref01_Mul_l0
  simp only[ltI_eq,lenL_eq,lmL_len]
  rw[decide_eq_false (by omega)];rfl
 unfold u_ref01_Mul
 simp only[lenL_eq,lmL_len,addI_eq]
 rw[show (a.length:Int)+(b.length:Int)=((a.length+b.length:Nat):Int) by omega,wri (by simp only[LM] at *;omega),mkLen_ok (by omega) (by omega) (by simp only[LM] at *;omega) (by decide)]
 simp only[obS,Int.toNat_natCast,repL_eq,rep_lmL]
 rw[h1.trans (loopU_out hend)]
 simp only[obS,onS_l]
 rw[r_Trim h3 (by omega)]
 rw[List.take_length] at h4
 simp only[obS,h4]
theorem r_Mul{x y:Nat}(h:(limbs x).length+(limbs y).length<LM):u_ref01_Mul (lm x,lm y,())=some (lm (x*y),()):=by
 have:=r_MulL (lim_limbs x) (lim_limbs y) h
 rw[val_limbs,val_limbs] at this
 exact this
theorem r_smallN{n:Nat}(h:n<B64):u_ref01_small (lm n,())=some ((n:Int),true,()):=by
 have h2:(limbs n).length≤2:=limbs_len.2 h
 have:=r_small (lim_limbs n)
 rw[if_pos h2,decide_eq_true h2,val_limbs] at this
 exact this
theorem tdivN(a b:Nat):(a:Int).tdiv (b:Int)=((a/b:Nat):Int):=rfl
theorem tmodN(a b:Nat):(a:Int).tmod (b:Int)=((a%b:Nat):Int):=rfl
theorem r_Div{a b:Nat}(ha:a<B64)(hb:b<B64)(h0:b≠0):u_ref01_Div (lm a,lm b,())=some (lm (a/b),lm (a%b),0,()):=by
 unfold u_ref01_Div
 simp only[lenL_eq,eqI_eq,ltI_eq]
 have hbl:(lm b).length≠0:=fun h=>h0 (lm_len0.1 h)
 rw[decide_eq_false (by omega)]
 simp only[cond_false,r_Cmp (lm_small ha) (lm_small hb),obS]
 unfold cmpN
 by_cases hlt:a<b
 ·rw[if_pos hlt,decide_eq_true (by omega)]
  simp only[cond_true,r_Trim' (lm_small ha),obS]
  rw[Nat.div_eq_of_lt hlt,Nat.mod_eq_of_lt hlt,lm_zero]
 ·rw[if_neg hlt]
  have:decide ((if a=b then (0:Int) else 1)<0)=false:=decide_eq_false (by split <;> omega)
  rw[this]
  simp only[cond_false,r_smallN ha,r_smallN hb,obS,cond_true,divI_eq,modI_eq,tdivN,tmodN]
  rw[nz_eq (by omega)]
  have hd:a/b<B64:=Nat.lt_of_le_of_lt (Nat.div_le_self _ _) ha
  have hm:a%b<B64:=Nat.lt_of_le_of_lt (Nat.mod_le _ _) ha
  simp only[obS,tdivN,tmodN,wr64s hd,r_Of hd,r_Of hm]
theorem gcd_loop{a b:Nat}:loopU u_ref01_Gcd_l1 ((a:Int),(b:Int),())=some (.inl (((a.gcd b:Nat):Int),())):=by
 induction b using Nat.strongRecOn generalizing a with
 | _ b ih=>
  by_cases h0:b=0
  ·subst h0
   exact loopU_out (by unfold u_ref01_Gcd_l1;simp[Nat.gcd_zero_right])
  ·have step:u_ref01_Gcd_l1 ((a:Int),(b:Int),())=some (.inl ((b:Int),((a%b:Nat):Int),())):=by
    unfold u_ref01_Gcd_l1
    simp only[eqI_eq,modI_eq]
    rw[decide_eq_false (by omega),nz_eq (by omega)]
    rfl
   rw[loopU_go step,ih (a%b) (Nat.mod_lt _ (Nat.pos_of_ne_zero h0)),Nat.gcd_comm a b,Nat.gcd_rec b a,Nat.gcd_comm]
theorem r_Gcd{a b:Nat}(ha:a<B64)(hb:b<B64):u_ref01_Gcd (lm a,lm b,())=some (lm (a.gcd b),()):=by
 unfold u_ref01_Gcd
 simp only[r_Trim' (lm_small ha),r_Trim' (lm_small hb),obS]
 by_cases h0:b=0
 ·subst h0
  rw[loopU_out (e:=.inr (.inl (lm a,()))) (by unfold u_ref01_Gcd_l0;simp[lm_zero])]
  simp[Nat.gcd_zero_right]
 ·have hbl:(lm b).length≠0:=fun h=>h0 (lm_len0.1 h)
  have hg:a.gcd b<B64:=Nat.lt_of_le_of_lt (Nat.gcd_le_right _ (Nat.pos_of_ne_zero h0)) hb
  rw[loopU_out (e:=.inl (lm (a.gcd b),())) (by
   unfold u_ref01_Gcd_l0
   simp only[ltI_eq,lenL_eq]
   rw[decide_eq_true (by omega)]
   simp only[cond_true,r_smallN ha,r_smallN hb,obS,gcd_loop,onS_l,r_Of hg])]
  rfl
theorem one_len{d:Nat}(hd:d<B64)(h0:d≠0):(lm d).length=1↔d<BB:=by
 constructor
 ·intro h;exact lm_le1.1 (by omega)
 ·intro h;rw[lm_one h0 h];rfl
theorem r_reduce(neg:Bool){n d:Nat}(hn:n<B64)(hd:d<B64)(h0:d≠0):u_ref02_reduce (neg,lm n,lm d,())=some (rNeg (mkRat (sg neg n) d),rNum (mkRat (sg neg n) d),rDen (mkRat (sg neg n) d),()):=by
 unfold u_ref02_reduce
 simp only[r_Trim' (lm_small hn),r_Trim' (lm_small hd),obS,lenL_eq,eqI_eq]
 by_cases hz:n=0
 ·subst hz
  rw[decide_eq_true (by rw[lm_zero];rfl),mk_zero,rNeg_zero,rNum_zero,rDen_zero]
  rfl
 ·have hnl:(lm n).length≠0:=fun h=>hz (lm_len0.1 h)
  have hg:n.gcd d<B64:=Nat.lt_of_le_of_lt (Nat.gcd_le_right _ (Nat.pos_of_ne_zero h0)) hd
  have hg0:n.gcd d≠0:=Nat.gcd_ne_zero_right h0
  rw[decide_eq_false (by omega),mk_neg neg h0 hz,rNum_mk neg h0,rDen_mk neg h0]
  have hq0:d/n.gcd d≠0:=by
   have:=Nat.div_pos (Nat.le_of_dvd (Nat.pos_of_ne_zero h0) (Nat.gcd_dvd_right n d)) (Nat.pos_of_ne_zero hg0)
   omega
  have hq:d/n.gcd d<B64:=Nat.lt_of_le_of_lt (Nat.div_le_self _ _) hd
  have fin:∀(N:List T) (e:Nat),e<B64→e≠0→(ob (α:=((Bool×List T×List T×Unit×Bool×T×T×Unit)⊕Empty)) (bif (eqI (lenL (lm e)) (1:Int)) then (ob (idxL (lm e) (0:Int)) fun x11=>(ob (T.int? .u32 (T.cell x11 0)) fun x12=>(bif (eqI x12 (1:Int)) then (some (Sum.inl (neg,N,[],(),false,(T.v (.slice none 0 0)),(T.v (.slice none 0 0)),()))) else (some (Sum.inl (neg,N,lm e,(),false,(T.v (.slice none 0 0)),(T.v (.slice none 0 0)),())))))) else (some (Sum.inl (neg,N,lm e,(),false,(T.v (.slice none 0 0)),(T.v (.slice none 0 0)),()))))
   fun q13=>onS q13 (fun t14=>(some (t14.1,t14.2.1,t14.2.2.1,()))) fun q15=>noS q15)=some (neg,N,dn e,()):=by
   intro N e he he0
   simp only[lenL_eq,eqI_eq]
   by_cases h1:e<BB
   ·rw[decide_eq_true (by rw[lm_one he0 h1];rfl)]
    simp only[cond_true]
    rw[lm_one he0 h1,idxL_int _ (by omega)]
    simp only[Int.toNat_zero,List.getElem?_cons_zero,obS,limT_cell,limT_int]
    unfold dn
    by_cases h2:e=1
    ·subst h2;rfl
    ·rw[if_neg h2,decide_eq_false (by omega),lm_one he0 h1];rfl
   ·rw[decide_eq_false (by have:=(one_len he he0).1;omega)]
    unfold dn
    rw[if_neg (by simp only[BB] at h1;omega)]
    rfl
  simp only[cond_false,r_Gcd hn hd,obS,lenL_eq]
  have tail:=fin (lm (n/n.gcd d)) (d/n.gcd d) hq hq0
  simp only[lenL_eq,eqI_eq] at tail
  by_cases h1:n.gcd d=1
  ·have e1:lm (n.gcd d)=[limT 1]:=by rw[h1];exact lm_one (by decide) (by decide)
   rw[e1]
   rw[h1,Nat.div_one,Nat.div_one] at tail ⊢
   simp only[List.length_cons,List.length_nil]
   rw[decide_eq_true (by omega),idxL_int _ (by omega)]
   simp only[Bool.not_true,cond_false,Int.toNat_zero,List.getElem?_cons_zero,obS,limT_cell,limT_int]
   rw[decide_eq_true (by omega)]
   simp only[Bool.not_true,cond_false,obS,onS_l]
   exact tail
  ·by_cases h2:n.gcd d<BB
   ·have e1:lm (n.gcd d)=[limT (n.gcd d)]:=lm_one hg0 h2
    rw[decide_eq_true (by rw[e1];rfl)]
    have e2:idxL (lm (n.gcd d)) 0=some (limT (n.gcd d)):=by rw[e1,idxL_int _ (by omega)];rfl
    simp only[Bool.not_true,cond_false,e2,obS,limT_cell,limT_int]
    rw[decide_eq_false (by omega)]
    simp only[Bool.not_false,cond_true,r_Div hn hg hg0,r_Div hd hg hg0,obS,onS_l]
    exact tail
   ·rw[decide_eq_false (by have:=(one_len hg hg0).1;omega)]
    simp only[Bool.not_false,cond_true,r_Div hn hg hg0,r_Div hd hg hg0,obS,onS_l]
    exact tail
theorem r_size{n:Int}(h1:-4611686018427387904<n)(h2:n<4611686018427387904):u_ref02_size (n,())=some (lm n.natAbs,decide (n<0),()):=by
 unfold u_ref02_size
 simp only[ltI_eq,addI_eq,subI_eq]
 by_cases h:n<0
 ·rw[decide_eq_true h]
  have e:wr .u64 (wr .u64 (wr .i64 (0-wr .i64 (n+1)))+1)=((n.natAbs:Nat):Int):=by
   rw[wri' (n:=n+1) (by omega) (by omega),wri' (by omega) (by omega),show 0-(n+1)=((n.natAbs-1:Nat):Int) by omega,wr64s (by simp only[B64];omega),
    show ((n.natAbs-1:Nat):Int)+1=((n.natAbs:Nat):Int) by omega,wr64s (by simp only[B64];omega)]
  simp only[cond_true,e,r_Of (n:=n.natAbs) (by simp only[B64];omega),obS]
 ·rw[decide_eq_false h]
  have e:wr .u64 n=((n.natAbs:Nat):Int):=by
   rw[show n=((n.natAbs:Nat):Int) by omega,wr64s (by simp only[B64];omega)];rfl
  simp only[cond_false,e,r_Of (n:=n.natAbs) (by simp only[B64];omega),obS]
def fracQ(n d:Int):Rat:=mkRat (sg (decide (n<0) != decide (d<0)) n.natAbs) d.natAbs
theorem bneq(a b:Bool):(!(a==b))=(a != b):=rfl
theorem r_Make{n d:Int}(h1:-4611686018427387904<n)(h2:n<4611686018427387904)(h3:-4611686018427387904<d)(h4:d<4611686018427387904)(h0:d≠0):
 u_ref02_Make (n,d,())=some (rNeg (fracQ n d),rNum (fracQ n d),rDen (fracQ n d),0,()):=by
 unfold u_ref02_Make
 simp only[eqI_eq]
 rw[decide_eq_false h0]
 simp only[cond_false,r_size h1 h2,r_size h3 h4,obS,eqB_eq,bneq]
 rw[r_reduce _ (by simp only[B64];omega) (by simp only[B64];omega) (by omega)]
 rfl
theorem r_Frac{n d:Int}(h1:-4611686018427387904<n)(h2:n<4611686018427387904)(h3:-4611686018427387904<d)(h4:d<4611686018427387904)(h0:d≠0):
 u_ref02_Frac (n,d,())=some (rNeg (fracQ n d),rNum (fracQ n d),rDen (fracQ n d),()):=by
 unfold u_ref02_Frac
 simp only[r_Make h1 h2 h3 h4 h0,obS]
theorem fracQ_pos{n d:Int}(hd:0<d):fracQ n d=mkRat n d.natAbs:=by
 unfold fracQ
 rw[decide_eq_false (show ¬d<0 by omega)]
 congr 1
 unfold sg
 by_cases h:n<0
 ·rw[decide_eq_true h];simp;omega
 ·rw[decide_eq_false h];simp;omega
def Fit(q:Rat):Prop:=(limbs q.num.natAbs).length<LM∧(limbs q.den).length<LM
theorem Sm.fit{q:Rat}(h:Sm q):Fit q:=⟨lm_small (by have:=h.1;simp only[B64];omega),lm_small (by have:=h.2;simp only[B64];omega)⟩
theorem dn_lm(d:Nat):∃m,dn d=lm m∧(m=d∨m=0):=by
 unfold dn
 split
 ·exact⟨0,lm_zero.symm,.inr rfl⟩
 ·exact⟨d,rfl,.inl rfl⟩
theorem cmpN_zero{a b:Nat}:cmpN a b=0↔a=b:=by
 unfold cmpN
 by_cases h1:a<b
 ·rw[if_pos h1];omega
 ·rw[if_neg h1];split <;> omega
theorem r_Same{p q:Rat}(hp:Fit p)(hq:Fit q):u_ref02_Same (rNeg p,rNum p,rDen p,rNeg q,rNum q,rDen q,())=some (decide (p=q),()):=by
 unfold u_ref02_Same
 simp only[eqB_eq]
 by_cases hn:rNeg p=rNeg q
 ·rw[hn]
  simp only[beq_self_eq_true,cond_true]
  unfold rNum
  rw[r_Cmp hp.1 hq.1]
  simp only[obS,eqI_eq]
  by_cases h1:p.num.natAbs=q.num.natAbs
  ·rw[decide_eq_true (cmpN_zero.2 h1)]
   simp only[cond_true]
   obtain⟨m,e1,c1⟩:=dn_lm p.den
   obtain⟨m',e2,c2⟩:=dn_lm q.den
   have l1:(limbs m).length<LM:=by rcases c1 with rfl | rfl;exact hp.2;rw[limbs_zero];decide
   have l2:(limbs m').length<LM:=by rcases c2 with rfl | rfl;exact hq.2;rw[limbs_zero];decide
   unfold rDen
   rw[e1,e2,r_Cmp l1 l2]
   simp only[obS]
   congr 2
   rw[decide_eq_decide,cmpN_zero]
   constructor
   ·intro h
    exact rat_ext hn h1 (dn_inj p.den_nz q.den_nz (by rw[e1,e2,h]))
   ·intro h
    subst h
    exact lm_inj (e1.symm.trans e2)
  ·rw[decide_eq_false (fun h=>h1 (cmpN_zero.1 h)),decide_eq_false (fun h=>h1 (by rw[h]))]
   rfl
 ·have hb:(rNeg p==rNeg q)=false:=by simpa using hn
  rw[hb,decide_eq_false (fun h=>hn (by rw[h]))]
  rfl
def sgnQ(q:Rat):Int:=if q=0 then 0 else if rNeg q then -1 else 1
theorem rNum_len{q:Rat}:(rNum q).length=0↔q=0:=by unfold rNum;rw[lm_len0,num_zero]
theorem r_Sign(q:Rat):u_ref02_Sign (rNeg q,rNum q,rDen q,())=some (sgnQ q,()):=by
 unfold u_ref02_Sign sgnQ
 simp only[lenL_eq,eqI_eq]
 by_cases h:q=0
 ·rw[if_pos h,decide_eq_true (by have:=rNum_len.2 h;omega)];rfl
 ·rw[if_neg h,decide_eq_false (fun hh=>h (rNum_len.1 (by omega)))]
  cases rNeg q <;> rfl
theorem neg_parts(q:Rat):rNum (-q)=rNum q∧rDen (-q)=rDen q∧rNeg (-q)=(!rNeg q&&decide (q≠0)):=by
 refine⟨by unfold rNum;rw[Rat.neg_num,Int.natAbs_neg],by unfold rDen;rw[Rat.neg_den],?_⟩
 unfold rNeg
 rw[Rat.neg_num]
 have h0:q.num=0↔q=0:=Rat.num_eq_zero
 by_cases h:q=0
 ·subst h;rfl
 ·have:q.num≠0:=fun hh=>h (h0.1 hh)
  rw[decide_eq_true h,Bool.and_true]
  by_cases hl:q.num<0
  ·rw[decide_eq_true hl,decide_eq_false (by omega)];rfl
  ·rw[decide_eq_false hl,decide_eq_true (by omega)];rfl
theorem r_Neg(q:Rat):u_ref02_Neg (rNeg q,rNum q,rDen q,())=some (rNeg (-q),rNum (-q),rDen (-q),()):=by
 obtain⟨e1,e2,e3⟩:=neg_parts q
 unfold u_ref02_Neg
 simp only[ltI_eq,lenL_eq,e1,e2,e3]
 cases hn:rNeg q with
 | true=>simp
 | false=>
  simp only[Bool.not_false,cond_true,Bool.true_and]
  congr 3
  apply propext
  have:=rNum_len (q:=q)
  constructor
  ·intro h hq;have:=this.2 hq;omega
  ·intro h;have:(rNum q).length≠0:=fun hh=>h (this.1 hh);omega
end Go.Eng.Rt
namespace Go.Eng.Rt
open Go.Eng
theorem n_trim_loop(l:List Nat)(hl:l.length<LM):∀n,n≤l.length→loopU u_natural_trim_l0 (lmL l,(n:Int),())=some (.inl (lmL l,(((trimN (l.take n)).length:Nat):Int),())):=
 r_trim_loop l hl
theorem n_trim{l:List Nat}(h:Lim l)(hl:l.length<LM):u_natural_trim (lmL l,())=some (lm (val l),()):=by
 unfold u_natural_trim
 have e:=n_trim_loop l hl l.length (Nat.le_refl _)
 rw[List.take_length] at e
 simp only[lenL_eq,lmL_len,e,obS,onS_l]
 rw[cutL_int (by omega) (by omega) (by rw[lmL_len];have:=trimN_le l;omega)]
 simp only[Int.toNat_natCast,Int.toNat_zero,List.drop_zero,obS,lmL_take,trimN_take,lim_trim h]
theorem n_trim'{n:Nat}(h:(limbs n).length<LM):u_natural_trim (lm n,())=some (lm n,()):=by
 have:=n_trim (lim_limbs n) h
 rw[val_limbs] at this
 exact this
def lenBody(s:ByteArray)(t:(Int×Unit)):Option (Int×Unit):=
 (ob (α:=((Int×Int×Unit)⊕Empty)) (bif (leI (65536:Int) t.1) then (ob (nn (16:Int)) fun x0=>(some (Sum.inl ((shrI .u32 t.1 x0),(16:Int),())))) else (some (Sum.inl (t.1,(0:Int),())))) fun q1=>onS q1 (fun t2=>(ob (α:=((Int×Int×Unit)⊕Empty)) (bif (leI (256:Int) t2.1) then (ob (nn (8:Int)) fun x3=>(some (Sum.inl ((shrI .u32 t2.1 x3),(wr .i64 (addI t2.2.1 (8:Int))),())))) else (some (Sum.inl (t2.1,t2.2.1,())))) fun q4=>onS q4 (fun t5=>(ob (idxS s (wr .u8 t5.1)) fun x6=>(some ((wr .i64 (addI t5.2.1 (wr .i64 x6))),())))) fun q7=>noS q7)) fun q8=>noS q8)
def tabOK(s:ByteArray):Bool:=(List.range 256).all fun y=>match idxS s (y:Int) with
 | some k=>decide (0≤k)&&decide (k≤8)&&(y==0||decide (1≤k))
 | none=>false
theorem len_tab:∃s,(∀t,u_math_bits_Len32 t=lenBody s t)∧tabOK s=true:=⟨_,fun _=>rfl,by decide +kernel⟩
theorem shr16(n:Nat):shrI .u32 (n:Int) 16=((n/65536:Nat):Int):=by
 unfold shrI
 rw[show ((2:Int) ^ (min (Int.toNat 16) (IntKind.bits .u32)))=((65536:Nat):Int) from rfl,Int.fdiv_eq_ediv_of_nonneg _ (by omega)]
 exact(Int.natCast_ediv n _).symm
theorem shr8(n:Nat):shrI .u32 (n:Int) 8=((n/256:Nat):Int):=by
 unfold shrI
 rw[show ((2:Int) ^ (min (Int.toNat 8) (IntKind.bits .u32)))=((256:Nat):Int) from rfl,Int.fdiv_eq_ediv_of_nonneg _ (by omega)]
 exact(Int.natCast_ediv n _).symm
theorem n_Len32{x:Nat}(hx:x<BB):∃k:Nat,u_math_bits_Len32 ((x:Int),())=some ((k:Int),())∧k≤32∧(x≠0→k≠0):=by
 obtain⟨s,hs,ht⟩:=len_tab
 have tab:∀y:Nat,y<256→∃k:Nat,idxS s (wr .u8 (y:Int))=some (k:Int)∧k≤8∧(y≠0→k≠0):=fun y hy=>by
  have:=List.all_eq_true.1 ht y (List.mem_range.2 hy)
  rw[wrU8 (by omega) (by omega)]
  cases hi:idxS s (y:Int) with
  | none=>rw[hi] at this;cases this
  | some k=>
   rw[hi] at this
   simp only[Bool.and_eq_true,decide_eq_true_eq,Bool.or_eq_true,beq_iff_eq] at this
   obtain⟨k',rfl⟩:=Int.eq_ofNat_of_zero_le this.1.1
   exact⟨k',rfl,by omega,fun h=>by omega⟩
 rw[hs]
 unfold lenBody
 have n16:nn (16:Int)=some 16:=by unfold nn;rfl
 have n8:nn (8:Int)=some 8:=by unfold nn;rfl
 simp only[leI_eq,addI_eq]
 have last:∀(y c:Nat),y<256→c≤24→∃k:Nat,(ob (idxS s (wr .u8 (y:Int))) fun x6=>(some ((wr .i64 ((c:Int)+(wr .i64 x6))),())))=some ((k:Int),())∧k≤32∧(y≠0∨c≠0→k≠0):=fun y c hy hc=>by
  obtain⟨k,h1,h2,h3⟩:=tab y hy
  rw[h1]
  simp only[obS]
  rw[wri (n:=k) (by omega),show (c:Int)+(k:Int)=((c+k:Nat):Int) by omega,wri (by omega)]
  exact⟨c+k,rfl,by omega,fun h=>by omega⟩
 by_cases h1:65536≤x
 ·rw[decide_eq_true (by omega)]
  simp only[cond_true,n16,obS,shr16,onS_l]
  by_cases h2:256≤x/65536
  ·rw[decide_eq_true (by omega)]
   simp only[cond_true,n8,obS,shr8,onS_l]
   rw[show (16:Int)+8=((24:Nat):Int) from rfl,wri (by omega)]
   obtain⟨k,e1,e2,e3⟩:=last (x/65536/256) 24 (by simp only[BB] at hx;omega) (by omega)
   exact⟨k,e1,e2,fun _=>e3 (.inr (by omega))⟩
  ·rw[decide_eq_false (by omega)]
   simp only[cond_false,obS,onS_l]
   obtain⟨k,e1,e2,e3⟩:=last (x/65536) 16 (by omega) (by omega)
   exact⟨k,e1,e2,fun _=>e3 (.inr (by omega))⟩
 ·rw[decide_eq_false (by omega)]
  simp only[cond_false,obS,onS_l]
  by_cases h2:256≤x
  ·rw[decide_eq_true (by omega)]
   simp only[cond_true,n8,obS,shr8,onS_l]
   rw[show (0:Int)+8=((8:Nat):Int) from rfl,wri (by omega)]
   obtain⟨k,e1,e2,e3⟩:=last (x/256) 8 (by omega) (by omega)
   exact⟨k,e1,e2,fun _=>e3 (.inr (by omega))⟩
  ·rw[decide_eq_false (by omega)]
   simp only[cond_false,obS,onS_l]
   obtain⟨k,e1,e2,e3⟩:=last x 0 (by omega) (by omega)
   exact⟨k,e1,e2,fun h=>e3 (.inl h)⟩
theorem limbs_last{n:Nat}(h:n≠0):∃x,(limbs n)[(limbs n).length-1]?=some x∧x≠0∧x<BB:=by
 have hne:limbs n≠[]:=limbs_ne h
 obtain⟨m,a,e⟩:∃m a,limbs n=m++[a]:=⟨(limbs n).dropLast,(limbs n).getLast hne,(List.dropLast_concat_getLast hne).symm⟩
 have hl:=lim_limbs n
 refine⟨a,by rw[e];simp,?_,hl a (by rw[e];simp)⟩
 intro h0
 subst h0
 have h1:limbs (val (limbs n))=trimN (limbs n):=limbs_val hl
 rw[val_limbs,e,trimN_snoc0] at h1
 have h2:=congrArg List.length h1
 have h3:=trimN_le m
 simp at h2
 omega
theorem n_Bits{n:Nat}(h:(limbs n).length<LM):∃k:Nat,u_natural_Bits (lm n,())=some ((k:Int),())∧(k=0↔n=0):=by
 unfold u_natural_Bits
 simp only[n_trim' h,obS,lenL_eq,eqI_eq,subI_eq,mulI_eq,addI_eq]
 by_cases h0:n=0
 ·subst h0
  rw[decide_eq_true (by rw[lm_zero];rfl)]
  exact⟨0,rfl,by simp⟩
 ·have hl:(lm n).length≠0:=fun hh=>h0 (lm_len0.1 hh)
  obtain⟨x,h1,h2,h3⟩:=limbs_last h0
  obtain⟨k,g1,g2,g3⟩:=n_Len32 h3
  rw[decide_eq_false (by omega),wri' (by omega) (by rw[lm_len];simp only[LM] at h;omega)]
  have hll:=lm_len n
  rw[show ((lm n).length:Int)-1=(((limbs n).length-1:Nat):Int) by omega]
  simp only[cond_false,idxL_nat]
  unfold lm
  simp only[lmL_get,h1,Option.map_some,obS,limT_cell,limT_int,g1]
  rw[show (32:Int)*(((limbs n).length-1:Nat):Int)=((32*((limbs n).length-1):Nat):Int) by push_cast;rfl,wri (by simp only[LM] at h;omega),
   show ((32*((limbs n).length-1):Nat):Int)+(k:Int)=((32*((limbs n).length-1)+k:Nat):Int) by omega,wri (by simp only[LM] at h;omega)]
  exact⟨_,rfl,by constructor <;> intro hh <;> have:=g3 h2 <;> omega⟩
theorem n_cmp_loop{a b:List Nat}(ha:Lim a)(hb:Lim b)(hl:a.length=b.length)(hm:a.length<LM):∀n,n≤a.length→a.drop n=b.drop n →
 loopU u_natural_Cmp_l0 (lmL a,lmL b,(n:Int)-1,())=some (if val a=val b then .inr (.inl ()) else .inl (cmpN (val a) (val b),())):=by
 intro n
 induction n with
 | zero=>
  intro _ hd
  have:a=b:=by simpa using hd
  subst this
  rw[if_pos rfl]
  exact loopU_out (by unfold u_natural_Cmp_l0;simp only[leI_eq];rw[decide_eq_false (by omega)];rfl)
 | succ n ih=>
  intro hn hd
  have h1:n<a.length:=hn
  have h2:n<b.length:=by omega
  have ga:=List.getElem?_eq_getElem h1
  have gb:=List.getElem?_eq_getElem h2
  have step:u_natural_Cmp_l0 (lmL a,lmL b,((n+1:Nat):Int)-1,())=if a[n]<b[n] then some (.inr (.inl (-1,()))) else if b[n]<a[n] then some (.inr (.inl (1,()))) else some (.inl (lmL a,lmL b,(n:Int)-1,())):=by
   unfold u_natural_Cmp_l0
   rw[show ((n+1:Nat):Int)-1=(n:Int) by omega]
   simp only[leI_eq,ltI_eq,subI_eq,eqI_eq]
   rw[decide_eq_true (by omega),idxL_nat,idxL_nat,lmL_get,lmL_get,ga,gb,wri' (by omega) (by simp only[LM] at hm;omega)]
   simp only[cond_true,Option.map_some,obS,limT_cell,limT_int]
   by_cases c1:a[n]<b[n]
   ·rw[if_pos c1,decide_eq_false (by omega),decide_eq_true (by omega)];rfl
   ·rw[if_neg c1]
    by_cases c2:b[n]<a[n]
    ·rw[if_pos c2,decide_eq_false (by omega),decide_eq_false (by omega)];rfl
    ·rw[if_neg c2,decide_eq_true (by omega)];rfl
  by_cases c1:a[n]<b[n]
  ·rw[if_pos c1] at step
   have:=val_lt_of ha ga gb c1 hd
   rw[loopU_out step,if_neg (by omega)]
   unfold cmpN
   rw[if_pos this]
  ·rw[if_neg c1] at step
   by_cases c2:b[n]<a[n]
   ·rw[if_pos c2] at step
    have:=val_lt_of hb gb ga c2 hd.symm
    rw[loopU_out step,if_neg (by omega)]
    unfold cmpN
    rw[if_neg (by omega),if_neg (by omega)]
   ·rw[if_neg c2] at step
    rw[loopU_go step]
    refine ih (by omega) ?_
    rw[List.drop_eq_getElem_cons h1,List.drop_eq_getElem_cons h2,hd,show a[n]=b[n] by omega]
theorem n_Cmp{x y:Nat}(hx:(limbs x).length<LM)(hy:(limbs y).length<LM):u_natural_Cmp (lm x,lm y,())=some (cmpN x y,()):=by
 unfold u_natural_Cmp
 simp only[n_trim' hx,n_trim' hy,obS,lenL_eq,lm_len,eqI_eq,ltI_eq,subI_eq]
 by_cases hl:(limbs x).length=(limbs y).length
 ·rw[decide_eq_true (by omega),wri' (by omega) (by simp only[LM] at hx;omega)]
  have:=n_cmp_loop (lim_limbs x) (lim_limbs y) hl hx (limbs x).length (Nat.le_refl _) (by rw[List.drop_length,hl,List.drop_length])
  rw[val_limbs,val_limbs] at this
  simp only[lm,Bool.not_true,cond_false,this,obS]
  by_cases he:x=y
  ·subst he;simp[cmpN]
  ·rw[if_neg he];rfl
 ·rw[decide_eq_false (by omega)]
  simp only[Bool.not_false,cond_true]
  by_cases hc:(limbs x).length<(limbs y).length
  ·have:=len_lt hc
   rw[decide_eq_true (by omega)]
   unfold cmpN
   rw[if_pos this];rfl
  ·have:=len_lt (x:=y) (y:=x) (by omega)
   rw[decide_eq_false (by omega)]
   unfold cmpN
   rw[if_neg (by omega),if_neg (by omega)];rfl
theorem p_word{n:Nat}(h:n<BB):u_rational_word (lm n,())=some ((n:Int),()):=by
 unfold u_rational_word
 by_cases h0:n=0
 ·subst h0
  rw[lm_zero]
  rw[loopU_out (e:=.inl (0,())) (by simp[u_rational_word_l0,wri'])]
  rfl
 ·rw[lm_one h0 h]
  have e:bitI .or .u64 (0:Int) (n:Int)=(n:Int):=by
   have:=or64' (a:=n) (b:=0) h (by decide)
   simpa using this
  rw[loopU_go (s':=([limT n],(n:Int),-1,())) (by
   unfold u_rational_word_l0
   simp only[leI_eq,lenL_eq,subI_eq,List.length_cons,List.length_nil]
   rw[wri' (by omega) (by omega),decide_eq_true (by omega),idxL_int _ (by omega),wri' (by omega) (by omega)]
   simp only[cond_true,nn32,obS]
   have e2:shlI .u64 (0:Int) 32=0:=by have:=shl32 0;simpa using this
   have e3:wr .u64 (0:Int)=0:=wr64s (n:=0) (by decide)
   simp[limT_cell,limT_any,e2,e3,wr64s (show n<B64 by simp only[BB,B64] at *;omega),e])]
  rw[loopU_out (e:=.inl ((n:Int),())) (by simp[u_rational_word_l0])]
  rfl
def S1q(q:Rat):Prop:=q.num.natAbs<BB∧q.den<BB
theorem Sm.s1{q:Rat}(h:Sm q):S1q q:=⟨by have:=h.1;simp only[BB];omega,by have:=h.2;simp only[BB];omega⟩
theorem p_parts{q:Rat}(h:S1q q)(b:Bool):u_rational_parts (b,rNum q,rDen q,())=some ((q.num.natAbs:Int),(q.den:Int),true,()):=by
 obtain⟨h1,h2⟩:=h
 have hd:=q.den_nz
 have l1:(rNum q).length≤1:=lm_le1.2 h1
 unfold u_rational_parts
 simp only[ltI_eq,lenL_eq,eqI_eq]
 rw[decide_eq_false (by omega)]
 have w:u_rational_word (rNum q,())=some ((q.num.natAbs:Int),()):=p_word h1
 rw[rDen_sm h2]
 by_cases hd1:q.den=1
 ·rw[if_pos hd1]
  simp only[List.length_nil]
  rw[decide_eq_false (by omega),decide_eq_false (by omega)]
  simp only[cond_false,obS,onS_l,w]
  rw[hd1];rfl
 ·rw[if_neg hd1]
  simp only[List.length_cons,List.length_nil]
  rw[decide_eq_false (by omega),decide_eq_true (by omega),idxL_int _ (by omega)]
  simp only[cond_false,cond_true,Int.toNat_zero,List.getElem?_cons_zero,obS,limT_cell,limT_any,onS_l,w]
  rw[wr64s (by simp only[BB,B64] at *;omega),decide_eq_false (by omega)]
  rfl
theorem p_divisor(a b:Nat):u_rational_divisor ((a:Int),(b:Int),())=some (((a.gcd b:Nat):Int),()):=by
 unfold u_rational_divisor
 have:loopU u_rational_divisor_l0 ((a:Int),(b:Int),())=some (.inl (((a.gcd b:Nat):Int),())):=gcd_loop
 rw[this];rfl
theorem cutN_eq{α:Type}(l:List α)(a n:Nat):cutN l a n=(l.drop a).take n:=by unfold cutN;rfl
theorem addN_eq(a b:Nat):addN a b=a+b:=by unfold addN;rfl
theorem rep4:repL 4 (T.v (.int .u32 (0:Int)))=[limT 0,limT 0,limT 0,limT 0]:=by rw[repL_eq];rfl
theorem mkLen4:mkLen (4:Int) 4 4=some (4,4):=by unfold mkLen;rfl
theorem chk0{n:Int}(h:0<n):chkI n 0=some 0:=by rw[chkI_int (by omega) h];rfl
theorem lim_wr(n:Nat):T.v (.int .u32 (wr .u32 (n:Int)))=limT (n%BB):=by rw[wr32n];rfl
theorem upd0(n m:Nat):T.upd 1 (limT n) 0 [limT m]=limT m:=T_upd1 _ _
theorem k1:cut3 4 0 1 1=some (0,1):=by unfold cut3;rfl
theorem k2:cut3 4 1 2 2=some (1,1):=by unfold cut3;rfl
theorem k3:cut3 4 1 3 3=some (1,2):=by unfold cut3;rfl
theorem k4:cut3 4 0 2 2=some (0,2):=by unfold cut3;rfl
theorem k5:cut3 4 2 3 3=some (2,1):=by unfold cut3;rfl
theorem k6:cut3 4 2 4 4=some (2,2):=by unfold cut3;rfl
theorem k7:cutI 4 1 4=some (1,3):=by unfold cutI;rfl
theorem k8:cutI 4 2 4=some (2,2):=by unfold cutI;rfl
theorem k9:wr .i64 (1+1)=2:=wr64 (by omega) (by omega)
theorem k10:wr .i64 (1+2)=3:=wr64 (by omega) (by omega)
theorem k11:wr .i64 (2+1)=3:=wr64 (by omega) (by omega)
theorem k12:wr .i64 (2+2)=4:=wr64 (by omega) (by omega)
theorem k19:natI 3=3:=by unfold natI;rfl
theorem k20:natI 2=2:=by unfold natI;rfl
theorem k13:chkI 4 0=some 0:=by unfold chkI;rfl
theorem k14:chkI 4 1=some 1:=by unfold chkI;rfl
theorem k15:chkI 3 0=some 0:=by unfold chkI;rfl
theorem k16:chkI 3 1=some 1:=by unfold chkI;rfl
theorem k17:chkI 2 0=some 0:=by unfold chkI;rfl
theorem k18:chkI 2 1=some 1:=by unfold chkI;rfl
theorem p_short(neg:Bool){n d:Nat}(hn:n<B64)(hd:d<B64)(h0:d≠0):
 u_rational_short (neg,(n:Int),(d:Int),())=some (rNeg (mkRat (sg neg n) d),rNum (mkRat (sg neg n) d),rDen (mkRat (sg neg n) d),()):=by
 unfold u_rational_short
 simp only[eqI_eq]
 by_cases hz:n=0
 ·subst hz
  rw[decide_eq_true (by omega),mk_zero,rNeg_zero,rNum_zero,rDen_zero]
  rfl
 ·rw[decide_eq_false (by omega)]
  have hg0:n.gcd d≠0:=Nat.gcd_ne_zero_right h0
  have hq1:n/n.gcd d≠0:=by
   have:=Nat.div_pos (Nat.le_of_dvd (Nat.pos_of_ne_zero hz) (Nat.gcd_dvd_left n d)) (Nat.pos_of_ne_zero hg0)
   omega
  have hq2:d/n.gcd d≠0:=by
   have:=Nat.div_pos (Nat.le_of_dvd (Nat.pos_of_ne_zero h0) (Nat.gcd_dvd_right n d)) (Nat.pos_of_ne_zero hg0)
   omega
  have b1:n/n.gcd d<B64:=Nat.lt_of_le_of_lt (Nat.div_le_self _ _) hn
  have b2:d/n.gcd d<B64:=Nat.lt_of_le_of_lt (Nat.div_le_self _ _) hd
  rw[mk_neg neg h0 hz,rNum_mk neg h0,rDen_mk neg h0]
  simp only[cond_false,p_divisor,obS,nz_eq (show ((n.gcd d:Nat):Int)≠0 by omega),mkLen4,rep4,lenL_eq,List.length_cons,List.length_nil,divI_eq,tdivN,wr64s b1,wr64s b2]
  generalize n/n.gcd d=N at *
  generalize d/n.gcd d=M at *
  clear hn hd hz h0 hg0
  have m1:N%BB<BB:=Nat.mod_lt _ (by decide)
  have m2:M%BB<BB:=Nat.mod_lt _ (by decide)
  have c1:N/BB<BB:=Nat.div_lt_of_lt_mul b1
  have c2:M/BB<BB:=Nat.div_lt_of_lt_mul b2
  rw[chk0 (by omega)]
  simp only[obS,idxN_eq,List.getElem?_cons_zero,nn32,shr32,lim_wr,upd0,List.set_cons_zero,ltI_eq,addI_eq]
  have l4:∀a b c d:T,(([a,b,c,d]:List T).length:Int)=4:=fun _ _ _ _=>rfl
  have dm:∀(m:Nat),m<B64→decide (((m/BB:Nat):Int)=0)=decide (m<BB):=fun m hm=>by
   rw[decide_eq_decide]
   constructor
   ·intro h
    have:m/BB=0:=by omega
    exact(Nat.div_eq_zero_iff.1 this).resolve_left (by decide)
   ·intro h;rw[Nat.div_eq_of_lt h];rfl
  have d1:decide ((1:Int)<(M:Int))=!decide (M=1):=by
   by_cases h:M=1
   ·subst h;rfl
   ·rw[decide_eq_true (by omega),decide_eq_false h];rfl
  rw[dm N b1]
  have r1:N/BB%BB=N/BB:=Nat.mod_eq_of_lt c1
  have r2:M/BB%BB=M/BB:=Nat.mod_eq_of_lt c2
  have two:∀m:Nat,¬m<BB→m<B64→lm m=[limT (m%BB),limT (m/BB)]:=fun m h1 h2=>lm_two (by omega) h2
  unfold dn
  have fN:N<BB→lm N=[limT (N%BB)]:=fun h=>by rw[Nat.mod_eq_of_lt h,lm_one hq1 h]
  have fM:M<BB→lm M=[limT (M%BB)]:=fun h=>by rw[Nat.mod_eq_of_lt h,lm_one hq2 h]
  have e1:decide (M=1)=true∨decide (M=1)=false:=by cases decide (M=1) <;> simp
  have e2:decide (N<BB)=true∧lm N=[limT (N%BB)]∨decide (N<BB)=false∧lm N=[limT (N%BB),limT (N/BB)]:=by
   by_cases h:N<BB
   ·exact .inl ⟨decide_eq_true h,fN h⟩
   ·exact .inr ⟨decide_eq_false h,two N h b1⟩
  have e3:decide (M<BB)=true∧lm M=[limT (M%BB)]∨decide (M<BB)=false∧lm M=[limT (M%BB),limT (M/BB)]:=by
   by_cases h:M<BB
   ·exact .inl ⟨decide_eq_true h,fM h⟩
   ·exact .inr ⟨decide_eq_false h,two M h b2⟩
  have e4:(if M=1 then ([]:List T) else lm M)=bif decide (M=1) then [] else lm M:=by
   by_cases h:M=1
   ·rw[if_pos h,decide_eq_true h];rfl
   ·rw[if_neg h,decide_eq_false h];rfl
  rw[e4,d1,dm M b2]
  rcases e1 with h1 | h1 <;> rcases e2 with⟨h2,g2⟩ | ⟨h2,g2⟩ <;> rcases e3 with⟨h3,g3⟩ | ⟨h3,g3⟩
  all_goals simp only[h1,h2,h3,g2,g3,Bool.not_true,Bool.not_false,cond_true,cond_false,k1,k2,k3,k4,k5,k6,k7,k8,k9,k10,k11,k12,k13,k14,k15,k16,k17,k18,k19,k20,obS,l4,idxN_eq,List.length_set,List.set_cons_zero,List.set_cons_succ,List.getElem?_cons_zero,List.getElem?_cons_succ,addN_eq,Nat.add_zero,Nat.reduceAdd,upd0,r1,r2,onS_l,cutN_eq,List.drop_zero,List.drop_succ_cons,List.take_succ_cons,List.take_zero]
theorem n_Equal{a b:List Nat}(ha:a.length<LM):u_slices_Equal___uint32_uint32_ (lmL a,lmL b,())=some (decide (a=b),()):=by
 unfold u_slices_Equal___uint32_uint32_
 simp only[lenL_eq,lmL_len,eqI_eq]
 by_cases hl:a.length=b.length
 ·rw[decide_eq_true (by omega)]
  simp only[Bool.not_true,cond_false]
  have key:∀d i,i+d=a.length→a.take i=b.take i→loopU u_slices_Equal___uint32_uint32__l0 (lmL a,lmL b,(a.length:Int),(i:Int),())=some (if a=b then .inr (.inl ()) else .inl (false,())):=by
   intro d
   induction d with
   | zero=>
    intro i hi ht
    have:i=a.length:=by omega
    subst this
    rw[List.take_length,hl,List.take_length] at ht
    rw[if_pos ht]
    exact loopU_out (by unfold u_slices_Equal___uint32_uint32__l0;simp only[ltI_eq];rw[decide_eq_false (by omega)];rfl)
   | succ d ih=>
    intro i hi ht
    have h1:i<a.length:=by omega
    have h2:i<b.length:=by omega
    have ga:=List.getElem?_eq_getElem h1
    have gb:=List.getElem?_eq_getElem h2
    have step:u_slices_Equal___uint32_uint32__l0 (lmL a,lmL b,(a.length:Int),(i:Int),())=if a[i]=b[i] then some (.inl (lmL a,lmL b,(a.length:Int),((i+1:Nat):Int),())) else some (.inr (.inl (false,()))):=by
     unfold u_slices_Equal___uint32_uint32__l0
     simp only[ltI_eq,addI_eq,eqI_eq]
     rw[decide_eq_true (by omega),idxL_nat,idxL_nat,lmL_get,lmL_get,ga,gb,show (i:Int)+1=((i+1:Nat):Int) by omega,wri (by simp only[LM] at ha;omega)]
     simp only[cond_true,Option.map_some,obS,limT_cell,limT_int]
     by_cases h:a[i]=b[i]
     ·rw[if_pos h,decide_eq_true (by omega)];rfl
     ·rw[if_neg h,decide_eq_false (by omega)];rfl
    by_cases h:a[i]=b[i]
    ·rw[if_pos h] at step
     rw[loopU_go step]
     refine ih (i+1) (by omega) ?_
     rw[List.take_succ_eq_append_getElem h1,List.take_succ_eq_append_getElem h2,ht,h]
    ·rw[if_neg h] at step
     rw[loopU_out step,if_neg]
     intro hab
     subst hab
     exact h rfl
  have:=key a.length 0 (by omega) (by simp)
  rw[show ((0:Nat):Int)=0 from rfl] at this
  rw[this]
  by_cases hab:a=b
  ·rw[if_pos hab,decide_eq_true hab];rfl
  ·rw[if_neg hab,decide_eq_false hab];rfl
 ·rw[decide_eq_false (by omega),decide_eq_false (fun h=>hl (by rw[h]))]
  rfl
theorem p_Sign{q:Rat}(h:Fit q):u_rational_Sign (rNeg q,rNum q,rDen q,())=some (sgnQ q,()):=by
 unfold u_rational_Sign
 obtain⟨k,h1,h2⟩:=n_Bits h.1
 have h1':u_natural_Bits (rNum q,())=some ((k:Int),()):=h1
 simp only[h1',obS,eqI_eq]
 unfold sgnQ
 by_cases h0:q=0
 ·rw[if_pos h0,decide_eq_true (by have:=h2.2 (num_zero.2 h0);omega)];rfl
 ·rw[if_neg h0,decide_eq_false (fun hh=>h0 (num_zero.1 (h2.1 (by omega))))]
  cases rNeg q <;> rfl
theorem sgnQ_vals(q:Rat):(sgnQ q=0∧q=0)∨(sgnQ q=-1∧q.num<0)∨(sgnQ q=1∧0<q.num):=by
 unfold sgnQ
 by_cases h:q=0
 ·exact .inl ⟨if_pos h,h⟩
 ·have h0:q.num≠0:=fun hh=>h (Rat.num_eq_zero.1 hh)
  rw[if_neg h]
  unfold rNeg
  by_cases hl:q.num<0
  ·rw[decide_eq_true hl];exact .inr (.inl ⟨rfl,hl⟩)
  ·rw[decide_eq_false hl];exact .inr (.inr ⟨rfl,by omega⟩)
def cmpQ(p q:Rat):Int:=if p<q then -1 else if p=q then 0 else 1
theorem cmpQ_of{p q:Rat}:(p.num*q.den<q.num*p.den→cmpQ p q=-1)∧(p.num*q.den=q.num*p.den→cmpQ p q=0)∧(q.num*p.den<p.num*q.den→cmpQ p q=1):=by
 refine⟨fun h=>?_,fun h=>?_,fun h=>?_⟩
 ·unfold cmpQ;rw[if_pos (lt_sizes.2 h)]
 ·have e:p=q:=by
   rw[←Rat.mkRat_self p,←Rat.mkRat_self q]
   exact(Rat.mkRat_eq_iff p.den_nz q.den_nz).2 h
  unfold cmpQ
  rw[if_neg (fun hh=>by have:=lt_sizes.1 hh;omega),if_pos e]
 ·unfold cmpQ
  rw[if_neg (fun hh=>by have:=lt_sizes.1 hh;omega),if_neg (fun hh=>by subst hh;omega)]
theorem p_Cmp{p q:Rat}(hp:Sm p)(hq:Sm q):u_rational_Cmp (rNeg p,rNum p,rDen p,rNeg q,rNum q,rDen q,())=some (cmpQ p q,()):=by
 have p0:=p.den_nz
 have q0:=q.den_nz
 unfold u_rational_Cmp
 simp only[p_Sign hp.fit,p_Sign hq.fit,obS,eqI_eq,ltI_eq,subI_eq]
 have pd:(0:Int)<p.den:=by omega
 have qd:(0:Int)<q.den:=by omega
 have key:∀s:Int,(s<0→s*q.den<0)∧(0<s→0<s*q.den):=fun s=>⟨fun h=>Int.mul_neg_of_neg_of_pos h qd,fun h=>Int.mul_pos h qd⟩
 have key':∀s:Int,(s<0→s*p.den<0)∧(0<s→0<s*p.den):=fun s=>⟨fun h=>Int.mul_neg_of_neg_of_pos h pd,fun h=>Int.mul_pos h pd⟩
 obtain⟨c1,c2,c3⟩:=cmpQ_of (p:=p) (q:=q)
 have zp:p=0→p.num*q.den=0:=fun h=>by subst h;simp
 have zq:q=0→q.num*p.den=0:=fun h=>by subst h;simp
 by_cases hs:sgnQ p=sgnQ q
 ·rw[decide_eq_true hs]
  simp only[Bool.not_true,cond_false,p_parts hp.s1,p_parts hq.s1,obS]
  obtain⟨m1,f1,g1⟩:=dn_lm p.den
  obtain⟨m2,f2,g2⟩:=dn_lm q.den
  have eqd:u_slices_Equal___uint32_uint32_ (rDen p,rDen q,())=some (decide (p.den=q.den),()):=by
   have l1:(limbs m1).length<LM:=by rcases g1 with rfl | rfl;exact hp.fit.2;rw[limbs_zero];decide
   unfold rDen
   rw[f1,f2]
   have:=n_Equal (a:=limbs m1) (b:=limbs m2) l1
   unfold lm
   rw[this]
   congr 2
   rw[decide_eq_decide]
   constructor
   ·intro h;exact dn_inj p0 q0 (by rw[f1,f2,limbs_inj h])
   ·intro h;rw[h] at f1;exact congrArg limbs (lm_inj (f1.symm.trans f2))
  have natc:u_natural_Cmp (rNum p,rNum q,())=some (cmpN p.num.natAbs q.num.natAbs,()):=n_Cmp hp.fit.1 hq.fit.1
  have sizes:∀(x y:Int) (a b:Nat),x=sg (rNeg p) a→y=sg (rNeg p) b→p.num*q.den=x→q.num*p.den=y→some ((bif rNeg p then 0-cmpN a b else cmpN a b),())=some (cmpQ p q,()):=fun x y a b hx hy e1 e2=>by
   rw[e1,e2] at c1 c2 c3
   congr 2
   unfold cmpN
   cases hn:rNeg p with
   | true=>
    rw[hn] at hx hy
    simp only[sg,if_true] at hx hy
    simp only[cond_true]
    by_cases h1:a<b
    ·rw[if_pos h1,c3 (by omega)];rfl
    ·rw[if_neg h1]
     by_cases h2:a=b
     ·rw[if_pos h2,c2 (by omega)];rfl
     ·rw[if_neg h2,c1 (by omega)];rfl
   | false=>
    rw[hn] at hx hy
    simp only[sg,Bool.false_eq_true,if_false] at hx hy
    simp only[cond_false]
    by_cases h1:a<b
    ·rw[if_pos h1,c1 (by omega)]
    ·rw[if_neg h1]
     by_cases h2:a=b
     ·rw[if_pos h2,c2 (by omega)]
     ·rw[if_neg h2,c3 (by omega)]
  have hneg:rNeg p=rNeg q:=by
   unfold rNeg
   rcases sgnQ_vals p with⟨a1,a2⟩ | ⟨a1,a2⟩ | ⟨a1,a2⟩ <;> rcases sgnQ_vals q with⟨b1,b2⟩ | ⟨b1,b2⟩ | ⟨b1,b2⟩ <;> first
    | (rw[a1,b1] at hs;cases hs;done)
    | (subst a2;subst b2;rfl)
    | (rw[decide_eq_true a2,decide_eq_true b2])
    | (rw[decide_eq_false (by omega),decide_eq_false (by omega)])
  have wc:∀a b:Nat,wr .i64 (0-cmpN a b)=0-cmpN a b:=fun a b=>by
   have:cmpN a b=-1∨cmpN a b=0∨cmpN a b=1:=by
    unfold cmpN
    by_cases h1:a<b
    ·rw[if_pos h1];exact .inl rfl
    ·rw[if_neg h1]
     by_cases h2:a=b
     ·rw[if_pos h2];exact .inr (.inl rfl)
     ·rw[if_neg h2];exact .inr (.inr rfl)
   exact wri' (by omega) (by omega)
  rw[eqd]
  simp only[obS]
  have hpn:=sg_num p
  have hqn:=sg_num q
  by_cases hd:p.den=q.den
  ·rw[decide_eq_true hd]
   simp only[cond_true,natc,obS,onS_l,wc]
   have pos:∀s:Bool,sg s p.num.natAbs*(q.den:Int)=sg s (p.num.natAbs*q.den):=fun s=>sgn_mul s _ _
   have hcm:cmpN p.num.natAbs q.num.natAbs=cmpN (p.num.natAbs*q.den) (q.num.natAbs*p.den):=by
    rw[hd]
    unfold cmpN
    have i1:p.num.natAbs*q.den<q.num.natAbs*q.den↔p.num.natAbs<q.num.natAbs:=Nat.mul_lt_mul_right (Nat.pos_of_ne_zero q0)
    have i2:p.num.natAbs*q.den=q.num.natAbs*q.den↔p.num.natAbs=q.num.natAbs:=Nat.mul_left_inj q0
    simp only[i1,i2]
   rw[hcm]
   have fin:=sizes _ _ (p.num.natAbs*q.den) (q.num.natAbs*p.den) rfl rfl (by rw[←sgn_mul,hpn]) (by rw[←sgn_mul,hneg,hqn])
   cases hn:rNeg p <;> rw[hn] at fin <;> exact fin
  ·rw[decide_eq_false hd]
   have bp:=hp.1;have bq:=hq.1;have bpd:=hp.2;have bqd:=hq.2
   have m1:p.num.natAbs*q.den<2147483648*2147483648:=Nat.mul_lt_mul'' bp bqd
   have m2:q.num.natAbs*p.den<2147483648*2147483648:=Nat.mul_lt_mul'' bq bpd
   simp only[cond_false,cond_true,obS,mulI_eq]
   rw[show ((p.num.natAbs:Nat):Int)*(q.den:Int)=((p.num.natAbs*q.den:Nat):Int) from(Int.natCast_mul _ _).symm,show ((q.num.natAbs:Nat):Int)*(p.den:Int)=((q.num.natAbs*p.den:Nat):Int) from(Int.natCast_mul _ _).symm,
    wr64s (by simp only[B64];omega),wr64s (by simp only[B64];omega)]
   have fin:=sizes _ _ (p.num.natAbs*q.den) (q.num.natAbs*p.den) rfl rfl (by rw[←sgn_mul,hpn]) (by rw[←sgn_mul,hneg,hqn])
   generalize p.num.natAbs*q.den=a at *
   generalize q.num.natAbs*p.den=b at *
   by_cases h1:a<b
   ·rw[decide_eq_true (by omega)]
    have hc:cmpN a b=-1:=by unfold cmpN;rw[if_pos h1]
    rw[hc] at fin
    simp only[cond_true,obS,onS_l]
    rw[wri' (n:=0 - -1) (by omega) (by omega)]
    cases hn:rNeg p <;> rw[hn] at fin <;> exact fin
   ·rw[decide_eq_false (by omega)]
    by_cases h2:b<a
    ·rw[decide_eq_true (by omega)]
     have hc:cmpN a b=1:=by unfold cmpN;rw[if_neg h1,if_neg (by omega)]
     rw[hc] at fin
     simp only[cond_false,cond_true,obS,onS_l]
     rw[wri' (n:=0-1) (by omega) (by omega)]
     cases hn:rNeg p <;> rw[hn] at fin <;> exact fin
    ·rw[decide_eq_false (by omega)]
     have hc:cmpN a b=0:=cmpN_zero.2 (by omega)
     rw[hc] at fin
     simp only[cond_false,obS,onS_l]
     rw[wri' (n:=0-0) (by omega) (by omega)]
     cases hn:rNeg p <;> rw[hn] at fin <;> exact fin
 ·rw[decide_eq_false hs]
  simp only[Bool.not_false,cond_true]
  rcases sgnQ_vals p with⟨a1,a2⟩ | ⟨a1,a2⟩ | ⟨a1,a2⟩ <;> rcases sgnQ_vals q with⟨b1,b2⟩ | ⟨b1,b2⟩ | ⟨b1,b2⟩ <;> rw[a1,b1]
  ·exact absurd (a1.trans b1.symm) hs
  ·have:=(key' _).1 b2
   rw[c3 (by rw[zp a2];exact this)];rfl
  ·have:=(key' _).2 b2
   rw[c1 (by rw[zp a2];exact this)];rfl
  ·have:=(key _).1 a2
   rw[c1 (by rw[zq b2];exact this)];rfl
  ·exact absurd (a1.trans b1.symm) hs
  ·have h1:=(key _).1 a2
   have h2:=(key' _).2 b2
   rw[c1 (by omega)];rfl
  ·have:=(key _).2 a2
   rw[c3 (by rw[zq b2];exact this)];rfl
  ·have h1:=(key _).2 a2
   have h2:=(key' _).1 b2
   rw[c3 (by omega)];rfl
  ·exact absurd (a1.trans b1.symm) hs
theorem add64S0(a b:Nat):add64S (a:Int) (b:Int) 0=some (((a+b)%B64:Nat):Int):=by
 unfold add64S
 rw[if_pos ⟨by omega,by omega,by omega,by omega⟩]
 congr 1
theorem add64C0{a b:Nat}(h:a+b<B64):add64C (a:Int) (b:Int) 0=0:=by
 unfold add64C
 simp only[B64] at h
 omega
theorem p_add{p q:Rat}(hp:Sm p)(hq:Sm q)(neg:Bool):u_rational_add (rNeg p,rNum p,rDen p,rNeg q,rNum q,rDen q,neg,()) =
 (let r:=mkRat (sg (rNeg p) (p.num.natAbs*q.den)+sg neg (q.num.natAbs*p.den)) (p.den*q.den);some (rNeg r,rNum r,rDen r,())):=by
 have p0:=p.den_nz
 have q0:=q.den_nz
 have bp:=hp.1;have bq:=hq.1;have bpd:=hp.2;have bqd:=hq.2
 have m1:p.num.natAbs*q.den<2147483648*2147483648:=Nat.mul_lt_mul'' bp bqd
 have m2:q.num.natAbs*p.den<2147483648*2147483648:=Nat.mul_lt_mul'' bq bpd
 have m3:p.den*q.den<2147483648*2147483648:=Nat.mul_lt_mul'' bpd bqd
 have d0:p.den*q.den≠0:=Nat.mul_ne_zero p0 q0
 unfold u_rational_add
 simp only[p_parts hp.s1,p_parts hq.s1,obS,cond_true,mulI_eq,subI_eq,leI_eq,eqI_eq,eqB_eq]
 rw[show ((p.num.natAbs:Nat):Int)*(q.den:Int)=((p.num.natAbs*q.den:Nat):Int) from(Int.natCast_mul _ _).symm,show ((q.num.natAbs:Nat):Int)*(p.den:Int)=((q.num.natAbs*p.den:Nat):Int) from(Int.natCast_mul _ _).symm,
  show ((p.den:Nat):Int)*(q.den:Int)=((p.den*q.den:Nat):Int) from(Int.natCast_mul _ _).symm,wr64s (n:=p.num.natAbs*q.den) (by simp only[B64];omega),wr64s (n:=q.num.natAbs*p.den) (by simp only[B64];omega),wr64s (n:=p.den*q.den) (by simp only[B64];omega)]
 generalize p.num.natAbs*q.den=a at *
 generalize q.num.natAbs*p.den=b at *
 generalize p.den*q.den=d at *
 rw[add64S0,add64C0 (by simp only[B64];omega),Nat.mod_eq_of_lt (by simp only[B64];omega)]
 simp only[obS]
 by_cases hn:rNeg p=neg
 ·rw[hn]
  simp only[beq_self_eq_true,cond_true,decide_true]
  rw[p_short neg (by simp only[B64];omega) (by simp only[B64];omega) d0]
  simp only[obS,onS_l,sg_add]
 ·have hb:(rNeg p==neg)=false:=by simpa using hn
  simp only[hb,cond_false,Bool.not_false,cond_true]
  by_cases hle:b≤a
  ·rw[decide_eq_true (by omega),show (a:Int)-(b:Int)=((a-b:Nat):Int) by omega,wr64s (n:=a-b) (by simp only[B64];omega),p_short (rNeg p) (by simp only[B64];omega) (by simp only[B64];omega) d0]
   simp only[cond_true,obS,onS_l,sg_sub hn hle]
  ·rw[decide_eq_false (by omega),show (b:Int)-(a:Int)=((b-a:Nat):Int) by omega,wr64s (n:=b-a) (by simp only[B64];omega),p_short neg (by simp only[B64];omega) (by simp only[B64];omega) d0]
   simp only[cond_false,obS,onS_l]
   rw[Int.add_comm,sg_sub (Ne.symm hn) (by omega)]
theorem p_Add{p q:Rat}(hp:Sm p)(hq:Sm q):u_rational_Add (rNeg p,rNum p,rDen p,rNeg q,rNum q,rDen q,())=some (rNeg (p+q),rNum (p+q),rDen (p+q),()):=by
 unfold u_rational_Add
 simp only[p_add hp hq,obS]
 rw[←sgn_mul,←sgn_mul,sg_num,sg_num,←add_mk]
theorem p_Clone{l:List T}(h:l.length<1000000000):u_slices_Clone___uint32_uint32_ (l,())=some (l,()):=by
 have hr:room [] l 4=some l:=by rw[room_ok (by simp only[List.length_nil];omega) (by decide)];rfl
 unfold u_slices_Clone___uint32_uint32_
 simp only[hr,obS]
 unfold nilL
 cases l with
 | nil=>exact bothU_eq rfl rfl
 | cons a l=>rfl
theorem fit_num{q:Rat}(h:Fit q):(rNum q).length<1000000000:=by
 have:=h.1
 unfold rNum
 rw[lm_len]
 simp only[LM] at this;omega
theorem fit_den{q:Rat}(h:Fit q):(rDen q).length<1000000000:=by
 obtain⟨m,e,c⟩:=dn_lm q.den
 unfold rDen
 rw[e,lm_len]
 rcases c with rfl | rfl
 ·have:=h.2;simp only[LM] at this;omega
 ·rw[limbs_zero];decide
theorem p_Rat{q:Rat}(h:Fit q):u_own_Rat (rNeg q,rNum q,rDen q,())=some (rNeg q,rNum q,rDen q,()):=by
 unfold u_own_Rat
 simp only[p_Clone (fit_num h),p_Clone (fit_den h),obS]
end Go.Eng.Rt
namespace Go.Eng.Rt
open Go.Eng
def at0(l:List Nat)(i:Nat):Nat:=l.getD i 0
theorem at0_lt{l:List Nat}(h:Lim l)(i:Nat):at0 l i<BB:=by
 unfold at0
 rw[List.getD_eq_getElem?_getD]
 cases hg:l[i]? with
 | none=>decide
 | some x=>exact h.get hg
theorem at0_get{l:List Nat}{i:Nat}(h:i<l.length):l[i]?=some (at0 l i):=by
 unfold at0;rw[List.getD_eq_getElem?_getD,List.getElem?_eq_getElem h];rfl
theorem at0_out{l:List Nat}{i:Nat}(h:l.length≤i):at0 l i=0:=by
 unfold at0;rw[List.getD_eq_getElem?_getD,List.getElem?_eq_none h];rfl
theorem val_take0(l:List Nat)(i:Nat):val (l.take (i+1))=val (l.take i)+BB ^ i*at0 l i:=by
 by_cases h:i<l.length
 ·exact val_take_succ (at0_get h)
 ·rw[at0_out (by omega),List.take_of_length_le (by omega),List.take_of_length_le (by omega)];simp
theorem add_step{a b:List Nat}(ha:Lim a)(hb:Lim b)(hla:a.length<LM)(hlb:b.length<LM){o:List Nat}{c i:Nat}(hc:c<BB)(hi:i<LM)(ho:o.length=i):
 u_ref01_Add_l0 (lmL a,lmL b,lmL o,(c:Int),(i:Int),())=if i<a.length∨i<b.length∨c≠0 then
  some (.inl (lmL a,lmL b,lmL (o++[(c+at0 a i+at0 b i)%BB]),(((c+at0 a i+at0 b i)/BB:Nat):Int),((i+1:Nat):Int),())) else some (.inr (.inl (lmL o,()))):=by
 have xa:=at0_lt ha i
 have xb:=at0_lt hb i
 have hroom:∀n:Nat,room (lmL o) [T.v (.int .u32 ((n%BB:Nat):Int))] 4=some (lmL (o++[n%BB])):=fun n=>by
  rw[room_ok (by rw[lmL_len,ho];simp only[List.length_cons,List.length_nil,LM] at *;omega) (by decide)]
  rw[←lmL_append];rfl
 have wi:wr .i64 ((i:Int)+1)=((i+1:Nat):Int):=by rw[show (i:Int)+1=((i+1:Nat):Int) by omega,wri (by simp only[LM] at *;omega)]
 have w1:wr .u64 ((at0 a i:Nat):Int)=((at0 a i:Nat):Int):=wr64s (by simp only[BB,B64] at *;omega)
 have w2:wr .u64 ((at0 b i:Nat):Int)=((at0 b i:Nat):Int):=wr64s (by simp only[BB,B64] at *;omega)
 have w3:wr .u64 ((c:Int)+((at0 a i:Nat):Int))=((c+at0 a i:Nat):Int):=by rw[show (c:Int)+((at0 a i:Nat):Int)=((c+at0 a i:Nat):Int) by omega,wr64s (by simp only[BB,B64] at *;omega)]
 have w4:wr .u64 (((c+at0 a i:Nat):Int)+((at0 b i:Nat):Int))=((c+at0 a i+at0 b i:Nat):Int):=by rw[show ((c+at0 a i:Nat):Int)+((at0 b i:Nat):Int)=((c+at0 a i+at0 b i:Nat):Int) by omega,wr64s (by simp only[BB,B64] at *;omega)]
 have w5:wr .u64 ((c:Int)+((at0 b i:Nat):Int))=((c+at0 b i:Nat):Int):=by rw[show (c:Int)+((at0 b i:Nat):Int)=((c+at0 b i:Nat):Int) by omega,wr64s (by simp only[BB,B64] at *;omega)]
 unfold u_ref01_Add_l0
 simp only[ltI_eq,lenL_eq,lmL_len,addI_eq,eqI_eq]
 by_cases h1:i<a.length <;> by_cases h2:i<b.length
 ·rw[decide_eq_true (show (i:Int)<(a.length:Int) by omega),if_pos (.inl h1)]
  simp only[cond_true,idxL_nat,lmL_get,at0_get h1,at0_get h2,Option.map_some,obS,limT_cell,limT_any,onS_l,w1,w2,w3,w4,lmL_len]
  rw[decide_eq_true (show (i:Int)<(b.length:Int) by omega)]
  simp only[cond_true,idxL_nat,lmL_get,at0_get h1,at0_get h2,Option.map_some,obS,limT_cell,limT_any,onS_l,w1,w2,w3,w4,nn32,wr32n,hroom,shr32,wi]
 ·rw[decide_eq_true (show (i:Int)<(a.length:Int) by omega),if_pos (.inl h1)]
  simp only[cond_true,idxL_nat,lmL_get,at0_get h1,Option.map_some,obS,limT_cell,limT_any,onS_l,w1,w3,lmL_len]
  rw[decide_eq_false (show ¬(i:Int)<(b.length:Int) by omega)]
  simp only[cond_false,obS,onS_l,nn32,wr32n,hroom,shr32,wi,at0_out (show b.length≤i by omega),Nat.add_zero]
 ·rw[decide_eq_false (show ¬(i:Int)<(a.length:Int) by omega),decide_eq_true (show (i:Int)<(b.length:Int) by omega),if_pos (.inr (.inl h2))]
  simp only[cond_false,cond_true,obS,onS_l,lmL_len]
  rw[decide_eq_true (show (i:Int)<(b.length:Int) by omega)]
  simp only[cond_true,idxL_nat,lmL_get,at0_get h2,Option.map_some,obS,limT_cell,limT_any,onS_l,w2,w5,nn32,wr32n,hroom,shr32,wi,at0_out (show a.length≤i by omega),Nat.add_zero]
 ·rw[decide_eq_false (show ¬(i:Int)<(a.length:Int) by omega),decide_eq_false (show ¬(i:Int)<(b.length:Int) by omega)]
  by_cases h3:c=0
  ·subst h3
   rw[decide_eq_true (by omega),if_neg (by omega)]
   rfl
  ·rw[decide_eq_false (by omega),if_pos (.inr (.inr h3))]
   simp only[cond_false,cond_true,Bool.not_false,obS,onS_l,lmL_len]
   rw[decide_eq_false (show ¬(i:Int)<(b.length:Int) by omega)]
   simp only[cond_false,obS,onS_l,nn32,wr32n,hroom,shr32,wi,at0_out (show a.length≤i by omega),at0_out (show b.length≤i by omega),Nat.add_zero]
def Top(l:List Nat):Prop:=∀x,l.getLast?=some x→x≠0
theorem top_limbs(n:Nat):Top (limbs n):=fun x hx=>by
 by_cases h:n=0
 ·subst h;rw[limbs_zero] at hx;cases hx
 ·obtain⟨y,h1,h2,_⟩:=limbs_last h
  rw[List.getLast?_eq_getElem?] at hx
  rw[hx] at h1
  cases h1
  exact h2
theorem limbs_top{l:List Nat}(h:Lim l)(ht:Top l):limbs (val l)=l:=by
 rw[limbs_val h]
 by_cases hne:l=[]
 ·subst hne;rfl
 ·obtain⟨m,a,rfl⟩:∃m a,l=m++[a]:=⟨l.dropLast,l.getLast hne,(List.dropLast_concat_getLast hne).symm⟩
  exact trimN_snoc (ht a (by simp))
theorem r_Add{x y:Nat}(hx:(limbs x).length<100000)(hy:(limbs y).length<100000):u_ref01_Add (lm x,lm y,())=some (lm (x+y),()):=by
 have ha:=lim_limbs x
 have hb:=lim_limbs y
 have ta:=top_limbs x
 have tb:=top_limbs y
 have va:=val_limbs x
 have vb:=val_limbs y
 unfold lm
 generalize limbs x=a at *
 generalize limbs y=b at *
 let N:=max a.length b.length
 have key:∀i,i≤N→∃(o:List Nat) (c:Nat),loopU u_ref01_Add_l0 (lmL a,lmL b,lmL [],(0:Int),(0:Int),())=loopU u_ref01_Add_l0 (lmL a,lmL b,lmL o,(c:Int),(i:Int),()) ∧
  o.length=i∧Lim o∧c<2∧val o+BB ^ i*c=val (a.take i)+val (b.take i)∧(∀x,o.getLast?=some x→i=N→c=0→x≠0):=by
  intro i
  induction i with
  | zero=>intro _;exact⟨[],0,rfl,rfl,Lim.nil,by decide,by simp[val],fun x hx=>by cases hx⟩
  | succ i ih=>
   intro hi
   obtain⟨o,c,h1,h2,h3,h4,h5,_⟩:=ih (by omega)
   have hs:=add_step ha hb (by simp only[LM];omega) (by simp only[LM];omega) (o:=o) (c:=c) (i:=i) (by simp only[BB];omega) (by simp only[LM];omega) h2
   rw[if_pos (by omega)] at hs
   have xa:=at0_lt ha i
   have xb:=at0_lt hb i
   have hm:=Nat.mod_add_div (c+at0 a i+at0 b i) BB
   refine⟨_,_,h1.trans (loopU_go hs),by rw[List.length_append,h2];rfl,h3.append (Lim.cons (Nat.mod_lt _ (by decide)) Lim.nil),?_,?_,?_⟩
   ·simp only[BB] at *;omega
   ·rw[val_append,h2,val_take0,val_take0]
    simp only[val,Nat.mul_zero,Nat.add_zero]
    generalize (c+at0 a i+at0 b i)%BB=r at *
    generalize (c+at0 a i+at0 b i)/BB=q at *
    have e1:BB ^ (i+1)*q=BB ^ i*(BB*q):=by rw[Nat.pow_succ,Nat.mul_assoc]
    have e2:BB ^ i*(r+BB*q)=BB ^ i*(c+at0 a i+at0 b i):=by rw[hm]
    rw[e1]
    rw[Nat.mul_add,Nat.mul_add,Nat.mul_add] at e2
    omega
   ·intro z hz hN hq
    simp at hz
    have hsum:c+at0 a i+at0 b i<BB:=by
     rcases Nat.lt_or_ge (c+at0 a i+at0 b i) BB with h | h
     ·exact h
     ·have:=Nat.div_pos h (show 0<BB by decide);omega
    rw[Nat.mod_eq_of_lt hsum] at hz
    have hlast:at0 a i≠0∨at0 b i≠0:=by
     have:a.length=i+1∨b.length=i+1:=by omega
     rcases this with hl | hl
     ·left
      exact ta _ (by rw[List.getLast?_eq_getElem?,hl,Nat.add_sub_cancel,at0_get (by omega)])
     ·right
      exact tb _ (by rw[List.getLast?_eq_getElem?,hl,Nat.add_sub_cancel,at0_get (by omega)])
    omega
 obtain⟨o,c,h1,h2,h3,h4,h5,h6⟩:=key N (Nat.le_refl _)
 have hN1:a.length≤N:=Nat.le_max_left _ _
 have hN2:b.length≤N:=Nat.le_max_right _ _
 have hNl:N<100000:=by omega
 rw[List.take_of_length_le hN1,List.take_of_length_le hN2,va,vb] at h5
 have hs:=add_step ha hb (by simp only[LM];omega) (by simp only[LM];omega) (o:=o) (c:=c) (i:=N) (by simp only[BB];omega) (by simp only[LM];omega) h2
 unfold u_ref01_Add
 rw[show ([]:List T)=lmL [] from rfl,h1]
 by_cases hc:c=0
 ·subst hc
  rw[if_neg (by omega)] at hs
  rw[loopU_out hs]
  simp only[obS,onS_l]
  rw[←limbs_top h3 (fun z hz=>h6 z hz rfl rfl)]
  rw[show val o=x+y by simpa using h5]
 ·rw[if_pos (by omega),at0_out hN1,at0_out hN2] at hs
  have c1:c=1:=by omega
  subst c1
  rw[loopU_go hs]
  have hs2:=add_step ha hb (by simp only[LM];omega) (by simp only[LM];omega) (o:=o++[(1+0+0)%BB]) (c:=0) (i:=N+1) (by decide) (by simp only[LM];omega) (by rw[List.length_append,h2];rfl)
  rw[if_neg (by omega)] at hs2
  have e0:((1+0+0)/BB:Nat)=0:=by decide
  rw[e0,loopU_out hs2]
  simp only[obS,onS_l]
  have e1:(1+0+0)%BB=1:=by decide
  rw[e1]
  have hl:Lim (o++[1]):=h3.append (Lim.cons (by decide) Lim.nil)
  rw[←limbs_top hl (fun z hz=>by simp at hz;omega)]
  have hv:val (o++[1])=x+y:=by
   rw[val_append,h2]
   simp only[val,Nat.mul_zero,Nat.add_zero]
   exact h5
  rw[hv]
theorem minus_step{a b:List Nat}(ha:Lim a)(hb:Lim b)(hla:a.length<LM)(hlb:b.length<LM){o:List Nat}{c i:Nat}(hc:c≤1)(hi:i<a.length)(ho:o.length=a.length)(hz:o[i]?=some 0):
 ∃c' d,c'≤1∧d<BB∧d+(c+at0 b i)=at0 a i+BB*c' ∧
  u_ref01_minus_l0 (lmL a,lmL b,lmL o,(c:Int),(i:Int),())=some (.inl (lmL a,lmL b,lmL (o.set i d),(c':Int),((i+1:Nat):Int),())):=by
 have xa:=at0_lt ha i
 have xb:=at0_lt hb i
 have wi:wr .i64 ((i:Int)+1)=((i+1:Nat):Int):=by rw[show (i:Int)+1=((i+1:Nat):Int) by omega,wri (by simp only[LM] at *;omega)]
 have w1:wr .u64 ((at0 a i:Nat):Int)=((at0 a i:Nat):Int):=wr64s (by simp only[BB,B64] at *;omega)
 have w2:wr .u64 ((at0 b i:Nat):Int)=((at0 b i:Nat):Int):=wr64s (by simp only[BB,B64] at *;omega)
 have w3:wr .u64 ((c:Int)+((at0 b i:Nat):Int))=((c+at0 b i:Nat):Int):=by rw[show (c:Int)+((at0 b i:Nat):Int)=((c+at0 b i:Nat):Int) by omega,wr64s (by simp only[BB,B64] at *;omega)]
 have w4:wr .u64 (((at0 a i:Nat):Int)+4294967296)=((at0 a i+BB:Nat):Int):=by rw[show ((at0 a i:Nat):Int)+4294967296=((at0 a i+BB:Nat):Int) by simp only[BB];omega,wr64s (by simp only[BB,B64] at *;omega)]
 have first:∀(R:Type) (k:(List T×List T×List T×Int×Int×Unit)→Option R),(ob (α:=((List T×List T×List T×Int×Int×Unit)⊕Empty)) (bif decide ((i:Int)<(b.length:Int)) then (ob ((b[i]?).map limT) fun x2=>(ob (T.anyInt? (T.cell x2 0)) fun x3=>(some (Sum.inl (lmL a,lmL b,lmL o,(i:Int),(wr .u64 ((c:Int)+(wr .u64 x3))),()))))) else (some (Sum.inl (lmL a,lmL b,lmL o,(i:Int),(c:Int),()))))
  fun q4=>onS q4 k fun q13=>noS q13)=k (lmL a,lmL b,lmL o,(i:Int),((c+at0 b i:Nat):Int),()):=fun R k=>by
  by_cases h2:i<b.length
  ·rw[decide_eq_true (by omega)]
   simp only[cond_true,at0_get h2,Option.map_some,obS,limT_cell,limT_any,w2,w3,onS_l]
  ·rw[decide_eq_false (by omega),at0_out (show b.length≤i by omega)]
   rfl
 have e:u_ref01_minus_l0 (lmL a,lmL b,lmL o,(c:Int),(i:Int),())=if at0 a i<c+at0 b i then some (.inl (lmL a,lmL b,lmL (o.set i (at0 a i+BB-(c+at0 b i))),(1:Int),((i+1:Nat):Int),()))
  else some (.inl (lmL a,lmL b,lmL (o.set i (at0 a i-(c+at0 b i))),(0:Int),((i+1:Nat):Int),())):=by
  unfold u_ref01_minus_l0
  simp only[ltI_eq,lenL_eq,lmL_len,addI_eq,subI_eq]
  rw[decide_eq_true (show (i:Int)<(a.length:Int) by omega)]
  simp only[cond_true,idxL_nat,lmL_get]
  rw[first]
  simp only[idxL_nat,lmL_get,at0_get hi,Option.map_some,obS,limT_cell,limT_any,w1]
  by_cases h3:at0 a i<c+at0 b i
  ·rw[if_pos h3,decide_eq_true (by omega)]
   simp only[cond_true,obS,onS_l,w4,lmL_len]
   rw[chkI_nat (by omega),show ((at0 a i+BB:Nat):Int)-((c+at0 b i:Nat):Int)=((at0 a i+BB-(c+at0 b i):Nat):Int) by simp only[BB] at *;omega,wr64s (by simp only[BB,B64] at *;omega),wr32s (by simp only[BB] at *;omega)]
   simp only[obS,idxN_eq,lmL_get,hz,Option.map_some,wi]
   rw[limT_upd _ _ ⟨0,rfl⟩,lmL_set]
  ·rw[if_neg h3,decide_eq_false (by omega)]
   simp only[cond_false,obS,onS_l,lmL_len]
   rw[chkI_nat (by omega),show ((at0 a i:Nat):Int)-((c+at0 b i:Nat):Int)=((at0 a i-(c+at0 b i):Nat):Int) by omega,wr64s (by simp only[BB,B64] at *;omega),wr32s (by simp only[BB] at *;omega)]
   simp only[obS,idxN_eq,lmL_get,hz,Option.map_some,wi]
   rw[limT_upd _ _ ⟨0,rfl⟩,lmL_set]
 by_cases h3:at0 a i<c+at0 b i
 ·rw[if_pos h3] at e
  exact⟨1,at0 a i+BB-(c+at0 b i),by omega,by simp only[BB] at *;omega,by simp only[BB] at *;omega,e⟩
 ·rw[if_neg h3] at e
  exact⟨0,at0 a i-(c+at0 b i),by omega,by simp only[BB] at *;omega,by omega,e⟩
theorem r_minus{x y:Nat}(hx:(limbs x).length<LM)(hxy:y≤x):u_ref01_minus (lm x,lm y,())=some (lm (x-y),()):=by
 have ha:=lim_limbs x
 have hb:=lim_limbs y
 have va:=val_limbs x
 have vb:=val_limbs y
 have hll:(limbs y).length≤(limbs x).length:=limbs_len.2 (Nat.lt_of_le_of_lt hxy (limbs_len.1 (Nat.le_refl _)))
 unfold lm
 have fin:∀d,lmL (limbs d)=lm d:=fun _=>rfl
 rw[fin (x-y)]
 generalize limbs x=a at *
 generalize limbs y=b at *
 have key:∀i,i≤a.length→∃(o:List Nat) (c:Nat),loopU u_ref01_minus_l0 (lmL a,lmL b,lmL (List.replicate a.length 0),(0:Int),(0:Int),())=loopU u_ref01_minus_l0 (lmL a,lmL b,lmL o,(c:Int),(i:Int),()) ∧
  o.length=a.length∧Lim o∧c≤1∧val o+val (b.take i)=val (a.take i)+BB ^ i*c∧∀m,i≤m→m<a.length→o[m]?=some 0:=by
  intro i
  induction i with
  | zero=>
   intro _
   refine⟨_,0,rfl,by simp,Lim.rep _,by decide,by simp[val,val_rep],fun m _ hm=>?_⟩
   rw[List.getElem?_replicate,if_pos hm]
  | succ i ih=>
   intro hi
   obtain⟨o,c,h1,h2,h3,h4,h5,h6⟩:=ih (by omega)
   have hz:=h6 i (Nat.le_refl _) hi
   obtain⟨c',d,g1,g2,g3,g4⟩:=minus_step ha hb hx (by omega) h4 hi h2 hz
   refine⟨_,c',h1.trans (loopU_go g4),by rw[List.length_set,h2],h3.set g2 _,g1,?_,fun m hm hlt=>?_⟩
   ·have hv:=val_set (x:=d) hz
    rw[val_take0,val_take0]
    have e1:BB ^ (i+1)*c'=BB ^ i*(BB*c'):=by rw[Nat.pow_succ,Nat.mul_assoc]
    have e2:BB ^ i*(d+(c+at0 b i))=BB ^ i*(at0 a i+BB*c'):=by rw[g3]
    rw[e1]
    rw[Nat.mul_add,Nat.mul_add,Nat.mul_add] at e2
    omega
   ·rw[List.getElem?_set_ne (by omega)]
    exact h6 m (by omega) hlt
 obtain⟨o,c,h1,h2,h3,h4,h5,_⟩:=key a.length (Nat.le_refl _)
 rw[List.take_length,List.take_of_length_le hll,va,vb] at h5
 have hvo:=val_lt h3
 rw[h2] at hvo
 have hval:val o=x-y:=by
  have:c=0∨c=1:=by omega
  rcases this with rfl | rfl
  ·simp at h5;omega
  ·simp at h5;omega
 unfold u_ref01_minus
 simp only[lenL_eq,lmL_len]
 rw[mkLen_ok (by omega) (by omega) (by simp only[LM] at hx;omega) (by decide)]
 simp only[obS,Int.toNat_natCast,repL_eq,rep_lmL]
 rw[h1,loopU_out (e:=.inl (lmL o,())) (by
  unfold u_ref01_minus_l0
  simp only[ltI_eq,lenL_eq,lmL_len]
  rw[decide_eq_false (by omega)];rfl)]
 simp only[obS,onS_l]
 rw[r_Trim h3 (by omega),hval]
 rfl
theorem r_Sub{x y:Nat}(hx:(limbs x).length<LM)(hxy:y≤x):u_ref01_Sub (lm x,lm y,())=some (lm (x-y),0,()):=by
 have hll:(limbs y).length≤(limbs x).length:=limbs_len.2 (Nat.lt_of_le_of_lt hxy (limbs_len.1 (Nat.le_refl _)))
 unfold u_ref01_Sub
 rw[r_Cmp hx (by omega)]
 simp only[obS,ltI_eq]
 rw[decide_eq_false (by unfold cmpN;rw[if_neg (by omega)];split <;> omega)]
 simp only[cond_false,r_minus hx hxy,obS]
theorem r_Den(q:Rat):u_ref02_Den (rNeg q,rNum q,rDen q,())=some (lm q.den,()):=by
 unfold u_ref02_Den rDen dn
 simp only[lenL_eq,eqI_eq]
 by_cases h:q.den=1
 ·rw[if_pos h,h,lm_one (by decide) (by decide)]
  rfl
 ·rw[if_neg h,decide_eq_false (fun hh=>q.den_nz (lm_len0.1 (by omega)))]
  rfl
theorem lm_small'{n:Nat}(h:n<B64):(limbs n).length≤2:=limbs_len.2 h
theorem r_Mul64{x y:Nat}(hx:x<B64)(hy:y<B64):u_ref01_Mul (lm x,lm y,())=some (lm (x*y),()):=
 r_Mul (by have h1:=lm_small' hx;have h2:=lm_small' hy;simp only[LM];omega)
theorem sm_b{q:Rat}(h:Sm q):q.num.natAbs<B64∧q.den<B64:=by
 obtain⟨h1,h2⟩:=h;simp only[B64];omega
theorem rNum_len0{q:Rat}:((rNum q).length:Int)=0↔q=0:=by
 rw[←rNum_len];omega
theorem r_QAdd{p q:Rat}(hp:Sm p)(hq:Sm q):u_ref02_Add (rNeg p,rNum p,rDen p,rNeg q,rNum q,rDen q,())=some (rNeg (p+q),rNum (p+q),rDen (p+q),()):=by
 obtain⟨p1,p2⟩:=sm_b hp
 obtain⟨q1,q2⟩:=sm_b hq
 have bp:=hp.1;have bq:=hq.1;have bpd:=hp.2;have bqd:=hq.2
 have m1:p.num.natAbs*q.den<2147483648*2147483648:=Nat.mul_lt_mul'' bp bqd
 have m2:q.num.natAbs*p.den<2147483648*2147483648:=Nat.mul_lt_mul'' bq bpd
 have m3:p.den*q.den<2147483648*2147483648:=Nat.mul_lt_mul'' bpd bqd
 have d0:p.den*q.den≠0:=Nat.mul_ne_zero p.den_nz q.den_nz
 unfold u_ref02_Add
 simp only[lenL_eq,eqI_eq]
 by_cases hp0:p=0
 ·rw[decide_eq_true (rNum_len0.2 hp0)]
  rw[hp0,Rat.zero_add]
  rfl
 rw[decide_eq_false (fun h=>hp0 (rNum_len0.1 h))]
 by_cases hq0:q=0
 ·rw[decide_eq_true (rNum_len0.2 hq0)]
  rw[hq0,Rat.add_zero]
  rfl
 rw[decide_eq_false (fun h=>hq0 (rNum_len0.1 h))]
 have e1:u_ref01_Mul (rNum p,lm q.den,())=some (lm (p.num.natAbs*q.den),()):=r_Mul64 p1 q2
 have e2:u_ref01_Mul (rNum q,lm p.den,())=some (lm (q.num.natAbs*p.den),()):=r_Mul64 q1 p2
 simp only[cond_false,r_Den,obS,e1,e2,r_Mul64 p2 q2,eqB_eq]
 have l1:=lm_small' (n:=p.num.natAbs*q.den) (by simp only[B64];omega)
 have l2:=lm_small' (n:=q.num.natAbs*p.den) (by simp only[B64];omega)
 by_cases hn:rNeg p=rNeg q
 ·rw[show (rNeg p==rNeg q)=true by simpa using hn]
  simp only[cond_true]
  rw[r_Add (by omega) (by omega)]
  simp only[obS]
  rw[r_reduce _ (by simp only[B64];omega) (by simp only[B64];omega) d0]
  simp only[obS]
  rw[hn,←add_same hn]
 ·rw[show (rNeg p==rNeg q)=false by simpa using hn]
  simp only[cond_false]
  rw[r_Cmp (by simp only[LM];omega) (by simp only[LM];omega)]
  simp only[obS,ltI_eq]
  by_cases hlt:p.num.natAbs*q.den<q.num.natAbs*p.den
  ·rw[decide_eq_true (by unfold cmpN;rw[if_pos hlt];omega)]
   simp only[cond_true]
   rw[r_Sub (by simp only[LM];omega) (by omega)]
   simp only[obS]
   rw[r_reduce _ (by simp only[B64];omega) (by simp only[B64];omega) d0]
   simp only[obS]
   have:=add_diff (p:=q) (q:=p) (Ne.symm hn) (by omega)
   rw[Rat.add_comm,this,Nat.mul_comm p.den]
  ·rw[decide_eq_false (by unfold cmpN;rw[if_neg hlt];split <;> omega)]
   simp only[cond_false]
   rw[r_Sub (by simp only[LM];omega) (by omega)]
   simp only[obS]
   rw[r_reduce _ (by simp only[B64];omega) (by simp only[B64];omega) d0]
   simp only[obS]
   rw[←add_diff hn (by omega)]
theorem Sm.neg{q:Rat}(h:Sm q):Sm (-q):=by
 unfold Sm at *
 rw[Rat.neg_num,Int.natAbs_neg,Rat.neg_den]
 exact h
theorem r_QCmp{p q:Rat}(hp:Sm p)(hq:Sm q):u_ref02_Cmp (rNeg p,rNum p,rDen p,rNeg q,rNum q,rDen q,())=some (cmpQ p q,()):=by
 obtain⟨p1,p2⟩:=sm_b hp
 obtain⟨q1,q2⟩:=sm_b hq
 have bp:=hp.1;have bq:=hq.1;have bpd:=hp.2;have bqd:=hq.2
 have m1:p.num.natAbs*q.den<2147483648*2147483648:=Nat.mul_lt_mul'' bp bqd
 have m2:q.num.natAbs*p.den<2147483648*2147483648:=Nat.mul_lt_mul'' bq bpd
 have l1:=lm_small' (n:=p.num.natAbs*q.den) (by simp only[B64];omega)
 have l2:=lm_small' (n:=q.num.natAbs*p.den) (by simp only[B64];omega)
 have e1:u_ref01_Mul (rNum p,lm q.den,())=some (lm (p.num.natAbs*q.den),()):=r_Mul64 p1 q2
 have e2:u_ref01_Mul (rNum q,lm p.den,())=some (lm (q.num.natAbs*p.den),()):=r_Mul64 q1 p2
 have hprog:=p_Cmp hp hq
 unfold u_rational_Cmp at hprog
 unfold u_ref02_Cmp
 simp only[r_Sign,obS,eqI_eq,ltI_eq,subI_eq]
 simp only[p_Sign hp.fit,p_Sign hq.fit,obS,eqI_eq,ltI_eq] at hprog
 by_cases hs:sgnQ p=sgnQ q
 ·rw[decide_eq_true hs]
  simp only[Bool.not_true,cond_false,r_Den,obS,e1,e2]
  rw[r_Cmp (by simp only[LM];omega) (by simp only[LM];omega)]
  simp only[obS]
  obtain⟨c1,c2,c3⟩:=cmpQ_of (p:=p) (q:=q)
  have hneg:rNeg p=rNeg q:=by
   unfold rNeg
   rcases sgnQ_vals p with⟨a1,a2⟩ | ⟨a1,a2⟩ | ⟨a1,a2⟩ <;> rcases sgnQ_vals q with⟨b1,b2⟩ | ⟨b1,b2⟩ | ⟨b1,b2⟩ <;> first
    | (rw[a1,b1] at hs;cases hs;done)
    | (subst a2;subst b2;rfl)
    | (rw[decide_eq_true a2,decide_eq_true b2])
    | (rw[decide_eq_false (by omega),decide_eq_false (by omega)])
  have hx:p.num*(q.den:Int)=sg (rNeg p) (p.num.natAbs*q.den):=by rw[←sgn_mul,sg_num]
  have hy:q.num*(p.den:Int)=sg (rNeg p) (q.num.natAbs*p.den):=by rw[←sgn_mul,hneg,sg_num]
  rw[hx,hy] at c1 c2 c3
  generalize p.num.natAbs*q.den=a at *
  generalize q.num.natAbs*p.den=b at *
  unfold cmpN
  cases hn:rNeg p with
  | true=>
   rw[hn] at c1 c2 c3
   simp only[sg,if_true] at c1 c2 c3
   simp only[cond_true]
   by_cases h1:a<b
   ·rw[if_pos h1,c3 (by omega),wri' (by omega) (by omega)];rfl
   ·rw[if_neg h1]
    by_cases h2:a=b
    ·rw[if_pos h2,c2 (by omega),wri' (by omega) (by omega)];rfl
    ·rw[if_neg h2,c1 (by omega),wri' (by omega) (by omega)];rfl
  | false=>
   rw[hn] at c1 c2 c3
   simp only[sg,Bool.false_eq_true,if_false] at c1 c2 c3
   simp only[cond_false]
   by_cases h1:a<b
   ·rw[if_pos h1,c1 (by omega)]
   ·rw[if_neg h1]
    by_cases h2:a=b
    ·rw[if_pos h2,c2 (by omega)]
    ·rw[if_neg h2,c3 (by omega)]
 ·rw[decide_eq_false hs] at hprog ⊢
  exact hprog
end Go.Eng.Rt
namespace Go.Eng
theorem tmod_lo(a:Int){b:Int}(h:0<b):-b<a.tmod b:=by
 rcases Int.lt_or_le a 0 with ha | ha
 ·have h1:(-(-a)).tmod b=-((-a).tmod b):=Int.neg_tmod (-a) b
  rw[Int.neg_neg] at h1
  have h2:(-a).tmod b<b:=by rw[Int.tmod_eq_emod_of_nonneg (by omega)];exact Int.emod_lt_of_pos _ h
  omega
 ·have:0≤a.tmod b:=by rw[Int.tmod_eq_emod_of_nonneg ha];exact Int.emod_nonneg _ (by omega)
  omega
theorem tmod_hi(a:Int){b:Int}(h:0<b):a.tmod b<b:=by
 rcases Int.lt_or_le a 0 with ha | ha
 ·have h1:(-(-a)).tmod b=-((-a).tmod b):=Int.neg_tmod (-a) b
  rw[Int.neg_neg] at h1
  have h2:0≤(-a).tmod b:=by rw[Int.tmod_eq_emod_of_nonneg (by omega)];exact Int.emod_nonneg _ (by omega)
  omega
 ·rw[Int.tmod_eq_emod_of_nonneg ha];exact Int.emod_lt_of_pos _ h
def modV(a n:Int):Int:=if a.tmod n<0 then a.tmod n+n else a.tmod n
theorem modV_lo(a:Int){n:Int}(h:0<n):0≤modV a n:=by
 unfold modV
 have:=tmod_lo a h
 split <;> omega
theorem modV_hi(a:Int){n:Int}(h:0<n):modV a n<n:=by
 unfold modV
 have:=tmod_hi a h
 split <;> omega
theorem s_Mod(a:Int){n:Int}(h1:0<n)(h2:n≤4611686018427387904):u_brepkernelmade_Mod (a,n,())=some (modV a n,()):=by
 unfold u_brepkernelmade_Mod modV
 have:=tmod_lo a h1
 have:=tmod_hi a h1
 rw[nz_eq (show n≠0 by omega)]
 simp only[obS,modI_eq,ltI_eq,addI_eq]
 by_cases h:a.tmod n<0
 ·rw[decide_eq_true h,if_pos h,wr64 (by omega) (by omega)];rfl
 ·rw[decide_eq_false h,if_neg h];rfl
def intT(z:Int):T:=.v (.int .i64 z)
def DiceOK(L:List T)(a:Int):Prop:=∃zs:List Int,L=zs.map intT∧zs.length≤1000000∧0≤a∧a≤zs.length
theorem s_Next{L:List T}{a:Int}(h:DiceOK L a){n:Int}(h1:0<n)(h2:n≤4611686018427387904):
 ∃v a',u___brepkernelmade_Dice__Next ((),n,L,a,())=some (v,L,a',())∧0≤v∧v<n∧DiceOK L a':=by
 obtain⟨zs,rfl,hz,ha0,ha1⟩:=h
 unfold u___brepkernelmade_Dice__Next
 simp only[leI_eq,lenL_eq,List.length_map,addI_eq,subI_eq]
 by_cases hc:(zs.length:Int)≤a
 ·rw[decide_eq_true hc]
  exact⟨0,a,rfl,Int.le_refl _,h1,zs,rfl,hz,ha0,ha1⟩
 ·rw[decide_eq_false hc]
  obtain⟨i,rfl⟩:=Int.eq_ofNat_of_zero_le ha0
  have hi:i<zs.length:=by omega
  rw[wr64 (n:=(i:Int)+1) (by omega) (by omega),wr64 (n:=(i:Int)+1-1) (by omega) (by omega),Int.add_sub_cancel,idxL_nat,List.getElem?_map,List.getElem?_eq_getElem hi]
  simp only[cond_false,Option.map_some,obS,intT,T_cell_v,T_int,s_Mod _ h1 h2]
  exact⟨_,_,rfl,modV_lo _ h1,modV_hi _ h1,zs,rfl,hz,by omega,by omega⟩
theorem s_Light(L:List T):u_brepkernelmade_Light (L,())=some (decide (L.length≤500),()):=by
 unfold u_brepkernelmade_Light
 simp only[leI_eq,lenL_eq]
 congr 2
 rw[Bool.eq_iff_iff];simp;omega
theorem s_Roll(L:List T):u_brepkernelmade_Roll (L,())=some (L,0,()):=rfl
end Go.Eng
namespace Go.Eng.Lg
open Go.Eng Go.Eng.Rt
structure E where
 s:Int
 k:Int
 q:Rat
def entT(e:E):T:=.agg [.v (.int .i64 e.s),.v (.int .i64 e.k),.v (.bool (rNeg e.q)),.sl 1 (rNum e.q),.sl 1 (rDen e.q)]
theorem c0(e:E):T.int? .i64 ((entT e).cell 0)=some e.s:=by simp[entT]
theorem c1(e:E):T.int? .i64 ((entT e).cell 1)=some e.k:=by simp[entT]
theorem c2(e:E):T.bool? ((entT e).cell 2)=some (rNeg e.q):=by simp[entT]
theorem c3(e:E):T.sl? 1 ((entT e).cell 3)=some (rNum e.q):=by simp[entT]
theorem c4(e:E):T.sl? 1 ((entT e).cell 4)=some (rDen e.q):=by simp[entT]
def goodE(e:E):Bool:=decide (0≤e.s)&&decide (e.s≤2147483647)&&decide (1≤e.k)&&decide (e.k≤5)&&decide (0≤sgnQ e.q)
theorem e_proper{e:E}(h:Fit e.q):u_ledger_proper (e.s,e.k,rNeg e.q,rNum e.q,rDen e.q,())=some (goodE e,()):=by
 unfold u_ledger_proper goodE
 simp only[leI_eq,p_Sign h,obS]
 cases decide (0≤e.s) <;> cases decide (e.s≤2147483647) <;> cases decide (1≤e.k) <;> cases decide (e.k≤5) <;> rfl
theorem e_good(e:E):u_ref40_good (e.s,e.k,rNeg e.q,rNum e.q,rDen e.q,())=some (goodE e,()):=by
 unfold u_ref40_good goodE
 simp only[leI_eq,r_Sign,obS]
 cases decide (0≤e.s) <;> cases decide (e.s≤2147483647) <;> cases decide (1≤e.k) <;> cases decide (e.k≤5) <;> rfl
def Fits(l:List E):Prop:=∀e∈l,Fit e.q
theorem Fits.get{l:List E}(h:Fits l){i:Nat}{e:E}(hi:l[i]?=some e):Fit e.q:=h e (List.mem_of_getElem? hi)
theorem ent_get(l:List E)(i:Nat):(l.map entT)[i]?=(l[i]?).map entT:=List.getElem?_map
def validL(l:List E):Bool:=decide (l.length≤1024)&&l.all goodE
theorem scanE{S X:Type}{F:S→Option (S⊕X)}(l:List E)(st:Nat→S)(yes:X)(no:Nat→X)(p:E→Bool)
 (h:∀i e,l[i]?=some e→F (st i)=if p e then some (.inl (st (i+1))) else some (.inr (no i))) (hend:F (st l.length)=some (.inr yes)):
 ∃i,loopU F (st 0)=some (if l.all p then yes else no i):=by
 have key:∀d i,i+d=l.length→∃j,loopU F (st i)=some (if (l.drop i).all p then yes else no j):=by
  intro d
  induction d with
  | zero=>
   intro i hi
   have:i=l.length:=by omega
   subst this
   exact⟨0,by rw[List.drop_length,loopU_out hend];rfl⟩
  | succ d ih=>
   intro i hi
   have hlt:i<l.length:=by omega
   have hc:=h i _ (List.getElem?_eq_getElem hlt)
   rw[List.drop_eq_getElem_cons hlt]
   by_cases hp:p l[i]=true
   ·rw[if_pos hp] at hc
    obtain⟨j,hj⟩:=ih (i+1) (by omega)
    exact⟨j,by rw[loopU_go hc,hj,List.all_cons,hp,Bool.true_and]⟩
   ·rw[if_neg hp] at hc
    exact⟨i,by rw[loopU_out hc,List.all_cons,(Bool.not_eq_true _).mp hp,Bool.false_and];rfl⟩
 obtain⟨j,hj⟩:=key l.length 0 (by omega)
 exact⟨j,by rw[hj,List.drop_zero]⟩
theorem e_RefValid(l:List E)(hl:l.length<1000000):u_ref40_Valid (l.map entT,())=some (validL l,()):=by
 unfold u_ref40_Valid validL
 simp only[ltI_eq,lenL_eq,List.length_map]
 by_cases h:l.length≤1024
 ·rw[decide_eq_false (by omega),decide_eq_true h]
  obtain⟨j,hj⟩:=scanE (F:=u_ref40_Valid_l0) l (fun i=>(l.map entT,(i:Int),())) (.inr (.inl ())) (fun _=>.inl (false,())) goodE (fun i e he=>by
   have hlt:i<l.length:=(List.getElem?_eq_some_iff.1 he).1
   unfold u_ref40_Valid_l0
   simp only[ltI_eq,lenL_eq,List.length_map,addI_eq,idxL_nat,ent_get,he,Option.map_some]
   rw[decide_eq_true (by omega),show (i:Int)+1=((i+1:Nat):Int) by omega,wri (by omega)]
   simp only[cond_true,obS,c0,c1,c2,c3,c4,e_good]
   cases goodE e <;> rfl) (by
   unfold u_ref40_Valid_l0
   simp only[ltI_eq,lenL_eq,List.length_map]
   rw[decide_eq_false (by omega)];rfl)
  simp only[cond_false]
  rw[show (0:Int)=((0:Nat):Int) from rfl,hj]
  cases l.all goodE <;> rfl
 ·rw[decide_eq_true (by omega),decide_eq_false h];rfl
theorem e_Valid(l:List E)(hf:Fits l)(hl:l.length<1000000):u_ledger_Valid (l.map entT,())=some (validL l,()):=by
 unfold u_ledger_Valid validL
 simp only[leI_eq,lenL_eq,List.length_map]
 by_cases h:l.length≤1024
 ·rw[decide_eq_true (by omega),decide_eq_true h]
  obtain⟨j,hj⟩:=scanE (F:=u_slices_IndexFunc___api_Entry_api_Entry__l0) l (fun i=>(l.map entT,(),(l.length:Int),(i:Int),())) (.inr (.inl ())) (fun i=>.inl ((i:Int),())) goodE (fun i e he=>by
   have hlt:i<l.length:=(List.getElem?_eq_some_iff.1 he).1
   have hfe:=hf.get he
   unfold u_slices_IndexFunc___api_Entry_api_Entry__l0 u_ledger_Valid_1
   simp only[ltI_eq,addI_eq,idxL_nat,ent_get,he,Option.map_some]
   rw[decide_eq_true (by omega),show (i:Int)+1=((i+1:Nat):Int) by omega,wri (by omega)]
   simp only[cond_true,obS,c0,c1,c2,c3,c4,e_proper hfe]
   cases goodE e <;> rfl) (by
   unfold u_slices_IndexFunc___api_Entry_api_Entry__l0
   simp only[ltI_eq]
   rw[decide_eq_false (by omega)];rfl)
  unfold u_slices_ContainsFunc___api_Entry_api_Entry_ u_slices_IndexFunc___api_Entry_api_Entry_
  simp only[cond_true,lenL_eq,List.length_map]
  rw[show (0:Int)=((0:Nat):Int) from rfl,hj]
  cases l.all goodE
  ·simp only[Bool.false_eq_true,if_false,obS,onS_l,leI_eq]
   rw[decide_eq_true (by omega)];rfl
  ·simp
 ·rw[decide_eq_false (by omega),decide_eq_false h];rfl
theorem e_Entry{e:E}(h:Fit e.q):u_own_Entry (e.s,e.k,rNeg e.q,rNum e.q,rDen e.q,())=some (e.s,e.k,rNeg e.q,rNum e.q,rDen e.q,()):=by
 unfold u_own_Entry
 simp only[p_Rat h,obS]
def zeroT:T:=.agg [.v (.int .i64 0),.v (.int .i64 0),.v (.bool false),.v (.slice none 0 0),.v (.slice none 0 0)]
theorem upd5(x:T)(a b c d e:T)(hx:x.cells.length=5):T.upd 5 x 0 [a,b,c,d,e]=.agg [a,b,c,d,e]:=by
 unfold T.upd
 have:x.cells.take 0++[a,b,c,d,e]++x.cells.drop (0+[a,b,c,d,e].length)=[a,b,c,d,e]:=by
  rw[List.take_zero,List.nil_append,List.drop_eq_nil_of_le (by simp[hx]),List.append_nil]
 rw[this];rfl
theorem each_loop(l:List E)(hf:Fits l)(hl:l.length<1000000):
 loopU u_own_each_api_Entry__Entry_l0 ((),List.replicate l.length zeroT,l.map entT,(l.length:Int),(0:Int),())=some (.inl (l.map entT,())):=by
 have key:∀i,i≤l.length→loopU u_own_each_api_Entry__Entry_l0 ((),List.replicate l.length zeroT,l.map entT,(l.length:Int),(0:Int),()) =
  loopU u_own_each_api_Entry__Entry_l0 ((),(l.take i).map entT++List.replicate (l.length-i) zeroT,l.map entT,(l.length:Int),(i:Int),()):=by
  intro i
  induction i with
  | zero=>intro _;simp
  | succ i ih=>
   intro hi
   have hlt:i<l.length:=hi
   have he:=List.getElem?_eq_getElem hlt
   have hfe:=hf.get he
   rw[ih (by omega)]
   have hlen:((l.take i).map entT++List.replicate (l.length-i) zeroT).length=l.length:=by simp;omega
   have hti:((l.take i).map entT).length=i:=by simp;omega
   refine loopU_go ?_
   unfold u_own_each_api_Entry__Entry_l0
   simp only[ltI_eq,addI_eq,idxL_nat,ent_get,he,Option.map_some,lenL_eq,hlen]
   rw[decide_eq_true (by omega),show (i:Int)+1=((i+1:Nat):Int) by omega,wri (by omega),chkI_nat (by omega)]
   simp only[cond_true,obS,c0,c1,c2,c3,c4,e_Entry hfe,idxN_eq]
   have hz:((l.take i).map entT++List.replicate (l.length-i) zeroT)[i]?=some zeroT:=by
    rw[List.getElem?_append_right (by omega),hti,Nat.sub_self,List.getElem?_replicate,if_pos (by omega)]
   rw[hz]
   simp only[obS]
   rw[upd5 _ _ _ _ _ _ rfl]
   congr 5
   rw[List.set_append_right _ _ (by omega),hti,Nat.sub_self,show l.length-i=(l.length-(i+1))+1 by omega,List.replicate_succ,List.set_cons_zero,List.take_succ_eq_append_getElem hlt,List.map_append,List.append_assoc]
   rfl
 rw[key l.length (Nat.le_refl _),List.take_length,Nat.sub_self,List.replicate_zero,List.append_nil]
 refine loopU_out ?_
 unfold u_own_each_api_Entry__Entry_l0
 simp only[ltI_eq]
 rw[decide_eq_false (by omega)];rfl
theorem e_Ledger(l:List E)(hf:Fits l)(hl:l.length<1000000):u_own_Ledger (l.map entT,())=some (l.map entT,()):=by
 unfold u_own_Ledger u_own_each_api_Entry__Entry
 simp only[lenL_eq,List.length_map]
 rw[mkLen_ok (by omega) (by omega) (by omega) (by decide)]
 simp only[obS,Int.toNat_natCast,repL_eq]
 have:=each_loop l hf hl
 unfold zeroT at this
 rw[this]
 simp only[obS,onS_l]
 unfold nilL
 cases l with
 | nil=>rw[show ([]:List E).map entT=[] from rfl];simp only[List.isEmpty_nil,cond_true];rw[bothU_eq (r:=([],())) rfl rfl];rfl
 | cons e l=>rfl
def shE(z:Int)(e:E):E:={ e with s:=e.s+z }
theorem updS(e:E)(z:Int):T.upd 5 (entT e) 0 [T.v (.int .i64 z)]=entT { e with s:=z }:=by
 unfold T.upd entT;rfl
theorem e_ShiftBad(l:List E)(hf:Fits l)(hl:l.length<1000000)(z:Int)(hv:validL l=false):u_ledger_Shift (l.map entT,z,())=some ([],1,()):=by
 unfold u_ledger_Shift
 simp only[e_Valid l hf hl,hv,obS,Bool.not_false,cond_true]
def sumQ(l:List E):Rat:=l.foldl (fun a e=>a+e.q) 0
theorem sumQ_snoc(l:List E)(e:E):sumQ (l++[e])=sumQ l+e.q:=by unfold sumQ;rw[List.foldl_append];rfl
theorem sum_en(l:List E)(h:∀e∈l,En 60 100000 e.q):En 60 (100000*l.length) (sumQ l):=by
 have key:∀k (l:List E),l.length=k→(∀e∈l,En 60 100000 e.q)→En 60 (100000*k) (sumQ l):=by
  intro k
  induction k with
  | zero=>
   intro l hl _
   have:=List.eq_nil_of_length_eq_zero hl
   subst this
   exact En.zero
  | succ k ih=>
   intro l hl h
   have hne:l≠[]:=by intro e;subst e;simp at hl
   obtain⟨m,a,rfl⟩:∃m a,l=m++[a]:=⟨l.dropLast,l.getLast hne,(List.dropLast_concat_getLast hne).symm⟩
   rw[sumQ_snoc]
   exact(En.add (by decide) (ih m (by simpa using hl) fun e he=>h e (List.mem_append.2 (.inl he))) (h a (by simp))).mono (by omega)
 exact key _ l rfl h
theorem e_sum(l:List E)(h:∀e∈l,En 60 100000 e.q)(hl:l.length≤1024):u_ledger_sum (l.map entT,(),())=some (rNeg (sumQ l),rNum (sumQ l),rDen (sumQ l),()):=by
 have sm:∀k,k≤l.length→Sm (sumQ (l.take k)):=fun k hk=>by
  have:=sum_en (l.take k) fun e he=>h e (List.mem_of_mem_take he)
  exact this.sm (by decide) (by decide) (by rw[List.length_take];omega)
 let st:Nat→_:=fun(i:Nat)=>(((),(),(),l.map entT,(l.length:Int),(i:Int),false,T.v (.slice none 0 0),T.v (.slice none 0 0),rNeg (sumQ (l.take i)),rNum (sumQ (l.take i)),rDen (sumQ (l.take i)),()):Unit×Unit×Unit×List T×Int×Int×Bool×T×T×Bool×List T×List T×Unit)
 have hgo:∀i,i<l.length→u_ledger_sum_l0 (st i)=some (.inl (st (i+1))):=fun i hlt=>by
  have he:=List.getElem?_eq_getElem hlt
  have hq:Sm l[i].q:=(h _ (List.getElem_mem hlt)).sm (by decide) (by decide) (by decide)
  unfold u_ledger_sum_l0 u_ledger_Total_1
  simp only[st,ltI_eq,addI_eq,idxL_nat,ent_get,he,Option.map_some]
  rw[decide_eq_true (by omega)]
  simp only[cond_true,obS,c0,c1,c2,c3,c4,p_Add (sm i (by omega)) hq,onS_l]
  rw[show (i:Int)+1=((i+1:Nat):Int) by omega,wri (by omega)]
  rw[List.take_succ_eq_append_getElem hlt,sumQ_snoc]
 have hall:=loopU_for (F:=u_ledger_sum_l0) l.length st hgo
 have h0:st 0=((),(),(),l.map entT,(l.length:Int),(0:Int),false,T.v (.slice none 0 0),T.v (.slice none 0 0),false,[],[],()):=by
  simp only[st,List.take_zero]
  show _=_
  rw[show sumQ []=0 from rfl,rNeg_zero,rNum_zero,rDen_zero]
  rfl
 have hend:loopU u_ledger_sum_l0 (st l.length)=some (.inl ((),(),false,T.v (.slice none 0 0),T.v (.slice none 0 0),rNeg (sumQ l),rNum (sumQ l),rDen (sumQ l),())):=by
  refine loopU_out ?_
  unfold u_ledger_sum_l0
  simp only[st,ltI_eq]
  rw[decide_eq_false (by omega),List.take_length];rfl
 unfold u_ledger_sum
 simp only[lenL_eq,List.length_map]
 rw[←h0,hall,hend]
 have fit:Fit (sumQ l):=by have:=sm l.length (Nat.le_refl _);rw[List.take_length] at this;exact this.fit
 simp only[obS,onS_l,p_Rat fit]
theorem e_Total(l:List E)(h:∀e∈l,En 60 100000 e.q)(hl:l.length≤1024)(hv:validL l=true):u_ledger_Total (l.map entT,())=some (rNeg (sumQ l),rNum (sumQ l),rDen (sumQ l),true,()):=by
 have hf:Fits l:=fun e he=>((h e he).sm (by decide) (by decide) (by decide)).fit
 unfold u_ledger_Total
 simp only[e_Valid l hf (by omega),hv,obS,Bool.not_true,cond_false,e_sum l h hl]
theorem e_Same(l:List E)(hf:Fits l)(hl:l.length<1000000):u_ref29_EqualLedger (l.map entT,l.map entT,())=some (true,()):=by
 unfold u_ref29_EqualLedger
 simp only[lenL_eq,eqI_eq,decide_true,Bool.not_true,cond_false]
 have hall:=loopU_for (F:=u_ref29_EqualLedger_l0) l.length (fun(i:Nat)=>(l.map entT,l.map entT,(i:Int),())) (fun i hlt=>by
  have he:=List.getElem?_eq_getElem hlt
  have hfe:=hf _ (List.getElem_mem hlt)
  unfold u_ref29_EqualLedger_l0
  simp only[ltI_eq,addI_eq,idxL_nat,ent_get,he,Option.map_some,lenL_eq,List.length_map,eqI_eq]
  rw[decide_eq_true (by omega),show (i:Int)+1=((i+1:Nat):Int) by omega,wri (by omega)]
  simp only[cond_true,obS,c0,c1,c2,c3,c4,r_Same hfe hfe,decide_true,Bool.not_true,cond_false])
 rw[show (0:Int)=((0:Nat):Int) from rfl,hall,loopU_out (e:=.inr (.inl ())) (by
  unfold u_ref29_EqualLedger_l0
  simp only[ltI_eq,lenL_eq,List.length_map]
  rw[decide_eq_false (by omega)];rfl)]
 rfl
def Small(e:E):Prop:=(-1000≤e.s∧e.s≤1000)∧(En 60 480 e.q∨En 60 480 (-e.q))
theorem s_Bool{L:List T}{a:Int}(h:DiceOK L a){n:Int}(h1:0<n)(h2:n≤4611686018427387904):∃b a',u___brepkernelmade_Dice__Bool ((),n,L,a,())=some (b,L,a',())∧DiceOK L a':=by
 obtain⟨v,a',e,_,_,h'⟩:=s_Next h h1 h2
 unfold u___brepkernelmade_Dice__Bool
 rw[e]
 exact⟨_,a',rfl,h'⟩
theorem frac_en{n d:Int}(hn:0≤n∧n≤8)(hd:1≤d∧d≤6):En 60 480 (fracQ n d):=by
 rw[fracQ_pos (by omega)]
 obtain⟨n',rfl⟩:=Int.eq_ofNat_of_zero_le hn.1
 obtain⟨d',rfl⟩:=Int.eq_ofNat_of_zero_le (show 0≤d by omega)
 have:d'=1∨d'=2∨d'=3∨d'=4∨d'=5∨d'=6:=by omega
 refine En.frac (by simp;omega) (by decide) ?_ ?_
 ·rcases this with rfl | rfl | rfl | rfl | rfl | rfl <;> decide
 ·rcases this with rfl | rfl | rfl | rfl | rfl | rfl <;> simp <;> omega
theorem entries_step{L:List T}{a:Int}(hD:DiceOK L a){l:List E}{i:Int}(hi:0<i)(hi2:i≤1000)(hl:l.length+i.toNat≤1000)(hS:∀e∈l,Small e):
 ∃e a',u___brepkernelmade_Dice__Entries_l0 ((),l.map entT,i,L,a,())=some (.inl ((),(l++[e]).map entT,i-1,L,a',()))∧DiceOK L a'∧Small e:=by
 obtain⟨v1,a1,e1,p1,q1,D1⟩:=s_Next hD (n:=4) (by omega) (by omega)
 obtain⟨v2,a2,e2,p2,q2,D2⟩:=s_Next D1 (n:=5) (by omega) (by omega)
 obtain⟨v3,a3,e3,p3,q3,D3⟩:=s_Next D2 (n:=9) (by omega) (by omega)
 obtain⟨v4,a4,e4,p4,q4,D4⟩:=s_Next D3 (n:=6) (by omega) (by omega)
 have w4:wr .i64 (1+v4)=1+v4:=wri' (by omega) (by omega)
 have w2:wr .i64 (1+v2)=1+v2:=wri' (by omega) (by omega)
 have fr:=r_Frac (n:=v3) (d:=1+v4) (by omega) (by omega) (by omega) (by omega) (by omega)
 have en:=frac_en (n:=v3) (d:=1+v4) ⟨p3,by omega⟩ ⟨by omega,by omega⟩
 generalize fracQ v3 (1+v4)=q at *
 obtain⟨b1,a5,f1,D5⟩:=s_Bool D4 (n:=15) (by omega) (by omega)
 obtain⟨v6,a6,e6,p6,q6,D6⟩:=s_Next D5 (n:=2) (by omega) (by omega)
 have w6:wr .i64 (0-v6)=0-v6:=wri' (by omega) (by omega)
 have wi:wr .i64 (i-1)=i-1:=wri' (by omega) (by omega)
 obtain⟨s,a7,hs,D7,h1⟩:∃(s a7:Int),(-1000≤s∧s≤1000)∧DiceOK L a7∧(s=(bif b1 then 0-v6 else v1)∧a7=(bif b1 then a6 else a5)):=by
  cases b1
  ·exact⟨v1,a5,⟨by omega,by omega⟩,D5,rfl,rfl⟩
  ·exact⟨0-v6,a6,⟨by omega,by omega⟩,D6,rfl,rfl⟩
 obtain⟨b2,a8,f2,D8⟩:=s_Bool D7 (n:=15) (by omega) (by omega)
 obtain⟨v9,a9,e9,p9,q9,D9⟩:=s_Next D8 (n:=8) (by omega) (by omega)
 obtain⟨k,a10,D10,h2⟩:∃(k a10:Int),DiceOK L a10∧(k=(bif b2 then v9 else 1+v2)∧a10=(bif b2 then a9 else a8)):=by
  cases b2
  ·exact⟨1+v2,a8,D8,rfl,rfl⟩
  ·exact⟨v9,a9,D9,rfl,rfl⟩
 obtain⟨b3,a11,f3,D11⟩:=s_Bool D10 (n:=20) (by omega) (by omega)
 have ng:=r_Neg q
 refine⟨⟨s,k,bif b3 then -q else q⟩,a11,?_,D11,hs,?_⟩
 ·unfold u___brepkernelmade_Dice__Entries_l0
  simp only[ltI_eq,subI_eq,addI_eq]
  rw[decide_eq_true hi]
  simp only[cond_true,e1,e2,e3,e4,obS,w4,fr,f1,e6,w6,w2]
  have hroom:∀t:T,room (l.map entT) [t] 72=some (l.map entT++[t]):=fun t=>room_ok (by simp;omega) (by decide)
  obtain⟨h11,h12⟩:=h1
  obtain⟨h21,h22⟩:=h2
  subst h11;subst h12;subst h21;subst h22
  cases b1 <;> simp only[cond_true,cond_false,obS,onS_l] at f2 e9 f3 ⊢ <;> rw[f2] <;> simp only[obS,e9] <;>
   cases b2 <;> simp only[cond_true,cond_false,obS,onS_l] at f3 ⊢ <;> rw[f3] <;> simp only[obS,ng] <;>
   cases b3 <;> simp only[cond_true,cond_false,obS,onS_l,hroom,wi] <;> simp[entT]
 ·cases b3
  ·exact .inl en
  ·exact .inr (by simpa using en)
theorem e_Entries{L:List T}{a:Int}(hD:DiceOK L a){n:Int}(hn:0≤n)(hn2:n≤100):
 ∃(l:List E) (a':Int),u___brepkernelmade_Dice__Entries ((),n,L,a,())=some ((l.map entT:List T),L,a',())∧DiceOK L a'∧l.length≤n.toNat∧∀e∈l,Small e:=by
 obtain⟨v,a0,e0,p0,q0,D0⟩:=s_Next hD (n:=n+1) (by omega) (by omega)
 have key:∀(d:Nat) (l:List E) (a:Int),d+l.length≤n.toNat→DiceOK L a→(∀e∈l,Small e)→∃(l':List E) (a':Int),loopU u___brepkernelmade_Dice__Entries_l0 ((),l.map entT,(d:Int),L,a,())=some (.inl (l'.map entT,L,a',()))∧DiceOK L a'∧l'.length≤n.toNat∧∀e∈l',Small e:=by
  intro d
  induction d with
  | zero=>
   intro l a hl hD hS
   refine⟨l,a,loopU_out ?_,hD,by omega,hS⟩
   unfold u___brepkernelmade_Dice__Entries_l0
   simp only[ltI_eq]
   rw[decide_eq_false (by omega)];rfl
  | succ d ih=>
   intro l a hl hD hS
   obtain⟨e,a',h1,h2,h3⟩:=entries_step hD (l:=l) (i:=((d+1:Nat):Int)) (by omega) (by omega) (by simp;omega) hS
   rw[loopU_go h1,show ((d+1:Nat):Int)-1=(d:Int) by omega]
   exact ih (l++[e]) a' (by simp;omega) h2 (fun x hx=>by
    rcases List.mem_append.1 hx with hx | hx
    ·exact hS x hx
    ·simp at hx;subst hx;exact h3)
 obtain⟨d,rfl⟩:=Int.eq_ofNat_of_zero_le p0
 obtain⟨l,a',h1,h2,h3,h4⟩:=key d [] a0 (by simp;omega) D0 (fun e he=>by cases he)
 refine⟨l,a',?_,h2,h3,h4⟩
 unfold u___brepkernelmade_Dice__Entries
 simp only[addI_eq]
 rw[wri' (by omega) (by omega),e0]
 simp only[obS]
 rw[show ([]:List T)=([]:List E).map entT from rfl,h1]
 simp only[obS,onS_l]
theorem e_sane:u_brepkernellaw40_sane ()=some (true,()):=by
 have f1:=r_Frac (n:=1) (d:=2) (by omega) (by omega) (by omega) (by omega) (by omega)
 have f2:=r_Frac (n:=1) (d:=3) (by omega) (by omega) (by omega) (by omega) (by omega)
 have f3:=r_Frac (n:=5) (d:=6) (by omega) (by omega) (by omega) (by omega) (by omega)
 have f4:=r_Frac (n:=4) (d:=5) (by omega) (by omega) (by omega) (by omega) (by omega)
 let l:List E:=[⟨0,2,fracQ 1 2⟩,⟨0,3,fracQ 1 3⟩]
 have hen:∀e∈l,En 60 480 e.q:=fun e he=>by
  simp only[l,List.mem_cons,List.not_mem_nil,or_false] at he
  rcases he with rfl | rfl
  ·exact frac_en (n:=1) (d:=2) ⟨by omega,by omega⟩ ⟨by omega,by omega⟩
  ·exact frac_en (n:=1) (d:=3) ⟨by omega,by omega⟩ ⟨by omega,by omega⟩
 have hv:validL l=true:=by decide +kernel
 have hs:sumQ l=fracQ 5 6:=by decide +kernel
 have tot:=e_Total l (fun e he=>(hen e he).mono (by decide)) (by decide) hv
 rw[hs] at tot
 have sm5:Sm (fracQ 5 6):=by unfold Sm;decide +kernel
 have sm4:Sm (fracQ 4 5):=by unfold Sm;decide +kernel
 have hl:l.map entT=[T.agg [.v (.int .i64 0),.v (.int .i64 2),.v (.bool (rNeg (fracQ 1 2))),.sl 1 (rNum (fracQ 1 2)),.sl 1 (rDen (fracQ 1 2))],T.agg [.v (.int .i64 0),.v (.int .i64 3),.v (.bool (rNeg (fracQ 1 3))),.sl 1 (rNum (fracQ 1 3)),.sl 1 (rDen (fracQ 1 3))]]:=rfl
 rw[hl] at tot
 unfold u_brepkernellaw40_sane u_ledger_Within
 simp only[f1,f2,f3,f4,tot,obS,cond_true,r_Same sm5.fit sm5.fit,decide_true,p_Cmp sm5 sm5,p_Cmp sm5 sm4,leI_eq]
 rw[show cmpQ (fracQ 5 6) (fracQ 5 6)=0 by decide +kernel,show cmpQ (fracQ 5 6) (fracQ 4 5)=1 by decide +kernel]
 rfl
theorem small_fit{e:E}(h:Small e):Fit e.q:=by
 rcases h.2 with h | h
 ·exact(h.sm (by decide) (by decide) (by decide)).fit
 ·have h2:=(h.sm (by decide) (by decide) (by decide)).fit
  unfold Fit at h2 ⊢
  rw[Rat.neg_num,Int.natAbs_neg,Rat.neg_den] at h2
  exact h2
theorem valid_en{l:List E}(hS:∀e∈l,Small e)(hv:validL l=true):∀e∈l,En 60 480 e.q:=fun e he=>by
 rcases(hS e he).2 with h | h
 ·exact h
 ·unfold validL at hv
  simp only[Bool.and_eq_true,List.all_eq_true] at hv
  have hg:=hv.2 e he
  unfold goodE at hg
  simp only[Bool.and_eq_true,decide_eq_true_eq] at hg
  have hn:=h.nn (by decide)
  have h0:¬e.q.num<0:=by rcases sgnQ_vals e.q with⟨a,b⟩ | ⟨a,b⟩ | ⟨a,b⟩ <;> first | omega | (rw[b];decide)
  have h1:¬(-e.q).num<0:=of_decide_eq_false hn
  rw[Rat.neg_num] at h1
  have:e.q=0:=Rat.num_eq_zero.1 (by omega)
  rw[this]
  exact En.zero
end Go.Eng.Lg
namespace Go.Eng.Lg
open Go.Eng Go.Eng.Rt
def sameK(a b:E):Prop:=a.s=b.s∧a.k=b.k
instance (a b:E):Decidable (sameK a b):=inferInstanceAs (Decidable (a.s=b.s∧a.k=b.k))
theorem sameK.symm{a b:E}(h:sameK a b):sameK b a:=⟨h.1.symm,h.2.symm⟩
theorem sameK.trans{a b c:E}(h:sameK a b)(h':sameK b c):sameK a c:=⟨h.1.trans h'.1,h.2.trans h'.2⟩
def addE:List E→E→List E
 | [],e=>[{ e with q:=0+e.q }]
 | x::m,e=>if sameK x e then { x with q:=x.q+e.q }::m else x::addE m e
def addAll(l:List E):List E:=l.foldl addE []
theorem addAll_snoc(l:List E)(e:E):addAll (l++[e])=addE (addAll l) e:=by unfold addAll;rw[List.foldl_append];rfl
def KD(m:List E):Prop:=m.Pairwise fun a b=>¬sameK a b
theorem mem_addE:∀{m:List E} {e x:E},x∈addE m e→x∈m∨(sameK x e∧(x.q=0+e.q∨∃y∈m,sameK y e∧x.q=y.q+e.q))
 | [],e,x,h=>by simp only[addE,List.mem_singleton] at h;subst h;exact .inr ⟨⟨rfl,rfl⟩,.inl rfl⟩
 | y::m,e,x,h=>by
  simp only[addE] at h
  split at h
  ·rename_i hs
   rcases List.mem_cons.1 h with rfl | h
   ·exact .inr ⟨hs,.inr ⟨y,by simp,hs,rfl⟩⟩
   ·exact .inl (by simp[h])
  ·rcases List.mem_cons.1 h with rfl | h
   ·exact .inl (by simp)
   ·rcases mem_addE h with h | ⟨h1,h2 | ⟨z,z1,z2,z3⟩⟩
    ·exact .inl (by simp[h])
    ·exact .inr ⟨h1,.inl h2⟩
    ·exact .inr ⟨h1,.inr ⟨z,by simp[z1],z2,z3⟩⟩
theorem addE_kd:∀{m:List E} {e:E},KD m→KD (addE m e)
 | [],e,_=>List.pairwise_singleton _ _
 | x::m,e,h=>by
  obtain⟨h1,h2⟩:=List.pairwise_cons.1 h
  simp only[addE]
  split
  ·exact List.pairwise_cons.2 ⟨fun y hy hs=>h1 y hy hs,h2⟩
  ·rename_i hs
   refine List.pairwise_cons.2 ⟨fun y hy hs'=>?_,addE_kd h2⟩
   rcases mem_addE hy with hy | ⟨hy,_⟩
   ·exact h1 y hy hs'
   ·exact hs (hs'.trans hy)
theorem addAll_kd(l:List E):KD (addAll l):=by
 have key:∀(l m:List E),KD m→KD (l.foldl addE m):=by
  intro l
  induction l with
  | nil=>intro m h;exact h
  | cons e l ih=>intro m h;exact ih _ (addE_kd h)
 exact key l [] List.Pairwise.nil
theorem addE_len(m:List E)(e:E):(addE m e).length≤m.length+1:=by
 induction m with
 | nil=>simp[addE]
 | cons x m ih=>simp only[addE];split <;> simp <;> omega
theorem addAll_len(l:List E):(addAll l).length≤l.length:=by
 have key:∀(l m:List E),(l.foldl addE m).length≤m.length+l.length:=by
  intro l
  induction l with
  | nil=>intro m;simp
  | cons e l ih=>intro m;have:=ih (addE m e);have:=addE_len m e;simp only[List.foldl_cons,List.length_cons];omega
 have:=key l []
 simpa[addAll] using this
theorem addE_en{m:List E}{e:E}{a b:Nat}(hm:∀x∈m,En 60 a x.q)(he:En 60 b e.q):∀x∈addE m e,En 60 (a+b) x.q:=fun x hx=>by
 rcases mem_addE hx with hx | ⟨_,hq | ⟨y,y1,_,hq⟩⟩
 ·exact(hm x hx).mono (Nat.le_add_right _ _)
 ·rw[hq];exact(En.add (a:=0) (by decide) En.zero he).mono (by omega)
 ·rw[hq];exact En.add (by decide) (hm y y1) he
theorem addAll_en{l:List E}{K:Nat}(h:∀e∈l,En 60 K e.q):∀x∈addAll l,En 60 (K*l.length) x.q:=by
 have key:∀k (l:List E),l.length=k→(∀e∈l,En 60 K e.q)→∀x∈addAll l,En 60 (K*k) x.q:=by
  intro k
  induction k with
  | zero=>
   intro l hl _ x hx
   have:=List.eq_nil_of_length_eq_zero hl
   subst this
   simp[addAll] at hx
  | succ k ih=>
   intro l hl h
   have hne:l≠[]:=by intro e;subst e;simp at hl
   obtain⟨m,a,rfl⟩:∃m a,l=m++[a]:=⟨l.dropLast,l.getLast hne,(List.dropLast_concat_getLast hne).symm⟩
   rw[addAll_snoc]
   intro x hx
   have:=addE_en (ih m (by simpa using hl) fun e he=>h e (List.mem_append.2 (.inl he))) (h a (by simp)) x hx
   exact this.mono (by rw[Nat.mul_succ];exact Nat.le_refl _)
 exact key _ l rfl h
def ltE(a b:E):Prop:=a.s<b.s∨(a.s=b.s∧a.k<b.k)
instance (a b:E):Decidable (ltE a b):=inferInstanceAs (Decidable (a.s<b.s∨(a.s=b.s∧a.k<b.k)))
theorem ltE_trans{a b c:E}(h:ltE a b)(h':ltE b c):ltE a c:=by unfold ltE at *;omega
theorem ltE_asymm{a b:E}(h:ltE a b):¬ltE b a:=by unfold ltE at *;omega
theorem ltE_or{a b:E}(h:¬sameK a b):ltE a b∨ltE b a:=by unfold ltE sameK at *;omega
theorem ltE_ne{a b:E}(h:ltE a b):¬sameK a b:=by unfold ltE sameK at *;omega
abbrev SL(m:List E):Prop:=m.Pairwise ltE
theorem SL.kd{m:List E}(h:SL m):KD m:=h.imp ltE_ne
theorem perm_sl_eq:∀{l m:List E},l.Perm m→SL l→SL m→l=m
 | [],m,hp,_,_=>(List.nil_perm.1 hp).symm
 | a::l,[],hp,_,_=>(List.perm_nil.1 hp)
 | a::l,b::m,hp,hl,hm=>by
  obtain⟨a1,a2⟩:=List.pairwise_cons.1 hl
  obtain⟨b1,b2⟩:=List.pairwise_cons.1 hm
  have hab:a=b:=by
   rcases List.mem_cons.1 (hp.mem_iff.1 (List.mem_cons_self (a:=a) (l:=l))) with h | h
   ·exact h
   ·rcases List.mem_cons.1 (hp.mem_iff.2 (List.mem_cons_self (a:=b) (l:=m))) with h' | h'
    ·exact h'.symm
    ·exact absurd (b1 a h) (ltE_asymm (a1 b h'))
  subst hab
  rw[perm_sl_eq ((List.perm_cons a).1 hp) a2 b2]
def insE(e:E):List E→List E
 | []=>[e]
 | x::m=>if ltE e x then e::x::m else x::insE e m
def isort(l:List E):List E:=l.foldr insE []
theorem insE_perm(e:E):∀m:List E,(insE e m).Perm (e::m)
 | []=>.refl _
 | x::m=>by
  simp only[insE]
  split
  ·exact .refl _
  ·exact((insE_perm e m).cons x).trans (.swap e x m)
theorem isort_perm(l:List E):(isort l).Perm l:=by
 induction l with
 | nil=>exact .refl _
 | cons e l ih=>exact(insE_perm e _).trans (ih.cons e)
theorem insE_sl(e:E):∀{m:List E},SL m→(∀x∈m,¬sameK e x)→SL (insE e m)
 | [],_,_=>List.pairwise_singleton _ _
 | x::m,h,hn=>by
  obtain⟨h1,h2⟩:=List.pairwise_cons.1 h
  simp only[insE]
  split
  ·rename_i hlt
   exact List.pairwise_cons.2 ⟨fun y hy=>by
    rcases List.mem_cons.1 hy with rfl | hy
    ·exact hlt
    ·exact ltE_trans hlt (h1 y hy),h⟩
  ·rename_i hlt
   refine List.pairwise_cons.2 ⟨fun y hy=>?_,insE_sl e h2 fun y hy=>hn y (by simp[hy])⟩
   rcases List.mem_cons.1 ((insE_perm e m).mem_iff.1 hy) with rfl | hy
   ·exact(ltE_or (hn x (by simp))).resolve_left hlt
   ·exact h1 y hy
theorem isort_sl:∀{l:List E},KD l→SL (isort l)
 | [],_=>List.Pairwise.nil
 | e::l,h=>by
  obtain⟨h1,h2⟩:=List.pairwise_cons.1 h
  exact insE_sl e (isort_sl h2) fun x hx=>h1 x ((isort_perm l).mem_iff.1 hx)
theorem KD.perm{l m:List E}(h:KD l)(hp:l.Perm m):KD m:=(hp.pairwise_iff (fun hab hba=>hab hba.symm)).1 h
theorem isort_congr{l m:List E}(hp:l.Perm m)(h:KD l):isort l=isort m:=
 perm_sl_eq (((isort_perm l).trans hp).trans (isort_perm m).symm) (isort_sl h) (isort_sl (h.perm hp))
theorem isort_of{l m:List E}(hp:m.Perm l)(h:KD l)(hm:SL m):m=isort l:=perm_sl_eq (hp.trans (isort_perm l).symm) hm (isort_sl h)
def sink:List E→E→List E→List E
 | [],e,A=>e::A
 | x::R,e,A=>if ltE e x then sink R e (x::A) else (x::R).reverse++e::A
theorem sink_perm:∀(R:List E) (e:E) (A:List E),(sink R e A).Perm (R.reverse++e::A)
 | [],e,A=>.refl _
 | x::R,e,A=>by
  simp only[sink]
  split
  ·refine(sink_perm R e (x::A)).trans ?_
   rw[List.reverse_cons,List.append_assoc]
   exact List.Perm.append_left _ (.swap x e A)
  ·exact .refl _
theorem sink_sl:∀(R:List E) (e:E) (A:List E),SL (R.reverse++A)→(∀y∈A,ltE e y)→(∀y∈R,¬sameK e y)→SL (sink R e A)
 | [],e,A,h,h1,_=>List.pairwise_cons.2 ⟨h1,h⟩
 | x::R,e,A,h,h1,h2=>by
  simp only[sink]
  have h':SL (R.reverse++x::A):=by rw[List.reverse_cons,List.append_assoc] at h;exact h
  split
  ·rename_i hlt
   exact sink_sl R e (x::A) h' (fun y hy=>by
    rcases List.mem_cons.1 hy with rfl | hy
    ·exact hlt
    ·exact h1 y hy) fun y hy=>h2 y (by simp[hy])
  ·rename_i hlt
   have hxe:ltE x e:=(ltE_or (h2 x (by simp))).resolve_left hlt
   obtain⟨p1,p2,p3⟩:=List.pairwise_append.1 h'
   obtain⟨q1,q2⟩:=List.pairwise_cons.1 p2
   have hAe:SL (e::A):=List.pairwise_cons.2 ⟨h1,q2⟩
   refine List.pairwise_append.2 ⟨(List.pairwise_append.1 h).1,hAe,fun a ha b hb=>?_⟩
   have hax:a=x∨ltE a x:=by
    rcases List.mem_cons.1 (List.mem_reverse.1 ha) with h | h
    ·exact .inl h
    ·exact .inr (p3 a (List.mem_reverse.2 h) x (by simp))
   have hae:ltE a e:=by
    rcases hax with rfl | hax
    ·exact hxe
    ·exact ltE_trans hax hxe
   rcases List.mem_cons.1 hb with rfl | hb
   ·exact hae
   ·exact ltE_trans hae (h1 b hb)
def posE(e:E):Bool:=decide (0<sgnQ e.q)
def comp(l:List E):List E:=isort ((addAll l).filter posE)
theorem KD.filter{l:List E}(h:KD l)(p:E→Bool):KD (l.filter p):=List.Pairwise.filter p h
theorem comp_mem{l:List E}{x:E}(h:x∈comp l):x∈addAll l∧posE x=true:=List.mem_filter.1 ((isort_perm _).mem_iff.1 h)
theorem comp_len(l:List E):(comp l).length≤l.length:=by
 have h1:(comp l).length=((addAll l).filter posE).length:=(isort_perm _).length_eq
 have h2:=List.length_filter_le posE (addAll l)
 have h3:=addAll_len l
 omega
theorem addE_new:∀{m:List E} {e:E},(∀x∈m,¬sameK x e)→addE m e=m++[{ e with q:=0+e.q }]
 | [],e,_=>rfl
 | x::m,e,h=>by simp only[addE];rw[if_neg (h x (by simp)),addE_new fun y hy=>h y (by simp[hy])];rfl
def sumP(p:E→Bool)(l:List E):Rat:=l.foldr (fun e a=>(if p e then e.q else 0)+a) 0
theorem sumP_cons(p:E→Bool)(e:E)(l:List E):sumP p (e::l)=(if p e then e.q else 0)+sumP p l:=rfl
theorem sumQ_eq(l:List E):sumQ l=sumP (fun _=>true) l:=by
 have key:∀(l:List E) (a:Rat),l.foldl (fun a e=>a+e.q) a=a+sumP (fun _=>true) l:=by
  intro l
  induction l with
  | nil=>intro a;exact(Rat.add_zero _).symm
  | cons e l ih=>intro a;rw[List.foldl_cons,ih,sumP_cons,if_pos rfl,Rat.add_assoc]
 have:=key l 0
 rw[Rat.zero_add] at this
 exact this
end Go.Eng.Lg
namespace Go.Eng.Lg
open Go.Eng Go.Eng.Rt
def cmpI(x y:Int):Int:=if x<y then -1 else if y<x then 1 else 0
theorem e_Compare(x y:Int):u_cmp_Compare_int_ (x,y,())=some (cmpI x y,()):=by
 unfold u_cmp_Compare_int_ u_cmp_isNaN_int_ cmpI
 simp only[eqI_eq,ltI_eq,obS,decide_true,Bool.not_true,cond_false]
 by_cases h:x<y
 ·rw[if_pos h,decide_eq_true h];rfl
 ·rw[if_neg h,decide_eq_false h]
  by_cases h':y<x
  ·rw[if_pos h',decide_eq_true h'];rfl
  ·rw[if_neg h',decide_eq_false h'];rfl
theorem e_Or(a b:Int):u_cmp_Or_int_ ([T.v (.int .i64 a),T.v (.int .i64 b)],())=some (if a=0 then b else a,()):=by
 unfold u_cmp_Or_int_
 simp only[lenL_eq,List.length_cons,List.length_nil]
 have hc:∀x:Int,T.int? .i64 ((T.v (.int .i64 x)).cell 0)=some x:=fun x=>by simp
 have h0:u_cmp_Or_int__l0 (0,[T.v (.int .i64 a),T.v (.int .i64 b)],((0+1+1:Nat):Int),0,())=if a=0 then some (.inl (0,[T.v (.int .i64 a),T.v (.int .i64 b)],((0+1+1:Nat):Int),1,())) else some (.inr (.inl ((T.v (.int .i64 a)).cell 0,()))):=by
  unfold u_cmp_Or_int__l0
  simp only[ltI_eq,addI_eq]
  rw[decide_eq_true (by omega)]
  simp only[cond_true,idxL_int _ (show (0:Int)≤0 by omega),Int.toNat_zero,List.getElem?_cons_zero,obS,hc,eqI_eq]
  by_cases h:a=0
  ·rw[if_pos h,decide_eq_true h,wri' (by omega) (by omega)];rfl
  ·rw[if_neg h,decide_eq_false h];rfl
 have h1:u_cmp_Or_int__l0 (0,[T.v (.int .i64 a),T.v (.int .i64 b)],((0+1+1:Nat):Int),1,())=if b=0 then some (.inl (0,[T.v (.int .i64 a),T.v (.int .i64 b)],((0+1+1:Nat):Int),2,())) else some (.inr (.inl ((T.v (.int .i64 b)).cell 0,()))):=by
  unfold u_cmp_Or_int__l0
  simp only[ltI_eq,addI_eq]
  rw[decide_eq_true (by omega)]
  simp only[cond_true,idxL_int _ (show (0:Int)≤1 by omega),Int.toNat_one,List.getElem?_cons_succ,List.getElem?_cons_zero,obS,hc,eqI_eq]
  by_cases h:b=0
  ·rw[if_pos h,decide_eq_true h,wri' (by omega) (by omega)];rfl
  ·rw[if_neg h,decide_eq_false h];rfl
 have h2:u_cmp_Or_int__l0 (0,[T.v (.int .i64 a),T.v (.int .i64 b)],((0+1+1:Nat):Int),2,())=some (.inr (.inr (.inl (0,())))):=by
  unfold u_cmp_Or_int__l0
  simp only[ltI_eq]
  rw[decide_eq_false (by omega)];rfl
 by_cases ha:a=0
 ·rw[if_pos ha] at h0
  rw[loopU_go h0,if_pos ha]
  by_cases hb:b=0
  ·rw[if_pos hb] at h1
   rw[loopU_go h1,loopU_out h2,hb]
   rfl
  ·rw[if_neg hb] at h1
   rw[loopU_out h1]
   simp only[obS,onS_l,hc]
 ·rw[if_neg ha] at h0
  rw[loopU_out h0,if_neg ha]
  simp only[obS,onS_l,hc]
def cmpE(a b:E):Int:=if cmpI a.s b.s=0 then cmpI a.k b.k else cmpI a.s b.s
theorem cmpE_lt(a b:E):cmpE a b<0↔ltE a b:=by unfold cmpE cmpI ltE;repeat' split <;> omega
theorem e_cmp(a b:E)(n1 n2:Bool)(l1 l2 l3 l4:List T):u_ledger_Compact_1 (a.s,a.k,n1,l1,l2,b.s,b.k,n2,l3,l4,())=some (cmpE a b,()):=by
 unfold u_ledger_Compact_1 cmpE
 simp only[e_Compare,obS,e_Or]
theorem at_mid(P Z:List E)(x:E)(n:Nat)(h:P.length=n):(P++x::Z)[n]?=some x:=by
 subst h;rw[List.getElem?_append_right (Nat.le_refl _),Nat.sub_self];rfl
theorem at_mid1(P Z:List E)(x y:E)(n:Nat)(h:P.length=n):(P++x::y::Z)[n+1]?=some y:=by
 subst h;rw[List.getElem?_append_right (by omega),Nat.add_sub_cancel_left];rfl
theorem swap_mid(P Z:List E)(x y:E)(n:Nat)(h:P.length=n):(((P++x::y::Z).map entT).set (n+1) (entT x)).set n (entT y)=(P++y::x::Z).map entT:=by
 subst h
 rw[←List.map_set,←List.map_set]
 congr 1
 rw[List.set_append_right _ _ (by omega),List.set_append_right _ _ (by omega),Nat.add_sub_cancel_left,Nat.sub_self]
 rfl
theorem sort_inner(rest:List E)(N i:Int):∀(R:List E) (e:E) (A:List E),(R.length+A.length+rest.length<1000) →
 loopU u_slices_insertionSortCmpFunc_api_Entry__r_l1 ((R.reverse++e::A++rest).map entT,0,N,(),i,(R.length:Int),())=some (.inl ((sink R e A++rest).map entT,0,N,(),i,()))
 | [],e,A,_=>by
  refine loopU_out ?_
  unfold u_slices_insertionSortCmpFunc_api_Entry__r_l1
  simp only[ltI_eq]
  rw[decide_eq_false (by simp)];rfl
 | x::R,e,A,hlen=>by
  have hD:(x::R).reverse++e::A++rest=R.reverse++x::e::(A++rest):=by simp
  have hlen':R.length+1+A.length+rest.length<1000:=by simpa using hlen
  have hrl:R.reverse.length=R.length:=List.length_reverse
  have g0:(R.reverse++x::e::(A++rest))[R.length]?=some x:=at_mid _ _ _ _ hrl
  have g1:(R.reverse++x::e::(A++rest))[R.length+1]?=some e:=at_mid1 _ _ _ _ _ hrl
  have hLen:((R.reverse++x::e::(A++rest)).map entT).length=R.length+(A.length+rest.length+2):=by simp
  have hj:wr .i64 (((R.length+1:Nat):Int)-1)=(R.length:Int):=by rw[show ((R.length+1:Nat):Int)-1=(R.length:Int) by omega,wri (by omega)]
  have step:u_slices_insertionSortCmpFunc_api_Entry__r_l1 ((R.reverse++x::e::(A++rest)).map entT,0,N,(),i,((R.length+1:Nat):Int),()) =
   if ltE e x then some (.inl ((R.reverse++e::x::(A++rest)).map entT,0,N,(),i,(R.length:Int),())) else some (.inr (.inl ((R.reverse++x::e::(A++rest)).map entT,0,N,(),i,()))):=by
   have set1:(((R.reverse++x::e::(A++rest)).map entT).set (R.length+1) (entT x))[R.length]?=some (entT x):=by
    rw[List.getElem?_set_ne (by omega),ent_get,g0];rfl
   unfold u_slices_insertionSortCmpFunc_api_Entry__r_l1
   simp only[ltI_eq,subI_eq,hj,lenL_eq,hLen]
   rw[decide_eq_true (by omega),chkI_nat (i:=R.length+1) (by omega),chkI_nat (i:=R.length) (by omega)]
   simp only[cond_true,obS,idxN_eq,ent_get,g0,g1,Option.map_some,c0,c1,c2,c3,c4,e_cmp]
   by_cases hlt:ltE e x
   ·rw[if_pos hlt,decide_eq_true ((cmpE_lt e x).2 hlt)]
    simp only[cond_true,upd5 _ _ _ _ _ _ (show (entT e).cells.length=5 from rfl),List.length_set,hLen,chkI_nat (i:=R.length) (show (R.length:Int)<((R.length+(A.length+rest.length+2):Nat):Int) by omega),obS]
    have e1:T.agg [T.v (.int .i64 x.s),T.v (.int .i64 x.k),T.v (.bool (rNeg x.q)),.sl 1 (rNum x.q),.sl 1 (rDen x.q)]=entT x:=rfl
    have e2:T.agg [T.v (.int .i64 e.s),T.v (.int .i64 e.k),T.v (.bool (rNeg e.q)),.sl 1 (rNum e.q),.sl 1 (rDen e.q)]=entT e:=rfl
    rw[e1,set1]
    simp only[obS,upd5 _ _ _ _ _ _ (show (entT x).cells.length=5 from rfl)]
    rw[e2,swap_mid _ _ _ _ _ hrl]
   ·rw[if_neg hlt,decide_eq_false (fun h=>hlt ((cmpE_lt e x).1 h))]
    rfl
  rw[hD,show (((x::R).length:Nat):Int)=((R.length+1:Nat):Int) by simp]
  simp only[sink]
  by_cases hlt:ltE e x
  ·rw[if_pos hlt] at step
   rw[loopU_go step,if_pos hlt]
   have ih:=sort_inner rest N i R e (x::A) (by simp;omega)
   rw[show R.reverse++e::x::(A++rest)=R.reverse++e::(x::A)++rest by simp]
   exact ih
  ·rw[if_neg hlt] at step
   rw[loopU_out step,if_neg hlt]
   congr 4
   simp
theorem sort_outer(N:Nat):∀(rest P:List E),P.length+rest.length=N→N<1000→SL P→KD (P++rest) →
 ∃r:List E,loopU u_slices_insertionSortCmpFunc_api_Entry__r_l0 ((P++rest).map entT,0,(N:Int),(),(P.length:Int),())=some (.inl (r.map entT,()))∧r.Perm (P++rest)∧SL r
 | [],P,hl,hN,hP,_=>by
  refine⟨P,loopU_out ?_,by simp,hP⟩
  unfold u_slices_insertionSortCmpFunc_api_Entry__r_l0
  simp only[ltI_eq,List.append_nil]
  rw[decide_eq_false (by simp at hl;omega)];rfl
 | e::rest,P,hl,hN,hP,hk=>by
  simp only[List.length_cons] at hl
  have hin:=sort_inner rest (N:Int) (P.length:Int) P.reverse e [] (by simp;omega)
  rw[List.reverse_reverse,List.length_reverse] at hin
  obtain⟨k1,k2,k3⟩:=List.pairwise_append.1 hk
  have hs:SL (sink P.reverse e []):=sink_sl P.reverse e [] (by simpa using hP) (by simp) fun y hy hs=>k3 y (List.mem_reverse.1 hy) e (by simp) hs.symm
  have hp:(sink P.reverse e []).Perm (P++[e]):=by have:=sink_perm P.reverse e [];rwa[List.reverse_reverse] at this
  have hpl:(sink P.reverse e []).length=P.length+1:=by rw[hp.length_eq];simp
  have hperm:(sink P.reverse e []++rest).Perm (P++e::rest):=by
   have:=hp.append_right rest
   rwa[List.append_assoc] at this
  obtain⟨r,r1,r2,r3⟩:=sort_outer N rest (sink P.reverse e []) (by omega) hN hs (hk.perm hperm.symm)
  refine⟨r,?_,r2.trans hperm,r3⟩
  rw[←r1]
  refine loopU_go ?_
  unfold u_slices_insertionSortCmpFunc_api_Entry__r_l0
  simp only[ltI_eq,addI_eq]
  rw[decide_eq_true (by omega)]
  rw[show P++e::[]++rest=P++e::rest by simp] at hin
  simp only[cond_true,hin,obS,onS_l]
  rw[show (P.length:Int)+1=((P.length+1:Nat):Int) by omega,wri (by omega),hpl]
theorem e_insertion(l:List E)(hl:l.length<1000)(hk:KD l):u_slices_insertionSortCmpFunc_api_Entry__r (l.map entT,0,(l.length:Int),(),())=some ((isort l).map entT,()):=by
 have key:∃r:List E,loopU u_slices_insertionSortCmpFunc_api_Entry__r_l0 (l.map entT,0,(l.length:Int),(),1,())=some (.inl (r.map entT,()))∧r.Perm l∧SL r:=by
  cases l with
  | nil=>
   refine⟨[],loopU_out ?_,.refl _,List.Pairwise.nil⟩
   unfold u_slices_insertionSortCmpFunc_api_Entry__r_l0
   simp only[ltI_eq]
   rw[decide_eq_false (by simp)];rfl
  | cons e l=>exact sort_outer (l.length+1) l [e] (by simp;omega) (by simpa using hl) (List.pairwise_singleton _ _) hk
 obtain⟨r,r1,r2,r3⟩:=key
 unfold u_slices_insertionSortCmpFunc_api_Entry__r
 simp only[addI_eq]
 rw[show wr .i64 ((0:Int)+1)=1 from wri' (by omega) (by omega)]
 simp only[r1,obS,onS_l,isort_of r2 hk r3]
theorem e_Len:∀n:Nat,n≤12→∃v,u_math_bits_Len ((n:Int),())=some (v,())
 | 0,_=>⟨0,by kernel_rfl⟩
 | 1,_=>⟨1,by kernel_rfl⟩
 | 2,_=>⟨2,by kernel_rfl⟩
 | 3,_=>⟨2,by kernel_rfl⟩
 | 4,_=>⟨3,by kernel_rfl⟩
 | 5,_=>⟨3,by kernel_rfl⟩
 | 6,_=>⟨3,by kernel_rfl⟩
 | 7,_=>⟨3,by kernel_rfl⟩
 | 8,_=>⟨4,by kernel_rfl⟩
 | 9,_=>⟨4,by kernel_rfl⟩
 | 10,_=>⟨4,by kernel_rfl⟩
 | 11,_=>⟨4,by kernel_rfl⟩
 | 12,_=>⟨4,by kernel_rfl⟩
 | n+13,h=>by omega
theorem e_SortFunc(l:List E)(hl:l.length≤12)(hk:KD l):u_slices_SortFunc___api_Entry_api_Entry__r (l.map entT,(),())=some ((isort l).map entT,()):=by
 obtain⟨v,hv⟩:=e_Len l.length hl
 have hp:∀v:Int,u_slices_pdqsortCmpFunc_api_Entry__r (l.map entT,0,(l.length:Int),v,(),())=some ((isort l).map entT,()):=fun v=>by
  unfold u_slices_pdqsortCmpFunc_api_Entry__r
  have:u_slices_pdqsortCmpFunc_api_Entry__r_l0 (l.map entT,0,(l.length:Int),v,(),true,true,())=some (.inr (.inl ((isort l).map entT,()))):=by
   unfold u_slices_pdqsortCmpFunc_api_Entry__r_l0
   simp only[leI_eq,subI_eq]
   rw[show (l.length:Int)-0=(l.length:Int) by omega,wri (by omega),decide_eq_true (by omega)]
   simp only[cond_true,e_insertion l (by omega) hk,obS]
  rw[loopU_out this]
  rfl
 unfold u_slices_SortFunc___api_Entry_api_Entry__r
 simp only[lenL_eq,List.length_map]
 rw[wr64s (by simp only[B64];omega),hv]
 simp only[obS,hp]
end Go.Eng.Lg
namespace Go.Eng.Lg
open Go.Eng Go.Eng.Rt
def keyT(e:E):T:=.agg [.v (.int .i64 e.s),.v (.int .i64 e.k)]
def valT(q:Rat):T:=.agg [.v (.bool (rNeg q)),.sl 1 (rNum q),.sl 1 (rDen q)]
def mT(e:E):T:=.agg [keyT e,valT e.q]
theorem keyB_sameK(a b:E):keyB (keyT a) (keyT b)=decide (sameK b a):=by
 have e1:keyB (keyT a) (keyT b)=((a.s==b.s)&&((a.k==b.k)&&true)):=rfl
 have e2:(b.s=a.s∧b.k=a.k)=sameK b a:=rfl
 rw[e1,Bool.and_true,Bool.eq_iff_iff]
 simp only[Bool.and_eq_true,beq_iff_eq,decide_eq_true_eq]
 exact⟨fun h=>⟨h.1.symm,h.2.symm⟩,fun h=>⟨h.1.symm,h.2.symm⟩⟩
def zT:T:=.agg [.v (.bool false),.v (.slice none 0 0),.v (.slice none 0 0)]
def getQ(m:List E)(e:E):Rat:=match m with
 | []=>0
 | x::m=>if sameK x e then x.q else getQ m e
theorem find_cons(k t:T)(l:List T):mapFind k (t::l)=if keyB k (entKey t) then some 0 else (mapFind k l).map (·+1):=by
 unfold mapFind;rw[List.findIdx?_cons]
theorem get_cons_pos{k t z:T}{l:List T}(h:keyB k (entKey t)=true):mapGetD k (t::l) z=entVal t:=by
 unfold mapGetD;rw[find_cons,if_pos h];rfl
theorem get_cons_neg{k t z:T}{l:List T}(h:keyB k (entKey t)=false):mapGetD k (t::l) z=mapGetD k l z:=by
 unfold mapGetD;rw[find_cons,if_neg (by simp[h])]
 cases mapFind k l <;> rfl
theorem put_cons_pos{k v t:T}{l:List T}(h:keyB k (entKey t)=true):mapPut k v (t::l)=.agg [k,v]::l:=by
 unfold mapPut;rw[find_cons,if_pos h];rfl
theorem put_cons_neg{k v t:T}{l:List T}(h:keyB k (entKey t)=false):mapPut k v (t::l)=t::mapPut k v l:=by
 unfold mapPut;rw[find_cons,if_neg (by simp[h])]
 cases mapFind k l <;> rfl
theorem get_nil(k z:T):mapGetD k [] z=z:=by unfold mapGetD;rfl
theorem put_nil(k v:T):mapPut k v []=[.agg [k,v]]:=by unfold mapPut;rfl
theorem get_mT(m:List E)(e:E):mapGetD (keyT e) (m.map mT) zT=zT∧getQ m e=0∨mapGetD (keyT e) (m.map mT) zT=valT (getQ m e):=by
 induction m with
 | nil=>exact .inl ⟨get_nil _ _,rfl⟩
 | cons x m ih=>
  have hk:keyB (keyT e) (entKey (mT x))=decide (sameK x e):=keyB_sameK e x
  simp only[List.map_cons,getQ]
  by_cases h:sameK x e
  ·rw[if_pos h]
   rw[decide_eq_true h] at hk
   exact .inr (get_cons_pos hk)
  ·rw[if_neg h]
   rw[decide_eq_false h] at hk
   rw[get_cons_neg hk]
   exact ih
theorem put_mT(m:List E)(e:E):mapPut (keyT e) (valT (getQ m e+e.q)) (m.map mT)=(addE m e).map mT:=by
 induction m with
 | nil=>exact put_nil _ _
 | cons x m ih=>
  have hk:keyB (keyT e) (entKey (mT x))=decide (sameK x e):=keyB_sameK e x
  simp only[List.map_cons,getQ,addE]
  by_cases h:sameK x e
  ·rw[if_pos h,if_pos h]
   rw[decide_eq_true h] at hk
   rw[put_cons_pos hk,List.map_cons]
   congr 1
   unfold mT keyT
   rw[h.1,h.2]
  ·rw[if_neg h,if_neg h]
   rw[decide_eq_false h] at hk
   rw[put_cons_neg hk,ih]
   rfl
theorem getQ_en{m:List E}{e:E}{k:Nat}(h:∀x∈m,En 60 k x.q):En 60 k (getQ m e):=by
 induction m with
 | nil=>exact En.zero
 | cons x m ih=>
  simp only[getQ]
  split
  ·exact h x (by simp)
  ·exact ih fun y hy=>h y (by simp[hy])
theorem comp_l0(l:List E){i:Nat}{e:E}(he:l[i]?=some e)(hi:i<l.length)(hl:l.length<1000000)(m:List E)(hm:Sm (getQ m e))(hq:Sm e.q):
 u_ledger_Compact_l0 (m.map mT,l.map entT,(l.length:Int),(i:Int),())=some (.inl ((addE m e).map mT,l.map entT,(l.length:Int),((i+1:Nat):Int),())):=by
 unfold u_ledger_Compact_l0
 simp only[ltI_eq,addI_eq,idxL_nat,ent_get,he,Option.map_some]
 rw[decide_eq_true (by omega),show (i:Int)+1=((i+1:Nat):Int) by omega,wri (by omega)]
 simp only[cond_true,obS,c0,c1,c2,c3,c4]
 have hz:T.agg [T.v (.bool false),.v (.slice none 0 0),.v (.slice none 0 0)]=zT:=rfl
 have hkey:T.agg [T.v (.int .i64 e.s),T.v (.int .i64 e.k)]=keyT e:=rfl
 have hA:=p_Add hm hq
 rw[hz,hkey]
 rcases get_mT m e with⟨g1,g2⟩ | g1
 ·rw[g1]
  rw[g2] at hA
  rw[rNeg_zero,rNum_zero,rDen_zero] at hA
  have hp:=put_mT m e
  rw[g2] at hp
  simp only[zT,T.parts?,List.length_cons,List.length_nil,if_true,obS,T_cell_agg,List.getD_cons_zero,List.getD_cons_succ,T_bool,T_sl_nil 1 (by decide),hA]
  rw[show T.agg [T.v (.bool (rNeg (0+e.q))),.sl 1 (rNum (0+e.q)),.sl 1 (rDen (0+e.q))]=valT (0+e.q) from rfl,hp]
 ·rw[g1]
  have hp:=put_mT m e
  simp only[valT,T.parts?,List.length_cons,List.length_nil,if_true,obS,T_cell_agg,List.getD_cons_zero,List.getD_cons_succ,T_bool,T_sl,hA]
  rw[show T.agg [T.v (.bool (rNeg (getQ m e+e.q))),.sl 1 (rNum (getQ m e+e.q)),.sl 1 (rDen (getQ m e+e.q))]=valT (getQ m e+e.q) from rfl,hp]
theorem comp_loop(l:List E)(h:∀e∈l,En 60 100000 e.q)(hl:l.length≤1024):
 loopU u_ledger_Compact_l0 ([],l.map entT,(l.length:Int),(0:Int),())=some (.inl ((addAll l).map mT,())):=by
 have hall:=loopU_for (F:=u_ledger_Compact_l0) l.length (fun(i:Nat)=>((addAll (l.take i)).map mT,l.map entT,(l.length:Int),(i:Int),())) (fun i hlt=>by
  have he:=List.getElem?_eq_getElem hlt
  have hq:=h _ (List.getElem_mem hlt)
  have hg:=getQ_en (e:=l[i]) (addAll_en (l:=l.take i) fun e he=>h e (List.mem_of_mem_take he))
  have hb:100000*(l.take i).length<2147483648:=by rw[List.length_take];omega
  have:=comp_l0 l he hlt (by omega) (addAll (l.take i)) (hg.sm (by decide) (by decide) hb) (hq.sm (by decide) (by decide) (by decide))
  rw[this,List.take_succ_eq_append_getElem hlt,addAll_snoc])
 have e0:([]:List T)=(addAll (l.take 0)).map mT:=by rw[List.take_zero];rfl
 rw[e0,show (0:Int)=((0:Nat):Int) from rfl,hall]
 refine loopU_out ?_
 unfold u_ledger_Compact_l0
 simp only[ltI_eq]
 rw[decide_eq_false (by omega),List.take_length];rfl
theorem entKey_mT(e:E):entKey (mT e)=keyT e:=rfl
theorem entVal_mT(e:E):entVal (mT e)=valT e.q:=rfl
def pickE(A:List E)(e:E):List E:=if posE e=true then A++[e] else A
theorem rngL_mem{α β:Type}[Inhabited α]{l:List α}{F0:β}{F:α→List α→β}{o:β}(h:o∈rngL l F0 F):(l=[]∧o=F0)∨∃i,∃hi:i<l.length,o=F l[i] (l.eraseIdx i):=by
 unfold rngL at h
 split at h
 ·exact .inl ⟨rfl,by simpa using h⟩
 ·obtain⟨i,hi,rfl⟩:=List.mem_map.1 h
  have hi':=List.mem_range.1 hi
  exact .inr ⟨i,hi',by rw[List.getD_eq_getElem?_getD,List.getElem?_eq_getElem hi'];rfl⟩
theorem rngL_ne{α β:Type}[Inhabited α]{l:List α}{F0:β}{F:α→List α→β}:rngL l F0 F≠[]:=by
 unfold rngL
 split
 ·simp
 ·rename_i h
  intro e
  have:=congrArg List.length e
  simp at this
  exact h this
theorem erase_perm{α:Type}:∀(m:List α) (i:Nat) (hi:i<m.length),(m[i]::m.eraseIdx i).Perm m
 | x::m,0,_=>.refl _
 | x::m,i+1,h=>by
  simp only[List.getElem_cons_succ,List.eraseIdx_cons_succ]
  exact(List.Perm.swap x _ _).trans ((erase_perm m i (by simpa using h)).cons x)
theorem erase_map{α β:Type}(f:α→β):∀(m:List α) (i:Nat),(m.map f).eraseIdx i=(m.eraseIdx i).map f
 | [],_=>rfl
 | x::m,0=>rfl
 | x::m,i+1=>by simp only[List.map_cons,List.eraseIdx_cons_succ,erase_map f m i]
theorem pick_perm(A m:List E){i:Nat}(hi:i<m.length):(pickE A m[i]++(m.eraseIdx i).filter posE).Perm (A++m.filter posE):=by
 have h:=(erase_perm m i hi).filter posE
 rw[List.filter_cons] at h
 unfold pickE
 split
 ·rename_i hp
  rw[if_pos hp] at h
  rw[List.append_assoc]
  exact h.append_left A
 ·rename_i hp
  rw[if_neg hp] at h
  exact h.append_left A
theorem comp_rng{K:((List T×Unit)⊕Empty)→Option (List T×Unit)}(X:List E)(hX:KD X)(hK:∀A:List E,A.Perm X→K (.inl (A.map entT,()))=some ((isort X).map entT,())):
 ∀(n:Nat) (m A:List E),m.length=n→A.length+n<1000000→Fits m→(A++m.filter posE).Perm X→rngU u_ledger_Compact_l1 K (A.map entT,m.map mT,())=some ((isort X).map entT,())
 | 0,m,A,hn,hl,_,hp=>by
  have:=List.eq_nil_of_length_eq_zero hn
  subst this
  refine rngU_step ?_ fun o ho=>.inr ?_
  ·unfold u_ledger_Compact_l1;exact rngL_ne
  ·unfold u_ledger_Compact_l1 at ho
   rcases rngL_mem ho with⟨_,rfl⟩ | ⟨i,hi,_⟩
   ·exact⟨_,rfl,hK A (by simpa using hp)⟩
   ·simp at hi
 | n+1,m,A,hn,hl,hf,hp=>by
  refine rngU_step ?_ fun o ho=>.inl ?_
  ·unfold u_ledger_Compact_l1;exact rngL_ne
  ·unfold u_ledger_Compact_l1 at ho
   rcases rngL_mem ho with⟨h0,_⟩ | ⟨i,hi,rfl⟩
   ·have:=congrArg List.length h0
    simp[hn] at this
   have him:i<m.length:=by simpa using hi
   have hfi:Fit m[i].q:=hf _ (List.getElem_mem him)
   have hfe:Fits (m.eraseIdx i):=fun e he=>hf e (List.mem_of_mem_eraseIdx he)
   have hle:(m.eraseIdx i).length=n:=by rw[List.length_eraseIdx_of_lt him];omega
   have hpk:=pick_perm A m him
   refine⟨((pickE A m[i]).map entT,(m.eraseIdx i).map mT,()),?_,comp_rng X hX hK n (m.eraseIdx i) (pickE A m[i]) hle ?_ hfe (hpk.trans hp)⟩
   ·have e1:(m.map mT)[i]'hi=mT m[i]:=List.getElem_map _
    have e2:(m.map mT).eraseIdx i=(m.eraseIdx i).map mT:=erase_map ..
    rw[e1,e2]
    simp only[entKey_mT,entVal_mT,keyT,valT,T.parts?,List.length_cons,List.length_nil,if_true,obS,T_cell_agg,List.getD_cons_zero,List.getD_cons_succ,T_bool,T_sl,T_int,p_Sign hfi,p_Rat hfi,ltI_eq]
    unfold pickE posE
    by_cases h:0<sgnQ m[i].q
    ·rw[decide_eq_true h,if_pos rfl]
     simp only[cond_true]
     rw[room_ok (by simp;omega) (by decide)]
     simp only[obS,List.map_append]
     rfl
    ·rw[decide_eq_false h,if_neg (by simp)]
     rfl
   ·unfold pickE
    split
    ·simp;omega
    ·omega
theorem Fits.of_en{l:List E}{k:Nat}(hk:k≤200000000)(h:∀e∈l,En 60 k e.q):Fits l:=fun e he=>((h e he).sm (by decide) (by decide) (by omega)).fit
theorem e_Compact(l:List E)(h:∀e∈l,En 60 100000 e.q)(hl:l.length≤12)(hv:validL l=true):u_ledger_Compact (l.map entT,())=some ((comp l).map entT,()):=by
 have hf:Fits l:=Fits.of_en (by decide) h
 unfold u_ledger_Compact
 simp only[e_Valid l hf (by omega),hv,obS,Bool.not_true,cond_false,lenL_eq,List.length_map,comp_loop l h (by omega),onS_l]
 have hk:KD ((addAll l).filter posE):=(addAll_kd l).filter _
 have hlen:=addAll_len l
 have hfl:=List.length_filter_le posE (addAll l)
 have hfa:Fits (addAll l):=Fits.of_en (k:=100000*12) (by decide) fun e he=>(addAll_en h e he).mono (by have:=Nat.mul_le_mul_left 100000 hl;omega)
 refine comp_rng ((addAll l).filter posE) hk (fun A hA=>?_) (addAll l).length (addAll l) [] rfl (by simp;omega) hfa (.refl _)
 simp only[onS_l]
 have hAl:=hA.length_eq
 rw[e_SortFunc A (by omega) (hk.perm hA.symm)]
 simp only[obS,isort_congr hA (hk.perm hA.symm)]
theorem e_CompactBad(l:List E)(hf:Fits l)(hl:l.length<1000000)(hv:validL l=false):u_ledger_Compact (l.map entT,())=some ([],()):=by
 unfold u_ledger_Compact
 simp only[e_Valid l hf hl,hv,obS,Bool.not_false,cond_true]
end Go.Eng.Lg
namespace Go.Eng.Lg
open Go.Eng Go.Eng.Rt
theorem sumQ_filter(p:E→Bool)(l:List E):sumQ (l.filter p)=sumP p l:=by
 rw[sumQ_eq]
 induction l with
 | nil=>rfl
 | cons e l ih=>
  rw[sumP_cons]
  by_cases h:p e=true
  ·rw[List.filter_cons_of_pos h,sumP_cons,if_pos rfl,if_pos h,ih]
  ·rw[List.filter_cons_of_neg h,if_neg h,ih,Rat.zero_add]
def kindE(k:Int)(e:E):Bool:=decide (e.k=k)
theorem filter_snoc(p:E→Bool)(l:List E)(e:E):(l++[e]).filter p=if p e=true then l.filter p++[e] else l.filter p:=by
 rw[List.filter_append,List.filter_cons]
 split
 ·rfl
 ·rw[List.filter_nil,List.append_nil]
theorem e_sumOf(l:List E)(h:∀e∈l,En 60 100000 e.q)(hl:l.length≤1024)(k:Int):
 u_ledger_sum_Of (l.map entT,(),k,())=some (rNeg (sumP (kindE k) l),rNum (sumP (kindE k) l),rDen (sumP (kindE k) l),k,()):=by
 have sm:∀i,Sm (sumQ ((l.take i).filter (kindE k))):=fun i=>by
  have:=sum_en ((l.take i).filter (kindE k)) fun e he=>h e (List.mem_of_mem_take (List.mem_filter.1 he).1)
  have h1:=List.length_filter_le (kindE k) (l.take i)
  exact this.sm (by decide) (by decide) (by rw[List.length_take] at h1;omega)
 let st:Nat→_:=fun(i:Nat)=>(((),(),(),l.map entT,(l.length:Int),(i:Int),k,false,T.v (.slice none 0 0),T.v (.slice none 0 0),rNeg (sumQ ((l.take i).filter (kindE k))),rNum (sumQ ((l.take i).filter (kindE k))),rDen (sumQ ((l.take i).filter (kindE k))),()):Unit×Unit×Unit×List T×Int×Int×Int×Bool×T×T×Bool×List T×List T×Unit)
 have hgo:∀i,i<l.length→u_ledger_sum_Of_l0 (st i)=some (.inl (st (i+1))):=fun i hlt=>by
  have he:=List.getElem?_eq_getElem hlt
  have hq:Sm l[i].q:=(h _ (List.getElem_mem hlt)).sm (by decide) (by decide) (by decide)
  have hA:=p_Add (sm i) hq
  unfold u_ledger_sum_Of_l0 u_ledger_Of_1
  simp only[st,ltI_eq,addI_eq,idxL_nat,ent_get,he,Option.map_some]
  rw[decide_eq_true (by omega)]
  simp only[cond_true,obS,c0,c1,c2,c3,c4,eqI_eq]
  rw[List.take_succ_eq_append_getElem hlt,filter_snoc]
  by_cases hk:l[i].k=k
  ·rw[decide_eq_true hk,if_pos (show kindE k l[i]=true from decide_eq_true hk),sumQ_snoc]
   simp only[cond_true,obS,hA,onS_l]
   rw[show (i:Int)+1=((i+1:Nat):Int) by omega,wri (by omega)]
  ·rw[decide_eq_false hk,if_neg (by simp[kindE,hk])]
   simp only[cond_false,obS,onS_l]
   rw[show (i:Int)+1=((i+1:Nat):Int) by omega,wri (by omega)]
 have hall:=loopU_for (F:=u_ledger_sum_Of_l0) l.length st hgo
 have h0:st 0=((),(),(),l.map entT,(l.length:Int),(0:Int),k,false,T.v (.slice none 0 0),T.v (.slice none 0 0),false,[],[],()):=by
  simp only[st,List.take_zero]
  rw[show sumQ (([]:List E).filter (kindE k))=0 from rfl,rNeg_zero,rNum_zero,rDen_zero]
  rfl
 have hend:loopU u_ledger_sum_Of_l0 (st l.length)=some (.inl ((),(),k,false,T.v (.slice none 0 0),T.v (.slice none 0 0),rNeg (sumP (kindE k) l),rNum (sumP (kindE k) l),rDen (sumP (kindE k) l),())):=by
  refine loopU_out ?_
  unfold u_ledger_sum_Of_l0
  simp only[st,ltI_eq]
  rw[decide_eq_false (by omega),List.take_length,sumQ_filter];rfl
 unfold u_ledger_sum_Of
 simp only[lenL_eq,List.length_map]
 rw[←h0,hall,hend]
 have fit:Fit (sumP (kindE k) l):=by have:=sm l.length;rw[List.take_length,sumQ_filter] at this;exact this.fit
 simp only[obS,onS_l,p_Rat fit]
theorem e_Of(l:List E)(h:∀e∈l,En 60 100000 e.q)(hl:l.length≤1024)(hv:validL l=true)(k:Int):
 u_ledger_Of (l.map entT,k,())=some (rNeg (sumP (kindE k) l),rNum (sumP (kindE k) l),rDen (sumP (kindE k) l),true,()):=by
 have hf:Fits l:=Fits.of_en (by decide) h
 unfold u_ledger_Of
 simp only[e_Valid l hf (by omega),hv,obS,Bool.not_true,cond_false,e_sumOf l h hl]
theorem e_OfBad(l:List E)(hf:Fits l)(hl:l.length<1000000)(hv:validL l=false)(k:Int):u_ledger_Of (l.map entT,k,())=some (false,[],[],false,()):=by
 unfold u_ledger_Of
 simp only[e_Valid l hf hl,hv,obS,Bool.not_false,cond_true]
theorem e_Within(l:List E)(h:∀e∈l,En 60 100000 e.q)(hl:l.length≤1024)(hv:validL l=true){q:Rat}(hq:Sm q):
 u_ledger_Within (l.map entT,rNeg q,rNum q,rDen q,())=some (decide (cmpQ (sumQ l) q≤0),()):=by
 have hs:Sm (sumQ l):=(sum_en l h).sm (by decide) (by decide) (by omega)
 unfold u_ledger_Within
 simp only[e_Total l h hl hv,obS,cond_true,p_Cmp hs hq,leI_eq]
theorem e_Join(a b:List E)(ha:Fits a)(hb:Fits b)(la:a.length≤500)(lb:b.length≤500):
 u_ledger_Join (a.map entT,b.map entT,())=some (if validL a&&validL b then ((a++b).map entT,0,()) else ([],1,())):=by
 unfold u_ledger_Join
 simp only[e_Valid a ha (by omega),e_Valid b hb (by omega),obS]
 cases validL a
 ·rfl
 ·cases validL b
  ·rfl
  ·simp only[Bool.not_true,cond_false,ltI_eq,addI_eq,lenL_eq,List.length_map]
   rw[wri' (by omega) (by omega),decide_eq_false (by omega)]
   simp only[cond_false,e_Ledger a ha (by omega),e_Ledger b hb (by omega),obS]
   rw[room_ok (by simp;omega) (by decide)]
   simp only[obS,List.map_append]
   rfl
theorem valid_all{l:List E}(hv:validL l=true):∀e∈l,goodE e=true:=by
 unfold validL at hv
 simp only[Bool.and_eq_true,List.all_eq_true] at hv
 exact hv.2
theorem good_iff{e:E}:goodE e=true↔0≤e.s∧e.s≤2147483647∧1≤e.k∧e.k≤5∧0≤sgnQ e.q:=by
 unfold goodE
 simp only[Bool.and_eq_true,decide_eq_true_eq,and_assoc]
theorem sgn_nn{q:Rat}:0≤sgnQ q↔0≤q:=by
 rw[←Rat.num_nonneg]
 rcases sgnQ_vals q with⟨a,b⟩ | ⟨a,b⟩ | ⟨a,b⟩
 ·subst b
  exact⟨fun _=>by decide,fun _=>by rw[a];decide⟩
 ·rw[a]
  exact⟨fun h=>absurd h (by decide),fun h=>by omega⟩
 ·rw[a]
  exact⟨fun _=>by omega,fun _=>by decide⟩
theorem en_nn{k:Nat}{q:Rat}(h:En 60 k q):0≤q:=by
 have:=h.nn (by decide)
 unfold rNeg at this
 rw[←Rat.num_nonneg]
 have:=of_decide_eq_false this
 omega
end Go.Eng.Lg
namespace Go.Eng.Lg
open Go.Eng Go.Eng.Rt
def kindZ(k:Int)(e:E):Bool:=decide (k=0)||decide (e.k=k)
theorem e_RefSum(l:List E)(h:∀e∈l,En 60 100000 e.q)(hl:l.length≤1024)(k:Int):
 u_ref40_sum (l.map entT,k,())=some (rNeg (sumP (kindZ k) l),rNum (sumP (kindZ k) l),rDen (sumP (kindZ k) l),()):=by
 have sm:∀i,Sm (sumQ ((l.take i).filter (kindZ k))):=fun i=>by
  have:=sum_en ((l.take i).filter (kindZ k)) fun e he=>h e (List.mem_of_mem_take (List.mem_filter.1 he).1)
  have h1:=List.length_filter_le (kindZ k) (l.take i)
  exact this.sm (by decide) (by decide) (by rw[List.length_take] at h1;omega)
 let st:Nat→_:=fun(i:Nat)=>((l.map entT,k,(),(),(i:Int),false,T.v (.slice none 0 0),T.v (.slice none 0 0),rNeg (sumQ ((l.take i).filter (kindZ k))),rNum (sumQ ((l.take i).filter (kindZ k))),rDen (sumQ ((l.take i).filter (kindZ k))),()):List T×Int×Unit×Unit×Int×Bool×T×T×Bool×List T×List T×Unit)
 have hgo:∀i,i<l.length→u_ref40_sum_l0 (st i)=some (.inl (st (i+1))):=fun i hlt=>by
  have he:=List.getElem?_eq_getElem hlt
  have hq:Sm l[i].q:=(h _ (List.getElem_mem hlt)).sm (by decide) (by decide) (by decide)
  have hA:=r_QAdd (sm i) hq
  unfold u_ref40_sum_l0
  simp only[st,ltI_eq,addI_eq,idxL_nat,ent_get,he,Option.map_some,lenL_eq,List.length_map]
  rw[decide_eq_true (by omega)]
  simp only[cond_true,obS,c0,c1,c2,c3,c4,eqI_eq]
  rw[List.take_succ_eq_append_getElem hlt,filter_snoc]
  have hi:wr .i64 ((i:Int)+1)=((i+1:Nat):Int):=by rw[show (i:Int)+1=((i+1:Nat):Int) by omega,wri (by omega)]
  by_cases h0:k=0
  ·rw[decide_eq_true h0,if_pos (show kindZ k l[i]=true by unfold kindZ;rw[decide_eq_true h0];rfl),sumQ_snoc]
   simp only[cond_true,obS,hA,onS_l,hi]
  ·rw[decide_eq_false h0]
   by_cases hk:l[i].k=k
   ·rw[decide_eq_true hk,if_pos (show kindZ k l[i]=true by unfold kindZ;rw[decide_eq_true hk,Bool.or_true]),sumQ_snoc]
    simp only[cond_true,cond_false,obS,hA,onS_l,hi]
   ·rw[decide_eq_false hk,if_neg (by simp[kindZ,hk,h0])]
    simp only[cond_false,obS,onS_l,hi]
 have hall:=loopU_for (F:=u_ref40_sum_l0) l.length st hgo
 have h0:st 0=(l.map entT,k,(),(),(0:Int),false,T.v (.slice none 0 0),T.v (.slice none 0 0),false,[],[],()):=by
  simp only[st,List.take_zero]
  rw[show sumQ (([]:List E).filter (kindZ k))=0 from rfl,rNeg_zero,rNum_zero,rDen_zero]
  rfl
 have hend:loopU u_ref40_sum_l0 (st l.length)=some (.inl ((),(),false,T.v (.slice none 0 0),T.v (.slice none 0 0),rNeg (sumP (kindZ k) l),rNum (sumP (kindZ k) l),rDen (sumP (kindZ k) l),())):=by
  refine loopU_out ?_
  unfold u_ref40_sum_l0
  simp only[st,ltI_eq,lenL_eq,List.length_map]
  rw[decide_eq_false (by omega),List.take_length,sumQ_filter];rfl
 unfold u_ref40_sum
 rw[←h0,hall,hend]
 simp only[obS,onS_l]
theorem e_before(a b:E)(n1 n2:Bool)(l1 l2 l3 l4:List T):u_ref40_before (a.s,a.k,n1,l1,l2,b.s,b.k,n2,l3,l4,())=some (decide (ltE a b),()):=by
 unfold u_ref40_before
 simp only[ltI_eq,eqI_eq]
 have e:ltE a b↔a.s<b.s∨(a.s=b.s∧a.k<b.k):=Iff.rfl
 by_cases h1:a.s<b.s
 ·rw[decide_eq_true h1,decide_eq_true (e.2 (.inl h1))];rfl
 ·rw[decide_eq_false h1]
  by_cases h2:a.s=b.s
  ·rw[decide_eq_true h2]
   simp only[cond_true,cond_false]
   have:decide (a.k<b.k)=decide (ltE a b):=decide_eq_decide.2 ⟨fun h=>e.2 (.inr ⟨h2,h⟩),fun h=>(e.1 h).elim (fun h=>absurd h h1) And.right⟩
   rw[this]
  ·rw[decide_eq_false h2,decide_eq_false (fun h=>(e.1 h).elim h1 fun h=>h2 h.1)];rfl
theorem place_loop(lT:List T){i:Nat}{e:E}(he:lT[i]?=some (entT e)):∀(R A:List E),R.length+A.length<1000000→(∀y∈A,ltE e y) →
 ∃P Q:List E,R.reverse++A=P++Q∧(∀y∈Q,ltE e y)∧(P=[]∨∃P' x,P=P'++[x]∧¬ltE e x) ∧
  loopU u_ref40_Compact_l1 (lT,(R.reverse++A).map entT,(i:Int),(R.length:Int),())=some (.inl (lT,(R.reverse++A).map entT,(i:Int),(P.length:Int),()))
 | [],A,hl,hA=>by
  refine⟨[],A,rfl,hA,.inl rfl,loopU_out ?_⟩
  unfold u_ref40_Compact_l1
  simp only[ltI_eq]
  rw[decide_eq_false (by simp)];rfl
 | x::R,A,hl,hA=>by
  have hl':R.length+1+A.length<1000000:=by simpa using hl
  have hD:(x::R).reverse++A=R.reverse++x::A:=by simp
  have hrl:R.reverse.length=R.length:=List.length_reverse
  have g0:(R.reverse++x::A)[R.length]?=some x:=at_mid _ _ _ _ hrl
  have hLen:((R.reverse++x::A).map entT).length=R.length+(A.length+1):=by simp
  have hj:wr .i64 (((R.length+1:Nat):Int)-1)=(R.length:Int):=by rw[show ((R.length+1:Nat):Int)-1=(R.length:Int) by omega,wri (by omega)]
  have step:u_ref40_Compact_l1 (lT,(R.reverse++x::A).map entT,(i:Int),((R.length+1:Nat):Int),()) =
   if ltE e x then some (.inl (lT,(R.reverse++x::A).map entT,(i:Int),(R.length:Int),())) else some (.inr (.inl (lT,(R.reverse++x::A).map entT,(i:Int),((R.length+1:Nat):Int),()))):=by
   unfold u_ref40_Compact_l1
   simp only[ltI_eq,subI_eq,hj,lenL_eq,hLen,idxL_nat,he]
   rw[decide_eq_true (by omega),chkI_nat (by omega)]
   simp only[cond_true,obS,idxN_eq,ent_get,g0,Option.map_some,c0,c1,c2,c3,c4,e_before]
   by_cases hlt:ltE e x
   ·rw[if_pos hlt,decide_eq_true hlt];rfl
   ·rw[if_neg hlt,decide_eq_false hlt];rfl
  rw[hD,show (((x::R).length:Nat):Int)=((R.length+1:Nat):Int) by simp]
  by_cases hlt:ltE e x
  ·rw[if_pos hlt] at step
   rw[loopU_go step]
   exact place_loop lT he R (x::A) (by simp;omega) fun y hy=>by
    rcases List.mem_cons.1 hy with rfl | hy
    ·exact hlt
    ·exact hA y hy
  ·rw[if_neg hlt] at step
   refine⟨R.reverse++[x],A,by simp,hA,.inr ⟨_,_,rfl,hlt⟩,?_⟩
   rw[loopU_out step]
   simp
theorem ins_T(A B:List T)(z:T):
 cutI (((A++B++[z]).length:Nat):Int) ((A.length+1:Nat):Int) (((A++B++[z]).length:Nat):Int)=some (A.length+1,B.length) ∧
 cutI (((A++B++[z]).length:Nat):Int) ((A.length:Nat):Int) (((A++B++[z]).length:Nat):Int)=some (A.length,B.length+1) ∧
 ∃y,cpN (A++B++[z]) (A.length+1) B.length (cutN (A++B++[z]) A.length (B.length+1))=A++y::B:=by
 have hlen:(A++B++[z]).length=A.length+B.length+1:=by simp;omega
 refine⟨?_,?_,?_⟩
 ·unfold cutI
  rw[hlen,if_pos (by omega)]
  congr 2
  omega
 ·unfold cutI
  rw[hlen,if_pos (by omega)]
  congr 2
  omega
 ·have h1:cutN (A++B++[z]) A.length (B.length+1)=B++[z]:=by
   unfold cutN
   rw[List.append_assoc,List.drop_left,List.take_of_length_le (by simp)]
  rw[h1]
  unfold cpN
  have h2:min (B++[z]).length B.length=B.length:=by simp
  rw[h2]
  have h3:(B++[z]).take B.length=B:=List.take_left
  have h4:(A++B++[z]).drop (A.length+1+B.length)=[]:=List.drop_eq_nil_of_le (by rw[hlen];omega)
  rw[h3,h4,List.append_nil]
  cases hB:B++[z] with
  | nil=>simp at hB
  | cons y r=>
   refine⟨y,?_⟩
   have h5:(A++B++[z]).take (A.length+1)=A++[y]:=by
    rw[List.append_assoc,hB,List.take_append,List.take_of_length_le (by omega),Nat.add_sub_cancel_left]
    rfl
   rw[h5]
   simp
theorem set_mid{α:Type}(A B:List α)(y e:α):(A++y::B).set A.length e=A++e::B:=by
 rw[List.set_append_right _ _ (Nat.le_refl _),Nat.sub_self];rfl
theorem comp_l0_ref(l:List E){i:Nat}{e:E}(he:l[i]?=some e)(hi:i<l.length)(hl:l.length<1000000)(M:List E)(hM:M.length<1000)(hs:SL M)(hm:∀x∈M,Sm x.q)(hq:Sm e.q):
 ∃M',u_ref40_Compact_l0 (l.map entT,M.map entT,(i:Int),())=some (.inl (l.map entT,M'.map entT,((i+1:Nat):Int),()))∧SL M'∧M'.Perm (addE M e):=by
 have hlT:(l.map entT)[i]?=some (entT e):=by rw[ent_get,he];rfl
 obtain⟨P,Q,hPQ,hQ,hP,hloop⟩:=place_loop (l.map entT) hlT M.reverse [] (by simp;omega) (by simp)
 rw[List.reverse_reverse,List.append_nil,List.length_reverse] at hloop
 rw[List.reverse_reverse,List.append_nil] at hPQ
 subst hPQ
 obtain⟨s1,s2,s3⟩:=List.pairwise_append.1 hs
 have hz:T.agg [T.v (.int .i64 0),T.v (.int .i64 0),T.v (.bool false),.sl 1 [],.sl 1 []]=entT ⟨0,0,0⟩:=by
  simp only[entT,rNeg_zero,rNum_zero,rDen_zero]
 have hii:wr .i64 ((i:Int)+1)=((i+1:Nat):Int):=by rw[show (i:Int)+1=((i+1:Nat):Int) by omega,wri (by omega)]
 have hlM:P.length+Q.length<1000:=by simpa using hM
 have he5:T.agg [T.v (.int .i64 e.s),T.v (.int .i64 e.k),T.v (.bool (rNeg e.q)),.sl 1 (rNum e.q),.sl 1 (rDen e.q)]=entT e:=rfl
 have hnew:(∀x∈P,ltE x e)→∀(hdr:P=[]∨∃P' x,P=P'++[x]∧ltE x e),∃M',u_ref40_Compact_l0 (l.map entT,(P++Q).map entT,(i:Int),())=some (.inl (l.map entT,M'.map entT,((i+1:Nat):Int),()))∧SL M'∧M'.Perm (addE (P++Q) e):=by
  intro hPe hdr
  refine⟨P++e::Q,?_,?_,?_⟩
  ·obtain⟨i1,i2,y,i3⟩:=ins_T (P.map entT) (Q.map entT) (entT ⟨0,0,0⟩)
   simp only[List.length_append,List.length_map,List.length_cons,List.length_nil,Nat.zero_add] at i1 i2 i3
   have hset:=set_mid (P.map entT) (Q.map entT) y (T.upd 5 y 0 [T.v (.int .i64 e.s),T.v (.int .i64 e.k),T.v (.bool (rNeg e.q)),.sl 1 (rNum e.q),.sl 1 (rDen e.q)])
   have hgy:(P.map entT++y::Q.map entT)[P.length]?=some y:=by
    rw[List.getElem?_append_right (by simp),List.length_map,Nat.sub_self];rfl
   rw[List.length_map] at hset
   have hy5:y.cells.length=5:=by
    have hmem:y∈P.map entT++y::Q.map entT:=by simp
    rw[←i3] at hmem
    unfold cpN cutN at hmem
    have:y∈P.map entT++Q.map entT++[entT ⟨0,0,0⟩]:=by
     rcases List.mem_append.1 hmem with h | h
     ·rcases List.mem_append.1 h with h | h
      ·exact List.mem_of_mem_take h
      ·exact List.mem_of_mem_drop (List.mem_of_mem_take (List.mem_of_mem_take h))
     ·exact List.mem_of_mem_drop h
    have:∃x:E,y=entT x:=by
     rcases List.mem_append.1 this with h | h
     ·rcases List.mem_append.1 h with h | h
      ·obtain⟨x,_,rfl⟩:=List.mem_map.1 h;exact⟨x,rfl⟩
      ·obtain⟨x,_,rfl⟩:=List.mem_map.1 h;exact⟨x,rfl⟩
     ·exact⟨_,by simpa using h⟩
    obtain⟨x,rfl⟩:=this
    rfl
   have hk1:wr .i64 ((P.length:Int)+1)=((P.length+1:Nat):Int):=by rw[show (P.length:Int)+1=((P.length+1:Nat):Int) by omega,wri (by omega)]
   have hlen2:(P.map entT++y::Q.map entT).length=P.length+Q.length+1:=by simp;omega
   have hroom:room ((P++Q).map entT) [entT ⟨0,0,0⟩] 72=some (P.map entT++Q.map entT++[entT ⟨0,0,0⟩]):=by
    rw[room_ok (by simp;omega) (by decide),List.map_append]
   have hlen3:(P.map entT++Q.map entT++[entT ⟨0,0,0⟩]).length=P.length+Q.length+1:=by simp;omega
   unfold u_ref40_Compact_l0
   simp only[ltI_eq,addI_eq,lenL_eq,List.length_map,hloop,obS,onS_l,hz,hroom,hlen3,hk1,i1,i2,i3,idxL_nat,hlT,hlen2]
   rw[decide_eq_true (by omega)]
   rcases hdr with rfl | ⟨P',x,rfl,hx⟩
   ·rw[decide_eq_false (by simp),chkI_nat (by omega)]
    simp only[cond_true,cond_false,obS,c0,c1,c2,c3,c4,idxN_eq,hgy,hset,upd5 _ _ _ _ _ _ hy5,onS_l,hii]
    rw[he5]
    simp
   ·have hgx:(P'++[x]++Q)[P'.length]?=some x:=by rw[List.append_assoc];exact at_mid _ _ _ _ rfl
    have hj:wr .i64 ((((P'++[x]).length:Nat):Int)-1)=(P'.length:Int):=by rw[show (((P'++[x]).length:Nat):Int)-1=(P'.length:Int) by simp,wri (by simp at hlM;omega)]
    rw[decide_eq_true (by simp),chkI_nat (i:=(P'++[x]).length) (by omega)]
    simp only[cond_true,subI_eq,hj]
    rw[chkI_nat (by simp;omega)]
    simp only[obS,idxN_eq,ent_get,hgx,Option.map_some,c0,c1,c2,c3,c4,e_before]
    rw[decide_eq_true hx]
    simp only[Bool.not_true,cond_false,obS,hgy,hset,upd5 _ _ _ _ _ _ hy5,onS_l,hii]
    rw[he5]
    simp
  ·refine List.pairwise_append.2 ⟨s1,List.pairwise_cons.2 ⟨hQ,s2⟩,fun a ha b hb=>?_⟩
   rcases List.mem_cons.1 hb with rfl | hb
   ·exact hPe a ha
   ·exact s3 a ha b hb
  ·rw[addE_new fun x hx=>?_,Rat.zero_add]
   ·refine(List.perm_middle).trans ?_
    exact(List.perm_append_singleton e (P++Q)).symm
   ·rcases List.mem_append.1 hx with hx | hx
    ·exact ltE_ne (hPe x hx)
    ·exact fun h=>ltE_ne (hQ x hx) h.symm
 rcases hP with rfl | ⟨P',x,rfl,hx⟩
 ·exact hnew (by simp) (.inl rfl)
 ·by_cases hxe:ltE x e
  ·refine hnew (fun y hy=>?_) (.inr ⟨P',x,rfl,hxe⟩)
   rcases List.mem_append.1 hy with hy | hy
   ·exact ltE_trans ((List.pairwise_append.1 s1).2.2 y hy x (by simp)) hxe
   ·have:y=x:=by simpa using hy
    subst this
    exact hxe
  ·have hsame:sameK x e:=Classical.byContradiction fun h=>(ltE_or h).elim hxe hx
   refine⟨P'++[{ x with q:=x.q+e.q }]++Q,?_,?_,?_⟩
   ·have hgx:(P'++[x]++Q)[P'.length]?=some x:=by rw[List.append_assoc];exact at_mid _ _ _ _ rfl
    have hlP:P'.length+1+Q.length<1000:=by simpa using hlM
    have hj:wr .i64 ((((P'++[x]).length:Nat):Int)-1)=(P'.length:Int):=by rw[show (((P'++[x]).length:Nat):Int)-1=(P'.length:Int) by simp,wri (by omega)]
    have hxq:Sm x.q:=hm x (by simp)
    have hup:T.upd 5 (entT x) 2 [T.v (.bool (rNeg (x.q+e.q))),.sl 1 (rNum (x.q+e.q)),.sl 1 (rDen (x.q+e.q))]=entT { x with q:=x.q+e.q }:=by unfold T.upd entT;rfl
    have hst:((P'++[x]++Q).map entT).set P'.length (entT { x with q:=x.q+e.q })=(P'++[{ x with q:=x.q+e.q }]++Q).map entT:=by
     rw[←List.map_set]
     congr 1
     rw[List.append_assoc,List.append_assoc]
     exact set_mid P' Q x _
    unfold u_ref40_Compact_l0
    simp only[ltI_eq,lenL_eq,List.length_map,hloop,obS,onS_l]
    rw[decide_eq_true (by omega),decide_eq_true (by simp)]
    simp only[cond_true,subI_eq,hj,addI_eq]
    rw[chkI_nat (by simp;omega)]
    simp only[obS,idxN_eq,ent_get,hgx,idxL_nat,he,Option.map_some,c0,c1,c2,c3,c4,e_before]
    rw[decide_eq_false hxe]
    simp only[Bool.not_false,cond_true,obS,r_QAdd hxq hq,onS_l,hii,hup,hst]
   ·have hk:∀a:E,ltE a { x with q:=x.q+e.q }↔ltE a x:=fun a=>Iff.rfl
    have hk':∀a:E,ltE { x with q:=x.q+e.q } a↔ltE x a:=fun a=>Iff.rfl
    obtain⟨t1,t2,t3⟩:=List.pairwise_append.1 s1
    refine List.pairwise_append.2 ⟨List.pairwise_append.2 ⟨t1,List.pairwise_singleton _ _,fun a ha b hb=>?_⟩,s2,fun a ha b hb=>?_⟩
    ·have:=List.mem_singleton.1 hb
     subst this
     exact(hk a).2 (t3 a ha x (by simp))
    ·rcases List.mem_append.1 ha with ha | ha
     ·exact s3 a (by simp[ha]) b hb
     ·have:=List.mem_singleton.1 ha
      subst this
      exact(hk' b).2 (s3 x (by simp) b hb)
   ·have key:∀P':List E,(∀y∈P',¬sameK y e)→addE (P'++[x]++Q) e=P'++[{ x with q:=x.q+e.q }]++Q:=by
     intro P'
     induction P' with
     | nil=>intro _;simp only[List.nil_append,List.cons_append,addE];rw[if_pos hsame]
     | cons y P' ih=>
      intro h
      simp only[List.cons_append,addE]
      rw[if_neg (h y (by simp)),ih fun z hz=>h z (by simp[hz])]
    rw[key P' fun y hy hs=>?_]
    exact ltE_ne ((List.pairwise_append.1 s1).2.2 y hy x (by simp)) (hs.trans hsame.symm)
theorem addE_perm{m m':List E}(e:E)(h:m.Perm m'):KD m→(addE m e).Perm (addE m' e):=by
 induction h with
 | nil=>intro _;exact .refl _
 | cons x hp ih=>
  intro hk
  have hk:=List.pairwise_cons.1 hk
  simp only[addE]
  split
  ·exact hp.cons _
  ·exact(ih hk.2).cons _
 | swap x y l=>
  intro hk
  simp only[addE]
  have hxy:¬sameK y x:=(List.pairwise_cons.1 hk).1 x (by simp)
  by_cases h1:sameK y e <;> by_cases h2:sameK x e
  ·exact absurd (h1.trans h2.symm) hxy
  ·rw[if_pos h1,if_neg h2,if_pos h1];exact .swap _ _ _
  ·rw[if_neg h1,if_pos h2,if_pos h2];exact .swap _ _ _
  ·rw[if_neg h1,if_neg h2,if_neg h2,if_neg h1];exact .swap _ _ _
 | trans h1 h2 ih1 ih2=>intro hk;exact(ih1 hk).trans (ih2 (hk.perm h1))
theorem comp_loop_ref(l:List E)(h:∀e∈l,En 60 100000 e.q)(hl:l.length≤900):
 loopU u_ref40_Compact_l0 (l.map entT,[],(0:Int),())=some (.inl ((isort (addAll l)).map entT,())):=by
 have key:∀i,i≤l.length→loopU u_ref40_Compact_l0 (l.map entT,[],(0:Int),())=loopU u_ref40_Compact_l0 (l.map entT,(isort (addAll (l.take i))).map entT,(i:Int),()):=by
  intro i
  induction i with
  | zero=>intro _;rfl
  | succ i ih=>
   intro hi
   have hlt:i<l.length:=hi
   have hq:=h _ (List.getElem_mem hlt)
   have hlen:(addAll (l.take i)).length≤i:=by have:=addAll_len (l.take i);rw[List.length_take] at this;omega
   have hil:(isort (addAll (l.take i))).length≤i:=by rw[(isort_perm _).length_eq];exact hlen
   obtain⟨M',m1,m2,m3⟩:=comp_l0_ref l (List.getElem?_eq_getElem hlt) hlt (by omega) (isort (addAll (l.take i))) (by omega) (isort_sl (addAll_kd _))
    (fun x hx=>(addAll_en (fun e he=>h e (List.mem_of_mem_take he)) x ((isort_perm _).mem_iff.1 hx)).sm (by decide) (by decide) (by rw[List.length_take];omega)) (hq.sm (by decide) (by decide) (by decide))
   rw[ih (by omega),loopU_go m1]
   have hp:M'.Perm (addAll (l.take (i+1))):=by
    rw[List.take_succ_eq_append_getElem hlt,addAll_snoc]
    exact m3.trans (addE_perm _ (isort_perm _) (isort_sl (addAll_kd _)).kd)
   rw[isort_of hp (addAll_kd _) m2]
 rw[key l.length (Nat.le_refl _),List.take_length]
 refine loopU_out ?_
 unfold u_ref40_Compact_l0
 simp only[ltI_eq,lenL_eq,List.length_map]
 rw[decide_eq_false (by omega)];rfl
def nzE(e:E):Bool:=!decide (sgnQ e.q=0)
theorem comp_l3_ref(M:List E)(hM:M.length≤900):loopU u_ref40_Compact_l3 (M.map entT,[],(0:Int),())=some (.inl ((M.filter nzE).map entT,())):=by
 have hall:=loopU_for (F:=u_ref40_Compact_l3) M.length (fun(i:Nat)=>(M.map entT,((M.take i).filter nzE).map entT,(i:Int),())) (fun i hlt=>by
  have he:=List.getElem?_eq_getElem hlt
  have hfl:=List.length_filter_le nzE (M.take i)
  rw[List.length_take] at hfl
  unfold u_ref40_Compact_l3
  simp only[ltI_eq,addI_eq,lenL_eq,List.length_map]
  rw[decide_eq_true (by omega),chkI_nat (by omega)]
  simp only[cond_true,obS,idxN_eq,ent_get,he,Option.map_some,c0,c1,c2,c3,c4,r_Sign,eqI_eq]
  have hii:wr .i64 ((i:Int)+1)=((i+1:Nat):Int):=by rw[show (i:Int)+1=((i+1:Nat):Int) by omega,wri (by omega)]
  rw[List.take_succ_eq_append_getElem hlt,filter_snoc]
  by_cases hz:sgnQ M[i].q=0
  ·rw[decide_eq_true hz,if_neg (by unfold nzE;rw[decide_eq_true hz];decide)]
   simp only[Bool.not_true,cond_false,obS,onS_l,hii]
  ·rw[decide_eq_false hz,if_pos (by unfold nzE;rw[decide_eq_false hz];decide)]
   simp only[Bool.not_false,cond_true,obS]
   rw[room_ok (by simp;omega) (by decide)]
   simp only[obS,onS_l,List.map_append,hii]
   rfl)
 have e0:([]:List T)=((M.take 0).filter nzE).map entT:=by rw[List.take_zero];rfl
 rw[e0,show (0:Int)=((0:Nat):Int) from rfl,hall]
 refine loopU_out ?_
 unfold u_ref40_Compact_l3
 simp only[ltI_eq,lenL_eq,List.length_map]
 rw[decide_eq_false (by omega),List.take_length];rfl
theorem e_RefCompact(l:List E)(h:∀e∈l,En 60 100000 e.q)(hl:l.length≤900)(hv:validL l=true):u_ref40_Compact (l.map entT,())=some ((comp l).map entT,()):=by
 have hlen:(isort (addAll l)).length≤900:=by rw[(isort_perm _).length_eq];have:=addAll_len l;omega
 unfold u_ref40_Compact
 simp only[e_RefValid l (by omega),hv,obS,Bool.not_true,cond_false,comp_loop_ref l h hl,onS_l,comp_l3_ref _ hlen]
 have:(isort (addAll l)).filter nzE=comp l:=by
  refine isort_of ?_ ((addAll_kd l).filter posE) (List.Pairwise.filter _ (isort_sl (addAll_kd l)))
  refine((isort_perm (addAll l)).filter nzE).trans ?_
  rw[List.filter_congr fun e he=>?_]
  have h0:=en_nn (addAll_en h e he)
  have h2:=sgn_nn.2 h0
  unfold nzE posE
  rw[←decide_not,decide_eq_decide]
  omega
 rw[this]
theorem e_RefCompactBad(l:List E)(hl:l.length<1000000)(hv:validL l=false):u_ref40_Compact (l.map entT,())=some ([],()):=by
 unfold u_ref40_Compact
 simp only[e_RefValid l hl,hv,obS,Bool.not_false,cond_true]
end Go.Eng.Lg
namespace Go.Eng.Lg
open Go.Eng Go.Eng.Rt
theorem e_RefTotal(l:List E)(h:∀e∈l,En 60 100000 e.q)(hl:l.length≤1024)(hv:validL l=true):u_ref40_Total (l.map entT,())=some (rNeg (sumQ l),rNum (sumQ l),rDen (sumQ l),true,()):=by
 have e1:sumP (kindZ 0) l=sumQ l:=by rw[sumQ_eq];rfl
 unfold u_ref40_Total
 simp only[e_RefValid l (by omega),hv,obS,Bool.not_true,cond_false,e_RefSum l h hl,e1]
theorem e_RefTotalBad(l:List E)(hl:l.length<1000000)(hv:validL l=false):u_ref40_Total (l.map entT,())=some (false,[],[],false,()):=by
 unfold u_ref40_Total
 simp only[e_RefValid l hl,hv,obS,Bool.not_false,cond_true]
theorem e_TotalBad(l:List E)(hf:Fits l)(hl:l.length<1000000)(hv:validL l=false):u_ledger_Total (l.map entT,())=some (false,[],[],false,()):=by
 unfold u_ledger_Total
 simp only[e_Valid l hf hl,hv,obS,Bool.not_false,cond_true]
theorem sum_none{l:List E}(h:∀e∈l,goodE e=true):sumP (kindE 0) l=0:=by
 induction l with
 | nil=>rfl
 | cons e l ih=>
  have h1:=good_iff.1 (h e (by simp))
  rw[sumP_cons,if_neg (by unfold kindE;rw[decide_eq_false (by omega)];decide),ih fun x hx=>h x (by simp[hx]),Rat.zero_add]
theorem kindZ_ne{k:Int}(h:k≠0):kindZ k=kindE k:=by
 funext e
 unfold kindZ kindE
 rw[decide_eq_false h,Bool.false_or]
theorem e_RefOf(l:List E)(h:∀e∈l,En 60 100000 e.q)(hl:l.length≤1024)(hv:validL l=true)(k:Int):
 u_ref40_Of (l.map entT,k,())=some (rNeg (sumP (kindE k) l),rNum (sumP (kindE k) l),rDen (sumP (kindE k) l),true,()):=by
 unfold u_ref40_Of
 simp only[e_RefValid l (by omega),hv,obS,Bool.not_true,cond_false,eqI_eq]
 by_cases hk:k=0
 ·subst hk
  rw[sum_none (valid_all hv),rNeg_zero,rNum_zero,rDen_zero]
  rfl
 ·rw[decide_eq_false hk]
  simp only[cond_false,e_RefSum l h hl,obS,kindZ_ne hk]
theorem e_RefOfBad(l:List E)(hl:l.length<1000000)(hv:validL l=false)(k:Int):u_ref40_Of (l.map entT,k,())=some (false,[],[],false,()):=by
 unfold u_ref40_Of
 simp only[e_RefValid l hl,hv,obS,Bool.not_false,cond_true]
theorem e_RefWithin(l:List E)(h:∀e∈l,En 60 100000 e.q)(hl:l.length≤1024)(hv:validL l=true){q:Rat}(hq:Sm q):
 u_ref40_Within (l.map entT,rNeg q,rNum q,rDen q,())=some (decide (cmpQ (sumQ l) q≤0),()):=by
 have hs:Sm (sumQ l):=(sum_en l h).sm (by decide) (by decide) (by omega)
 have e1:sumP (kindZ 0) l=sumQ l:=by rw[sumQ_eq];rfl
 unfold u_ref40_Within
 simp only[e_RefValid l (by omega),hv,obS,cond_true,e_RefSum l h hl,e1,r_QCmp hs hq,leI_eq]
theorem e_RefWithinBad(l:List E)(hl:l.length<1000000)(hv:validL l=false)(n:Bool)(a b:List T):u_ref40_Within (l.map entT,n,a,b,())=some (false,()):=by
 unfold u_ref40_Within
 simp only[e_RefValid l hl,hv,obS,cond_false]
theorem e_WithinBad(l:List E)(hf:Fits l)(hl:l.length<1000000)(hv:validL l=false)(n:Bool)(a b:List T):u_ledger_Within (l.map entT,n,a,b,())=some (false,()):=by
 unfold u_ledger_Within
 simp only[e_TotalBad l hf hl hv,obS,cond_false]
theorem e_RefJoin(a b:List E)(la:a.length≤500)(lb:b.length≤500):
 u_ref40_Join (a.map entT,b.map entT,())=some (if validL a&&validL b then ((a++b).map entT,0,()) else ([],1,())):=by
 unfold u_ref40_Join
 simp only[e_RefValid a (by omega),e_RefValid b (by omega),obS]
 cases validL a
 ·rfl
 ·cases validL b
  ·rfl
  ·simp only[Bool.not_true,cond_false,ltI_eq,addI_eq,lenL_eq,List.length_map]
   rw[wri' (by omega) (by omega),decide_eq_false (by omega)]
   simp only[cond_false]
   rw[room_ok (by simp;omega) (by decide)]
   simp only[obS,List.nil_append]
   rw[room_ok (by simp;omega) (by decide)]
   simp only[obS,List.map_append]
   rfl
theorem e_Add(l:List E)(e:E)(hf:Fits l)(he:Fit e.q)(hl:l.length≤500):
 u_ledger_Add (l.map entT,e.s,e.k,rNeg e.q,rNum e.q,rDen e.q,())=some (if validL l&&goodE e then ((l++[e]).map entT,0,()) else ([],1,())):=by
 unfold u_ledger_Add
 simp only[e_Valid l hf (by omega),e_proper he,obS]
 cases validL l
 ·rfl
 ·cases goodE e
  ·rfl
  ·simp only[Bool.not_true,cond_false,eqI_eq,lenL_eq,List.length_map]
   rw[decide_eq_false (by omega)]
   simp only[cond_false,e_Ledger l hf (by omega),e_Entry he,obS]
   rw[room_ok (by simp;omega) (by decide)]
   simp only[obS,List.map_append]
   rfl
theorem e_RefAdd(l:List E)(e:E)(hl:l.length≤500):
 u_ref40_Add (l.map entT,e.s,e.k,rNeg e.q,rNum e.q,rDen e.q,())=some (if validL l&&goodE e then ((l++[e]).map entT,0,()) else ([],1,())):=by
 unfold u_ref40_Add
 simp only[e_RefValid l (by omega),e_good e,obS]
 cases validL l
 ·rfl
 ·cases goodE e
  ·rfl
  ·simp only[Bool.not_true,cond_false,eqI_eq,lenL_eq,List.length_map]
   rw[decide_eq_false (by omega)]
   simp only[cond_false]
   rw[room_ok (by simp;omega) (by decide)]
   simp only[obS,List.nil_append]
   rw[room_ok (by simp;omega) (by decide)]
   simp only[obS,List.map_append]
   rfl
def inE(z:Int)(e:E):Bool:=decide (0≤e.s+z)&&decide (e.s+z≤2147483647)
theorem good_shift{e:E}(h:goodE e=true)(z:Int):goodE (shE z e)=inE z e:=by
 obtain⟨h1,h2,h3,h4,h5⟩:=good_iff.1 h
 rw[Bool.eq_iff_iff,good_iff]
 unfold inE shE
 simp only[Bool.and_eq_true,decide_eq_true_eq]
 exact⟨fun h=>⟨h.1,h.2.1⟩,fun h=>⟨h.1,h.2,h3,h4,h5⟩⟩
def shL(z:Int)(l:List E):List T×Int×Unit:=if l.all (inE z) then ((l.map (shE z)).map entT,0,()) else ([],1,())
theorem shift_scan(l:List E)(hf:Fits l)(hl:l.length<1000000)(z:Int)(hz:-2147483648≤z∧z≤2147483648)(hg:∀e∈l,goodE e=true):
 loopU u_ledger_Shift_l0 (z,l.map entT,(l.length:Int),(0:Int),())=some (if l.all (inE z) then .inr (.inl ((l.map (shE z)).map entT,())) else .inl (T.v (.slice none 0 0),1,())):=by
 obtain⟨j,hj⟩:=scanE (F:=u_ledger_Shift_l0) l (fun i=>(z,((l.take i).map (shE z)++l.drop i).map entT,(l.length:Int),(i:Int),())) (.inr (.inl ((l.map (shE z)).map entT,()))) (fun _=>.inl (T.v (.slice none 0 0),1,())) (inE z) (fun i e he=>by
  have hlt:i<l.length:=(List.getElem?_eq_some_iff.1 he).1
  have hee:l[i]=e:=by rw[List.getElem?_eq_getElem hlt] at he;exact Option.some.inj he
  have hmem:e∈l:=List.mem_of_getElem? he
  have hfe:=hf _ hmem
  have hge:=hg _ hmem
  have hg0:=good_iff.1 hge
  have hlen:((l.take i).map (shE z)++l.drop i).length=l.length:=by simp;omega
  have hti:((l.take i).map (shE z)).length=i:=by simp;omega
  have hget:((l.take i).map (shE z)++l.drop i)[i]?=some e:=by
   rw[List.getElem?_append_right (by omega),hti,Nat.sub_self,List.drop_eq_getElem_cons hlt,hee];rfl
  have hset:((l.take i).map (shE z)++l.drop i).set i (shE z e)=(l.take (i+1)).map (shE z)++l.drop (i+1):=by
   rw[List.set_append_right _ _ (by omega),hti,Nat.sub_self,List.drop_eq_getElem_cons hlt,List.set_cons_zero,List.take_succ_eq_append_getElem hlt,List.map_append,List.append_assoc,hee]
   rfl
  unfold u_ledger_Shift_l0
  simp only[ltI_eq,addI_eq,lenL_eq,List.length_map,hlen]
  rw[decide_eq_true (by omega),chkI_nat (by omega)]
  simp only[cond_true,obS,idxN_eq,ent_get,hget,Option.map_some,c0]
  rw[wri' (n:=e.s+z) (by omega) (by omega),updS]
  have e1:({ e with s:=e.s+z }:E)=shE z e:=rfl
  have e2:(((l.take i).map (shE z)++l.drop i).map entT).set i (entT (shE z e))=((l.take (i+1)).map (shE z)++l.drop (i+1)).map entT:=by
   rw[←List.map_set,hset]
  have hget':((l.take (i+1)).map (shE z)++l.drop (i+1))[i]?=some (shE z e):=by
   rw[←hset,List.getElem?_set_self (by omega)]
  rw[e1,e2]
  simp only[List.length_map]
  have hlen':((l.take (i+1)).map (shE z)++l.drop (i+1)).length=l.length:=by rw[←hset,List.length_set,hlen]
  rw[hlen',chkI_nat (by omega),show (i:Int)+1=((i+1:Nat):Int) by omega,wri (by omega)]
  simp only[obS,idxN_eq,ent_get,hget',Option.map_some,c0,c1,c2,c3,c4]
  have hfe':Fit (shE z e).q:=hfe
  rw[e_proper hfe',good_shift hge]
  cases inE z e <;> rfl) (by
  unfold u_ledger_Shift_l0
  simp only[ltI_eq]
  rw[decide_eq_false (by omega),List.take_length,List.drop_length,List.append_nil];rfl)
 simp only[List.take_zero,List.map_nil,List.nil_append,List.drop_zero] at hj
 exact hj
theorem e_ShiftAny(l:List E)(hf:Fits l)(hl:l.length<1000000)(z:Int)(hs:∀e∈l,e.s≤1000)(hv:validL l=true):
 u_ledger_Shift (l.map entT,z,())=some (shL z l):=by
 have hg:=valid_all hv
 unfold u_ledger_Shift
 simp only[e_Valid l hf hl,hv,obS,Bool.not_true,cond_false,ltI_eq,lenL_eq,List.length_map,e_Ledger l hf hl]
 cases l with
 | nil=>
  rw[decide_eq_false (by simp)]
  have:loopU u_ledger_Shift_l0 (z,([]:List E).map entT,(([]:List E).length:Int),(0:Int),())=some (.inr (.inl ([],()))):=by
   refine loopU_out ?_
   unfold u_ledger_Shift_l0
   simp only[ltI_eq]
   rw[decide_eq_false (by simp)];rfl
  simp only[cond_false,this,obS,onS_r,onS_l]
  rfl
 | cons e l=>
  rw[decide_eq_true (by simp)]
  simp only[cond_true]
  have h0:=good_iff.1 (hg e (by simp))
  have h1:=hs e (by simp)
  by_cases hz1:z < -2147483647
  ·rw[decide_eq_true hz1]
   have:(e::l).all (inE z)=false:=by
    rw[List.all_cons,show inE z e=false by unfold inE;rw[decide_eq_false (show ¬0≤e.s+z by omega),Bool.false_and],Bool.false_and]
   unfold shL
   rw[this];rfl
  ·rw[decide_eq_false hz1]
   simp only[cond_false]
   by_cases hz2:2147483647<z
   ·rw[decide_eq_true hz2]
    have:(e::l).all (inE z)=false:=by
     rw[List.all_cons,show inE z e=false by unfold inE;rw[decide_eq_false (show ¬e.s+z≤2147483647 by omega),Bool.and_false],Bool.false_and]
    unfold shL
    rw[this];rfl
   ·rw[decide_eq_false hz2]
    simp only[cond_false,shift_scan (e::l) hf hl z (by omega) hg,obS]
    unfold shL
    cases(e::l).all (inE z)
    ·simp only[Bool.false_eq_true,if_false,onS_l,T_sl_nil 5 (by decide),obS]
    ·simp only[if_true,onS_r,onS_l]
theorem e_RefShift(l:List E)(hl:l.length<1000)(z:Int)(hs:∀e∈l,e.s≤1000)(hv:validL l=true):
 u_ref40_Shift (l.map entT,z,())=some (shL z l):=by
 have hg:=valid_all hv
 have hloop:loopU u_ref40_Shift_l0 (l.map entT,z,[],(0:Int),())=some (if l.all (inE z) then .inr (.inl ((l.map (shE z)).map entT,())) else .inl (T.v (.slice none 0 0),1,())):=by
  obtain⟨j,hj⟩:=scanE (F:=u_ref40_Shift_l0) l (fun i=>(l.map entT,z,((l.take i).map (shE z)).map entT,(i:Int),())) (.inr (.inl ((l.map (shE z)).map entT,()))) (fun _=>.inl (T.v (.slice none 0 0),1,())) (inE z) (fun i e he=>by
   have hlt:i<l.length:=(List.getElem?_eq_some_iff.1 he).1
   have hee:l[i]=e:=by rw[List.getElem?_eq_getElem hlt] at he;exact Option.some.inj he
   have hmem:e∈l:=List.mem_of_getElem? he
   have hg0:=good_iff.1 (hg _ hmem)
   have hse:=hs _ hmem
   have hii:wr .i64 ((i:Int)+1)=((i+1:Nat):Int):=by rw[show (i:Int)+1=((i+1:Nat):Int) by omega,wri (by omega)]
   unfold u_ref40_Shift_l0
   simp only[ltI_eq,addI_eq,subI_eq,lenL_eq,List.length_map,idxL_nat,ent_get,he,Option.map_some,hii]
   rw[decide_eq_true (by omega)]
   simp only[cond_true,obS,c0,c1,c2,c3,c4]
   rw[wri' (n:=2147483647-e.s) (by omega) (by omega),wri' (n:=0-e.s) (by omega) (by omega)]
   by_cases h1:2147483647-e.s<z
   ·rw[decide_eq_true h1,show inE z e=false by unfold inE;rw[decide_eq_false (show ¬e.s+z≤2147483647 by omega),Bool.and_false]]
    rfl
   ·rw[decide_eq_false h1]
    by_cases h2:z<0-e.s
    ·rw[decide_eq_true h2,show inE z e=false by unfold inE;rw[decide_eq_false (show ¬0≤e.s+z by omega),Bool.false_and]]
     rfl
    ·rw[decide_eq_false h2,show inE z e=true by unfold inE;rw[decide_eq_true (show 0≤e.s+z by omega),decide_eq_true (show e.s+z≤2147483647 by omega)];rfl]
     simp only[cond_false,if_true]
     rw[wri' (n:=e.s+z) (by omega) (by omega),room_ok (by simp;omega) (by decide)]
     simp only[obS]
     rw[List.take_succ_eq_append_getElem hlt,hee]
     simp only[List.map_append]
     rfl) (by
   unfold u_ref40_Shift_l0
   simp only[ltI_eq,lenL_eq,List.length_map]
   rw[decide_eq_false (by omega),List.take_length];rfl)
  simp only[List.take_zero,List.map_nil] at hj
  exact hj
 unfold u_ref40_Shift
 simp only[e_RefValid l (by omega),hv,obS,Bool.not_true,cond_false,hloop]
 unfold shL
 cases l.all (inE z)
 ·simp only[Bool.false_eq_true,if_false,onS_l,T_sl_nil 5 (by decide),obS]
 ·simp only[if_true,onS_r,onS_l]
theorem e_RefShiftBad(l:List E)(hl:l.length<1000000)(z:Int)(hv:validL l=false):u_ref40_Shift (l.map entT,z,())=some ([],1,()):=by
 unfold u_ref40_Shift
 simp only[e_RefValid l hl,hv,obS,Bool.not_false,cond_true]
end Go.Eng.Lg
namespace Go.Eng.Lg
open Go.Eng Go.Eng.Rt
theorem fits_shift{l:List E}(h:Fits l)(z:Int):Fits (l.map (shE z)):=fun e he=>by
 obtain⟨e0,he0,rfl⟩:=List.mem_map.1 he
 exact h e0 he0
section
variable {a:List E} (hS:∀e∈a,Small e) (ha:a.length≤12)
include hS ha
omit ha in
theorem fits_small:Fits a:=fun e he=>small_fit (hS e he)
omit ha in
theorem en_small(hv:validL a=true):∀e∈a,En 60 100000 e.q:=fun e he=>(valid_en hS hv e he).mono (by decide)
theorem both_Of(k:Int):∃(q:Rat) (ok:Bool),u_ledger_Of (a.map entT,k,())=some (rNeg q,rNum q,rDen q,ok,())∧u_ref40_Of (a.map entT,k,())=some (rNeg q,rNum q,rDen q,ok,())∧Fit q:=by
 cases hv:validL a with
 | true=>
  have en:=en_small hS hv
  refine⟨_,_,e_Of a en (by omega) hv k,e_RefOf a en (by omega) hv k,?_⟩
  rw[←sumQ_filter]
  exact((sum_en _ fun e he=>en e (List.mem_filter.1 he).1).sm (by decide) (by decide) (by have:=List.length_filter_le (kindE k) a;omega)).fit
 | false=>
  refine⟨0,false,?_,?_,Sm.zero.fit⟩
  ·rw[rNeg_zero,rNum_zero,rDen_zero];exact e_OfBad a (fits_small hS) (by omega) hv k
  ·rw[rNeg_zero,rNum_zero,rDen_zero];exact e_RefOfBad a (by omega) hv k
theorem both_Total:∃(q:Rat) (ok:Bool),u_ledger_Total (a.map entT,())=some (rNeg q,rNum q,rDen q,ok,())∧u_ref40_Total (a.map entT,())=some (rNeg q,rNum q,rDen q,ok,())∧Fit q:=by
 cases hv:validL a with
 | true=>
  have en:=en_small hS hv
  exact⟨_,_,e_Total a en (by omega) hv,e_RefTotal a en (by omega) hv,((sum_en _ en).sm (by decide) (by decide) (by omega)).fit⟩
 | false=>
  refine⟨0,false,?_,?_,Sm.zero.fit⟩
  ·rw[rNeg_zero,rNum_zero,rDen_zero];exact e_TotalBad a (fits_small hS) (by omega) hv
  ·rw[rNeg_zero,rNum_zero,rDen_zero];exact e_RefTotalBad a (by omega) hv
theorem both_Within{q:Rat}(hq:Sm q):∃ok:Bool,u_ledger_Within (a.map entT,rNeg q,rNum q,rDen q,())=some (ok,())∧u_ref40_Within (a.map entT,rNeg q,rNum q,rDen q,())=some (ok,()):=by
 cases hv:validL a with
 | true=>
  have en:=en_small hS hv
  exact⟨_,e_Within a en (by omega) hv hq,e_RefWithin a en (by omega) hv hq⟩
 | false=>exact⟨false,e_WithinBad a (fits_small hS) (by omega) hv _ _ _,e_RefWithinBad a (by omega) hv _ _ _⟩
theorem both_Shift(z:Int):∃(l:List E) (n:Int),u_ledger_Shift (a.map entT,z,())=some (l.map entT,n,())∧u_ref40_Shift (a.map entT,z,())=some (l.map entT,n,())∧Fits l∧l.length<1000000:=by
 have hf:=fits_small hS
 cases hv:validL a with
 | true=>
  have hs:∀e∈a,e.s≤1000:=fun e he=>(hS e he).1.2
  have e1:=e_ShiftAny a hf (by omega) z hs hv
  have e2:=e_RefShift a (by omega) z hs hv
  unfold shL at e1 e2
  split at e1
  ·rename_i h
   rw[if_pos h] at e2
   exact⟨_,0,e1,e2,fits_shift hf z,by simp;omega⟩
  ·rename_i h
   rw[if_neg h] at e2
   exact⟨[],1,e1,e2,fun e he=>(by cases he),by simp⟩
 | false=>exact⟨[],1,e_ShiftBad a hf (by omega) z hv,e_RefShiftBad a (by omega) z hv,fun e he=>(by cases he),by simp⟩
theorem both_Compact:∃l:List E,u_ledger_Compact (a.map entT,())=some (l.map entT,())∧u_ref40_Compact (a.map entT,())=some (l.map entT,())∧Fits l∧l.length<1000000:=by
 have hf:=fits_small hS
 cases hv:validL a with
 | true=>
  have en:=en_small hS hv
  refine⟨_,e_Compact a en ha hv,e_RefCompact a en (by omega) hv,Fits.of_en (k:=100000*12) (by decide) fun e he=>(addAll_en en e (comp_mem he).1).mono (by omega),by have:=comp_len a;omega⟩
 | false=>exact⟨[],e_CompactBad a hf (by omega) hv,e_RefCompactBad a (by omega) hv,fun e he=>(by cases he),by simp⟩
theorem both_Add{e:E}(he:Fit e.q):∃(l:List E) (n:Int),u_ledger_Add (a.map entT,e.s,e.k,rNeg e.q,rNum e.q,rDen e.q,())=some (l.map entT,n,()) ∧
 u_ref40_Add (a.map entT,e.s,e.k,rNeg e.q,rNum e.q,rDen e.q,())=some (l.map entT,n,())∧Fits l∧l.length<1000000:=by
 have hf:=fits_small hS
 have e1:=e_Add a e hf he (by omega)
 have e2:=e_RefAdd a e (by omega)
 split at e1
 ·rename_i hc
  rw[if_pos hc] at e2
  refine⟨_,_,e1,e2,fun x hx=>?_,by simp;omega⟩
  rcases List.mem_append.1 hx with hx | hx
  ·exact hf x hx
  ·have:=List.mem_singleton.1 hx;subst this;exact he
 ·rename_i hc
  rw[if_neg hc] at e2
  exact⟨[],1,e1,e2,fun e he=>(by cases he),by simp⟩
theorem both_Join{b:List E}(hT:∀e∈b,Small e)(hb:b.length≤12):∃(l:List E) (n:Int),u_ledger_Join (a.map entT,b.map entT,())=some (l.map entT,n,()) ∧
 u_ref40_Join (a.map entT,b.map entT,())=some (l.map entT,n,())∧Fits l∧l.length<1000000:=by
 have hf:=fits_small hS
 have hg:Fits b:=fun e he=>small_fit (hT e he)
 have e1:=e_Join a b hf hg (by omega) (by omega)
 have e2:=e_RefJoin a b (by omega) (by omega)
 split at e1
 ·rename_i hc
  rw[if_pos hc] at e2
  refine⟨_,_,e1,e2,fun x hx=>?_,by simp;omega⟩
  rcases List.mem_append.1 hx with hx | hx
  ·exact hf x hx
  ·exact hg x hx
 ·rename_i hc
  rw[if_neg hc] at e2
  exact⟨[],1,e1,e2,fun e he=>(by cases he),by simp⟩
theorem loop_Of(cs:List Int)(hc:cs.length<1000)(s:Int)(L:List T)(p:Int):loopU u_brepkernellaw40_LedgerAll_l0 (s,(),a.map entT,cs.map intT,(cs.length:Int),(0:Int),L,p,())=some (.inr (.inl (s,(),a.map entT,L,p,()))):=by
 have hall:=loopU_for (F:=u_brepkernellaw40_LedgerAll_l0) cs.length (fun(i:Nat)=>(s,(),a.map entT,cs.map intT,(cs.length:Int),(i:Int),L,p,())) (fun i hlt=>by
  have he:(cs.map intT)[i]?=some (intT cs[i]):=by rw[List.getElem?_map,List.getElem?_eq_getElem hlt];rfl
  obtain⟨q,ok,o1,o2,o3⟩:=both_Of hS ha cs[i]
  have hc0:T.int? .i64 ((intT cs[i]).cell 0)=some cs[i]:=by simp[intT]
  unfold u_brepkernellaw40_LedgerAll_l0
  simp only[ltI_eq,addI_eq]
  rw[decide_eq_true (by omega)]
  simp only[cond_true,obS,idxL_nat,he,hc0,o1,o2,eqB_eq,beq_self_eq_true,Bool.not_true,cond_false,r_Same o3 o3,decide_true]
  rw[show (i:Int)+1=((i+1:Nat):Int) by omega,wri (by omega)])
 rw[show (0:Int)=((0:Nat):Int) from rfl,hall]
 refine loopU_out ?_
 unfold u_brepkernellaw40_LedgerAll_l0
 simp only[ltI_eq]
 rw[decide_eq_false (by omega)];rfl
theorem loop_Shift(cs:List Int)(hc:cs.length<1000)(L:List T)(p:Int):loopU u_brepkernellaw40_LedgerAll_l1 ((),a.map entT,cs.map intT,(cs.length:Int),(0:Int),L,p,())=some (.inr (.inl ((),a.map entT,L,p,()))):=by
 have hall:=loopU_for (F:=u_brepkernellaw40_LedgerAll_l1) cs.length (fun(i:Nat)=>((),a.map entT,cs.map intT,(cs.length:Int),(i:Int),L,p,())) (fun i hlt=>by
  have he:(cs.map intT)[i]?=some (intT cs[i]):=by rw[List.getElem?_map,List.getElem?_eq_getElem hlt];rfl
  obtain⟨l,n,o1,o2,o3,o4⟩:=both_Shift hS ha cs[i]
  have hc0:T.int? .i64 ((intT cs[i]).cell 0)=some cs[i]:=by simp[intT]
  unfold u_brepkernellaw40_LedgerAll_l1
  simp only[ltI_eq,addI_eq]
  rw[decide_eq_true (by omega)]
  simp only[cond_true,obS,idxL_nat,he,hc0,o1,o2,eqI_eq,decide_true,Bool.not_true,cond_false,e_Same l o3 o4]
  rw[show (i:Int)+1=((i+1:Nat):Int) by omega,wri (by omega)])
 rw[show (0:Int)=((0:Nat):Int) from rfl,hall]
 refine loopU_out ?_
 unfold u_brepkernellaw40_LedgerAll_l1
 simp only[ltI_eq]
 rw[decide_eq_false (by omega)];rfl
end
theorem entries_r:u___brepkernelmade_Dice__Entries_r=u___brepkernelmade_Dice__Entries:=rfl
theorem law_all(zs:List Int)(kind step:Int):u_brepkernellaw40_LedgerAll (zs.map intT,kind,step,())=some (true,()):=by
 unfold u_brepkernellaw40_LedgerAll
 rw[s_Light]
 simp only[obS,e_sane,entries_r]
 by_cases hL:(zs.map intT).length≤500
 ·rw[decide_eq_true hL]
  simp only[Bool.not_true,cond_false,s_Roll,obS]
  obtain⟨a,a',h1,h2,h3,h4⟩:=e_Entries (L:=zs.map intT) (a:=0) ⟨zs,rfl,by simp at hL;omega,by omega,by omega⟩ (n:=6) (by omega) (by omega)
  obtain⟨b,b',g1,g2,g3,g4⟩:=e_Entries h2 (n:=3) (by omega) (by omega)
  obtain⟨c,c',f1,f2,f3,f4⟩:=e_Entries g2 (n:=1) (by omega) (by omega)
  have la:a.length≤12:=by have:a.length≤6:=h3;omega
  have lb:b.length≤12:=by have:b.length≤3:=g3;omega
  have lc:c.length≤1:=f3
  have hz:T.agg [T.v (.int .i64 0),T.v (.int .i64 0),T.v (.bool false),.sl 1 [],.sl 1 []]=entT ⟨0,0,0⟩:=by
   simp only[entT,rNeg_zero,rNum_zero,rDen_zero]
  obtain⟨e,cr,he,hfe⟩:∃(e:E) (cr:List E),c++[⟨0,0,0⟩]=e::cr∧Fit e.q:=by
   cases c with
   | nil=>exact⟨_,[],rfl,Sm.zero.fit⟩
   | cons e c=>exact⟨e,_,rfl,small_fit (f4 e (by simp))⟩
  have hroom:room (c.map entT) [entT ⟨0,0,0⟩] 72=some ((e::cr).map entT):=by
   rw[room_ok (by simp;omega) (by decide),←he,List.map_append];rfl
  obtain⟨l1,n1,p1,p2,p3,p4⟩:=both_Add h4 la hfe
  obtain⟨l2,n2,q1,q2,q3,q4⟩:=both_Join h4 la g4 lb
  obtain⟨l3,r1,r2,r3,r4⟩:=both_Compact h4 la
  obtain⟨t,ok,t1,t2,t3⟩:=both_Total h4 la
  have hf:=fits_small h4
  have hcs:[T.v (.int .i64 kind),T.v (.int .i64 0),T.v (.int .i64 1),T.v (.int .i64 2),T.v (.int .i64 3),T.v (.int .i64 4),T.v (.int .i64 5),T.v (.int .i64 6)]=[kind,0,1,2,3,4,5,6].map intT:=rfl
  have hchk:chkI (((e::cr).length:Nat):Int) 0=some 0:=by rw[show (0:Int)=((0:Nat):Int) from rfl,chkI_nat (by simp)]
  have lp:=loop_Of h4 la [kind,0,1,2,3,4,5,6] (by simp) step (zs.map intT) c'
  simp only[h1,g1,f1,obS,hz,hroom,lenL_eq,List.length_map,hchk,idxN_eq,ent_get,List.getElem?_cons_zero,Option.map_some,Lg.c0,Lg.c1,Lg.c2,Lg.c3,Lg.c4,p1,p2,q1,q2,eqI_eq,decide_true,Bool.not_true,cond_false,
   e_Same l1 p3 p4,e_Same l2 q3 q4,e_Valid a hf (by omega),e_RefValid a (by omega),eqB_eq,beq_self_eq_true,r1,r2,e_Same l3 r3 r4,t1,t2,r_Same t3 t3,hcs,lp,onS_r,onS_l]
  obtain⟨v,c3,x1,x2,x3,x4⟩:=s_Next f2 (n:=5) (by omega) (by omega)
  have hcs2:[T.v (.int .i64 step),T.v (.int .i64 0),T.v (.int .i64 (-1)),T.v (.int .i64 v),T.v (.int .i64 2147483647)]=[step,0,-1,v,2147483647].map intT:=rfl
  have lp2:=loop_Shift h4 la [step,0,-1,v,2147483647] (by simp) (zs.map intT) c3
  simp only[x1,obS,hcs2,List.length_map,lp2,onS_r,onS_l]
  obtain⟨w,c4,y1,y2,y3,y4⟩:=s_Next x4 (n:=40) (by omega) (by omega)
  have fr:=r_Frac (n:=w) (d:=5) (by omega) (by omega) (by omega) (by omega) (by omega)
  have hen:En 5 100 (fracQ w 5):=by
   rw[fracQ_pos (by omega)]
   obtain⟨w',rfl⟩:=Int.eq_ofNat_of_zero_le y2
   exact En.frac (d:=5) (by decide) (by decide) (by decide) (by simp;omega)
  obtain⟨ok2,z1,z2⟩:=both_Within h4 la (q:=fracQ w 5) (hen.sm (by decide) (by decide) (by decide))
  simp only[y1,obS,fr,z1,z2,beq_self_eq_true,cond_true]
 ·rw[decide_eq_false hL];rfl
end Go.Eng.Lg
